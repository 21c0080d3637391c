/-
 The chapter's examples: what is run once.
-/
import Derived.Test.YtkinfbkpecjpnaaGreatDoorGg
import Derived.Test.YtkinfbkpecjpnaaGreatDoorGu
set_option linter.all false
/-
 The chapter's examples: what is run once.
-/
namespace Go.Fx
open Go.Proofs
structure Stand (W0 : World) : Prop where
 good : (Xc W0 Gt).Good
 laid : Laid W0
noncomputable def runB (W0 : World) (ms : List Memo) (f : FuncId) (xs : List AV) (r : AV) (L : List HObj) : Bool :=
 match run W0 ms f xs [] with
 | some (r', L') => leB r' r && leOLB L' L
 | _ => false
theorem runB_ok {W0 : World} (h : Stand W0) (ms : List Memo) (hm : ∀ m ∈ ms, Mut (Xc W0 Gt) m.f m.xs [] m.r m.L) {f : FuncId} {xs : List AV} {r : AV} {L : List HObj} (hr : runB W0 ms f xs r L = true) : Mut (Xc W0 Gt) f xs [] r L := by
 unfold runB at hr
 split at hr
 ·rename_i r' L' e
  simp only [Bool.and_eq_true] at hr
  exact (run_ok h.good h.laid ms hm e).leO (leB_le hr.1) (leOLB_le hr.2)
 ·cases hr
def iN (n : Int) : AV := .int .i64 n
def cityA : AV := .agg 8 (tbl [.str ⟨#[99, 105, 116, 121]⟩, .int .i64 1000, .int .i64 10, .slc 1 2 (fun i j => tbl [.str ⟨#[116, 111, 119, 110]⟩, .str ⟨#[112, 111, 114, 116]⟩] (i * 1 + j)), .slc 1 1 (fun i j => tbl [.int .i64 7] (i * 1 + j)), .slc 10 2 (fun i j => tbl [.str ⟨#[100, 97, 121]⟩, .int .i64 0, .int .i64 100000, .slc 1 2 (fun i j => tbl [.int .i64 0, .int .i64 1] (i * 1 + j)), .slc 1 8 (fun i j => tbl [.int .i64 0, .int .i64 1, .int .i64 2, .int .i64 3, .int .i64 4, .int .i64 5, .int .i64 6, .int .i64 7] (i * 1 + j)), .int .i64 21600, .int .i64 79200, .int .i64 350, .int .i64 5, .int .i64 8, .str ⟨#[110, 105, 103, 104, 116]⟩, .int .i64 0, .int .i64 100000, .slc 1 2 (fun i j => tbl [.int .i64 0, .int .i64 1] (i * 1 + j)), .slc 1 8 (fun i j => tbl [.int .i64 0, .int .i64 1, .int .i64 2, .int .i64 3, .int .i64 4, .int .i64 5, .int .i64 6, .int .i64 7] (i * 1 + j)), .int .i64 79200, .int .i64 21600, .int .i64 450, .int .i64 6, .int .i64 8] (i * 10 + j)), .slc 2 1 (fun i j => tbl [.str ⟨#[98, 97, 103]⟩, .int .i64 100] (i * 2 + j)), .slc 3 1 (fun i j => tbl [.int .i64 0, .int .i64 1, .int .i64 4000] (i * 3 + j))])
def rideA : AV := .agg 5 (tbl [.int .i64 0, .int .i64 36000, .bool false, .slc 1 1 (fun i j => tbl [.int .i64 0] (i * 1 + j)), .slc 3 1 (fun i j => tbl [.int .i64 0, .int .i64 1000, .int .i64 100] (i * 3 + j))])
def cityT : Trf := ⟨⟨#[99, 105, 116, 121]⟩, 1000, 10, [⟨#[116, 111, 119, 110]⟩, ⟨#[112, 111, 114, 116]⟩], [7],
 [⟨⟨#[100, 97, 121]⟩, 0, 100000, [0, 1], [0, 1, 2, 3, 4, 5, 6, 7], 21600, 79200, 350, 5, 8⟩, ⟨⟨#[110, 105, 103, 104, 116]⟩, 0, 100000, [0, 1], [0, 1, 2, 3, 4, 5, 6, 7], 79200, 21600, 450, 6, 8⟩], [⟨⟨#[98, 97, 103]⟩, 100⟩], [⟨0, 1, 4000⟩]⟩
def tenP : Plc := ⟨0, 0, 36000⟩
def tripS : AV := .str ⟨#[48, 32, 51, 54, 48, 48, 48, 32, 109, 101, 116, 101, 114, 32, 48, 32, 48, 44, 49, 48, 48, 48, 44, 49, 48, 48]⟩
theorem city_le : AllLe [cityA] [trfA cityT] := leLB_le (by kernel_rfl)
theorem city_ok : TOk cityT := (few_ok (show fewB cityT = true by kernel_rfl)).1
theorem city_0 : trfE cityT = 0 := by kernel_rfl
theorem city_times : [0, 21600, 79200] = timesL cityT := by
 refine times_eq city_0 (fun i j hij hj => ?_) fun x => ?_
 ·have hj : j < 3 := hj
  rcases (show (i = 0 /\ j = 1) \/ (i = 0 /\ j = 2) \/ (i = 1 /\ j = 2) by omega) with ⟨rfl, rfl⟩ | ⟨rfl, rfl⟩ | ⟨rfl, rfl⟩ <;> decide
 ·simp only [List.mem_cons, List.not_mem_nil, or_false]
  unfold TimeS
  constructor
  ·rintro (h | h | h)
   ·exact .inl h
   ·exact .inr ⟨0, by decide, .inl h, by omega⟩
   ·exact .inr ⟨0, by decide, .inr h, by omega⟩
  ·rintro (h | ⟨j, hj, h, _⟩)
   ·exact .inl h
   ·have hj : j < 2 := hj
    rcases (show j = 0 \/ j = 1 by omega) with rfl | rfl
    ·rcases h with h | h
     ·exact .inr (.inl h)
     ·exact .inr (.inr h)
    ·rcases h with h | h
     ·exact .inr (.inr h)
     ·exact .inr (.inl h)
theorem ten_gate : gateE cityT tenP = 0 := by kernel_rfl
theorem ten_next : chE cityT tenP = 0 /\ chM cityT tenP = ⟨0, 79200⟩ := by
 have w := ch_hit (t := cityT) (p := tenP) ten_gate (d := 0) (i := 2) (by decide) (by rw [<- city_times]; decide) (fun d hd => absurd hd (Nat.not_lt_zero _)) (fun i hi => ?_) ?_
 ·rw [<- city_times] at w; exact w
 ·rcases (show i = 0 \/ i = 1 by omega) with rfl | rfl
  ·unfold nxtP nxtS; rw [<- city_times]; kernel_rfl
  ·unfold nxtP nxtS; rw [<- city_times]; kernel_rfl
 ·unfold nxtP nxtS nxtD nowN nowE nxtC; rw [<- city_times]; kernel_rfl
def m55 : Memo := ⟨19, [], cityA, []⟩
def m56 : Memo := ⟨20, [], rideA, []⟩
def m15 : Memo := ⟨41, [cityA], .tup 2 (tbl [.agg 2 (tbl [iN 0, iN 0]), iN 0]), []⟩
def m32 : Memo := ⟨18, [cityA, rideA], .tup 2 (tbl [.agg 4 (tbl [iN 350, iN 50, iN 0, iN 400]), iN 0]), []⟩
def m19 : Memo := ⟨22, [cityA, .agg 3 (tbl [iN 0, iN 0, iN 36000])], .tup 2 (tbl [.agg 2 (tbl [iN 0, iN 79200]), iN 0]), []⟩
def m59 : Memo := ⟨9, [tripS], .tup 2 (tbl [rideA, iN 0]), []⟩
def l0 : Memo := ⟨38, [.str ⟨#[116, 97, 114, 105, 102, 102, 32, 99, 105, 116, 121, 32, 49, 48, 48, 48, 32, 49, 48]⟩], .ptr 0 0, [.box [.own 1 4, iN 20, iN 0, iN 0], .list 160 2 4 (fun i j => tbl [.str ⟨#[116, 97, 114, 105, 102, 102]⟩, iN 1, .str ⟨#[99, 105, 116, 121]⟩, iN 8, .str ⟨#[49, 48, 48, 48]⟩, iN 13, .str ⟨#[49, 48]⟩, iN 18] (i * 2 + j)) 4]⟩
def l1 : Memo := ⟨38, [.str ⟨#[122, 111, 110, 101, 32, 116, 111, 119, 110]⟩], .ptr 0 0, [.box [.own 1 2, iN 10, iN 0, iN 0], .list 160 2 2 (fun i j => tbl [.str ⟨#[122, 111, 110, 101]⟩, iN 1, .str ⟨#[116, 111, 119, 110]⟩, iN 6] (i * 2 + j)) 2]⟩
def l2 : Memo := ⟨38, [.str ⟨#[122, 111, 110, 101, 32, 112, 111, 114, 116]⟩], .ptr 0 0, [.box [.own 1 2, iN 10, iN 0, iN 0], .list 160 2 2 (fun i j => tbl [.str ⟨#[122, 111, 110, 101]⟩, iN 1, .str ⟨#[112, 111, 114, 116]⟩, iN 6] (i * 2 + j)) 2]⟩
def l3 : Memo := ⟨38, [.str ⟨#[104, 111, 108, 105, 100, 97, 121, 32, 55]⟩], .ptr 0 0, [.box [.own 1 2, iN 10, iN 0, iN 0], .list 160 2 2 (fun i j => tbl [.str ⟨#[104, 111, 108, 105, 100, 97, 121]⟩, iN 1, .str ⟨#[55]⟩, iN 9] (i * 2 + j)) 2]⟩
def l4 : Memo := ⟨38, [.str ⟨#[114, 117, 108, 101, 32, 100, 97, 121, 32, 48, 32, 49, 48, 48, 48, 48, 48, 32, 116, 111, 119, 110, 44, 112, 111, 114, 116, 32, 48, 49, 50, 51, 52, 53, 54, 55, 32, 50, 49, 54, 48, 48, 32, 55, 57, 50, 48, 48, 32, 51, 53, 48, 32, 53, 32, 56]⟩], .ptr 0 0, [.box [.own 1 11, iN 57, iN 0, iN 0], .list 160 2 11 (fun i j => tbl [.str ⟨#[114, 117, 108, 101]⟩, iN 1, .str ⟨#[100, 97, 121]⟩, iN 6, .str ⟨#[48]⟩, iN 10, .str ⟨#[49, 48, 48, 48, 48, 48]⟩, iN 12, .str ⟨#[116, 111, 119, 110, 44, 112, 111, 114, 116]⟩, iN 19, .str ⟨#[48, 49, 50, 51, 52, 53, 54, 55]⟩, iN 29, .str ⟨#[50, 49, 54, 48, 48]⟩, iN 38, .str ⟨#[55, 57, 50, 48, 48]⟩, iN 44, .str ⟨#[51, 53, 48]⟩, iN 50, .str ⟨#[53]⟩, iN 54, .str ⟨#[56]⟩, iN 56] (i * 2 + j)) 11]⟩
def l5 : Memo := ⟨38, [.str ⟨#[114, 117, 108, 101, 32, 110, 105, 103, 104, 116, 32, 48, 32, 49, 48, 48, 48, 48, 48, 32, 116, 111, 119, 110, 44, 112, 111, 114, 116, 32, 48, 49, 50, 51, 52, 53, 54, 55, 32, 55, 57, 50, 48, 48, 32, 50, 49, 54, 48, 48, 32, 52, 53, 48, 32, 54, 32, 56]⟩], .ptr 0 0, [.box [.own 1 11, iN 59, iN 0, iN 0], .list 160 2 11 (fun i j => tbl [.str ⟨#[114, 117, 108, 101]⟩, iN 1, .str ⟨#[110, 105, 103, 104, 116]⟩, iN 6, .str ⟨#[48]⟩, iN 12, .str ⟨#[49, 48, 48, 48, 48, 48]⟩, iN 14, .str ⟨#[116, 111, 119, 110, 44, 112, 111, 114, 116]⟩, iN 21, .str ⟨#[48, 49, 50, 51, 52, 53, 54, 55]⟩, iN 31, .str ⟨#[55, 57, 50, 48, 48]⟩, iN 40, .str ⟨#[50, 49, 54, 48, 48]⟩, iN 46, .str ⟨#[52, 53, 48]⟩, iN 52, .str ⟨#[54]⟩, iN 56, .str ⟨#[56]⟩, iN 58] (i * 2 + j)) 11]⟩
def l6 : Memo := ⟨38, [.str ⟨#[101, 120, 116, 114, 97, 32, 98, 97, 103, 32, 49, 48, 48]⟩], .ptr 0 0, [.box [.own 1 3, iN 14, iN 0, iN 0], .list 160 2 3 (fun i j => tbl [.str ⟨#[101, 120, 116, 114, 97]⟩, iN 1, .str ⟨#[98, 97, 103]⟩, iN 7, .str ⟨#[49, 48, 48]⟩, iN 11] (i * 2 + j)) 3]⟩
def l7 : Memo := ⟨38, [.str ⟨#[102, 105, 120, 101, 100, 32, 116, 111, 119, 110, 32, 112, 111, 114, 116, 32, 52, 48, 48, 48]⟩], .ptr 0 0, [.box [.own 1 4, iN 21, iN 0, iN 0], .list 160 2 4 (fun i j => tbl [.str ⟨#[102, 105, 120, 101, 100]⟩, iN 1, .str ⟨#[116, 111, 119, 110]⟩, iN 7, .str ⟨#[112, 111, 114, 116]⟩, iN 12, .str ⟨#[52, 48, 48, 48]⟩, iN 17] (i * 2 + j)) 4]⟩
def ms1 : List Memo := [m55, m56, m15]
def ms3 : List Memo := [m55, m56, m15, m32, m19, m59, l0, l1, l2, l3, l4, l5, l6, l7]
section
variable {W0 : World} (h : Stand W0)
include h
theorem m55_ok : Mut (Xc W0 Gt) m55.f m55.xs [] m55.r m55.L := runB_ok h [] (fun _ hm => by cases hm) (by kernel_rfl)
theorem m56_ok : Mut (Xc W0 Gt) m56.f m56.xs [] m56.r m56.L := runB_ok h [] (fun _ hm => by cases hm) (by kernel_rfl)
theorem m15_ok : Mut (Xc W0 Gt) m15.f m15.xs [] m15.r m15.L := runB_ok h [] (fun _ hm => by cases hm) (by kernel_rfl)
theorem m59_ok : Mut (Xc W0 Gt) m59.f m59.xs [] m59.r m59.L := runB_ok h [] (fun _ hm => by cases hm) (by kernel_rfl)
theorem m19_ok : Mut (Xc W0 Gt) m19.f m19.xs [] m19.r m19.L := by
 have c := c22 h.good cityT tenP (Side.mk city_ok)
 rw [ten_next.1, ten_next.2] at c
 exact c.args ⟨city_le.1, leB_le (by kernel_rfl), trivial⟩
theorem ms1_ok : ∀ m ∈ ms1, Mut (Xc W0 Gt) m.f m.xs [] m.r m.L := fun m hm => by
 rcases List.mem_cons.1 hm with rfl | hm
 ·exact m55_ok h
 rcases List.mem_cons.1 hm with rfl | hm
 ·exact m56_ok h
 rcases List.mem_cons.1 hm with rfl | hm
 ·exact m15_ok h
 cases hm
theorem l0_ok : Mut (Xc W0 Gt) l0.f l0.xs [] l0.r l0.L := runB_ok h [] (fun _ hm => by cases hm) (by kernel_rfl)
theorem l1_ok : Mut (Xc W0 Gt) l1.f l1.xs [] l1.r l1.L := runB_ok h [] (fun _ hm => by cases hm) (by kernel_rfl)
theorem l2_ok : Mut (Xc W0 Gt) l2.f l2.xs [] l2.r l2.L := runB_ok h [] (fun _ hm => by cases hm) (by kernel_rfl)
theorem l3_ok : Mut (Xc W0 Gt) l3.f l3.xs [] l3.r l3.L := runB_ok h [] (fun _ hm => by cases hm) (by kernel_rfl)
theorem l4_ok : Mut (Xc W0 Gt) l4.f l4.xs [] l4.r l4.L := runB_ok h [] (fun _ hm => by cases hm) (by kernel_rfl)
theorem l5_ok : Mut (Xc W0 Gt) l5.f l5.xs [] l5.r l5.L := runB_ok h [] (fun _ hm => by cases hm) (by kernel_rfl)
theorem l6_ok : Mut (Xc W0 Gt) l6.f l6.xs [] l6.r l6.L := runB_ok h [] (fun _ hm => by cases hm) (by kernel_rfl)
theorem l7_ok : Mut (Xc W0 Gt) l7.f l7.xs [] l7.r l7.L := runB_ok h [] (fun _ hm => by cases hm) (by kernel_rfl)
theorem m32_ok : Mut (Xc W0 Gt) m32.f m32.xs [] m32.r m32.L := runB_ok h ms1 (ms1_ok h) (by kernel_rfl)
theorem ms3_ok : ∀ m ∈ ms3, Mut (Xc W0 Gt) m.f m.xs [] m.r m.L := fun m hm => by
 rcases List.mem_cons.1 hm with rfl | hm
 ·exact m55_ok h
 rcases List.mem_cons.1 hm with rfl | hm
 ·exact m56_ok h
 rcases List.mem_cons.1 hm with rfl | hm
 ·exact m15_ok h
 rcases List.mem_cons.1 hm with rfl | hm
 ·exact m32_ok h
 rcases List.mem_cons.1 hm with rfl | hm
 ·exact m19_ok h
 rcases List.mem_cons.1 hm with rfl | hm
 ·exact m59_ok h
 rcases List.mem_cons.1 hm with rfl | hm
 ·exact l0_ok h
 rcases List.mem_cons.1 hm with rfl | hm
 ·exact l1_ok h
 rcases List.mem_cons.1 hm with rfl | hm
 ·exact l2_ok h
 rcases List.mem_cons.1 hm with rfl | hm
 ·exact l3_ok h
 rcases List.mem_cons.1 hm with rfl | hm
 ·exact l4_ok h
 rcases List.mem_cons.1 hm with rfl | hm
 ·exact l5_ok h
 rcases List.mem_cons.1 hm with rfl | hm
 ·exact l6_ok h
 rcases List.mem_cons.1 hm with rfl | hm
 ·exact l7_ok h
 cases hm
end
end Go.Fx
