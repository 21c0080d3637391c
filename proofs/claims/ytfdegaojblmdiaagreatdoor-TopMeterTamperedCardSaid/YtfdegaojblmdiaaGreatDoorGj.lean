/-
 The example of chapter 2, without the library's variables.
-/
import Derived.Test.YtfdegaojblmdiaaGreatDoorGh
set_option linter.all false
namespace Go.Fx
open Go.Proofs
def lib0 (f : FuncId) (args : List AV) (L : List HObj) : Option (AV × List HObj) :=
 match L with
 | [] =>
  match f, args with
  | 130, [.int .u64 x] => bif decide (0 <= x) && decide (x <= 18446744073709551615) then some (.int .i64 (Lib.bitLen x.toNat), []) else none
  | _, _ => none
 | _ => none
theorem lib0_ok {W0 : World} {G : Nat -> Option AV} {f : FuncId} {args : List AV} {L : List HObj} {r : AV} {L' : List HObj} (h : lib0 f args L = some (r, L')) : Mut (Xc W0 G) f args L r L' := by
 unfold lib0 at h
 split at h
 ·split at h
  ·rename_i x
   cases hc : (decide (0 <= x) && decide (x <= 18446744073709551615)) with
   | false => rw [hc] at h; cases h
   | true =>
    rw [hc] at h
    simp only [cond_true, Option.some.injEq, Prod.mk.injEq] at h
    simp only [Bool.and_eq_true, decide_eq_true_eq] at hc
    obtain ⟨rfl, rfl⟩ := h
    exact lib_len hc.1 hc.2
  ·cases h
 ·cases h
noncomputable def run0 (W0 : World) (ms : List Memo) : Run := exFn (Xc W0 Gt) Fs ownF (memoT lib0 ms) 60
theorem run0_ok {W0 : World} (hX : (Xc W0 Gt).Good) (ms : List Memo) (hm : ∀ m ∈ ms, Mut (Xc W0 Gt) m.f m.xs [] m.r m.L) {f : FuncId} {args : List AV} {L L' : List HObj} {r : AV} (h : run0 W0 ms f args L = some (r, L')) : Mut (Xc W0 Gt) f args L r L' :=
 exFn_ok hX (memoT_ok (fun h => lib0_ok h) ms hm) Fs_ok 60 h
noncomputable def runC (W0 : World) (ms : List Memo) (f : FuncId) (xs : List AV) (r : AV) (L : List HObj) : Bool :=
 match run0 W0 ms f xs [] with
 | some (r', L') => leB r' r && leOLB L' L
 | _ => false
theorem runC_ok {W0 : World} (hX : (Xc W0 Gt).Good) (ms : List Memo) (hm : ∀ m ∈ ms, Mut (Xc W0 Gt) m.f m.xs [] m.r m.L) {f : FuncId} {xs : List AV} {r : AV} {L : List HObj} (hr : runC W0 ms f xs r L = true) : Mut (Xc W0 Gt) f xs [] r L := by
 unfold runC at hr
 split at hr
 ·rename_i r' L' e
  simp only [Bool.and_eq_true] at hr
  exact (run0_ok hX ms hm e).leO (leB_le hr.1) (leOLB_le hr.2)
 ·cases hr
section
variable {W0 : World} (h : (Xc W0 Gt).Good)
include h
theorem m43_o : Mut (Xc W0 Gt) m43.f m43.xs [] m43.r m43.L := runC_ok h [] (fun _ hm => by cases hm) (by kernel_rfl)
theorem m44_o : Mut (Xc W0 Gt) m44.f m44.xs [] m44.r m44.L := runC_ok h [] (fun _ hm => by cases hm) (by kernel_rfl)
theorem ms1_o : ∀ m ∈ ms1, Mut (Xc W0 Gt) m.f m.xs [] m.r m.L := fun m hm => by
 rcases List.mem_cons.1 hm with rfl | hm
 ·exact m43_o h
 rcases List.mem_cons.1 hm with rfl | hm
 ·exact m44_o h
 cases hm
theorem m68_o : Mut (Xc W0 Gt) m68.f m68.xs [] m68.r m68.L := runC_ok h ms1 (ms1_o h) (by kernel_rfl)
theorem ms2_o : ∀ m ∈ ms2, Mut (Xc W0 Gt) m.f m.xs [] m.r m.L := fun m hm => by
 rcases List.mem_cons.1 hm with rfl | hm
 ·exact m43_o h
 rcases List.mem_cons.1 hm with rfl | hm
 ·exact m44_o h
 rcases List.mem_cons.1 hm with rfl | hm
 ·exact m68_o h
 cases hm
theorem m17b_o : Mut (Xc W0 Gt) m17b.f m17b.xs [] m17b.r m17b.L := runC_ok h ms2 (ms2_o h) (by kernel_rfl)
theorem ms4_o : ∀ m ∈ ms4, Mut (Xc W0 Gt) m.f m.xs [] m.r m.L := fun m hm => by
 rcases List.mem_cons.1 hm with rfl | hm
 ·exact m43_o h
 rcases List.mem_cons.1 hm with rfl | hm
 ·exact m44_o h
 rcases List.mem_cons.1 hm with rfl | hm
 ·exact m68_o h
 rcases List.mem_cons.1 hm with rfl | hm
 ·exact m17b_o h
 cases hm
theorem metered_ok : Pure (Xc W0 Gt) 34 [] (.bool true) := runC_ok h ms4 (ms4_o h) (by kernel_rfl)
end
end Go.Fx
