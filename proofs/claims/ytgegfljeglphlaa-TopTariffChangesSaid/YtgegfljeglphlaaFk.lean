/-
  The example of the chapter.
-/
import Derived.Test.YtgegfljeglphlaaFs
import Derived.Test.YtgegfljeglphlaaFi
import Derived.Test.YtgegfljeglphlaaFf

set_option linter.all false

/-
  Trips with more metres in their first segments; trips without metres.
-/
namespace Go.Fx
open Go.Proofs Go.RowKit

section
variable {t : Trf} {x y : Trp}
end
section
variable {t : Trf} {x : Trp} {l : List Int} {i : Nat}
end
end Go.Fx

/-
  A call that is given a list of the caller's own, for good: the callee sees its elements, the caller has it no more.
-/
namespace Go.Fx
open Go.Proofs Go.RowKit

end Go.Fx

/-
  What was run once: results kept.
-/
namespace Go.Fx
open Go.Proofs

structure Memo where
  f : FuncId
  xs : List AV
  r : AV
  L : List HObj

theorem Mut.args {X : Ctx} {f : FuncId} {args bs : List AV} {L L' : List HObj} {r : AV} (h : Mut X f bs L r L') (hl : AllLe args bs) : Mut X f args L r L' :=
  ⟨h.1, fun c cargs hok hb hL hsz hargs => h.2 c cargs hok hb hL (by rw [hsz, hl.len]) fun j av hj => by
    have h1 : j < args.length := by rw [← hl.len]; exact (List.getElem?_eq_some_iff.1 hj).1
    obtain ⟨v, h2, h3⟩ := hargs j args[j] (List.getElem?_eq_getElem h1)
    exact ⟨v, h2, (hl.at j _ av (List.getElem?_eq_getElem h1) hj).reads h3⟩⟩

/-- A call of a function that touches no owned block, on lists of the call's own. -/
theorem Mut.look {X : Ctx} {f : FuncId} {args bs : List AV} {L : List HObj} {r : AV} (h : Pure X f bs r) (hflat : r.flat = true) (hfree : (bs.all (·.free)) = true) (hl : AllLe (args.map (frzF (List.range L.length) L)) bs) : Mut X f args L r L := by
  have hlen : bs.length = args.length := by have := hl.len; simpa using this
  refine ⟨h.1, fun c cargs hok hb hL hsz hargs => ?_⟩
  let cc : Cfg := ⟨c.g, c.all, c.w, []⟩
  have hccok : cc.Ok := ⟨fun k o h => by simp [cc] at h, fun i j oi oj b h => by simp [cc] at h, fun k o b h => by simp [cc] at h, fun b o h => by
    rcases h with h | ⟨k, ob, h, h'⟩
    · exact hok.imm b o h
    · exact hok.old k ob b h h', fun b o k ob _ h => by simp [cc] at h⟩
  have hccb : Base X cc := ⟨hb.below, fun b o h => .inl (hb.imm b o h), fun b ⟨k, o, h, _⟩ => by simp [cc] at h⟩
  have hown : ∀ b, ¬ cc.Owns b := fun b ⟨k, o, h, _⟩ => by simp [cc] at h
  refine (h.2 cc cargs hccok hccb rfl (by omega) fun j av hj => ?_).mono ?_
  · have hlt : j < args.length := by rw [← hlen]; exact (List.getElem?_eq_some_iff.1 hj).1
    obtain ⟨v, k1, k2⟩ := hargs j args[j] (List.getElem?_eq_getElem hlt)
    refine ⟨v, k1, ?_⟩
    have e1 := (frzF_le (F := List.range L.length) (H := L) args[j]).reads hok (I' := c.all) (fun k e es n f ver hk => by rw [hL]; exact (only_list hk).1) (fun b o hI => .inl hI)
      (fun k e es n f ver b hk hb o => .inr ⟨k, .list e es n f ver, by rw [hL]; exact (only_list hk).1, hb⟩) k2
    have e2 := (hl.at j (frzF (List.range L.length) L args[j]) av (by simp [List.getElem?_eq_getElem hlt]) hj).reads e1
    exact AV.free_reads (g' := c.g) _ _ _ _ (List.all_eq_true.1 hfree _ (List.mem_of_getElem? hj)) e2
  · rintro e w' ⟨v, cc', rfl, rfl, htr, hH', hread⟩
    have t := Tr.imm (c := c) hok (w' := cc'.w) (I' := c.I) htr.os htr.tape htr.output htr.size (fun b hb => htr.block b hb (hown b)) (fun b o h => h) (fun b o h => .inl h)
    exact ⟨v, ⟨c.g, c.I, cc'.w, c.H⟩, rfl, rfl, t, hL, AV.flat_reads r _ _ v hflat hread⟩

end Go.Fx

/-
  Copies of trips with segments of one's own; fares of such trips.
-/
namespace Go.Fx
open Go.Proofs Go.RowKit

@[reducible] def sgO (n : Nat) (f : Nat → Nat → AV) : HObj := .list 40 3 n f 1
def cityR (nm : ByteArray) (b e s m c : Int) : Rul := ⟨nm, 0, 100000, [0, 1], [0, 1, 2, 3, 4, 5, 6, 7], b, e, s, m, c⟩
def cityT : Trf := ⟨⟨#[99, 105, 116, 121]⟩, 1000, 10, [⟨#[116, 111, 119, 110]⟩, ⟨#[112, 111, 114, 116]⟩], [7], [cityR ⟨#[100, 97, 121]⟩ 21600 79200 350 5 8, cityR ⟨#[110, 105, 103, 104, 116]⟩ 79200 21600 450 6 8], [⟨⟨#[98, 97, 103]⟩, 100⟩], [⟨0, 1, 4000⟩]⟩
def rideX : Trp := ⟨⟨0, 36000⟩, false, [0], [⟨0, 1000, 100⟩]⟩
theorem city_tok : TOk cityT := (few_ok (show fewB cityT = true by kernel_rfl)).1
theorem ride_xok : XOk rideX := ⟨by decide, by decide⟩
theorem city_ride : rideE cityT rideX = 0 := by kernel_rfl
section
variable {W0 : World} {G : Nat → Option AV} (hX : (Xc W0 G).Good)
include hX
theorem c16  : Pure (Xc W0 G) 16 [] (trfA cityT) := by
  refine mut_of' hX (show FnIs (Xc W0 G) 16 Try.f16 (codeOf Try.f16) from ⟨by kernel_rfl, by kernel_rfl, by kernel_rfl, by kernel_rfl⟩) rfl ?_
  repeat' (first
    | ((with_reducible refine (?_ : Alt _ _)); first | fail | (with_reducible refine Alt.one ?_))
    | ((with_reducible refine (?_ : AllLe _ _)); first | (first | exact AllLe.refl _ | (repeat' (first | exact trivial | apply Le.aggs | apply Le.tups | apply Le.fns | exact Le.refl _ | refine ⟨?_, ?_⟩))))
    | ((with_reducible refine (?_ : Sc _ (AllRen _ _ _))); refine Sc.of ?_; first | (repeat' (first | exact trivial | apply Le.aggs | apply Le.tups | apply Le.fns | exact Le.refl _ | refine ⟨?_, ?_⟩)))
    | ((with_reducible refine (?_ : (List.all _ _) = true)); rfl)
    | ((with_reducible refine (?_ : (and _ _) = true)); rfl)
    | ((with_reducible refine (?_ : List.Nodup _)); exact nodupB_spec rfl)
    | ((with_reducible refine (?_ : @Eq Nat _ _)); rfl)
    | ((with_reducible refine (?_ : LeOks _ _ _)); first | exact trivial | exact ⟨.refl _, trivial⟩ | exact ⟨.refl _, .refl _, trivial⟩)
    | ((fail_if_success with_reducible refine Stop.go ?_); (first | with_reducible refine And.intro ?_ ?_ | with_reducible refine Cut.go ?_ | (with_reducible (refine impI ?_; intro _)) | (with_reducible refine (?_ : footOK _ _ = true); kernel_rfl) | ((with_reducible refine propI ?_); conv => whnf))))
  all_goals try (exact .of (Nat.le_of_ble_eq_true rfl))
  all_goals exact .mk [] [] _ rfl (.le (leB_le (by kernel_rfl))) trivial rfl
theorem c17  : Pure (Xc W0 G) 17 [] (trpA rideX) := by
  refine mut_of' hX (show FnIs (Xc W0 G) 17 Try.f17 (codeOf Try.f17) from ⟨by kernel_rfl, by kernel_rfl, by kernel_rfl, by kernel_rfl⟩) rfl ?_
  repeat' (first
    | ((with_reducible refine (?_ : Alt _ _)); first | fail | (with_reducible refine Alt.one ?_))
    | ((with_reducible refine (?_ : AllLe _ _)); first | (first | exact AllLe.refl _ | (repeat' (first | exact trivial | apply Le.aggs | apply Le.tups | apply Le.fns | exact Le.refl _ | refine ⟨?_, ?_⟩))))
    | ((with_reducible refine (?_ : Sc _ (AllRen _ _ _))); refine Sc.of ?_; first | (repeat' (first | exact trivial | apply Le.aggs | apply Le.tups | apply Le.fns | exact Le.refl _ | refine ⟨?_, ?_⟩)))
    | ((with_reducible refine (?_ : (List.all _ _) = true)); rfl)
    | ((with_reducible refine (?_ : (and _ _) = true)); rfl)
    | ((with_reducible refine (?_ : List.Nodup _)); exact nodupB_spec rfl)
    | ((with_reducible refine (?_ : @Eq Nat _ _)); rfl)
    | ((with_reducible refine (?_ : LeOks _ _ _)); first | exact trivial | exact ⟨.refl _, trivial⟩ | exact ⟨.refl _, .refl _, trivial⟩)
    | ((fail_if_success with_reducible refine Stop.go ?_); (first | with_reducible refine And.intro ?_ ?_ | with_reducible refine Cut.go ?_ | (with_reducible (refine impI ?_; intro _)) | (with_reducible refine (?_ : footOK _ _ = true); kernel_rfl) | ((with_reducible refine propI ?_); conv => whnf))))
  all_goals try (exact .of (Nat.le_of_ble_eq_true rfl))
  all_goals exact .mk [] [] _ rfl (.le (leB_le (by kernel_rfl))) trivial rfl
theorem c5  : Pure (Xc W0 G) 5 [] (.bool true) := by
  refine mut_of' hX (show FnIs (Xc W0 G) 5 Try.f5 (codeOf Try.f5) from ⟨by kernel_rfl, by kernel_rfl, by kernel_rfl, by kernel_rfl⟩) rfl ?_
  repeat' (first
    | ((with_reducible refine (?_ : Alt _ _)); first | (with_reducible apply callAlt (c16 hX)) | (with_reducible apply callAlt (c17 hX)) | (with_reducible apply callAlt (c10 hX cityT rideX ?_ city_ride)) | (with_reducible refine Alt.one ?_))
    | ((with_reducible refine (?_ : AllLe _ _)); first | (first | exact AllLe.refl _ | (repeat' (first | exact trivial | apply Le.aggs | apply Le.tups | apply Le.fns | exact Le.refl _ | refine ⟨?_, ?_⟩))))
    | ((with_reducible refine (?_ : Sc _ (AllRen _ _ _))); refine Sc.of ?_; first | (repeat' (first | exact trivial | apply Le.aggs | apply Le.tups | apply Le.fns | exact Le.refl _ | refine ⟨?_, ?_⟩)))
    | ((with_reducible refine (?_ : (List.all _ _) = true)); rfl)
    | ((with_reducible refine (?_ : (and _ _) = true)); rfl)
    | ((with_reducible refine (?_ : List.Nodup _)); exact nodupB_spec rfl)
    | ((with_reducible refine (?_ : @Eq Nat _ _)); rfl)
    | ((with_reducible refine (?_ : LeOks _ _ _)); first | exact trivial | exact ⟨.refl _, trivial⟩ | exact ⟨.refl _, .refl _, trivial⟩)
    | ((fail_if_success with_reducible refine Stop.go ?_); (first | with_reducible refine And.intro ?_ ?_ | with_reducible refine Cut.go ?_ | (with_reducible (refine impI ?_; intro _)) | (with_reducible refine (?_ : footOK _ _ = true); kernel_rfl) | ((with_reducible refine propI ?_); conv => whnf))))
  all_goals try (exact .of (Nat.le_of_ble_eq_true rfl))
  all_goals try (exact Side.mk ⟨city_tok, ride_xok⟩)
  all_goals exact .mk [] [] _ rfl (.le (leB_le (by kernel_rfl))) trivial rfl
end
end Go.Fx
