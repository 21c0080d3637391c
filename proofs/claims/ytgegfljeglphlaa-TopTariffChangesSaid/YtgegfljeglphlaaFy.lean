/-
  Times and changes, in plain Lean.
-/
import Derived.Test.YtgegfljeglphlaaFs
import Derived.Test.YtgegfljeglphlaaFw

set_option linter.all false

/-
  Times of the day at which a rule may begin or end; what is looked for at all of them.
-/
namespace Go.Fx
open Go.Proofs Go.RowKit

def chgL (t : Trf) : Nat → List Int
  | 0 => [0]
  | k + 1 => chgL t k ++ [(t.rules.getD k rul0).bg, (t.rules.getD k rul0).en.tmod 86400]
def timesL (t : Trf) : List Int := compI (sortI (chgL t t.rules.length))
theorem chgL_len (t : Trf) : ∀ k, (chgL t k).length = 2 * k + 1
  | 0 => rfl
  | k + 1 => by simp [chgL, chgL_len t k]; omega
theorem chgL_ne (t : Trf) (k : Nat) : chgL t k ≠ [] := fun h => by have := chgL_len t k; rw [h] at this; simp at this
theorem chgL_mem {t : Trf} {x : Int} : ∀ {k}, x ∈ chgL t k ↔ x = 0 ∨ ∃ j, j < k ∧ (x = (t.rules.getD j rul0).bg ∨ x = (t.rules.getD j rul0).en.tmod 86400)
  | 0 => by simp [chgL]
  | k + 1 => by
    simp only [chgL, List.mem_append, chgL_mem (k := k), List.mem_cons, List.not_mem_nil, or_false]
    constructor
    · rintro ((h | ⟨j, hj, h⟩) | h)
      · exact .inl h
      · exact .inr ⟨j, by omega, h⟩
      · exact .inr ⟨k, by omega, h⟩
    · rintro (h | ⟨j, hj, h⟩)
      · exact .inl (.inl h)
      · rcases Nat.lt_succ_iff_lt_or_eq.1 hj with c | c
        · exact .inl (.inr ⟨j, c, h⟩)
        · rw [c] at h; exact .inr h
theorem sortI_mem {l : List Int} {x : Int} : x ∈ sortI l ↔ x ∈ l := List.mem_mergeSort
theorem sortI_ne {l : List Int} (h : l ≠ []) : sortI l ≠ [] := fun e => h (by
  have : (sortI l).length = l.length := by simp [sortI, List.length_mergeSort]
  rw [e] at this; exact List.eq_nil_of_length_eq_zero this.symm)
theorem sortI_srt (l : List Int) : (sortI l).Pairwise (· ≤ ·) := by
  have h : (sortI l).Pairwise fun x y => decide (x ≤ y) = true := by
    refine List.pairwise_mergeSort (fun a b c h1 h2 => ?_) (fun a b => ?_) l
    · have := of_decide_eq_true h1; have := of_decide_eq_true h2; exact decide_eq_true (by omega)
    · rcases Int.le_total a b with c | c
      · simp [c]
      · simp [c]
  exact h.imp fun h => of_decide_eq_true h
theorem arr_get {l : List Int} {i : Nat} (h : i < l.length) : l.toArray[i]! = l[i] := by
  rw [getElem!_pos _ i (by simpa using h)]; simp
theorem comp_mem {l : List Int} {x : Int} : x ∈ compI l ↔ x ∈ l := by
  unfold compI Lib.compact Lib.compactUpTo
  simp only [List.mem_map, List.mem_filter, List.mem_range]
  constructor
  · rintro ⟨i, ⟨hi, _⟩, rfl⟩
    rw [arr_get hi]
    exact List.getElem_mem hi
  · intro h
    obtain ⟨i, hi, rfl⟩ := List.getElem_of_mem h
    clear h
    induction i with
    | zero => exact ⟨0, ⟨hi, by simp [Lib.keeps]⟩, arr_get hi⟩
    | succ i ih =>
      by_cases e : l[i + 1] = l[i]
      · obtain ⟨j, hj, e2⟩ := ih (by omega)
        exact ⟨j, hj, by rw [e2, e]⟩
      · refine ⟨i + 1, ⟨hi, ?_⟩, arr_get hi⟩
        unfold Lib.keeps
        refine decide_eq_true (.inr ?_)
        rw [arr_get hi, Nat.add_sub_cancel, arr_get (by omega)]
        exact e
theorem comp_srt {l : List Int} (h : l.Pairwise (· ≤ ·)) : (compI l).Pairwise (· < ·) := by
  unfold compI Lib.compact Lib.compactUpTo
  rw [List.pairwise_map]
  have h0 : ((List.range l.length).filter (Lib.keeps l.toArray)).Pairwise (· < ·) := List.pairwise_lt_range.sublist (List.filter_sublist)
  refine h0.imp_of_mem fun {a b} ha hb hab => ?_
  have ha := List.mem_range.1 (List.mem_filter.1 ha).1
  obtain ⟨hb, hk⟩ := List.mem_filter.1 hb
  have hb := List.mem_range.1 hb
  unfold Lib.keeps at hk
  rcases of_decide_eq_true hk with c | c
  · omega
  · rw [arr_get hb, arr_get (by omega)] at c
    rw [arr_get ha, arr_get hb]
    have hp := List.pairwise_iff_getElem.1 h
    have h1 : l[b - 1] ≤ l[b] := hp (b - 1) b (by omega) hb (by omega)
    have h2 : l[a] ≤ l[b - 1] := by
      rcases Nat.lt_or_ge a (b - 1) with d | d
      · exact hp a (b - 1) (by omega) (by omega) d
      · have : a = b - 1 := by omega
        subst this; exact Int.le_refl _
    omega
theorem pair_SortI {l : List Int} (h : l.Pairwise (· < ·)) : SortI l := fun i j hij hj => by
  have := List.pairwise_iff_getElem.1 h i j (by omega) hj hij
  simpa [List.getD_eq_getElem?_getD, List.getElem?_eq_getElem hj, List.getElem?_eq_getElem (show i < l.length by omega)] using this
/-- What a time is. -/
def TimeS (t : Trf) (x : Int) : Prop := x = 0 ∨ ∃ j, j < t.rules.length ∧ (x = (t.rules.getD j rul0).bg ∨ x = (t.rules.getD j rul0).en) ∧ x < 86400
theorem en_mod {n : Int} (h : 0 ≤ n ∧ n ≤ 86400) : n.tmod 86400 = n ∧ n < 86400 ∨ n.tmod 86400 = 0 ∧ n = 86400 := by
  rw [Int.tmod_eq_emod_of_nonneg h.1]; omega
theorem times_mem {t : Trf} (h : trfE t = 0) {x : Int} : x ∈ timesL t ↔ TimeS t x := by
  unfold timesL TimeS
  rw [comp_mem, sortI_mem, chgL_mem]
  constructor
  · rintro (e | ⟨j, hj, e⟩)
    · exact .inl e
    · have r := trf_rule h hj
      rcases e with e | e
      · exact .inr ⟨j, hj, .inl e, by have := r.bg; omega⟩
      · rcases en_mod r.en with c | c
        · exact .inr ⟨j, hj, .inr (by rw [e, c.1]), by omega⟩
        · exact .inl (by rw [e, c.1])
  · rintro (e | ⟨j, hj, e, hx⟩)
    · exact .inl e
    · have r := trf_rule h hj
      rcases e with e | e
      · exact .inr ⟨j, hj, .inl e⟩
      · rcases en_mod r.en with c | c
        · exact .inr ⟨j, hj, .inr (by rw [c.1]; exact e)⟩
        · omega
theorem times_srt (t : Trf) : (timesL t).Pairwise (· < ·) := comp_srt (sortI_srt _)
theorem times_bd {t : Trf} (h : trfE t = 0) {x : Int} (hx : x ∈ timesL t) : 0 ≤ x ∧ x < 86400 := by
  rcases (times_mem h).1 hx with e | ⟨j, hj, e, hlt⟩
  · omega
  · have r := trf_rule h hj
    have := r.bg; have := r.en
    rcases e with e | e <;> omega
theorem times_len {t : Trf} (h : trfE t = 0) : (timesL t).length ≤ 25 := by
  have a := comp_len (sortI (chgL t t.rules.length))
  have b : (sortI (chgL t t.rules.length)).length = 2 * t.rules.length + 1 := by simp [sortI, List.length_mergeSort, chgL_len]
  have c := rules_len h
  unfold timesL; omega
theorem getD_mem {l : List Int} {i : Nat} (h : i < l.length) : l.getD i 0 ∈ l := by
  rw [List.getD_eq_getElem?_getD, List.getElem?_eq_getElem h]; exact List.getElem_mem h
theorem mem_getD {l : List Int} {x : Int} (h : x ∈ l) : ∃ i, i < l.length ∧ l.getD i 0 = x := by
  obtain ⟨i, hi, e⟩ := List.getElem_of_mem h
  exact ⟨i, hi, by rw [List.getD_eq_getElem?_getD, List.getElem?_eq_getElem hi]; exact e⟩
theorem times_0 {t : Trf} (h : trfE t = 0) : 0 < (timesL t).length ∧ (timesL t).getD 0 0 = 0 := by
  obtain ⟨i, hi, e⟩ := mem_getD ((times_mem h).2 (.inl rfl))
  refine ⟨by omega, ?_⟩
  cases i with
  | zero => exact e
  | succ i =>
    have s := pair_SortI (times_srt t) 0 (i + 1) (by omega) hi
    have b := times_bd h (getD_mem (show 0 < (timesL t).length by omega))
    omega

/-- The reference's list of times, so far. -/
structure TimesI (t : Trf) (l : List Int) : Prop where
  srt : SortI l
  pos : 0 < l.length
  mem : ∀ x ∈ l, TimeS t x
  all : ∀ x, TimeS t x → x ≤ l.getD (l.length - 1) 0 → x ∈ l
  bd : 0 ≤ l.getD (l.length - 1) 0 ∧ l.getD (l.length - 1) 0 < 86400
/-- The same rules hold from one time to the next. -/
theorem holdB_same {t : Trf} (ht : trfE t = 0) {k : Nat} (hk : k < t.rules.length) {z d a b : Int} (hab : a ≤ b) (hb : b < 86400) (hn : ∀ x ∈ timesL t, x ≤ a ∨ b < x) : holdB t (t.rules.getD k rul0) ⟨z, d, b⟩ = holdB t (t.rules.getD k rul0) ⟨z, d, a⟩ := by
  have r := trf_rule ht hk
  have e1 := hn _ ((times_mem ht).2 (.inr ⟨k, hk, .inl rfl, by have := r.bg; omega⟩))
  have e2 : (t.rules.getD k rul0).en ≤ a ∨ b < (t.rules.getD k rul0).en := by
    by_cases q : (t.rules.getD k rul0).en < 86400
    · exact hn _ ((times_mem ht).2 (.inr ⟨k, hk, .inr rfl, q⟩))
    · right; omega
  have e : timeB (t.rules.getD k rul0) b = timeB (t.rules.getD k rul0) a := by
    unfold timeB
    have d1 : decide ((t.rules.getD k rul0).bg ≤ b) = decide ((t.rules.getD k rul0).bg ≤ a) := decide_eq_decide.2 (by omega)
    have d2 : decide (b < (t.rules.getD k rul0).en) = decide (a < (t.rules.getD k rul0).en) := decide_eq_decide.2 (by omega)
    rw [d1, d2]
  rw [hold_eq, hold_eq]
  show (bif timeB _ b then _ else _) = (bif timeB _ a then _ else _)
  rw [e]
theorem holdI_same {t : Trf} (ht : trfE t = 0) {z d a b : Int} (hab : a ≤ b) (hb : b < 86400) (hn : ∀ x ∈ timesL t, x ≤ a ∨ b < x) : ∀ k, k ≤ t.rules.length → holdI t ⟨z, d, b⟩ k = holdI t ⟨z, d, a⟩ k
  | 0, _ => rfl
  | k + 1, hk => by simp only [holdI, holdB_same ht (show k < t.rules.length by omega) hab hb hn, holdI_same ht hab hb hn k (by omega)]
/-- The last time that is not behind a moment. -/
theorem times_last {t : Trf} (ht : trfE t = 0) {s : Int} (h0 : 0 ≤ s) : ∃ i, i < (timesL t).length ∧ (timesL t).getD i 0 ≤ s ∧ ∀ x ∈ timesL t, x ≤ (timesL t).getD i 0 ∨ s < x := by
  have hs := pair_SortI (times_srt t)
  have key : ∀ n, 0 < n → n ≤ (timesL t).length → ∃ i, i < n ∧ (timesL t).getD i 0 ≤ s ∧ ∀ j, j < n → (timesL t).getD j 0 ≤ (timesL t).getD i 0 ∨ s < (timesL t).getD j 0 := fun n => by
    induction n with
    | zero => intro h; omega
    | succ n ih =>
      intro _ hn
      rcases Nat.eq_zero_or_pos n with e | e
      · subst e
        refine ⟨0, by omega, by rw [(times_0 ht).2]; exact h0, fun j hj => ?_⟩
        have : j = 0 := by omega
        rw [this]; exact .inl (Int.le_refl _)
      · obtain ⟨i, hi, hle, ha⟩ := ih e (by omega)
        by_cases q : (timesL t).getD n 0 ≤ s
        · refine ⟨n, by omega, q, fun j hj => ?_⟩
          rcases Nat.lt_succ_iff_lt_or_eq.1 hj with c | c
          · have := hs j n c (by omega); exact .inl (by omega)
          · rw [c]; exact .inl (Int.le_refl _)
        · refine ⟨i, by omega, hle, fun j hj => ?_⟩
          rcases Nat.lt_succ_iff_lt_or_eq.1 hj with c | c
          · exact ha j c
          · rw [c]; exact .inr (by omega)
  obtain ⟨i, hi, hle, ha⟩ := key _ (times_0 ht).1 (Nat.le_refl _)
  exact ⟨i, hi, hle, fun x hx => by obtain ⟨j, hj, e⟩ := mem_getD hx; rw [← e]; exact ha j hj⟩

theorem find_neg {p : Nat → Bool} {n : Nat} (h : ∀ j, j < n → p j = false) : decide (0 ≤ findI p n) = false := by rw [findI_none h]; rfl
theorem find_is {p : Nat → Bool} {n : Nat} (h : 0 ≤ findI p n) : ∃ i, i < n ∧ findI p n = i ∧ p i = true ∧ ∀ j, j < i → p j = false := by
  by_cases q : ∃ i, i < n ∧ p i = true
  · obtain ⟨i, hi, hp⟩ := q
    have : ∃ k, k < n ∧ p k = true ∧ ∀ j, j < k → p j = false := by
      induction i using Nat.strongRecOn with
      | _ i ih =>
        by_cases c : ∃ j, j < i ∧ p j = true
        · obtain ⟨j, hj, hpj⟩ := c
          exact ih j hj (by omega) hpj
        · exact ⟨i, hi, hp, fun j hj => by cases e : p j with
            | false => rfl
            | true => exact absurd ⟨j, hj, e⟩ c⟩
    obtain ⟨k, hk, hpk, ha⟩ := this
    exact ⟨k, hk, findI_hit hk ha hpk, hpk, ha⟩
  · rw [findI_none fun j hj => by cases e : p j with
      | false => rfl
      | true => exact absurd ⟨j, hj, e⟩ q] at h
    omega
end Go.Fx

/-
  From change to change the rule stays; a gap, or an overlap, is found at its first time.
-/
namespace Go.Fx
open Go.Proofs Go.RowKit

theorem firstS_le {B : Int} (hB : 0 ≤ B) : ∀ {l : List Int}, (∀ x ∈ l, x ≤ B) → firstS l ≤ B
  | [], _ => hB
  | x :: l, h => by
    simp only [firstS]
    by_cases c : x = 0
    · rw [decide_eq_true c]; exact firstS_le hB fun y hy => h y (List.mem_cons_of_mem _ hy)
    · rw [decide_eq_false c]; exact h x (by simp)
theorem scanE_le {α : Type} {B : Int} (hB : 0 ≤ B) {g : α → Int} (h : ∀ a, g a ≤ B) : ∀ {l : List α}, scanE g l ≤ B
  | [] => hB
  | x :: l => by
    simp only [scanE]
    by_cases c : g x = 0
    · rw [decide_eq_true c]; exact scanE_le hB h
    · rw [decide_eq_false c]; exact h x
theorem isOk_le {b : Bool} {e : Int} (h : 0 ≤ e) : isOk b e ≤ e := by cases b; exact Int.le_refl _; exact h
theorem bif_le {b : Bool} {x y B : Int} (hx : x ≤ B) (hy : y ≤ B) : (bif b then x else y) ≤ B := by cases b; exact hy; exact hx
theorem riseAt_le {lo hi e : Int} (he : e ≤ 10) {l : List Int} {i : Nat} : riseAt lo hi e l i ≤ 10 := by
  unfold riseAt
  exact bif_le (bif_le (bif_le (by decide) (by decide)) (by decide)) he
theorem riseE_le {lo hi e : Int} (he : e ≤ 10) {l : List Int} : riseE lo hi e l ≤ 10 := by unfold riseE; exact scanE_le (by decide) fun a => riseAt_le he
theorem ruleE_le {nz : Int} {r : Rul} : ruleE nz r ≤ 10 := by
  unfold ruleE
  refine firstS_le (by decide) fun x hx => ?_
  simp only [List.mem_cons, List.not_mem_nil, or_false] at hx
  rcases hx with h | h | h | h | h | h <;> rw [h]
  · exact Int.le_trans (isOk_le (by decide)) (by decide)
  · exact Int.le_trans (isOk_le (by decide)) (by decide)
  · exact Int.le_trans (isOk_le (by decide)) (by decide)
  · exact riseE_le (by decide)
  · exact riseE_le (by decide)
  · exact Int.le_trans (isOk_le (by decide)) (by decide)
theorem partE_le (t : Trf) : ∀ p i, partE t p i ≤ 10
  | 0, i => by show zoneE t i ≤ 10; unfold zoneE; exact bif_le (bif_le (by decide) (by decide)) (by decide)
  | 1, i => by show holE t i ≤ 10; unfold holE; exact riseAt_le (by decide)
  | 2, i => by show ruliE t i ≤ 10; unfold ruliE; exact bif_le (bif_le (by decide) ruleE_le) (by decide)
  | 3, i => by show extE t i ≤ 10; unfold extE; exact bif_le (bif_le (by decide) (Int.le_trans (isOk_le (by decide)) (by decide))) (by decide)
  | p + 4, i => by show fxdE t i ≤ 10; unfold fxdE; exact bif_le (bif_le (bif_le (by decide) (by decide)) (by decide)) (by decide)
theorem fromE_le (t : Trf) : ∀ k p, fromE t p k ≤ 10
  | 0, p => by show (0 : Int) ≤ 10; decide
  | k + 1, p => by
    show (bif decide (pE t p = 0) then fromE t (p + 1) k else pE t p) ≤ 10
    refine bif_le (fromE_le t k (p + 1)) ?_
    unfold pE
    exact bif_le (by decide) (scanE_le (by decide) fun a => partE_le t p a)
theorem trfE_le (t : Trf) : trfE t ≤ 10 := by
  unfold trfE
  refine bif_le (fromE_le t 5 0) ?_
  unfold topE
  exact bif_le (bif_le (bif_le (by decide) (by decide)) (by decide)) (by decide)
theorem placeE_le (t : Trf) (p : Plc) : placeE t p ≤ 10 := by
  unfold placeE
  refine firstS_le (by decide) fun x hx => ?_
  simp only [List.mem_cons, List.not_mem_nil, or_false] at hx
  rcases hx with h | h <;> rw [h] <;> exact Int.le_trans (isOk_le (by decide)) (by decide)
theorem gateE_le (t : Trf) (p : Plc) : gateE t p ≤ 10 := by
  unfold gateE
  refine firstS_le (by decide) fun x hx => ?_
  simp only [List.mem_cons, List.not_mem_nil, or_false] at hx
  rcases hx with h | h <;> rw [h]
  · exact trfE_le t
  · exact placeE_le t p
theorem one_cases (l : List Int) : (oneE l = 0 ∧ ∃ x, l = [x] ∧ oneN l = x) ∨ (oneE l = 12 ∧ l = [] ∧ oneN l = 0) ∨ (oneE l = 13 ∧ 1 < l.length ∧ oneN l = 0) := by
  match l with
  | [] => right; left; unfold oneE oneN; exact ⟨rfl, rfl, rfl⟩
  | [x] => left; unfold oneE oneN; exact ⟨rfl, x, rfl, rfl⟩
  | _ :: _ :: _ => right; right; unfold oneE oneN; exact ⟨rfl, by simp, rfl⟩
theorem gate_ok {t : Trf} {p : Plc} : gateE t p = 0 ↔ trfE t = 0 ∧ zoneIn t p.z = true ∧ momB p.m = true := by
  constructor
  · intro h
    unfold gateE at h
    have z := firstS_zero h
    have z1 : placeE t p = 0 := z _ (by simp)
    unfold placeE at z1
    have y := firstS_zero z1
    exact ⟨z _ (by simp), isOk_0 (b := zoneIn t p.z) (e := 6) (y _ (by simp)) (by decide), isOk_0 (b := momB p.m) (e := 2) (y _ (by simp)) (by decide)⟩
  · rintro ⟨a, b, c⟩
    unfold gateE placeE
    rw [a, b, c]; rfl
theorem ruleAt_0 {t : Trf} {p : Plc} (h : gateE t p = 0) : ruleAtE t p = oneE (holdI t p t.rules.length) ∧ ruleAtN t p = oneN (holdI t p t.rules.length) := by
  unfold ruleAtE ruleAtN; rw [h]; exact ⟨rfl, rfl⟩
theorem ruleAt_e {t : Trf} {p : Plc} (h : gateE t p ≠ 0) : ruleAtE t p = gateE t p ∧ ruleAtN t p = 0 := by
  unfold ruleAtE ruleAtN; rw [decide_eq_false h]; exact ⟨rfl, rfl⟩
theorem ruleAt_gate {t : Trf} {p : Plc} (h : ruleAtE t p = 0 ∨ 12 ≤ ruleAtE t p) : gateE t p = 0 := Decidable.byContradiction fun c => by
  have := gateE_le t p; rw [(ruleAt_e c).1] at h; omega

/-- The first later moment at which something else holds. -/
def nowE (t : Trf) (p : Plc) : Int := oneE (holdI t p t.rules.length)
def nowN (t : Trf) (p : Plc) : Int := oneN (holdI t p t.rules.length)
def nxtC (t : Trf) (p : Plc) (d i : Nat) : Plc := ⟨p.z, p.m.d + d, (timesL t).getD i 0⟩
def nxtS (t : Trf) (p : Plc) (d i : Nat) : Bool := bif (p.m.d + (d : Int) == p.m.d) then decide ((timesL t).getD i 0 ≤ p.m.s) else false
def nxtD (t : Trf) (p : Plc) (d i : Nat) : Bool := bif nowN t (nxtC t p d i) == nowN t p then nowE t (nxtC t p d i) == nowE t p else false
def nxtP (t : Trf) (p : Plc) (d i : Nat) : Bool := bif nxtS t p d i then false else !nxtD t p d i
def nxtI (t : Trf) (p : Plc) (d : Nat) : Int := findI (nxtP t p d) (timesL t).length
def lastD (p : Plc) : Int := bif decide (p.m.d + 400 < 100000) then p.m.d + 400 else 100000
def nxtN (p : Plc) : Nat := (lastD p + 1 - p.m.d).toNat
def nxtF (t : Trf) (p : Plc) : Int := findI (fun d => decide (0 ≤ nxtI t p d)) (nxtN p)
def nxtM (t : Trf) (p : Plc) : Mom := ⟨p.m.d + nxtF t p, (timesL t).getD (nxtI t p (nxtF t p).toNat).toNat 0⟩
@[irreducible] def chE (t : Trf) (p : Plc) : Int := bif decide (gateE t p = 0) then (bif decide (0 ≤ nxtF t p) then 0 else 12) else gateE t p
@[irreducible] def chM (t : Trf) (p : Plc) : Mom := bif decide (chE t p = 0) then nxtM t p else ⟨0, 0⟩
theorem ch_gate {t : Trf} {p : Plc} (h : gateE t p ≠ 0) : chE t p = gateE t p ∧ chM t p = ⟨0, 0⟩ := by
  have a : chE t p = gateE t p := by unfold chE; rw [decide_eq_false h]; rfl
  exact ⟨a, by unfold chM; rw [a, decide_eq_false h]; rfl⟩
theorem ch_hit {t : Trf} {p : Plc} (hg : gateE t p = 0) {d i : Nat} (hd : d < nxtN p) (hi : i < (timesL t).length) (h1 : ∀ d', d' < d → decide (0 ≤ nxtI t p d') = false) (h2 : ∀ i', i' < i → nxtP t p d i' = false) (h3 : nxtP t p d i = true) :
    chE t p = 0 ∧ chM t p = ⟨p.m.d + d, (timesL t).getD i 0⟩ := by
  have a : nxtI t p d = i := findI_hit hi h2 h3
  have b : nxtF t p = d := findI_hit (p := fun d => decide (0 ≤ nxtI t p d)) hd h1 (by rw [a]; exact decide_eq_true (by omega))
  have e : chE t p = 0 := by unfold chE; rw [hg, b, decide_eq_true (show (0 : Int) ≤ (d : Int) by omega)]; rfl
  refine ⟨e, ?_⟩
  unfold chM nxtM
  rw [e, b]; simp only [Int.toNat_natCast]; rw [a]; rfl
theorem ch_none {t : Trf} {p : Plc} (hg : gateE t p = 0) (h1 : ∀ d, d < nxtN p → decide (0 ≤ nxtI t p d) = false) : chE t p = 12 ∧ chM t p = ⟨0, 0⟩ := by
  have b : nxtF t p = -1 := findI_none h1
  have e : chE t p = 12 := by unfold chE; rw [hg, b]; rfl
  exact ⟨e, by unfold chM; rw [e]; rfl⟩
/-- What NextChange says, told without a search. -/
theorem ch_cases {t : Trf} {p : Plc} (hg : gateE t p = 0) :
    (chE t p = 0 ∧ ∃ d i : Nat, d < nxtN p ∧ i < (timesL t).length ∧ chM t p = ⟨p.m.d + d, (timesL t).getD i 0⟩ ∧ nxtP t p d i = true ∧ (∀ d', d' < d → ∀ j, j < (timesL t).length → nxtP t p d' j = false) ∧ ∀ j, j < i → nxtP t p d j = false) ∨
    (chE t p = 12 ∧ ∀ d, d < nxtN p → ∀ j, j < (timesL t).length → nxtP t p d j = false) := by
  have no : ∀ d, decide (0 ≤ nxtI t p d) = false → ∀ j, j < (timesL t).length → nxtP t p d j = false := fun d h j hj => by
    cases c : nxtP t p d j with
    | false => rfl
    | true =>
      have h := of_decide_eq_false h
      exfalso
      unfold nxtI at h
      have := findI_ge (p := nxtP t p d) (n := (timesL t).length)
      rw [any_hit hj c] at this
      exact h (of_decide_eq_true this)
  by_cases q : 0 ≤ nxtF t p
  · obtain ⟨d, hd, e1, hp, ha⟩ := find_is (p := fun d => decide (0 ≤ nxtI t p d)) q
    obtain ⟨i, hi, e2, hq, hb⟩ := find_is (p := nxtP t p d) (of_decide_eq_true hp)
    have w := ch_hit hg hd hi ha hb hq
    exact .inl ⟨w.1, d, i, hd, hi, w.2, hq, fun d' hd' => no d' (ha d' hd'), hb⟩
  · have hn : ∀ d, d < nxtN p → decide (0 ≤ nxtI t p d) = false := fun d hd => by
      cases c : decide (0 ≤ nxtI t p d) with
      | false => rfl
      | true =>
        exfalso
        have := findI_ge (p := fun d => decide (0 ≤ nxtI t p d)) (n := nxtN p)
        rw [any_hit hd c] at this
        exact q (of_decide_eq_true this)
    exact .inr ⟨(ch_none hg hn).1, fun d hd => no d (hn d hd)⟩
theorem lastD_bd (p : Plc) : lastD p ≤ 100000 ∧ lastD p ≤ p.m.d + 400 ∧ (lastD p = 100000 ∨ lastD p = p.m.d + 400) := by
  unfold lastD
  by_cases h : p.m.d + 400 < 100000 <;> simp [h] <;> omega
/-- Up to the next change what holds stays. -/
theorem stays {t : Trf} {p : Plc} (hg : gateE t p = 0) {q : Mom} (hq : momB q = true) (hle : p.m.d < q.d ∨ p.m.d = q.d ∧ p.m.s ≤ q.s)
    (ha : ∀ (d i : Nat), i < (timesL t).length → p.m.d + d = q.d → (timesL t).getD i 0 ≤ q.s → nxtP t p d i = false) : nowE t ⟨p.z, q⟩ = nowE t p ∧ nowN t ⟨p.z, q⟩ = nowN t p := by
  obtain ⟨ht, _, hm⟩ := gate_ok.1 hg
  have bp := mom_bd hm
  have bq := mom_bd hq
  obtain ⟨i, hi, hc, hl⟩ := times_last ht bq.2.1
  have hbt := times_bd ht (getD_mem hi)
  have e1 : holdI t ⟨p.z, q.d, q.s⟩ t.rules.length = holdI t ⟨p.z, q.d, (timesL t).getD i 0⟩ t.rules.length := holdI_same ht hc (by omega) hl _ (Nat.le_refl _)
  have h := ha (q.d - p.m.d).toNat i hi (by omega) hc
  have eq0 : nxtC t p (q.d - p.m.d).toNat i = ⟨p.z, q.d, (timesL t).getD i 0⟩ := by unfold nxtC; rw [show p.m.d + ((q.d - p.m.d).toNat : Int) = q.d by omega]
  unfold nxtP at h
  by_cases c : p.m.d = q.d ∧ (timesL t).getD i 0 ≤ p.m.s
  · have e2 : holdI t ⟨p.z, p.m.d, p.m.s⟩ t.rules.length = holdI t ⟨p.z, p.m.d, (timesL t).getD i 0⟩ t.rules.length := holdI_same ht c.2 (by omega) (fun x hx => by rcases hl x hx with k | k; exact .inl k; right; omega) _ (Nat.le_refl _)
    rw [← c.1] at e1
    have e3 : holdI t ⟨p.z, q⟩ t.rules.length = holdI t p t.rules.length := by
      show holdI t ⟨p.z, q.d, q.s⟩ _ = holdI t ⟨p.z, p.m.d, p.m.s⟩ _
      rw [← c.1, e1, e2]
    unfold nowE nowN; rw [e3]; exact ⟨rfl, rfl⟩
  · have s : nxtS t p (q.d - p.m.d).toNat i = false := by
      unfold nxtS
      by_cases k : p.m.d = q.d
      · rw [show ((p.m.d + ((q.d - p.m.d).toNat : Int)) == p.m.d) = true by simp; omega]
        exact decide_eq_false fun k2 => c ⟨k, k2⟩
      · rw [show ((p.m.d + ((q.d - p.m.d).toNat : Int)) == p.m.d) = false by simp; omega]; rfl
    rw [s] at h
    have h : nxtD t p (q.d - p.m.d).toNat i = true := by simpa using h
    unfold nxtD at h
    rw [eq0] at h
    have h := and_t h
    have hN := eq_of_beq h.1
    have hE := eq_of_beq h.2
    have e3 : holdI t ⟨p.z, q⟩ t.rules.length = holdI t ⟨p.z, q.d, (timesL t).getD i 0⟩ t.rules.length := e1
    unfold nowE at hE; unfold nowN at hN; unfold nowE nowN
    rw [e3]
    exact ⟨hE, hN⟩
end Go.Fx
