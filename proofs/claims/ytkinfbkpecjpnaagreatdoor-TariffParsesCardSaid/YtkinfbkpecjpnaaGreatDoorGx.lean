/-
 Texts: cut, joined, numbers; the texts of trips.
-/
import Derived.Lib.AtoiTie
import Derived.Lib.Itoa
import Derived.Lib.ItoaNum
import Derived.Lib.Join
import Derived.Lib.SplitLaws
import Derived.Lib.IndexLaws
import Derived.Lib.IndexBytes
import Derived.Test.YtkinfbkpecjpnaaGreatDoorGp
import Derived.Test.YtkinfbkpecjpnaaGreatDoorGs
set_option linter.all false
/-
 Texts: cut at a byte, joined, numbers read and written. No program in sight.
-/
namespace Go.Fx
abbrev Tx := List UInt8
def glue (p : Tx) : List Tx -> List Tx
 | [] => [p]
 | w :: ws => (p ++ w) :: ws
def cut (c : UInt8) : Tx -> List Tx
 | [] => [[]]
 | b :: s => if b = c then [] :: cut c s else glue [b] (cut c s)
theorem glue_ne (p : Tx) (l : List Tx) : glue p l ≠ [] := by cases l <;> simp [glue]
theorem glue_nil {l : List Tx} (h : l ≠ []) : glue [] l = l := by cases l <;> simp_all [glue]
theorem glue_glue (p q : Tx) (l : List Tx) : glue p (glue q l) = glue (p ++ q) l := by cases l <;> simp [glue]
theorem glue_len {p : Tx} {l : List Tx} (h : l ≠ []) : (glue p l).length = l.length := by cases l <;> simp_all [glue]
theorem cut_ne (c : UInt8) (s : Tx) : cut c s ≠ [] := by
 cases s with
 | nil => simp [cut]
 | cons b s =>
  unfold cut
  split
  ·simp
  ·exact glue_ne _ _
theorem cut_len (c : UInt8) : ∀ s : Tx, (cut c s).length <= s.length + 1
 | [] => by simp [cut]
 | b :: s => by
  have := cut_len c s
  unfold cut
  split
  ·simp; omega
  ·rw [glue_len (cut_ne c s)]; simp; omega
theorem cut_mem (c : UInt8) : ∀ (s w : Tx), w ∈ cut c s -> w.length <= s.length /\ c ∉ w
 | [], w, h => by simp [cut] at h; subst h; simp
 | b :: s, w, h => by
  unfold cut at h
  split at h
  ·rcases List.mem_cons.1 h with rfl | h
   ·simp
   ·have := cut_mem c s w h; exact ⟨by simp; omega, this.2⟩
  ·rename_i hb
   have ih := cut_mem c s
   cases hc : cut c s with
   | nil => exact absurd hc (cut_ne c s)
   | cons v vs =>
    rw [hc] at h ih
    rcases List.mem_cons.1 h with rfl | h
    ·have := ih v (List.mem_cons_self ..)
     exact ⟨by simp; omega, by simp; exact ⟨fun e => hb e.symm, this.2⟩⟩
    ·have := ih w (List.mem_cons_of_mem _ h); exact ⟨by simp; omega, this.2⟩
theorem cut_app (c : UInt8) : ∀ (p s : Tx), c ∉ p -> cut c (p ++ s) = glue p (cut c s)
 | [], s, _ => by rw [List.nil_append, glue_nil (cut_ne c s)]
 | b :: p, s, h => by
  have hb : b ≠ c := fun e => h (by rw [e]; exact List.mem_cons_self ..)
  have hp : c ∉ p := fun e => h (List.mem_cons_of_mem _ e)
  rw [List.cons_append, cut, if_neg hb, cut_app c p s hp, glue_glue]
  rfl
theorem cut_no {c : UInt8} {s : Tx} (h : c ∉ s) : cut c s = [s] := by
 have := cut_app c s [] h
 rw [List.append_nil] at this
 rw [this]
 simp [cut, glue]
theorem cut_mid {c : UInt8} {p : Tx} (s : Tx) (h : c ∉ p) : cut c (p ++ c :: s) = p :: cut c s := by
 rw [cut_app c p _ h, cut, if_pos rfl]
 simp [glue]
theorem cut_miss {c : UInt8} {s : Tx} (h : Lib.indexByte s c = -1) : cut c s = [s] := by
 refine cut_no fun hm => ?_
 obtain ⟨k, hk⟩ := List.getElem?_of_mem hm
 exact Lib.indexByte_none h k hk
theorem cut_hit {c : UInt8} {s : Tx} {i : Nat} (h : Lib.indexByte s c = i) : i < s.length /\ cut c s = s.take i :: cut c (s.drop (i + 1)) := by
 obtain ⟨h1, h2⟩ := Lib.indexByte_some h
 have hi : i < s.length := (List.getElem?_eq_some_iff.1 h1).1
 have e : s = s.take i ++ c :: s.drop (i + 1) := by
  have e1 : s.drop i = c :: s.drop (i + 1) := by
   rw [List.drop_eq_getElem_cons hi]
   rw [List.getElem?_eq_getElem hi] at h1
   rw [Option.some.inj h1]
  rw [<- e1, List.take_append_drop]
 refine ⟨hi, ?_⟩
 conv => lhs; rw [e]
 refine cut_mid _ fun hm => ?_
 obtain ⟨k, hk⟩ := List.getElem?_of_mem hm
 rw [List.getElem?_take] at hk
 split at hk
 ·exact h2 k (by assumption) hk
 ·cases hk
theorem split_cut (c : UInt8) : ∀ (k : Nat) (s : Tx), s.count c = k -> Lib.splitK [c] 0 k s = cut c s
 | k, s, hk => by
  by_cases hm : Lib.indexByte s c = -1
  ·rw [cut_miss hm]
   cases k with
   | zero => rfl
   | succ k => rw [Lib.splitK, Lib.index_one, hm]; rfl
  ·have hge := Lib.indexByte_ge s c
   obtain ⟨i, hi⟩ : ∃ i : Nat, Lib.indexByte s c = i := ⟨(Lib.indexByte s c).toNat, by omega⟩
   obtain ⟨hl, hc⟩ := cut_hit hi
   obtain ⟨h1, h2⟩ := Lib.indexByte_some hi
   have e : s.count c = 1 + (s.drop (i + 1)).count c := by
    have e0 : s = s.take i ++ c :: s.drop (i + 1) := by
     have e1 : s.drop i = c :: s.drop (i + 1) := by
      rw [List.drop_eq_getElem_cons hl]
      rw [List.getElem?_eq_getElem hl] at h1
      rw [Option.some.inj h1]
     rw [<- e1, List.take_append_drop]
    have e2 : (s.take i).count c = 0 := List.count_eq_zero.2 fun hm => by
     obtain ⟨k, hk⟩ := List.getElem?_of_mem hm
     rw [List.getElem?_take] at hk
     split at hk
     ·exact h2 k (by assumption) hk
     ·cases hk
    conv => lhs; rw [e0]
    rw [List.count_append, e2, List.count_cons_self]
    omega
   cases k with
   | zero => omega
   | succ k =>
    rw [Lib.splitK, Lib.index_one, hi, if_neg (by simp), hc, Int.toNat_natCast, Nat.add_zero]
    rw [show i + [c].length = i + 1 from rfl, split_cut c k _ (by omega)]
termination_by k => k
theorem bytes_eq {a b : ByteArray} (h : a.data.toList = b.data.toList) : a = b := by
 obtain ⟨⟨a⟩⟩ := a
 obtain ⟨⟨b⟩⟩ := b
 exact congrArg (fun l => (⟨⟨l⟩⟩ : ByteArray)) h
def cutS (c : UInt8) (s : ByteArray) : List ByteArray := (cut c s.data.toList).map fun l => ⟨⟨l⟩⟩
theorem cutS_len (c : UInt8) (s : ByteArray) : (cutS c s).length = (cut c s.data.toList).length := by simp [cutS]
theorem splitB_cut (c : UInt8) (s : ByteArray) : Lib.splitB ⟨#[c]⟩ 0 (Lib.countB s ⟨#[c]⟩) s = cutS c s := by
 have h := Lib.splitB_data ⟨#[c]⟩ 0 (Lib.countB s ⟨#[c]⟩) s
 have e : Lib.countB s ⟨#[c]⟩ = s.data.toList.count c := by
  rw [<- Lib.count_one]
 rw [e] at h ⊢
 rw [show (⟨#[c]⟩ : ByteArray).data.toList = [c] from rfl, split_cut c _ _ rfl] at h
 unfold cutS
 rw [<- h, List.map_map]
 conv => lhs; rw [<- List.map_id (Lib.splitB ⟨#[c]⟩ 0 (s.data.toList.count c) s)]
 refine List.map_congr_left fun a _ => ?_
 exact bytes_eq rfl
theorem decFrom_snoc (b : UInt8) : ∀ (l : Tx) (acc : Nat), Lib.decFrom acc (l ++ [b]) = (Lib.decFrom acc l).bind fun n => (Lib.digitVal b).map fun d => n * 10 + d
 | [], acc => by
  simp only [List.nil_append, Lib.decFrom]
  cases Lib.digitVal b <;> rfl
 | a :: l, acc => by
  simp only [List.cons_append, Lib.decFrom]
  cases h : Lib.digitVal a with
  | none => rfl
  | some d => exact decFrom_snoc b l _
theorem digit_of (d : Nat) (h : d < 10) : Lib.digitVal (UInt8.ofNat (48 + d)) = some d := by
 have : (UInt8.ofNat (48 + d)).toNat = 48 + d := by simp; omega
 unfold Lib.digitVal
 rw [this, if_pos (by omega)]
 congr 1
 omega
theorem of_digit {b : UInt8} {d : Nat} (h : Lib.digitVal b = some d) : d < 10 /\ b = UInt8.ofNat (48 + d) := by
 obtain ⟨h1, h2, h3⟩ := Lib.digitVal_eq h
 refine ⟨by omega, ?_⟩
 rw [<- UInt8.toNat_inj]
 simp
 omega
theorem decD_small {u : Nat} (h : u < 10) : Lib.decDigits u = [UInt8.ofNat (48 + u)] := by rw [Lib.decDigits, dif_pos h]
theorem decD_big {u : Nat} (h : ¬ u < 10) : Lib.decDigits u = Lib.decDigits (u / 10) ++ [UInt8.ofNat (48 + u % 10)] := by rw [Lib.decDigits, dif_neg h]
theorem dec_digits (u : Nat) : Lib.decFrom 0 (Lib.decDigits u) = some u := by
 induction u using Nat.strongRecOn with
 | ind u ih =>
  by_cases h : u < 10
  ·rw [decD_small h]
   show (match Lib.digitVal (UInt8.ofNat (48 + u)) with | some d => Lib.decFrom (0 * 10 + d) [] | none => none) = some u
   rw [digit_of u h]
   simp [Lib.decFrom]
  ·rw [decD_big h, decFrom_snoc, ih (u / 10) (by omega), digit_of _ (by omega)]
   simp
   omega
theorem decD_ne (u : Nat) : Lib.decDigits u ≠ [] := by
 by_cases h : u < 10
 ·rw [decD_small h]; simp
 ·rw [decD_big h]; simp
theorem head_app {a b : Tx} (h : a ≠ []) : (a ++ b).head? = a.head? := by cases a <;> simp_all
theorem decD_head (u : Nat) : (Lib.decDigits u).head? ≠ some 48 \/ u = 0 := by
 induction u using Nat.strongRecOn with
 | ind u ih =>
  by_cases h : u < 10
  ·rcases Nat.eq_zero_or_pos u with rfl | hu
   ·exact .inr rfl
   ·left
    rw [decD_small h]
    simp only [List.head?_cons, ne_eq, Option.some.injEq]
    rw [<- UInt8.toNat_inj]
    simp
    omega
  ·left
   rw [decD_big h]
   rcases ih (u / 10) (by omega) with h1 | h1
   ·rw [head_app (decD_ne _)]
    exact h1
   ·omega
theorem decFrom_digits : ∀ (l : Tx) (acc n : Nat), Lib.decFrom acc l = some n -> ∀ b ∈ l, 48 <= b.toNat /\ b.toNat <= 57
 | [], _, _, _, b, hb => by simp at hb
 | a :: l, acc, n, h, b, hb => by
  unfold Lib.decFrom at h
  split at h
  ·rename_i d hd
   rcases List.mem_cons.1 hb with rfl | hb
   ·have := Lib.digitVal_eq hd; omega
   ·exact decFrom_digits l _ _ h b hb
  ·cases h
theorem decD_bytes (u : Nat) : ∀ b ∈ Lib.decDigits u, 48 <= b.toNat /\ b.toNat <= 57 := decFrom_digits _ _ _ (dec_digits u)
theorem digits_dec : ∀ (k : Nat) (l : Tx) (m : Nat), l.length = k -> Lib.decFrom 0 l = some m -> l ≠ [] -> (l.head? ≠ some 48 \/ l.length = 1) -> Lib.decDigits m = l := by
 intro k
 induction k with
 | zero => intro l m hk _ hne; exact absurd (List.eq_nil_of_length_eq_zero hk) hne
 | succ k ih =>
  intro l m hk hd hne hh
  rcases List.eq_nil_or_concat l with rfl | ⟨p, b, rfl⟩
  ·exact absurd rfl hne
  ·simp only [List.concat_eq_append] at *
   rw [decFrom_snoc] at hd
   simp only [Option.bind_eq_some_iff, Option.map_eq_some_iff] at hd
   obtain ⟨n, hn, d, hb, rfl⟩ := hd
   obtain ⟨hd10, rfl⟩ := of_digit hb
   cases hp : p with
   | nil =>
    subst hp
    simp only [Lib.decFrom, Option.some.injEq] at hn
    subst hn
    rw [decD_small (by omega)]
    simp
   | cons a p' =>
    have hp0 : p ≠ [] := by rw [hp]; simp
    have h48 : p.head? ≠ some 48 := by
     rcases hh with hh | hh
     ·rwa [head_app hp0] at hh
     ·rw [hp] at hh; simp at hh
    have e := ih p n (by simp at hk; omega) hn hp0 (.inl h48)
    have hn0 : n ≠ 0 := by
     rintro rfl
     rw [decD_small (by omega)] at e
     rw [<- e] at h48
     exact h48 rfl
    rw [decD_big (by omega), show (n * 10 + d) / 10 = n by omega, show (n * 10 + d) % 10 = d by omega, e, hp]
def negT (s : Tx) : Bool := s.head? == some 45
def magT (s : Tx) : Tx := if negT s then s.drop 1 else s
def numT (s : Tx) : Option Int :=
 if magT s = [] \/ 9 < (magT s).length \/ ((magT s).head? = some 48 /\ 1 < s.length) then none
 else (Lib.decFrom 0 (magT s)).map fun (m : Nat) => if negT s then -(m : Int) else (m : Int)
theorem neg_cons {s : Tx} (h : negT s = true) : s = 45 :: magT s := by
 unfold magT
 rw [h]
 cases s with
 | nil => simp [negT] at h
 | cons b s => simp [negT] at h; subst h; rfl
theorem num_some {s : Tx} {v : Int} (h : numT s = some v) : magT s ≠ [] /\ (magT s).length <= 9 /\ ¬ ((magT s).head? = some 48 /\ 1 < s.length) /\ ∃ m : Nat, Lib.decFrom 0 (magT s) = some m /\ v = if negT s then -(m : Int) else (m : Int) := by
 unfold numT at h
 split at h
 ·cases h
 ·rename_i hc
  simp only [not_or, Nat.not_lt] at hc
  obtain ⟨m, h1, h2⟩ := Option.map_eq_some_iff.1 h
  exact ⟨hc.1, hc.2.1, hc.2.2, (m : Nat), h1, h2.symm⟩
theorem num_itoa {s : Tx} {v : Int} (h : numT s = some v) : Lib.itoa v = s := by
 obtain ⟨h1, h2, h3, m, h4, rfl⟩ := num_some h
 cases hn : negT s with
 | true =>
  have hs := neg_cons hn
  have h48 : (magT s).head? ≠ some 48 := fun e => h3 ⟨e, by rw [hs]; simp; exact List.length_pos_iff.2 h1⟩
  have e := digits_dec _ _ _ rfl h4 h1 (.inl h48)
  have hm : m ≠ 0 := by
   rintro rfl
   rw [decD_small (by omega)] at e
   rw [<- e] at h48
   exact h48 rfl
  simp only [if_true]
  unfold Lib.itoa
  rw [if_pos (by omega), show (-(m : Int)).natAbs = m by omega, e, <- hs]
 | false =>
  have hs : magT s = s := by unfold magT; rw [hn]; rfl
  rw [hs] at h1 h2 h3 h4
  have e := digits_dec _ _ _ rfl h4 h1 (by
   by_cases e48 : s.head? = some 48
   ·right
    have : ¬ 1 < s.length := fun hl => h3 ⟨e48, hl⟩
    have := List.length_pos_iff.2 h1
    omega
   ·exact .inl e48)
  simp only [Bool.false_eq_true, if_false]
  unfold Lib.itoa
  rw [if_neg (by omega), Int.toNat_natCast, e]
theorem itoa_neg {v : Int} (h : v < 0) : Lib.itoa v = 45 :: Lib.decDigits v.natAbs := by unfold Lib.itoa; rw [if_pos h]
theorem itoa_pos {v : Int} (h : ¬ v < 0) : Lib.itoa v = Lib.decDigits v.toNat := by unfold Lib.itoa; rw [if_neg h]
theorem decD_noneg (u : Nat) : negT (Lib.decDigits u) = false := by
 cases h : negT (Lib.decDigits u) with
 | false => rfl
 | true =>
  have := neg_cons h
  have := decD_bytes u 45 (by rw [this]; exact List.mem_cons_self ..)
  exact absurd this (by decide)
theorem itoa_mag_neg {v : Int} (h : v < 0) : negT (Lib.itoa v) = true /\ magT (Lib.itoa v) = Lib.decDigits v.natAbs := by
 rw [itoa_neg h]
 exact ⟨rfl, rfl⟩
theorem itoa_mag_pos {v : Int} (h : ¬ v < 0) : negT (Lib.itoa v) = false /\ magT (Lib.itoa v) = Lib.decDigits v.toNat := by
 rw [itoa_pos h]
 have := decD_noneg v.toNat
 exact ⟨this, by unfold magT; rw [this]; rfl⟩
theorem itoa_num {v : Int} (h : (magT (Lib.itoa v)).length <= 9) : numT (Lib.itoa v) = some v := by
 by_cases hv : v < 0
 ·obtain ⟨h1, h2⟩ := itoa_mag_neg hv
  rw [h2] at h
  unfold numT
  rw [h1, h2]
  rw [if_neg, dec_digits]
  ·simp; omega
  ·rintro (e | e | ⟨e, _⟩)
   ·exact decD_ne _ e
   ·omega
   ·rcases decD_head v.natAbs with k | k
    ·exact k e
    ·omega
 ·obtain ⟨h1, h2⟩ := itoa_mag_pos hv
  rw [h2] at h
  unfold numT
  rw [h1, h2]
  rw [if_neg, dec_digits]
  ·simp; omega
  ·rintro (e | e | ⟨e, e2⟩)
   ·exact decD_ne _ e
   ·omega
   ·rcases decD_head v.toNat with k | k
    ·exact k e
    ·rw [itoa_pos hv, k, decD_small (by omega)] at e2
     simp at e2
theorem trim_mag (s : Tx) : Lib.trimPrefix s [45] = magT s := by
 unfold Lib.trimPrefix magT
 cases s with
 | nil => simp [Lib.hasPrefix, negT]
 | cons b s =>
  by_cases h : b = 45
  ·subst h; simp [Lib.hasPrefix, negT]
  ·simp [Lib.hasPrefix, negT, h, Ne.symm h]
theorem num_len {s : Tx} {v : Int} (h : numT s = some v) : s.length <= 10 := by
 obtain ⟨_, h2, _⟩ := num_some h
 unfold magT at h2
 split at h2
 ·simp at h2; omega
 ·omega
theorem num_atoi {s : Tx} {v : Int} (h : numT s = some v) : Lib.atoiAll s = .ok v := by
 rw [Lib.atoiAll_short s (by have := num_len h; omega)]
 obtain ⟨h1, h2, h3, m, h4, rfl⟩ := num_some h
 cases hn : negT s with
 | true =>
  have hs := neg_cons hn
  rw [hs]
  have : Lib.decNat (magT s) = some m := by unfold Lib.decNat; rw [if_neg (by simpa using h1), h4]
  simp [Lib.atoi, this, Lib.NumEnd.ofOption]
 | false =>
  have hs : magT s = s := by unfold magT; rw [hn]; rfl
  rw [hs] at h1 h4
  have hd : Lib.decNat s = some m := by unfold Lib.decNat; rw [if_neg (by simpa using h1), h4]
  cases s with
  | nil => exact absurd rfl h1
  | cons b s =>
   have hb := decFrom_digits _ _ _ h4 b (List.mem_cons_self ..)
   have n45 : b ≠ 45 := by rintro rfl; exact absurd hb (by decide)
   have n43 : b ≠ 43 := by rintro rfl; exact absurd hb (by decide)
   simp [Lib.atoi, n45, n43, hd, Lib.NumEnd.ofOption]
theorem prog_num {s : Tx} {v : Int} : (Lib.atoiAll s = .ok v /\ Lib.itoa v = s /\ (Lib.trimPrefix s [45]).length <= 9) ↔ numT s = some v := by
 constructor
 ·rintro ⟨_, h2, h3⟩
  rw [trim_mag, <- h2] at h3
  rw [<- h2]
  exact itoa_num h3
 ·intro h
  refine ⟨num_atoi h, num_itoa h, ?_⟩
  rw [trim_mag]
  exact (num_some h).2.1
def numB (s : Tx) : Bool := (numT s).isSome
def numV (s : Tx) : Int := (numT s).getD 0
theorem num_is {s : Tx} (h : numB s = true) : numT s = some (numV s) := by
 unfold numB at h
 unfold numV
 cases hs : numT s with
 | none => rw [hs] at h; cases h
 | some v => rfl
def numsB (s : Tx) : Bool := (cut 44 s).all numB
def numsV (s : Tx) : List Int := (cut 44 s).map numV
end Go.Fx
/-
 Texts as the program has them.
-/
namespace Go.Fx
def toS (l : Tx) : ByteArray := ⟨⟨l⟩⟩
theorem toS_data (s : ByteArray) : toS s.data.toList = s := bytes_eq rfl
theorem cutS_at (c : UInt8) (s : ByteArray) (i : Nat) : (cutS c s).getD i bs0 = toS ((cut c s.data.toList).getD i []) := by
 unfold cutS
 rcases Nat.lt_or_ge i (cut c s.data.toList).length with h | h
 ·simp [List.getD_eq_getElem?_getD, h]; rfl
 ·simp [List.getD_eq_getElem?_getD, h]; rfl
def nB (s : ByteArray) : Bool := numB s.data.toList
def nV (s : ByteArray) : Int := numV s.data.toList
def nsB (s : ByteArray) : Bool := numsB s.data.toList
def nsV (s : ByteArray) : List Int := numsV s.data.toList
end Go.Fx
/-
 The texts of trips: what is written, what is read, and that what is written is read back.
-/
namespace Go.Fx
def fixW : Tx := [102, 105, 120, 101, 100]
def metW : Tx := [109, 101, 116, 101, 114]
def wd (s : ByteArray) (i : Nat) : ByteArray := (cutS 32 s).getD i bs0
def wn (s : ByteArray) : Nat := (cutS 32 s).length
def segV (w : ByteArray) : Seg := ⟨(nsV w).getD 0 0, (nsV w).getD 1 0, (nsV w).getD 2 0⟩
def segB (w : ByteArray) : Bool := nsB w && Nat.beq (nsV w).length 3
def hdB (s : ByteArray) : Bool := Nat.ble 5 (wn s) && (decide (wd s 2 = toS fixW) || decide (wd s 2 = toS metW))
def dtB (s : ByteArray) : Bool := nB (wd s 0) && nB (wd s 1)
def exB (s : ByteArray) : Bool := decide (wd s 3 = toS [45]) || nsB (wd s 3)
def sgB (s : ByteArray) : Bool := (List.range (wn s - 4)).all fun i => segB (wd s (4 + i))
def parB (s : ByteArray) : Bool := hdB s && dtB s && exB s && sgB s
def exV (s : ByteArray) : List Int := if wd s 3 = toS [45] then [] else nsV (wd s 3)
def parX (s : ByteArray) : Trp := ⟨⟨nV (wd s 0), nV (wd s 1)⟩, decide (wd s 2 = toS fixW), exV s, (List.range (wn s - 4)).map fun i => segV (wd s (4 + i))⟩
def trp0 : Trp := ⟨⟨0, 0⟩, false, [], []⟩
@[irreducible] def parE (s : ByteArray) : Int := bif parB s then 0 else 7
@[irreducible] def parT (s : ByteArray) : Trp := bif parB s then parX s else trp0
end Go.Fx
