/-
 From the reading of a row to values without addresses; the last step of a row.
-/
import Derived.Test.YtkinfbkpecjpnaaGreatDoorFe
import Derived.Handed
import Derived.ShapedOpen
import Derived.ChangeSame
import Derived.ChangeBook
import Derived.ChangeStays
import Derived.ProofKit
import Derived.LaidMore
import Derived.OpenShut
import Derived.ChangeCalls
import Derived.Test.YtkinfbkpecjpnaaGreatDoorGf
import Derived.ChangeArms
import Derived.DataReads
import Derived.WideShapes
import Derived.ChangeShapes
import Derived.Test.YtkinfbkpecjpnaaGreatDoorGh
import Derived.Lib.LaidTab
import Derived.Stop.Joined
import Derived.Test.YtkinfbkpecjpnaaGreatDoorRows
set_option linter.all false
/-
 From a contract on values without addresses to a row: a law that returns true.
-/
namespace Go.Fx
open Go.RowKit Go.WideShapes Go.ChangeShapes Go.WideElems
section
variable {H : Type} {enc : TypeId × Value -> H} {P : Program}
theorem args_again (hl : laidOutB P = true) {W W' : World} (hb : Below W.heap.size W W') {sp : Nat -> Bool} : ∀ {ts : List TypeId} {vs : List Value} {ds : List (DataW H)} {ps : List MemPlace}, (∀ t ∈ ts, P.readableRec t = true /\ t < P.types.size) ->
  DataW.TrodAll enc P W 0 (fun _ => true) true ts vs ds ps -> (∀ p ∈ ps, sp p.block = true) -> DataW.TrodAll enc P W' 0 sp true ts vs ds ps
 | [], [], [], _, _, h, _ => h
 | [], [], _ :: _, _, _, h, _ => h.elim
 | [], _ :: _, _, _, _, h, _ => h.elim
 | _ :: _, [], _, _, _, h, _ => h.elim
 | _ :: _, _ :: _, [], _, _, h, _ => h.elim
 | t :: ts, v :: vs, d :: ds, ps, ht, h, hs => by
  have hlt := h.lt
  obtain ⟨p, q, ⟨fuel, h1⟩, h2, rfl⟩ := h
  obtain ⟨hr, hsz⟩ := ht t (List.mem_cons_self ..)
  exact ⟨p, q, ⟨fuel, DataW.trod_stays (kids_book hl hr) (book_sized hr) (fun h => by cases h) ⟨hsz, book_self t⟩ h1 (fun x hx => hb.same (hlt x (List.mem_append_left _ hx))) (fun x hx => hs x (List.mem_append_left _ hx))⟩,
   args_again hl hb (fun t ht' => ht t (List.mem_cons_of_mem _ ht')) h2 (fun x hx => hs x (List.mem_append_right _ hx)), rfl⟩
theorem law_post (hl : laidOutB P = true) {f : Func} {s : ChangeSpec} {apart fresh handsOn again : Bool} {W W' : World} {args : Array Value} {ds gs : List (DataW H)} {before : List MemPlace} {tb : TypeId}
  (hts : ∀ t ∈ f.params.toList, P.readableRec t = true /\ t < P.types.size) (hrt : f.resultTypes = #[tb]) (htb : P.underlying tb = some .bool) (hvars : s.vars = []) (hfn : s.fn H (ds ++ gs) = { results := [.lit (.bool true)], args := ds })
  (hW : DataW.Whole enc P f.params.toList s.vars apart W args.toList ds gs before) (hb : Below W.heap.size W W') : s.post enc P f apart fresh handsOn again W args (.bool true) W' := by
 have hW' := hW
 obtain ⟨p, q, hA, hV, rfl, hz, hn⟩ := hW
 rw [hvars] at hV
 obtain ⟨rfl, rfl⟩ := trodVars_none hV
 have hlt : ∀ x ∈ p, x.block < W.heap.size := fun x hx => hA.lt x hx
 have hres : ∀ (b : Nat) (sp : Nat -> Bool) (hd : Bool), DataW.TrodAll enc P W' b sp hd f.resultTypes.toList ((Value.bool true).resultList f.resultTypes.size) (s.fn H (ds ++ [])).results [] := fun b sp hd => by
  rw [hfn, hrt]
  exact trodAll_mk1 (shut_bool htb true)
 have hargs : ∀ sp : Nat -> Bool, (∀ x ∈ p, sp x.block = true) -> DataW.TrodAll enc P W' 0 sp true f.params.toList args.toList (s.fn H (ds ++ [])).args p := fun sp hsp => by
  rw [hfn]
  exact args_again hl hb hts hA hsp
 refine ⟨ds, [], p ++ [], [], p, [], hW', hres _ _ _, hargs _ (fun x hx => by simpa using hlt x hx), by rw [hvars, hfn]; rfl, World.keptBut_mono (fun x hx => ⟨hx, .inr (.inl (by simpa using hx))⟩) (hb.frame (· ∈ p ++ [])), fun _ => ⟨?_, _, [], ([] ++ p) ++ [], ⟨[] ++ p, [], trodAll_append (hargs _ (fun _ _ => rfl)) (hres _ _ _), by rw [hvars]; rfl, rfl, ?_, ?_⟩, ?_⟩⟩
 ·exact ok_one hrt rfl (okWide_bool_mk htb _)
 ·intro b off hp
  have hin : MemPlace.cell b off ∈ p ++ [] := by simpa using hp
  rw [hb.frozen (hlt _ (by simpa using hin))]
  exact hz b off hin
 ·intro ha
  simpa using hn ha
 ·intro x hx _
  simpa using hx
end
theorem calls_of_pure {X : Ctx} {f : FuncId} {xs : List AV} {cargs : Array Value} {b : Bool} (h : Pure X f xs (.bool b)) (hsz : cargs.size = xs.length)
  (hr : ∀ (j : Nat) av, xs[j]? = some av -> ∃ v, cargs[j]? = some v /\ Reads (fun _ => default) (fun b _ => b < X.W0.heap.size) X.W0 av 0 v) :
  Calls X.P f cargs X.W0 fun e W' => e = .returned (.bool b) /\ Below X.W0.heap.size X.W0 W' := by
 let c0 : Cfg := ⟨fun _ => default, fun b _ => b < X.W0.heap.size, X.W0, []⟩
 have hown : ∀ b, ¬ c0.Owns b := fun b ⟨k, o, hk, _⟩ => by simp [c0] at hk
 have hok : c0.Ok := ⟨fun k o hk => by simp [c0] at hk, fun i j oi oj b hi => by simp [c0] at hi, fun k o b hk => by simp [c0] at hk, fun b o h => h, fun b o k ob _ hk => by simp [c0] at hk⟩
 have hb : Base X c0 := ⟨Below.refl _ _, fun b o h => h, fun b h => absurd h (hown b)⟩
 refine (h.2 c0 cargs hok hb rfl hsz hr).mono fun e w' ⟨v, c', h1, h2, h3, h4, h5⟩ => ?_
 have h5 : v = .bool b := h5
 subst h5
 exact ⟨h1, by rw [<- h2]; exact (hb.tr h3).below⟩
section
variable {H : Type} {enc : TypeId × Value -> H}
theorem law_returns {C : Checked} {os : Os} {f : FuncId} {fn : Func} {s : ChangeSpec} {conds : List PathCond} {apart fresh handsOn again : Bool} {tb : TypeId} {X : World -> Array Value -> Prop}
  (hX : ∀ (w w' : World) (args : Array Value), w.heap = w'.heap -> X w args -> X w' args)
  (own : ownKnob C.prog.godebug = none) (started : os.Started) (noInit : C.prog.inits.idxOf? f = none) (hfn : C.prog.funcs[f]? = some fn)
  (witness : ∃ (w : World) (tape : Tape) (i : Input), w.os = os /\ (w.forCall tape i).Shaped C.prog /\ i.vars = [] /\ Input.okWide C.prog (w.forCall tape i) .any w.heap.size f i /\
   ((s.pre enc C.prog fn conds apart (w.forCall tape i).memory i.args /\ X (w.forCall tape i).memory i.args) /\ sizedMet enc C.prog fn (OpenSpec.ofChange s) apart (w.forCall tape i).memory i.args) /\ ({} : Assume).holds C.prog (lone (Frame.enter C.prog f i.args .normal) [] (w.forCall tape i)))
  (hl : laidOutB C.prog = true) (hts : ∀ t ∈ fn.params.toList, C.prog.readableRec t = true /\ t < C.prog.types.size) (hrt : fn.resultTypes = #[tb]) (htb : C.prog.underlying tb = some .bool) (hvars : s.vars = [])
  (hsf : ∀ ds : List (DataW H), ds.length = fn.params.size -> s.fn H (ds ++ []) = { results := [.lit (.bool true)], args := ds })
  (contract : ∀ (W : World) (base : Nat) (args : Array Value) (ds : List (DataW H)) (ps : List MemPlace),
   (∀ (j : Nat) t v, fn.params[j]? = some t -> args[j]? = some v -> Value.okWide C.prog W .any base t v) ->
   DataW.TrodAll enc C.prog W 0 (fun _ => true) true fn.params.toList args.toList ds ps ->
   (DataW.weightsEach C.prog fn.params.toList ds).all (· <= reachBytes) = true -> X W args -> W.ShapedOpen C.prog ->
   Calls C.prog f args W fun e W' => e = .returned (.bool true) /\ Below W.heap.size W W') :
  ReturnsInHanded {} C os f .any (fun w args => (s.pre enc C.prog fn conds apart w args /\ X w args) /\ sizedMet enc C.prog fn (OpenSpec.ofChange s) apart w args) (s.post enc C.prog fn apart fresh handsOn again) := by
 refine returnsInHanded_of_calls own started noInit witness ?_
 intro w tape i _ hsh _ hok hpre _
 obtain ⟨_, _, _, fn', hfn', _, _, _, _, hval⟩ := hok
 have e : fn' = fn := Option.some.inj (hfn'.symm.trans hfn)
 subst e
 obtain ⟨⟨⟨ds, gs, before, hw, hc⟩, hx⟩, hz⟩ := hpre
 have hw' := DataW.Whole.of_heap (w' := w.forCall tape i) (by rfl) hw
 have hw2 := hw'
 obtain ⟨p, q, hA, hV, _, _, _⟩ := hw2
 rw [hvars] at hV
 obtain ⟨rfl, rfl⟩ := trodVars_none hV
 have hwt : (DataW.weightsEach C.prog fn'.params.toList ds).all (· <= reachBytes) = true := by
  have := hz.weights hw
  have e1 : (OpenSpec.ofChange s).bare.plain.varTypes C.prog = [] := by
   show (DataSpec.varTypes C.prog _) = _
   unfold DataSpec.varTypes
   show List.filterMap _ s.vars = _
   rw [hvars]
   rfl
  rw [e1, List.append_nil, List.append_nil] at this
  exact this
 have hlen : ds.length = fn'.params.size := by
  have := (trodAll_length hA).2
  simpa using this
 refine (contract (w.forCall tape i) w.heap.size i.args ds p hval hA hwt (hX _ _ _ (by rfl) hx) hsh).mono fun e W' ⟨he, hb⟩ => ?_
 subst he
 exact ChangeSpec.post_blind (law_post hl hts hrt htb hvars (hsf ds hlen) hw' hb)
end
end Go.Fx
/-
 From the reading of an argument or a variable, as a row has it, to values without addresses.
-/
namespace Go.Fx
open Go.Proofs
abbrev TT := TypeId -> Option TI
def szT (T : TT) (t : TypeId) : Nat := match T t with | some i => i.size | none => 0
def cellsAV {H : Type} (T : TT) : Nat -> TypeId -> DataW H -> List AV
 | 0, _, _ => []
 | f + 1, t, d =>
  match T t with
  | none => []
  | some i =>
   match i.kind, d with
   | .int _, .lit (.int k n) => [.int k n]
   | .bool, .lit (.bool b) => [.bool b]
   | .string, .lit (.string s) => [.str ⟨⟨s⟩⟩]
   | .slice e, .slice elems _ => [.slc (szT T e) elems.length (fun i j => (cellsAV T f e (elems.getD i .nil)).getD j .any)]
   | .slice e, .nil => [.slc (szT T e) 0 (fun _ _ => .any)]
   | .struct fs, .agg parts => (fs.zip parts).flatMap fun x => cellsAV T f x.1.2 x.2
   | .array _ e, .agg parts => parts.flatMap fun x => cellsAV T f e x
   | _, _ => [.any]
def contig (T : TT) : List (Nat × TypeId) -> Nat -> Nat -> Bool
 | [], o, n => Nat.beq o n
 | (p, t) :: l, o, n => Nat.beq p o && contig T l (o + szT T t) n
def plainT (T : TT) : Nat -> TypeId -> Bool
 | 0, _ => false
 | f + 1, t =>
  match T t with
  | none => false
  | some i =>
   match i.kind with
   | .int _ | .bool | .string => true
   | .slice e => plainT T f e && Nat.blt 0 (szT T e)
   | .struct fs => contig T fs 0 i.size && fs.all fun x => plainT T f x.2
   | .array n e => Nat.beq i.size (n * szT T e) && plainT T f e
   | _ => false
def ReadsL (w : World) (cs : List Value) (l : List AV) : Prop :=
 cs.length = l.length /\ ∀ (j : Nat) x av, cs[j]? = some x -> l[j]? = some av -> x.oneCell' = true /\ ∀ g, Reads g (fun b _ => b < w.heap.size) w av 0 x
theorem ReadsL.one {w : World} {x : Value} {av : AV} (h1 : x.oneCell' = true) (h2 : ∀ g, Reads g (fun b _ => b < w.heap.size) w av 0 x) : ReadsL w [x] [av] :=
 ⟨rfl, fun j y a hy ha => by
  cases j with
  | zero => simp at hy ha; subst hy; subst ha; exact ⟨h1, h2⟩
  | succ j => simp at hy⟩
theorem ReadsL.append {w : World} {a b : List Value} {l m : List AV} (h1 : ReadsL w a l) (h2 : ReadsL w b m) : ReadsL w (a ++ b) (l ++ m) := by
 refine ⟨by simp [h1.1, h2.1], fun j x av hx ha => ?_⟩
 rcases Nat.lt_or_ge j a.length with h | h
 ·rw [List.getElem?_append_left h] at hx
  rw [List.getElem?_append_left (by rw [<- h1.1]; exact h)] at ha
  exact h1.2 j x av hx ha
 ·rw [List.getElem?_append_right h] at hx
  rw [List.getElem?_append_right (by rw [<- h1.1]; exact h), <- h1.1] at ha
  exact h2.2 _ x av hx ha
section
variable {H : Type} {enc : TypeId × Value -> H} {P : Program} {w : World} {base : Nat} {spare : Nat -> Bool} {held : Bool} {T : TT}
theorem cellsOf_szT (hT : ∀ t i, T t = some i -> TIok P t i) {t : TypeId} {i : TI} (h : T t = some i) : P.cellsOf t = i.size := by
 obtain ⟨info, z, h1, h2, _⟩ := (hT t i h).info
 unfold Program.cellsOf
 simp [h1, h2]
theorem fields_reads (T : TT) {f : Nat} (one : ∀ t cs d, plainT T f t = true -> (∃ fu p, DataW.trod enc P w base spare held fu t cs = some (d, p)) -> ReadsL w cs (cellsAV T f t d))
  (hsz : ∀ t, plainT T f t = true -> P.cellsOf t = szT T t) : ∀ (fs : List (Nat × TypeId)) (o n : Nat) (cs : List Value) (parts : List (DataW H)), contig T fs o n = true -> (fs.all fun x => plainT T f x.2) = true -> o + cs.length = n -> parts.length = fs.length ->
  (∀ (i : Nat) (x : Nat × TypeId) d, fs[i]? = some x -> parts[i]? = some d -> ∃ fu p, DataW.trod enc P w base spare held fu x.2 ((cs.drop (x.1 - o)).take (P.cellsOf x.2)) = some (d, p)) ->
  ReadsL w cs ((fs.zip parts).flatMap fun x => cellsAV T f x.1.2 x.2)
 | [], o, n, cs, parts, hc, _, hl, _, _ => by
  simp only [contig, Nat.beq_eq] at hc
  have : cs = [] := List.eq_nil_of_length_eq_zero (by omega)
  subst this
  exact ⟨rfl, fun j x av hx _ => by simp at hx⟩
 | (p, t) :: fs, o, n, cs, [], _, _, _, hp, _ => by simp at hp
 | (p, t) :: fs, o, n, cs, d :: parts, hc, ha, hl, hp, hh => by
  simp only [contig, Bool.and_eq_true, Nat.beq_eq] at hc
  simp only [List.all_cons, Bool.and_eq_true] at ha
  obtain ⟨rfl, hc⟩ := hc
  have h0 := hh 0 (p, t) d rfl rfl
  rw [Nat.sub_self, List.drop_zero] at h0
  have r0 := one t _ d ha.1 h0
  have le := contig_le fs _ _ hc
  have hs := hsz t ha.1
  rw [hs] at r0
  have e : cs = cs.take (szT T t) ++ cs.drop (szT T t) := (List.take_append_drop _ _).symm
  have r1 := fields_reads T one hsz fs (p + szT T t) n (cs.drop (szT T t)) parts hc ha.2 (by rw [List.length_drop]; omega) (by simpa using hp) (fun i x d hx hd => by
   have := hh (i + 1) x d hx hd
   have hge := contig_ge fs _ _ hc i x hx
   rw [List.drop_drop]
   have e2 : szT T t + (x.1 - (p + szT T t)) = x.1 - p := by omega
   rw [e2]; exact this)
  rw [e]
  exact r0.append r1
 where
 contig_le : ∀ (fs : List (Nat × TypeId)) (o n : Nat), contig T fs o n = true -> o <= n
  | [], o, n, h => by simp only [contig, Nat.beq_eq] at h; omega
  | (p, t) :: fs, o, n, h => by
   simp only [contig, Bool.and_eq_true, Nat.beq_eq] at h
   have := contig_le fs _ _ h.2; omega
 contig_ge : ∀ (fs : List (Nat × TypeId)) (o n : Nat), contig T fs o n = true -> ∀ (i : Nat) x, fs[i]? = some x -> o <= x.1
  | [], o, n, h, i, x, hx => by simp at hx
  | (p, t) :: fs, o, n, h, 0, x, hx => by
   simp only [contig, Bool.and_eq_true, Nat.beq_eq] at h
   simp at hx; subst hx; show o <= p; omega
  | (p, t) :: fs, o, n, h, i + 1, x, hx => by
   simp only [contig, Bool.and_eq_true, Nat.beq_eq] at h
   have := contig_ge fs _ _ h.2 i x (by simpa using hx); omega
theorem addr_add (b o n : Nat) : (⟨b, o, none⟩ : Addr).add n = ⟨b, o + n, none⟩ := by
 unfold Addr.add
 split
 ·rename_i h; subst h; rfl
 ·rfl
theorem arr_reads {f : Nat} {e : TypeId} {es : Nat} (one : ∀ cs (d : DataW H), (∃ fu p, DataW.trod enc P w base spare held fu e cs = some (d, p)) -> ReadsL w cs (cellsAV T f e d)) :
  ∀ (parts : List (DataW H)) (cs : List Value), cs.length = parts.length * es -> (∀ (j : Nat) d, parts[j]? = some d -> ∃ fu p, DataW.trod enc P w base spare held fu e ((cs.drop (j * es)).take es) = some (d, p)) ->
   ReadsL w cs (parts.flatMap fun x => cellsAV T f e x)
 | [], cs, hl, _ => by
  have : cs = [] := List.eq_nil_of_length_eq_zero (by simpa using hl)
  subst this
  exact ⟨rfl, fun j x av hx _ => by simp at hx⟩
 | d :: parts, cs, hl, hh => by
  have r0 := one _ d (by have := hh 0 d rfl; rwa [Nat.zero_mul, List.drop_zero] at this)
  have e1 : cs = cs.take es ++ cs.drop es := (List.take_append_drop _ _).symm
  have r1 := arr_reads (es := es) one parts (cs.drop es) (by rw [List.length_drop, hl, List.length_cons, Nat.succ_mul]; omega) fun j d' hd => by
   have := hh (j + 1) d' hd
   rw [List.drop_drop]
   rwa [Nat.succ_mul, Nat.add_comm] at this
  rw [e1]
  exact r0.append r1
theorem trod_reads (hT : ∀ t i, T t = some i -> TIok P t i) : ∀ (f : Nat) (t : TypeId) (cs : List Value) (d : DataW H), plainT T f t = true -> (∃ fu p, DataW.trod enc P w base spare held fu t cs = some (d, p)) -> ReadsL w cs (cellsAV T f t d)
 | 0, t, cs, d, hp, _ => by cases hp
 | f + 1, t, cs, d, hp, ⟨fu, p, h⟩ => by
  have hsz : ∀ t, plainT T f t = true -> P.cellsOf t = szT T t := fun t ht => by
   cases f with
   | zero => cases ht
   | succ f =>
    simp only [plainT] at ht
    unfold szT
    cases hi : T t with
    | none => rw [hi] at ht; cases ht
    | some i => exact cellsOf_szT hT hi
  simp only [plainT] at hp
  cases hi : T t with
  | none => rw [hi] at hp; cases hp
  | some i =>
   rw [hi] at hp
   have hsz0 := cellsOf_szT hT hi
   obtain ⟨D, hD, hfit⟩ := (hT t i hi).desc
   simp only [cellsAV, hi]
   cases hk : i.kind with
   | int k =>
    rw [hk] at hfit; cases hfit
    obtain ⟨n, rfl, hx, _⟩ := DataW.trod_int hD h
    cases hx
    exact .one rfl fun g => rfl
   | bool =>
    rw [hk] at hfit; cases hfit
    obtain ⟨b, rfl, hx⟩ := DataW.trod_bool hD h
    cases hx
    exact .one rfl fun g => rfl
   | string =>
    rw [hk] at hfit; cases hfit
    obtain ⟨s, rfl, hx, _⟩ := DataW.trod_string hD h
    cases hx
    exact .one rfl fun g => rfl
   | slice e =>
    simp only [hk] at hp; rw [hk] at hfit; cases hfit
    simp only [Bool.and_eq_true, Nat.blt_eq] at hp
    rcases DataW.trod_slice hD h with ⟨rfl, hx⟩ | ⟨a, len, cap, elems, rest, n, _, rfl, hx, hb, hl, hm, hlen, hel, _, _⟩
    ·cases hx
     exact .one rfl fun g => ⟨none, 0, rfl, Nat.le_refl _, fun h => by omega⟩
    ·cases hx
     refine .one rfl fun g => ⟨some a, cap, by rw [List.length_map, hlen], by rw [List.length_map, hlen]; exact hl, fun h0 => ?_⟩
     rw [List.length_map, hlen] at h0
     have get : ∀ i, i < len -> ∃ ci di pi, w.cells? base (a.add (i * P.cellsOf e)) (P.cellsOf e) = some ci /\ DataW.trod enc P w base spare held n e ci = some (di, pi) /\ (elems.map (·.1)).getD i .nil = di := fun i hi => by
      have h1 := hel i hi
      rw [List.getElem?_eq_getElem (by omega)] at h1
      obtain ⟨ci, h2, h3⟩ := Option.bind_eq_some_iff.1 h1
      exact ⟨ci, elems[i].1, elems[i].2, h2, h3, by simp [List.getElem?_eq_getElem (show i < elems.length by omega)]⟩
     have hes := hsz e hp.1
     obtain ⟨c0, d0, p0, g1, _, _⟩ := get 0 h0
     obtain ⟨_, q1, q2⟩ := World.cells?_some g1
     have q3 := q2 0 (by rw [hes]; exact hp.2)
     rw [List.getElem?_eq_getElem (by rw [q1, hes]; exact hp.2)] at q3
     simp only [Nat.zero_mul, Addr.add, if_pos] at q3
     have hsp : a.spot = none := by
      unfold World.cell? at q3
      cases hh : a.spot with
      | none => rfl
      | some z => simp [hh] at q3; split at q3 <;> simp at q3
     obtain ⟨b, o, sp⟩ := a
     have hsp : sp = none := hsp
     subst hsp
     refine ⟨b, o, rfl, fun i j hi hj => ?_⟩
     rw [List.length_map, hlen] at hi
     obtain ⟨ci, di, pi, g1, g2, g3⟩ := get i hi
     obtain ⟨_, q1, q2⟩ := World.cells?_some g1
     have hj2 : j < ci.length := by rw [q1, hes]; exact hj
     have q3 := q2 j (by omega)
     rw [List.getElem?_eq_getElem hj2, addr_add, addr_add, hes] at q3
     obtain ⟨rl, rr⟩ := trod_reads hT f e ci di hp.1 ⟨n, pi, g2⟩
     show _ /\ ∃ x, _ = some x /\ _ /\ Reads g _ w ((cellsAV T f e ((List.map (fun x => x.fst) elems).getD i .nil)).getD j .any) 0 x
     rw [g3]
     have e3 : (⟨b, o + (i * szT T e + j), none⟩ : Addr) = ⟨b, o + i * szT T e + j, none⟩ := by rw [Nat.add_assoc]
     have hj3 : j < (cellsAV T f e di).length := by omega
     have r := rr j ci[j] (cellsAV T f e di)[j] (List.getElem?_eq_getElem hj2) (List.getElem?_eq_getElem hj3)
     refine ⟨cell_lt q3, ci[j], by rw [e3]; exact q3, r.1, ?_⟩
     have e4 : (cellsAV T f e di).getD j .any = (cellsAV T f e di)[j] := by simp [List.getElem?_eq_getElem hj3]
     rw [e4]
     exact r.2 g
   | struct fs =>
    simp only [hk] at hp; rw [hk] at hfit
    obtain ⟨F, rfl, hF⟩ := hfit
    simp only [Bool.and_eq_true] at hp
    obtain ⟨xs, n, _, hx, hcl, hxl, hel⟩ := DataW.trod_struct hD h
    cases hx
    refine fields_reads T (fun t cs d hp h => trod_reads hT f t cs d hp h) hsz fs 0 i.size cs _ hp.1 hp.2 (by omega) (by rw [<- hF]; simp [hxl]) fun j x d hx hd => ?_
    rw [<- hF] at hx
    simp only [List.getElem?_map, Option.map_eq_some_iff] at hx hd
    obtain ⟨fl, h1, rfl⟩ := hx
    obtain ⟨xj, h2, rfl⟩ := hd
    have := hel j fl (by simpa using h1)
    rw [h2] at this
    exact ⟨n, xj.2, by simpa using this⟩
   | array n e =>
    simp only [hk] at hp; rw [hk] at hfit; cases hfit
    simp only [Bool.and_eq_true, Nat.beq_eq] at hp
    obtain ⟨xs, m, _, hx, hcl, hxl, hel⟩ := DataW.trod_array hD h
    cases hx
    have hes := hsz e hp.2
    refine arr_reads (f := f) (e := e) (es := szT T e) (fun cs d h => trod_reads hT f e cs d hp.2 h) _ cs (by rw [List.length_map, hxl, hcl, hsz0]; exact hp.1) fun j d hd => ?_
    simp only [List.getElem?_map, Option.map_eq_some_iff] at hd
    obtain ⟨xj, h2, rfl⟩ := hd
    have := hel j (by have := (List.getElem?_eq_some_iff.1 h2).1; omega)
    rw [h2, hes] at this
    exact ⟨m, xj.2, this⟩
   | ifc => simp [hk] at hp
   | other => simp [hk] at hp
end
end Go.Fx
/-
 Arguments of any plain types, read off the row's data.
-/
namespace Go.Fx
open Go.Proofs Go.WideShapes Go.ChangeShapes Go.RowKit
theorem AllLe.append : ∀ {a b c d : List AV}, AllLe a b -> AllLe c d -> AllLe (a ++ c) (b ++ d)
 | [], [], _, _, _, h => h
 | [], _ :: _, _, _, h, _ => h.elim
 | _ :: _, [], _, _, h, _ => h.elim
 | _ :: _, _ :: _, _, _, ⟨h1, h2⟩, h => ⟨h1, h2.append h⟩
section
variable {H : Type}
def dI : DataW H -> Int | .lit (.int .i64 n) => bif decide (-9223372036854775808 <= n) && decide (n <= 9223372036854775807) then n else 0 | _ => 0
def dJ : DataW H -> Int | .lit (.int _ n) => n | _ => 0
def dK : IntKind -> DataW H -> Int | .i64 => dI | _ => dJ
theorem dK_lit {k : IntKind} {n : Int} (h : (Lit.int k n).wf = true) : dK k (.lit (.int k n) : DataW H) = n := by
 simp only [Lit.wf, Bool.and_eq_true, decide_eq_true_eq] at h
 cases k
 all_goals first
  | rfl
  | (have h1 : -9223372036854775808 <= n := h.1
     have h2 : n <= 9223372036854775807 := h.2
     show (bif decide (-9223372036854775808 <= n) && decide (n <= 9223372036854775807) then n else 0) = n
     rw [decide_eq_true h1, decide_eq_true h2]; rfl)
def dB : DataW H -> Bool | .lit (.bool b) => b | _ => false
def dS : DataW H -> ByteArray | .lit (.string s) => ⟨⟨s⟩⟩ | _ => ⟨⟨[]⟩⟩
def dP : DataW H -> List (DataW H) | .agg l => l | _ => []
def dE : DataW H -> List (DataW H) | .slice l _ => l | _ => []
def dN (d : DataW H) (i : Nat) : DataW H := (dP d).getD i .nil
def cellsD (T : TT) : Nat -> TypeId -> DataW H -> List AV
 | 0, _, _ => []
 | f + 1, t, d =>
  match T t with
  | none => []
  | some i =>
   match i.kind with
   | .int k => [.int k (dK k d)]
   | .bool => [.bool (dB d)]
   | .string => [.str (dS d)]
   | .slice e => [.slc (szT T e) (dE d).length (fun i j => (cellsD T f e ((dE d).getD i .nil)).getD j .any)]
   | .struct fs => (fs.zipIdx).flatMap fun x => cellsD T f x.1.2 (dN d x.2)
   | .array n e => (List.range n).flatMap fun i => cellsD T f e (dN d i)
   | _ => [.any]
theorem zip_idx {α β γ : Type} (C : α -> β -> List γ) (z : β) : ∀ (fs : List α) (ps qs : List β), ps.length = fs.length ->
  (fs.zip ps).flatMap (fun x => C x.1 x.2) = (fs.zipIdx qs.length).flatMap fun x => C x.1 ((qs ++ ps).getD x.2 z)
 | [], ps, qs, _ => by simp
 | f :: fs, [], qs, h => by simp at h
 | f :: fs, p :: ps, qs, h => by
  have ih := zip_idx C z fs ps (qs ++ [p]) (by simpa using h)
  simp only [List.zip_cons_cons, List.flatMap_cons, List.zipIdx_cons, List.length_append, List.length_singleton, List.append_assoc, List.singleton_append] at ih ⊢
  rw [ih]
  congr 1
  simp
theorem range_idx {β γ : Type} (C : β -> List γ) (z : β) (ps : List β) : ps.flatMap C = (List.range ps.length).flatMap fun i => C (ps.getD i z) := by
 have : ps = (List.range ps.length).map fun i => ps.getD i z := by
  apply List.ext_getElem (by simp)
  intro i h1 h2
  simp [List.getD_eq_getElem?_getD, h1]
 conv => lhs; rw [this]
 rw [List.flatMap_map]
variable {enc : TypeId × Value -> H} {P : Program} {w : World} {base : Nat} {spare : Nat -> Bool} {held : Bool} {T : TT}
theorem trod_cellsD (hT : ∀ t i, T t = some i -> TIok P t i) : ∀ (f : Nat) (t : TypeId) (cs : List Value) (d : DataW H), plainT T f t = true -> (∃ fu p, DataW.trod enc P w base spare held fu t cs = some (d, p)) -> AllLe (cellsAV T f t d) (cellsD T f t d)
 | 0, t, cs, d, hp, _ => by cases hp
 | f + 1, t, cs, d, hp, ⟨fu, p, h⟩ => by
  have hsz : ∀ t, plainT T f t = true -> P.cellsOf t = szT T t := fun t ht => by
   cases f with
   | zero => cases ht
   | succ f =>
    simp only [plainT] at ht
    unfold szT
    cases hi : T t with
    | none => rw [hi] at ht; cases ht
    | some i => exact cellsOf_szT hT hi
  simp only [plainT] at hp
  cases hi : T t with
  | none => rw [hi] at hp; cases hp
  | some i =>
   rw [hi] at hp
   obtain ⟨D, hD, hfit⟩ := (hT t i hi).desc
   simp only [cellsAV, cellsD, hi]
   cases hk : i.kind with
   | int k =>
    rw [hk] at hfit; cases hfit
    obtain ⟨n, rfl, hx, hw⟩ := DataW.trod_int hD h
    cases hx
    exact ⟨by rw [dK_lit hw]; exact .refl _, trivial⟩
   | bool =>
    rw [hk] at hfit; cases hfit
    obtain ⟨b, rfl, hx⟩ := DataW.trod_bool hD h
    cases hx
    exact ⟨.refl _, trivial⟩
   | string =>
    rw [hk] at hfit; cases hfit
    obtain ⟨s, rfl, hx, _⟩ := DataW.trod_string hD h
    cases hx
    exact ⟨.refl _, trivial⟩
   | slice e =>
    simp only [hk] at hp; rw [hk] at hfit; cases hfit
    simp only [Bool.and_eq_true, Nat.blt_eq] at hp
    rcases DataW.trod_slice hD h with ⟨rfl, hx⟩ | ⟨a, len, cap, elems, rest, n, _, rfl, hx, hb, hl, hm, hlen, hel, _, _⟩
    ·cases hx
     exact ⟨.slc fun i j hi => absurd hi (Nat.not_lt_zero _), trivial⟩
    ·cases hx
     refine ⟨.slc fun i j hi hj => ?_, trivial⟩
     rw [List.length_map, hlen] at hi
     have h1 := hel i hi
     rw [List.getElem?_eq_getElem (by omega)] at h1
     obtain ⟨ci, h2, h3⟩ := Option.bind_eq_some_iff.1 h1
     have hd : (elems.map (·.1)).getD i .nil = elems[i].1 := by simp [List.getElem?_eq_getElem (show i < elems.length by omega)]
     have hle := trod_cellsD hT f e ci elems[i].1 hp.1 ⟨n, elems[i].2, h3⟩
     show Le ((cellsAV T f e ((List.map (fun x => x.fst) elems).getD i .nil)).getD j .any) ((cellsD T f e ((List.map (fun x => x.fst) elems).getD i .nil)).getD j .any)
     rw [hd]
     rcases Nat.lt_or_ge j (cellsAV T f e elems[i].1).length with hj1 | hj1
     ·have hj2 : j < (cellsD T f e elems[i].1).length := by rw [hle.len]; exact hj1
      rw [List.getD_eq_getElem?_getD, List.getD_eq_getElem?_getD, List.getElem?_eq_getElem hj1, List.getElem?_eq_getElem hj2]
      exact hle.at j _ _ (List.getElem?_eq_getElem hj1) (List.getElem?_eq_getElem hj2)
     ·have hj2 : (cellsD T f e elems[i].1).length <= j := by rw [hle.len]; exact hj1
      rw [List.getD_eq_getElem?_getD, List.getD_eq_getElem?_getD, List.getElem?_eq_none hj1, List.getElem?_eq_none hj2]
      exact .refl _
   | struct fs =>
    simp only [hk] at hp; rw [hk] at hfit
    obtain ⟨F, rfl, hF⟩ := hfit
    simp only [Bool.and_eq_true] at hp
    obtain ⟨xs, n, _, hx, hcl, hxl, hel⟩ := DataW.trod_struct hD h
    cases hx
    have e1 := zip_idx (fun (a : Nat × TypeId) (b : DataW H) => cellsD T f a.2 b) .nil fs (xs.map (·.1)) [] (by rw [<- hF]; simp [hxl])
    simp only [List.nil_append, List.length_nil] at e1
    show AllLe _ ((fs.zipIdx).flatMap fun x => cellsD T f x.1.2 ((xs.map (·.1)).getD x.2 .nil))
    rw [<- e1]
    have all : ∀ (fs : List (Nat × TypeId)) (ds : List (DataW H)), (∀ (j : Nat) (x : Nat × TypeId) d, fs[j]? = some x -> ds[j]? = some d -> AllLe (cellsAV T f x.2 d) (cellsD T f x.2 d)) -> AllLe ((fs.zip ds).flatMap fun x => cellsAV T f x.1.2 x.2) ((fs.zip ds).flatMap fun x => cellsD T f x.1.2 x.2) := by
     intro fs
     induction fs with
     | nil => intro ds _; exact trivial
     | cons x fs ih =>
      intro ds hds
      cases ds with
      | nil => exact trivial
      | cons d ds => simp only [List.zip_cons_cons, List.flatMap_cons]; exact (hds 0 x d rfl rfl).append (ih ds fun j x d hx hd => hds (j + 1) x d (by simpa using hx) (by simpa using hd))
    refine all fs _ fun j x d hx hd => ?_
    have hall := List.all_eq_true.1 hp.2 x (List.mem_of_getElem? hx)
    rw [<- hF] at hx
    simp only [List.getElem?_map, Option.map_eq_some_iff] at hx hd
    obtain ⟨fl, h1, rfl⟩ := hx
    obtain ⟨xj, h2, rfl⟩ := hd
    have := hel j fl (by simpa using h1)
    rw [h2] at this
    exact trod_cellsD hT f _ _ _ hall ⟨n, xj.2, by simpa using this⟩
   | array n e =>
    simp only [hk] at hp; rw [hk] at hfit; cases hfit
    simp only [Bool.and_eq_true, Nat.beq_eq] at hp
    obtain ⟨xs, m, _, hx, hcl, hxl, hel⟩ := DataW.trod_array hD h
    cases hx
    have e1 := range_idx (cellsD T f e) .nil (xs.map (·.1))
    rw [List.length_map, hxl] at e1
    show AllLe _ ((List.range n).flatMap fun i => cellsD T f e ((xs.map (·.1)).getD i .nil))
    rw [<- e1]
    have all : ∀ (ds : List (DataW H)), (∀ (j : Nat) d, ds[j]? = some d -> AllLe (cellsAV T f e d) (cellsD T f e d)) -> AllLe (ds.flatMap fun x => cellsAV T f e x) (ds.flatMap (cellsD T f e)) := by
     intro ds
     induction ds with
     | nil => intro _; exact trivial
     | cons d ds ih => intro hds; simp only [List.flatMap_cons]; exact (hds 0 d rfl).append (ih fun j d hd => hds (j + 1) d (by simpa using hd))
    refine all _ fun j d hd => ?_
    simp only [List.getElem?_map, Option.map_eq_some_iff] at hd
    obtain ⟨xj, h2, rfl⟩ := hd
    have := hel j (by have := (List.getElem?_eq_some_iff.1 h2).1; omega)
    rw [h2] at this
    exact trod_cellsD hT f _ _ _ hp.2 ⟨m, xj.2, this⟩
   | ifc => simp [hk] at hp
   | other => simp [hk] at hp
def argAV (T : TT) (F : Nat) (t : TypeId) (d : DataW H) : AV :=
 match T t with
 | some i => (match i.kind with | .struct _ | .array _ _ => .agg i.size (tbl (cellsD T F t d)) | _ => (cellsD T F t d).getD 0 .any)
 | none => .any
theorem arg_reads (hT : ∀ t i, T t = some i -> TIok P t i) {F : Nat} {t : TypeId} {v : Value} {d : DataW H} {ps : List MemPlace} {r : Reach} {b0 : Nat} (hp : plainT T F t = true) (hv : Value.okWide P w r b0 t v) (h : DataW.Trod enc P w base spare held t v d ps) :
  Reads (fun _ => default) (fun b _ => b < w.heap.size) w (argAV T F t d) 0 v := by
 obtain ⟨fu, h⟩ := h
 have r0 := trod_reads hT F t _ d hp ⟨fu, ps, h⟩
 have le := trod_cellsD hT F t _ d hp ⟨fu, ps, h⟩
 have r1 : ∀ (j : Nat) x, v.cells.toList[j]? = some x -> ∃ av, (cellsD T F t d)[j]? = some av /\ x.oneCell' = true /\ Reads (fun _ => default) (fun b _ => b < w.heap.size) w av 0 x := fun j x hx => by
  have hj := (List.getElem?_eq_some_iff.1 hx).1
  have hj1 : j < (cellsAV T F t d).length := by rw [<- r0.1]; exact hj
  have hj2 : j < (cellsD T F t d).length := by rw [le.len]; exact hj1
  obtain ⟨k1, k2⟩ := r0.2 j x _ hx (List.getElem?_eq_getElem hj1)
  exact ⟨_, List.getElem?_eq_getElem hj2, k1, (le.at j _ _ (List.getElem?_eq_getElem hj1) (List.getElem?_eq_getElem hj2)).reads (k2 _)⟩
 have one : v.cells = #[v] -> Reads (fun _ => default) (fun b _ => b < w.heap.size) w ((cellsD T F t d).getD 0 .any) 0 v := fun hc => by
  obtain ⟨av, k1, _, k2⟩ := r1 0 v (by rw [hc]; rfl)
  rw [List.getD_eq_getElem?_getD, k1]
  exact k2
 have many : ∀ n, (∃ cs, v = .agg cs /\ cs.size = n) -> Reads (fun _ => default) (fun b _ => b < w.heap.size) w (.agg n (tbl (cellsD T F t d))) 0 v := fun n ⟨cs, hc, hn⟩ => by
  subst hc
  refine ⟨cs, rfl, hn, fun j hj => ?_⟩
  obtain ⟨av, k1, k2, k3⟩ := r1 j cs[j] (by simp [Value.cells, hn, hj])
  refine ⟨cs[j], Array.getElem?_eq_getElem (by omega), k2, ?_⟩
  unfold tbl
  rw [List.getD_eq_getElem?_getD, k1]
  exact k3
 unfold argAV
 cases F with
 | zero => cases hp
 | succ F =>
 cases hi : T t with
 | none => trivial
 | some i =>
  obtain ⟨D, hD, hfit⟩ := (hT t i hi).desc
  have hsz := cellsOf_szT hT hi
  simp only [plainT, hi] at hp
  cases hk : i.kind with
  | int k =>
   rw [hk] at hfit; cases hfit
   obtain ⟨n, rfl⟩ := okWide_int hD hv
   simp only [hk]
   exact one rfl
  | bool =>
   rw [hk] at hfit; cases hfit
   obtain ⟨n, rfl⟩ := okWide_bool hD hv
   simp only [hk]
   exact one rfl
  | string =>
   rw [hk] at hfit; cases hfit
   obtain ⟨n, rfl⟩ := okWide_string hD hv
   simp only [hk]
   exact one rfl
  | slice e =>
   rw [hk] at hfit; cases hfit
   obtain ⟨a, l, c, rfl⟩ := okWide_slice hD hv
   simp only [hk]
   exact one rfl
  | struct fs =>
   rw [hk] at hfit
   obtain ⟨F2, rfl, _⟩ := hfit
   unfold Value.okWide at hv
   rw [hD] at hv
   obtain ⟨cs, h1, h2, _⟩ := hv
   simp only [hk]
   exact many _ ⟨cs, h1, by rw [h2, hsz]⟩
  | array n e =>
   rw [hk] at hfit; cases hfit
   unfold Value.okWide at hv
   rw [hD] at hv
   obtain ⟨cs, h1, h2, _⟩ := hv
   simp only [hk]
   exact many _ ⟨cs, h1, by rw [h2, hsz]⟩
  | ifc => simp [hk] at hp
  | other => simp [hk] at hp
def argsAV (T : TT) (F : Nat) : List TypeId -> List (DataW H) -> List AV
 | t :: ts, d :: ds => argAV T F t d :: argsAV T F ts ds
 | _, _ => []
theorem args_reads (hT : ∀ t i, T t = some i -> TIok P t i) {F : Nat} {r : Reach} {b0 : Nat} : ∀ (ts : List TypeId) (vs : List Value) (ds : List (DataW H)) (ps : List MemPlace), (ts.all (plainT T F)) = true -> (∀ (j : Nat) t v, ts[j]? = some t -> vs[j]? = some v -> Value.okWide P w r b0 t v) ->
  DataW.TrodAll enc P w base spare held ts vs ds ps -> vs.length = (argsAV T F ts ds).length /\ ∀ (j : Nat) av, (argsAV T F ts ds)[j]? = some av -> ∃ v, vs[j]? = some v /\ Reads (fun _ => default) (fun b _ => b < w.heap.size) w av 0 v
 | [], [], [], _, _, _, _ => ⟨rfl, fun j av hj => by simp [argsAV] at hj⟩
 | [], _ :: _, [], _, _, _, h => h.elim
 | [], _, _ :: _, _, _, _, h => by cases ‹List Value› <;> exact h.elim
 | _ :: _, [], _, _, _, _, h => h.elim
 | _ :: _, _ :: _, [], _, _, _, h => h.elim
 | t :: ts, v :: vs, d :: ds, ps, hp, hv, h => by
  obtain ⟨p, q, h1, h2, _⟩ := h
  simp only [List.all_cons, Bool.and_eq_true] at hp
  obtain ⟨l1, l2⟩ := args_reads hT ts vs ds q hp.2 (fun j t v ht hv' => hv (j + 1) t v (by simpa using ht) (by simpa using hv')) h2
  refine ⟨by simp [argsAV, l1], fun j av hj => ?_⟩
  cases j with
  | zero =>
   simp only [argsAV, List.getElem?_cons_zero, Option.some.injEq] at hj
   subst hj
   exact ⟨v, rfl, arg_reads hT hp.1 (hv 0 t v rfl rfl) h1⟩
  | succ j => simpa using l2 j av (by simpa [argsAV] using hj)
end
end Go.Fx
/-
 What the laid variables say of the first world.
-/
namespace Go.Fx
open Go.Proofs Go.Proofs.YtkinfbkpecjpnaaGreatDoor
theorem laid_at {P : Program} {W : World} : ∀ {l : List (String × DataW Unit)} {ps : List MemPlace}, DataW.LaidVars P W l ps -> ∀ (i : Nat) n d, l[i]? = some (n, d) ->
  ∃ g t cs fuel p, P.globalNamed n = some g /\ (P.globals[g]?).map (·.type) = some t /\ W.var? P n = some cs /\ DataW.trod (fun _ => ()) P W 0 (fun _ => true) false fuel t cs.toList = some (d, p)
 | [], _, _, i, n, d, h => by simp at h
 | (m, e) :: l, ps, ⟨g, t, cs, fuel, p, q, h1, h2, h3, h4, h5, _⟩, 0, n, d, h => by
  simp only [List.getElem?_cons_zero, Option.some.injEq, Prod.mk.injEq] at h
  obtain ⟨rfl, rfl⟩ := h
  exact ⟨g, t, cs, fuel, p, h1, h2, h3, h4⟩
 | (m, e) :: l, ps, ⟨g, t, cs, fuel, p, q, h1, h2, h3, h4, h5, _⟩, i + 1, n, d, h => laid_at h5 i n d (by simpa using h)
noncomputable abbrev Tt : TT := fun t => tab.getD t none
theorem Tt_ok : ∀ t i, Tt t = some i -> TIok Tryz.prog t i := fun t i h => tab_ok.at h
theorem trod_ifc {W : World} {t : TypeId} {D : TypeDesc} {cs : List Value} {fuel : Nat} {nm : String} {x : DataW Unit} {p : List MemPlace} (hD : ∃ ms, D = .interface ms) (ht : Tryz.prog.underlying t = some D)
  (h : DataW.trod (fun _ => ()) Tryz.prog W 0 (fun _ => true) false fuel t cs = some (.iface nm x, p)) : ∃ u v, cs = [.iface u v] := by
 obtain ⟨ms, rfl⟩ := hD
 cases fuel with
 | zero => simp [DataW.trod] at h
 | succ n =>
  unfold DataW.trod at h
  rw [ht] at h
  split at h <;> simp_all
theorem stand_of {W : World} (h : laidMetH Tryz.prog Rows.tariffTripTextsRow.laid W) (hs : W.ShapedOpen Tryz.prog) : Stand W := by
 rw [MakeChecks.laidMetH_plain _ _ _ (by kernel_rfl)] at h
 obtain ⟨ps, hv, _⟩ := h
 refine ⟨Xc.good fun g av hg => ?_, ?_, ?_, ?_, ?_⟩
 ·cases hg
 ·exact Tryz.laysM146.s1_3 W hs
 ·obtain ⟨g, t, cs, fuel, p, h1, h2, h3, h4⟩ := laid_at hv 5 _ _ rfl
  obtain rfl := Option.some.inj ((show Tryz.prog.globalNamed "strconv.ErrSyntax" = some 2 by kernel_rfl).symm.trans h1)
  obtain rfl := Option.some.inj ((show (Tryz.prog.globals[2]?).map (·.type) = some 152 by kernel_rfl).symm.trans h2)
  obtain ⟨d, hd, hms⟩ := (Tt_ok 152 _ (show Tt 152 = some ⟨.ifc, 1, 16, [.nilIface], false⟩ by kernel_rfl)).desc
  obtain ⟨u, v, hc⟩ := trod_ifc hms hd h4
  have := World.var?_cell h1 h3 0
  rw [Array.eq_one_of_toList hc] at this
  exact ⟨_, this, .inr ⟨u, v, rfl⟩⟩
 ·obtain ⟨g, t, cs, fuel, p, h1, h2, h3, h4⟩ := laid_at hv 4 _ _ rfl
  obtain rfl := Option.some.inj ((show Tryz.prog.globalNamed "strconv.ErrRange" = some 3 by kernel_rfl).symm.trans h1)
  obtain rfl := Option.some.inj ((show (Tryz.prog.globals[3]?).map (·.type) = some 152 by kernel_rfl).symm.trans h2)
  obtain ⟨d, hd, hms⟩ := (Tt_ok 152 _ (show Tt 152 = some ⟨.ifc, 1, 16, [.nilIface], false⟩ by kernel_rfl)).desc
  obtain ⟨u, v, hc⟩ := trod_ifc hms hd h4
  have := World.var?_cell h1 h3 0
  rw [Array.eq_one_of_toList hc] at this
  exact ⟨_, this, .inr ⟨u, v, rfl⟩⟩
 ·obtain ⟨g, t, cs, fuel, p, h1, h2, h3, h4⟩ := laid_at hv 2 _ _ rfl
  obtain rfl := Option.some.inj ((show Tryz.prog.globalNamed "internal/strconv.uint64pow10" = some 1 by kernel_rfl).symm.trans h1)
  obtain rfl := Option.some.inj ((show (Tryz.prog.globals[1]?).map (·.type) = some 243 by kernel_rfl).symm.trans h2)
  unfold Lib.TabIs
  rw [h3, <- Lib.cells_of_tab (e := 221) (n := 20) (by kernel_rfl) (by kernel_rfl) (by kernel_rfl) (by kernel_rfl) (show _ = some (Lib.tabData .u64 Lib.pow10Tab, p) from h4)]
end Go.Fx
