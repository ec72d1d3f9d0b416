/- Own framework for walks through the program, part 3. Conditions: none. -/
import Derived.Test.YtgmppoappaolkaaW2

/- One abstract value says what another one says. Conditions: none. -/
namespace Go.Proofs.Ytgmppoappaolkaa
set_option linter.unusedVariables false
set_option linter.unusedSimpArgs false

def Imp (a b : AV) : Prop := ∀ (m : IdMap) (Mut : Mu) (w : World) (v : Value), RelV m Mut w a v → RelV m Mut w b v
def ImpL (as bs : List AV) : Prop := as.length = bs.length ∧ ∀ (i : Nat) a b, as[i]? = some a → bs[i]? = some b → Imp a b

theorem Imp.refl (a : AV) : Imp a a := fun _ _ _ _ h => h
theorem ImpL.nil : ImpL [] [] := ⟨rfl, fun i a b h => by simp at h⟩
theorem ImpL.cons {a b : AV} {as bs : List AV} (h : Imp a b) (hs : ImpL as bs) : ImpL (a :: as) (b :: bs) :=
  ⟨by simp [hs.1], fun i x y hx hy => by
    cases i with
    | zero => simp at hx hy; subst hx; subst hy; exact h
    | succ i => exact hs.2 i x y (by simpa using hx) (by simpa using hy)⟩
theorem ImpL.refl (as : List AV) : ImpL as as := ⟨rfl, fun i a b h k => by rw [h] at k; cases k; exact .refl a⟩

theorem Imp.agg {cs ds : List AV} (h : ImpL cs ds) : Imp (.agg cs) (.agg ds) := by
  intro m Mut w v hr
  cases hr with
  | agg _ vs hl hh =>
    refine .agg _ vs (h.1 ▸ hl) fun i b v hb hv => ?_
    have hlt : i < cs.length := by rw [h.1]; exact (List.getElem?_eq_some_iff.1 hb).1
    exact h.2 i cs[i] b (List.getElem?_eq_getElem hlt) hb m Mut w v (hh i cs[i] v (List.getElem?_eq_getElem hlt) hv)

theorem Imp.sl {sz n : Nat} {f g : Nat → AV} (h : ∀ i, i < n → ImpL (f i).cells (g i).cells) : Imp (.sl sz n f) (.sl sz n g) := by
  intro m Mut w v hr
  cases hr with
  | sl _ _ _ b o cap val hn hc hb hm hs hv hh =>
    refine .sl _ _ _ b o cap val hn hc hb hm (fun i hi => by rw [← (h i hi).1]; exact hs i hi) hv fun i j x hi hx => ?_
    have hlt : j < (f i).cells.length := by rw [(h i hi).1]; exact (List.getElem?_eq_some_iff.1 hx).1
    exact (h i hi).2 j _ x (List.getElem?_eq_getElem hlt) hx m Mut w _ (hh i j _ hi (List.getElem?_eq_getElem hlt))
  | sl0 _ _ a cap => exact .sl0 _ _ a cap

theorem Ret.imp {P : Program} {f : FuncId} {args args' : List AV} {h h' : AHeap} {r : AV} (hi : ImpL args args') (hr : Ret P f args' h r h') : Ret P f args h r h' :=
  hr.args fun m Mut w us ha => ⟨hi.1 ▸ ha.1, fun i b v hb hv => by
    have hlt : i < args.length := by rw [hi.1]; exact (List.getElem?_eq_some_iff.1 hb).1
    exact hi.2 i args[i] b (List.getElem?_eq_getElem hlt) hb m Mut w v (ha.2 i args[i] v (List.getElem?_eq_getElem hlt) hv)⟩

section
variable {P : Program}

/-- Slices of whole numbers. -/
theorem imp_ints {k : Nat} {e : TypeId} {kd : IntKind} {n : Nat} {f : Nat → AV} (hf : flat P k e = some [.int kd]) (h : ∀ i, i < n → Fits P k e (f i).cells) :
    ∃ r : Nat → Int, Imp (.sl 1 n f) (.sl 1 n fun i => .int kd (r i)) := by
  have each : ∀ i, ∃ r : Int, i < n → (f i).cells = [.int kd r] := fun i => by
    by_cases hi : i < n
    · obtain ⟨r, _, e1, _, e2⟩ := flat_fits _ _ _ _ hf (h i hi)
      subst e2
      exact ⟨r, fun _ => e1⟩
    · exact ⟨0, fun h => absurd h hi⟩
  obtain ⟨r, hr⟩ := Classical.axiomOfChoice each
  exact ⟨r, .sl fun i hi => by rw [hr i hi]; exact .refl _⟩

/-- Slices of structs. -/
theorem imp_structs {D : Type} [Inhabited D] (av : D → AV) {k sz : Nat} {e : TypeId} {ls : List Lf} {n : Nat} {f : Nat → AV} (hf : flat P k e = some ls)
    (hd : ∀ cs, LfFits P ls cs → ∃ d : D, ImpL cs (av d).cells) (h : ∀ i, i < n → Fits P k e (f i).cells) : ∃ g : Nat → D, Imp (.sl sz n f) (.sl sz n fun i => av (g i)) := by
  have each : ∀ i, ∃ d : D, i < n → ImpL (f i).cells (av d).cells := fun i => by
    by_cases hi : i < n
    · obtain ⟨d, hd⟩ := hd _ (flat_fits _ _ _ _ hf (h i hi))
      exact ⟨d, fun _ => hd⟩
    · exact ⟨default, fun h => absurd h hi⟩
  obtain ⟨g, hg⟩ := Classical.axiomOfChoice each
  exact ⟨g, .sl hg⟩
end

theorem le_max {n : Nat} (h : n ≤ maxLen) : n ≤ 9223372036854775807 := by unfold maxLen at h; omega
end Go.Proofs.Ytgmppoappaolkaa

/- Loops whose rounds make objects that nobody names behind the round. Conditions: none. -/
namespace Go.Proofs.Ytgmppoappaolkaa
set_option linter.unusedVariables false
set_option linter.unusedSimpArgs false

/-- Objects that are forgotten. -/
def deadL : AHeap → AHeap → Prop
  | [], [] => True
  | x :: xs, y :: ys => (y = x ∨ y = .dead) ∧ deadL xs ys
  | _, _ => False

theorem deadL_get : ∀ (xs ys : AHeap), deadL xs ys → xs.length = ys.length ∧ ∀ (i : Nat) y, ys[i]? = some y → y = .dead ∨ xs[i]? = some y := by
  intro xs
  induction xs with
  | nil => intro ys h; cases ys with
    | nil => exact ⟨rfl, fun i y h => by simp at h⟩
    | cons y ys => exact h.elim
  | cons x xs ih => intro ys h; cases ys with
    | nil => exact h.elim
    | cons y ys =>
      obtain ⟨h1, h2⟩ := ih ys h.2
      refine ⟨by simp [h1], fun i z hz => ?_⟩
      cases i with
      | zero => simp at hz; subst hz; rcases h.1 with e | e
                · subst e; exact .inr rfl
                · exact .inl e
      | succ i => simpa using h2 i z (by simpa using hz)

theorem deadL_sound {m : IdMap} {Mut : Mu} {w : World} {h h' : AHeap} (hd : deadL h h') (H : RelH m Mut h w) : RelH m Mut h' w := by
  obtain ⟨hl, hg⟩ := deadL_get _ _ hd
  refine ⟨fun id o ho => ?_, fun id id' o o' b C C' ho ho' hl1 hl2 hm hm' => ?_, fun id n x hx => hl ▸ H.dom id n x hx, H.lt, fun id o n x ho hl1 hx => ?_⟩
  · rcases hg id o ho with e | e
    · subst e; exact trivial
    · exact H.obj id o e
  · rcases hg id o ho with e | e
    · subst e; cases hl1
    · rcases hg id' o' ho' with e' | e'
      · subst e'; cases hl2
      · exact H.inj id id' o o' b C C' e e' hl1 hl2 hm hm'
  · rcases hg id o ho with e | e
    · subst e; cases hl1
    · exact H.top id o n x e hl1 hx

/-- What a piece of code made is forgotten. -/
inductive PopOk (h h1 : AHeap) (T' : List AV) : AHeap → Prop
  | same : PopOk h h1 T' h1
  | dead (h' : AHeap) (hd : deadL h1 h') : PopOk h h1 T' h'
  | pop (ht : h1.take h.length = h) (hT : ∀ t ∈ T', Low h.length t) : PopOk h h1 T' h
  | popLow (h' : AHeap) (ht : h1.take h.length = h') (hl : h'.length = h.length) (ho : ∀ o ∈ h', o.Low h.length) (hT : ∀ t ∈ T', Low h.length t) : PopOk h h1 T' h'

section
variable {P : Program}

theorem RelT.tup {m : IdMap} {Mut : Mu} {w : World} {T : List AV} {a : Act} (h : RelT m Mut w T a) : RelV m Mut w (.tup T) (.tuple a.tmps) := .tup _ _ h.len h.val

theorem WPC.pop {c : Code} {T : List AV} {h : AHeap} {R Q : Exit → List AV → AHeap → Prop} (hc : WPC P c T h R) (hq : ∀ e T1 h1, R e T1 h1 → ∃ T' h', leT T1 T' ∧ Q e T' h' ∧ PopOk h h1 T' h') : WPC P c T h Q :=
  fun m0 Mut0 w0 m Mut w a E H hT => wp_mono (hc m Mut w m Mut w a (.refl _ _ _) H hT) fun e a1 w1 ⟨m1, Mut1, T1, h1, hr, E1, H1, hT1⟩ => by
    obtain ⟨T', h', hle, hq, hp⟩ := hq e T1 h1 hr
    have hT2 : RelT m1 Mut1 w1 T' a1 := by
      obtain ⟨g1, g2⟩ := leT_spec (m := m1) (Mut := Mut1) (w := w1) T1 T' hle
      refine ⟨by rw [← g1]; exact hT1.len, fun i x v hx hv => ?_, hT1.defers⟩
      rcases g2 i x hx with e | e
      · subst e; exact .any v
      · exact hT1.val i x v e hv
    have fin : ∀ {h' : AHeap}, ExitTo h h1 (.tup T') (.tup T') h' → Q e T' h' → APost Q m0 Mut0 w0 e a1 w1 := fun hx hq => by
      obtain ⟨m', Mut', p1, p2, p3⟩ := exit_sound hx H E1 H1 hT2.tup
      refine ⟨m', Mut', T', _, hq, E.trans p1, p2, ?_⟩
      cases p3 with
      | tup _ _ hl hv => exact ⟨hl, hv, hT1.defers⟩
    cases hp with
    | same => exact ⟨m1, Mut1, T', h1, hq, E.trans E1, H1, hT2⟩
    | dead _ hd => exact ⟨m1, Mut1, T', _, hq, E.trans E1, deadL_sound hd H1, hT2⟩
    | pop ht hTl => exact fin (.pop (.low _ (.tup _ hTl)) ht rfl fun id o ho => .inl ho) hq
    | popLow _ ht hl ho hTl => exact fin (.pop (.low _ (.tup _ hTl)) ht hl fun id o hid => .inr (ho o (List.mem_of_getElem? hid))) hq

variable {σ ο : Type}

def LNextP (Tm : σ → List AV) (Hp : σ → AHeap) (inv : σ → Prop) (mu : σ → Nat) (l : Nat → σ → ο) (n : Nat) (s : σ) (T : List AV) (h : AHeap) : Prop :=
  ∃ s', inv s' ∧ mu s' < mu s ∧ l n s' = l (n + 1) s ∧ T = Tm s' ∧ PopOk (Hp s) h (Tm s') (Hp s')
def LEndP (Hp : σ → AHeap) (l : Nat → σ → ο) (oE : ο → Exit) (oT : ο → List AV) (oH : ο → AHeap) (n : Nat) (s : σ) (e : Exit) (T : List AV) (h : AHeap) : Prop :=
  ∃ o, l (n + 1) s = o ∧ e = oE o ∧ T = oT o ∧ PopOk (Hp s) h (oT o) (oH o)

theorem LNextP.mk {Tm : σ → List AV} {Hp : σ → AHeap} {inv : σ → Prop} {mu : σ → Nat} {l : Nat → σ → ο} {n : Nat} {s : σ} {h : AHeap} (s' : σ) (h1 : inv s') (h2 : mu s' < mu s) (h3 : l n s' = l (n + 1) s) (h4 : PopOk (Hp s) h (Tm s') (Hp s')) : LNextP Tm Hp inv mu l n s (Tm s') h := ⟨s', h1, h2, h3, rfl, h4⟩
theorem LEndP.mk {Hp : σ → AHeap} {l : Nat → σ → ο} {oE : ο → Exit} {oT : ο → List AV} {oH : ο → AHeap} {n : Nat} {s : σ} {hh : AHeap} (o : ο) (h : l (n + 1) s = o) (h4 : PopOk (Hp s) hh (oT o) (oH o)) : LEndP Hp l oE oT oH n s (oE o) (oT o) hh := ⟨o, h, rfl, rfl, h4⟩

def LRoundP (Tm : σ → List AV) (Hp : σ → AHeap) (inv : σ → Prop) (mu : σ → Nat) (l : Nat → σ → ο) (oE : ο → Exit) (oT : ο → List AV) (oH : ο → AHeap) (ks kr kx : List Nat) (n : Nat) (s : σ) : Exit → List AV → AHeap → List Dec → Prop :=
  fun e T h _ => match e with
    | .normal => LNextP Tm Hp inv mu l n s (mask ks T) h
    | .ret => LEndP Hp l oE oT oH n s .ret (mask kr T) h
    | e => LEndP Hp l oE oT oH n s e (mask kx T) h

theorem LoopTo.fuelP (hmix : P.follows .mixedOrders = true) {c : Code} (Tm : σ → List AV) (Hp : σ → AHeap) (inv : σ → Prop) (mu : σ → Nat) (l : Nat → σ → ο) (oE : ο → Exit) (oT : ο → List AV) (oH : ο → AHeap) (ks kr kx : List Nat)
    (round : ∀ n s, inv s → mu s < n + 1 → ∃ ds, run P c (Tm s) (Hp s) ds (LRoundP Tm Hp inv mu l oE oT oH ks kr kx n s)) (n : Nat) (s : σ) (hi : inv s) (hm : mu s < n) : LoopTo P c (Tm s) (Hp s) (oE (l n s)) (oT (l n s)) (oH (l n s)) := by
  refine WPC.loop (fun k T h => ∃ s', inv s' ∧ mu s' < k ∧ l k s' = l n s ∧ T = Tm s' ∧ h = Hp s') (fun k T h ⟨s', hi', hm', hl, hT, hh⟩ => ?_) (n := n) ⟨s, hi, hm, rfl, rfl, rfl⟩
  subst hT; subst hh
  cases k with
  | zero => exact absurd hm' (Nat.not_lt_zero _)
  | succ k =>
    obtain ⟨ds, hr⟩ := round k s' hi' hm'
    refine (run_sound hmix c _ _ ds _ hr).pop fun e2 T2 h2 ⟨ds', hk⟩ => ?_
    cases e2 with
    | normal =>
      obtain ⟨s2, a1, a2, a3, a4, a5⟩ := hk
      exact ⟨_, _, a4 ▸ leT_mask ks T2, ⟨k, Nat.lt_succ_self k, s2, a1, by omega, a3.trans hl, rfl, rfl⟩, a5⟩
    | ret =>
      obtain ⟨o, a1, a2, a3, a4⟩ := hk
      exact ⟨_, _, leT_mask kr T2, ⟨by rw [← hl, a1]; exact a2, by rw [← hl, a1]; exact a3, by rw [← hl, a1]⟩, a3 ▸ a4⟩
    | _ =>
      obtain ⟨o, a1, a2, a3, a4⟩ := hk
      exact ⟨_, _, leT_mask kx T2, ⟨by rw [← hl, a1]; exact a2, by rw [← hl, a1]; exact a3, by rw [← hl, a1]⟩, a3 ▸ a4⟩

end

@[simp] theorem low_ofList1 {lo : Nat} {l : List AV} {i : Nat} (hi : i < l.length) (h : ∀ x ∈ l, Low lo x) : Low lo ((Col.ofList l).get i) = True :=
  eq_true (h _ (List.mem_of_getElem? ((Col.ofList_get l).2 i hi)))
@[simp] theorem low_ofListN {lo n : Nat} {l : List AV} (hn : n ≤ l.length) (h : ∀ x ∈ l, Low lo x) : (∀ i, i < n → Low lo ((Col.ofList l).get i)) = True :=
  eq_true fun i hi => h _ (List.mem_of_getElem? ((Col.ofList_get l).2 i (by omega)))

/-- A literal list of records. -/
theorem imp_lit {D : Type} [Inhabited D] {sz n : Nat} {av : D → AV} {l : List AV} (ds : List D) (g : Nat → D) (hl : l = ds.map av) (hn : n ≤ ds.length) (hg : ∀ i, i < n → ds[i]? = some (g i)) :
    Imp (.sl sz n (Col.ofList l).get) (.sl sz n fun i => av (g i)) := by
  subst hl
  refine .sl fun i hi => ?_
  have h1 := (Col.ofList_get (ds.map av)).2 i (by simp; omega)
  rw [List.getElem?_map, hg i hi] at h1
  simp only [Option.map_some, Option.some.injEq] at h1
  rw [← h1]
  exact .refl _

theorem imp_recL {D : Type} [Inhabited D] {sz : Nat} {av : D → AV} {L : List D} : Imp (avRecs sz (L.map av)) (recL sz av L) := by
  unfold avRecs recL
  rw [List.length_map]
  refine .sl fun i hi => ?_
  rw [offGet_eq, Nat.zero_add]
  have e : (Col.recs (L.map av)).get i = av (rget L i) := by
    simp only [Col.get, List.length_map]
    rw [if_pos hi]
    unfold rget
    rw [List.getD_eq_getElem?_getD, List.getD_eq_getElem?_getD, List.getElem?_map, List.getElem?_eq_getElem (show L.length - 1 - i < L.length by omega)]
    rfl
  rw [e]
  exact .refl _

theorem Imp.tup {cs ds : List AV} (h : ImpL cs ds) : Imp (.tup cs) (.tup ds) := by
  intro m Mut w v hr
  cases hr with
  | tup _ vs hl hh =>
    refine .tup _ vs (h.1 ▸ hl) fun i b v hb hv => ?_
    have hlt : i < cs.length := by rw [h.1]; exact (List.getElem?_eq_some_iff.1 hb).1
    exact h.2 i cs[i] b (List.getElem?_eq_getElem hlt) hb m Mut w v (hh i cs[i] v (List.getElem?_eq_getElem hlt) hv)

theorem zero_bool (n : Nat) : Col.zero (ofV (Value.bool false)) n = .bools (List.replicate n false) := rfl
theorem zero_int (k : IntKind) (n : Nat) : Col.zero (ofV (Value.int k 0)) n = .ints k (List.replicate n 0) := rfl
/-- Which truth value it is, told without putting it in. -/
inductive BoolIs (b : Bool) : Prop
  | true (h : b = true)
  | false (h : b = false)
theorem boolIs (b : Bool) : BoolIs b := by
  cases h : b with
  | true => exact .true rfl
  | false => exact .false rfl

theorem Ret.out {P : Program} {f : FuncId} {args : List AV} {h h' : AHeap} {r r' : AV} (hr : Ret P f args h r h') (hi : Imp r r') : Ret P f args h r' h' := hr.weaken hi

theorem Ret.val {P : Program} {f : FuncId} {args : List AV} {h h' : AHeap} {r r' : AV} (e : r = r') (hr : Ret P f args h r h') : Ret P f args h r' h' := e ▸ hr

@[simp] theorem low_ovar (lo : Nat) (v : AV) : (AObj.var v).Low lo = Low lo v := rfl
@[simp] theorem low_orowi (lo sz n : Nat) (k : IntKind) (xs : List Int) : (AObj.row sz n (.ints k xs)).Low lo = True := eq_true fun _ _ => .int _ _
@[simp] theorem low_orows (lo sz n : Nat) (xs : List ByteArray) : (AObj.row sz n (.strs xs)).Low lo = True := eq_true fun _ _ => .str _
@[simp] theorem low_orowb (lo sz n : Nat) (xs : List Bool) : (AObj.row sz n (.bools xs)).Low lo = True := eq_true fun _ _ => .bool _
@[simp] theorem low_orowr (lo sz n : Nat) (xs : List AV) : (AObj.row sz n (.recs xs)).Low lo = ∀ x ∈ xs, Low lo x := propext ⟨fun h x hx => by
  obtain ⟨i, hi, rfl⟩ := List.mem_iff_getElem.1 hx
  have := h (xs.length - 1 - i) (by simp only [Col.len]; omega)
  simp only [Col.get] at this
  rw [if_pos (by omega), show xs.length - 1 - (xs.length - 1 - i) = i by omega, List.getD_eq_getElem?_getD, List.getElem?_eq_getElem hi] at this
  exact this, fun h i hi => by
  simp only [Col.len] at hi
  simp only [Col.get]
  rw [if_pos hi, List.getD_eq_getElem?_getD, List.getElem?_eq_getElem (by omega)]
  exact h _ (List.getElem_mem _)⟩
@[simp] theorem low_odead (lo : Nat) : AObj.dead.Low lo = True := rfl
@[simp] theorem low_oiter (lo : Nat) (s : ByteArray) (p : Nat) : (AObj.iter s p).Low lo = True := rfl
@[simp] theorem low_ptr (lo id n sz i off : Nat) : Low lo (.ptr id n sz i off) = (id < lo) := propext ⟨fun h => by cases h; assumption, fun h => .ptr _ _ _ _ _ h⟩
@[simp] theorem low_ms (lo id n sz off len : Nat) : Low lo (.ms id n sz off len) = (id < lo) := propext ⟨fun h => by cases h; assumption, fun h => .ms _ _ _ _ _ h⟩
@[simp] theorem low_undef (lo : Nat) : Low lo .undef = True := eq_true .undef
@[simp] theorem low_nilp (lo : Nat) : Low lo .nilp = True := eq_true .nilp
end Go.Proofs.Ytgmppoappaolkaa
