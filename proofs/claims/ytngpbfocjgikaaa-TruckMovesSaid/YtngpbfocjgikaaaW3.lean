/- Own framework for walks through the program, part 3. Conditions: none. -/
import Derived.Test.YtngpbfocjgikaaaW2

namespace Go.Proofs.Ytngpbfocjgikaaa

set_option linter.unusedVariables false

set_option linter.unusedSimpArgs false

def frz1 (id n sz : Nat) (c : Col) (a a' : AV) : Prop :=
  a' = a ∨ ∃ off len f, a = .ms id n sz off len ∧ off + len ≤ c.len ∧ a' = .sl sz len f ∧ ∀ i, i < len → f i = c.get (off + i)

def frz1L (id n sz : Nat) (c : Col) : List AV → List AV → Prop
  | [], [] => True
  | a :: as, b :: bs => frz1 id n sz c a b ∧ frz1L id n sz c as bs
  | _, _ => False

/-- The same, in a struct's cells too. -/
def frz (id n sz : Nat) (c : Col) (a a' : AV) : Prop :=
  frz1 id n sz c a a' ∨ ∃ cs ds, a = .agg cs ∧ a' = .agg ds ∧ frz1L id n sz c cs ds

theorem frz1L_get {id n sz : Nat} {c : Col} : ∀ (as bs : List AV), frz1L id n sz c as bs → as.length = bs.length ∧ ∀ (i : Nat) a b, as[i]? = some a → bs[i]? = some b → frz1 id n sz c a b := by
  intro as
  induction as with
  | nil => intro bs h; cases bs with
    | nil => exact ⟨rfl, fun i a b h => by simp at h⟩
    | cons b bs => exact h.elim
  | cons a as ih => intro bs h; cases bs with
    | nil => exact h.elim
    | cons b bs =>
      obtain ⟨h1, h2⟩ := ih bs h.2
      refine ⟨by simp [h1], fun i x y hx hy => ?_⟩
      cases i with
      | zero => simp at hx hy; subst hx; subst hy; exact h.1
      | succ i => exact h2 i x y (by simpa using hx) (by simpa using hy)

/-- From one element to structs of them. -/
theorem frz_lift {id n sz : Nat} {c : Col} {m : IdMap} {Mut Mu1 : Mu} {w : World} (one : ∀ {a a' : AV} {v : Value}, frz1 id n sz c a a' → RelV m Mut w a v → RelV m Mu1 w a' v) {a a' : AV} {v : Value} (h : frz id n sz c a a') (hr : RelV m Mut w a v) : RelV m Mu1 w a' v := by
  rcases h with h | ⟨cs, ds, rfl, rfl, h⟩
  · exact one h hr
  · obtain ⟨hl, hf⟩ := frz1L_get cs ds h
    cases hr with
    | agg _ vs hl2 h2 =>
      refine .agg _ vs (hl ▸ hl2) fun i b v hb hv => ?_
      have hlt : i < cs.length := by rw [hl]; exact (List.getElem?_eq_some_iff.1 hb).1
      exact one (hf i cs[i] b (List.getElem?_eq_getElem hlt) hb) (h2 i cs[i] v (List.getElem?_eq_getElem hlt) hv)

def frzL (id n sz : Nat) (c : Col) : List AV → List AV → Prop
  | [], [] => True
  | a :: as, b :: bs => frz id n sz c a b ∧ frzL id n sz c as bs
  | _, _ => False

theorem frzL_get {id n sz : Nat} {c : Col} : ∀ (as bs : List AV), frzL id n sz c as bs → as.length = bs.length ∧ ∀ (i : Nat) a b, as[i]? = some a → bs[i]? = some b → frz id n sz c a b := by
  intro as
  induction as with
  | nil => intro bs h; cases bs with
    | nil => exact ⟨rfl, fun i a b h => by simp at h⟩
    | cons b bs => exact h.elim
  | cons a as ih => intro bs h; cases bs with
    | nil => exact h.elim
    | cons b bs =>
      obtain ⟨h1, h2⟩ := ih bs h.2
      refine ⟨by simp [h1], fun i x y hx hy => ?_⟩
      cases i with
      | zero => simp at hx hy; subst hx; subst hy; exact h.1
      | succ i => exact h2 i x y (by simpa using hx) (by simpa using hy)

theorem Weak.frz {h : AHeap} {vs vs' : List AV} {id n sz : Nat} {c : Col} (ho : h[id]? = some (.row sz n c)) (hf : frzL id n sz c vs vs') :
    Weak h.length vs h vs' (h.set id (.frow sz n c.len c.get)) := by
  obtain ⟨hl, hf⟩ := frzL_get vs vs' hf
  intro m Mut w us H hr
  have hold : ∀ (i : Nat) (x : AObj), (h.set id (.frow sz n c.len c.get))[i]? = some x → (i = id ∧ x = .frow sz n c.len c.get) ∨ (i ≠ id ∧ h[i]? = some x) := by
    intro i x hx
    rw [List.getElem?_set] at hx
    by_cases e : id = i
    · rw [if_pos e, if_pos (List.getElem?_eq_some_iff.1 ho).1] at hx; cases hx; exact .inl ⟨e.symm, rfl⟩
    · rw [if_neg e] at hx; exact .inr ⟨fun h => e h.symm, hx⟩
  rcases H.obj id _ ho with ⟨rfl, q2, y, q3⟩ | ⟨hn0, b, o, C, cc, t, h1, h2, h3, h4, h5, h6, h7⟩
  · have H1 : RelH m Mut (h.set id (.frow sz 0 c.len c.get)) w := by
      refine ⟨fun i x hx => ?_, fun i i' x x' bb C1 C2 hx hx' hxl hxl' hm hm' => ?_, fun i k x hx => by rw [List.length_set]; exact H.dom i k x hx, H.lt, fun i x k y hx hxl hy => ?_⟩
      · rcases hold i x hx with ⟨rfl, rfl⟩ | ⟨hne, hx⟩
        · exact .inl ⟨q2, _, q3⟩
        · exact H.obj i x hx
      · rcases hold i x hx with ⟨rfl, rfl⟩ | ⟨_, hx⟩
        · cases hxl
        · rcases hold i' x' hx' with ⟨rfl, rfl⟩ | ⟨_, hx'⟩
          · cases hxl'
          · exact H.inj i i' x x' bb C1 C2 hx hx' hxl hxl' hm hm'
      · rcases hold i x hx with ⟨rfl, rfl⟩ | ⟨_, hx⟩
        · cases hxl
        · exact H.top i x k y hx hxl hy
    refine ⟨m, Mut, fun _ _ _ _ hx => hx, fun x hx => hx, fun x hx => hx, fun x hi _ => hi, H1, ⟨hl ▸ hr.1, fun i a' v ha' hv => ?_⟩⟩
    have hlt : i < vs.length := by rw [hl]; exact (List.getElem?_eq_some_iff.1 ha').1
    have hv1 := hr.2 i _ v (List.getElem?_eq_getElem hlt) hv
    refine frz_lift (fun {a a' v} hz hv1 => ?_) (hf i vs[i] a' (List.getElem?_eq_getElem hlt) ha') hv1
    rcases hz with e | ⟨off, len, f, e1, e2, e3, e4⟩
    · rw [e]; exact hv1
    · rw [e1] at hv1
      subst e3
      obtain rfl : len = 0 := by omega
      cases hv1 with
      | ms _ _ _ _ _ b' o' C' hm hc => exact .sl0 _ _ _ _
      | ms0 _ _ _ _ _ _ _ _ _ => exact .sl0 _ _ _ _
  have hlive : (AObj.row sz n c).live = true := decide_eq_true hn0
  have hbs : b < w.heap.size := H.wr b h2
  let Mu1 : Mu := ⟨fun x => Mut.im x ∧ x ≠ b, fun x => Mut.wr x ∧ x ≠ b, fun x hx => ⟨Mut.le x hx.1, hx.2⟩⟩
  have mono : ∀ {a : AV} {v : Value}, RelV m Mut w a v → RelV m Mu1 w a v := fun h => h.mono (fun _ _ _ h => h) (Nat.le_refl _) (fun x _ hn (hx : Mut.im x ∧ x ≠ b) => hn hx.1) fun _ _ _ => rfl
  have hid : id < h.length := (List.getElem?_eq_some_iff.1 ho).1
  have hcell : ∀ k, w.cell? ⟨b, k, none⟩ = cc[k]? := fun k => by simp [World.cell?, h3]
  have H1 : RelH m Mu1 (h.set id (.frow sz n c.len c.get)) w := by
    have old : ∀ (i : Nat) (x : AObj), (h.set id (.frow sz n c.len c.get))[i]? = some x → (i = id ∧ x = .frow sz n c.len c.get) ∨ (i ≠ id ∧ h[i]? = some x) := by
      intro i x hx
      rw [List.getElem?_set] at hx
      by_cases e : id = i
      · rw [if_pos e, if_pos hid] at hx; cases hx; exact .inl ⟨e.symm, rfl⟩
      · rw [if_neg e] at hx; exact .inr ⟨fun h => e h.symm, hx⟩
    refine ⟨fun i x hx => ?_, fun i i' x x' bb C1 C2 hx hx' hxl hxl' hm hm' => ?_, fun i k x hx => by rw [List.length_set]; exact H.dom i k x hx, fun x hx => H.lt x hx.1, fun i x k y hx hxl hy => ?_⟩
    · rcases old i x hx with ⟨rfl, rfl⟩ | ⟨hne, hx⟩
      · exact .inr ⟨b, o, C, cc, t, h1, hbs, fun hx => hx.2 rfl, h3, h5, h6, fun i j a hi ha => by
          obtain ⟨v, hv, hrv⟩ := h7 i j a hi ha
          exact ⟨v, hv, mono hrv⟩⟩
      · have E : Ext m Mut w m Mu1 w := ⟨rfl, rfl, rfl, Nat.le_refl _, fun _ _ _ => rfl, fun x _ hn hx => hn hx.1, fun x _ hn hx => hn hx.1, fun x _ hi hn => ⟨hi, fun e => hn (e ▸ h2)⟩, fun _ _ _ h => h⟩
        refine (H.obj i x hx).mono E fun bb C1 hxl hm => ⟨rfl, (H.obj i x hx).wr hxl bb C1 hm, fun e => ?_⟩
        subst e
        exact hne (H.inj i id x _ bb C1 (o, C) hx ho hxl hlive hm h1)
    · rcases old i x hx with ⟨rfl, rfl⟩ | ⟨_, hx⟩
      · cases hxl
      · rcases old i' x' hx' with ⟨rfl, rfl⟩ | ⟨_, hx'⟩
        · cases hxl'
        · exact H.inj i i' x x' bb C1 C2 hx hx' hxl hxl' hm hm'
    · rcases old i x hx with ⟨rfl, rfl⟩ | ⟨_, hx⟩
      · cases hxl
      · exact H.top i x k y hx hxl hy
  refine ⟨m, Mu1, fun _ _ _ _ hx => hx, fun x hx => hx.1, fun x hx => hx.1, fun x hi hn => ⟨hi, fun e => hn (e ▸ h2)⟩, H1, ⟨hl ▸ hr.1, fun i a' v ha' hv => ?_⟩⟩
  have hlt : i < vs.length := by rw [hl]; exact (List.getElem?_eq_some_iff.1 ha').1
  refine frz_lift (fun {a a' v} hz hv1 => ?_) (hf i vs[i] a' (List.getElem?_eq_getElem hlt) ha') (hr.2 i _ v (List.getElem?_eq_getElem hlt) hv)
  rcases hz with e | ⟨off, len, f, e1, e2, e3, e4⟩
  · rw [e]; exact mono hv1
  · rw [e1] at hv1
    subst e3
    cases hv1 with
    | ms _ _ _ _ _ b' o' C' hm hc =>
      rw [h1] at hm
      cases hm
      rcases Nat.eq_zero_or_pos len with e0 | e0
      · subst e0; exact .sl0 _ _ _ _
      · refine .sl sz len f b (o + off * sz) (C - off) (fun i j => cc.getD (o + (off + i) * sz + j) Go.undef) e0 (by omega) hbs (fun hx => hx.2 rfl) (fun i hi => by rw [e4 i hi]; exact h6 _ (by omega)) (fun i j hi hj => ?_) (fun i j a hi ha => ?_)
        · rw [show o + off * sz + i * sz + j = o + (off + i) * sz + j by rw [Nat.add_mul]; omega, hcell]
          have hlt2 : (off + i) * sz + sz ≤ C * sz := by
            have : (off + i + 1) * sz ≤ C * sz := Nat.mul_le_mul_right _ (by omega)
            rwa [Nat.add_mul, Nat.one_mul] at this
          rw [Array.getD_eq_getD_getElem?, Array.getElem?_eq_getElem (by rw [h4]; omega)]
          rfl
        · rw [e4 i hi] at ha
          obtain ⟨x, hx, hrx⟩ := h7 (off + i) j a (by omega) ha
          rw [Array.getD_eq_getD_getElem?, hx]
          exact mono hrx
    | ms0 _ _ _ _ _ _ _ _ _ => exact .sl0 _ _ _ _

theorem Weak.trans {lo : Nat} {vs vs1 vs2 : List AV} {h h1 h2 : AHeap} (a : Weak lo vs h vs1 h1) (b : Weak lo vs1 h1 vs2 h2) : Weak lo vs h vs2 h2 := by
  intro m Mut w us H hr
  obtain ⟨m1, M1, a1, a2, a3, a4, a5, a6⟩ := a m Mut w us H hr
  obtain ⟨m2, M2, b1, b2, b3, b4, b5, b6⟩ := b m1 M1 w us a5 a6
  refine ⟨m2, M2, fun id n x hl hx => b1 id n x hl (a1 id n x hl hx), fun x hx => a2 x (b2 x hx), fun x hx => a3 x (b3 x hx), fun x hi hn => b4 x (a4 x hi hn) fun hw => hn (a3 x hw), b5, b6⟩

theorem frz_same {id n sz : Nat} {c : Col} (a : AV) : frz1 id n sz c a a := .inl rfl

end Go.Proofs.Ytngpbfocjgikaaa

namespace Go.Proofs.Ytngpbfocjgikaaa

set_option linter.unusedVariables false

set_option linter.unusedSimpArgs false

def eqL : List AV → List AV → Prop
  | [], [] => True
  | x :: xs, v :: vs => x = v ∧ eqL xs vs
  | _, _ => False

theorem eqL_eq : ∀ (xs vs : List AV), eqL xs vs → xs = vs := by
  intro xs
  induction xs with
  | nil => intro vs h; cases vs with
    | nil => rfl
    | cons v vs => exact h.elim
  | cons x xs ih => intro vs h; cases vs with
    | nil => exact h.elim
    | cons v vs => rw [h.1, ih vs h.2]

def RetH (P : Program) (fn : Func) (h0 : AHeap) (T : List AV) (h1 : AHeap) (v : List AV) : Prop :=
  match aresL P T h1 fn.results.toList with
  | some ([], vs) => eqL vs v ∧ h1.take h0.length = h0
  | _ => False

/-- Slices that say the same. -/
def sameL : List AV → List AV → Prop
  | [], [] => True
  | a :: as, b :: bs => (b = a ∨ ∃ sz len f f', a = .sl sz len f ∧ b = .sl sz len f' ∧ ∀ i, i < len → f' i = f i) ∧ sameL as bs
  | _, _ => False

theorem sameL_get : ∀ (as bs : List AV), sameL as bs → as.length = bs.length ∧ ∀ (i : Nat) a b, as[i]? = some a → bs[i]? = some b → (b = a ∨ ∃ sz len f f', a = .sl sz len f ∧ b = .sl sz len f' ∧ ∀ i, i < len → f' i = f i) := by
  intro as
  induction as with
  | nil => intro bs h; cases bs with
    | nil => exact ⟨rfl, fun i a b h => by simp at h⟩
    | cons b bs => exact h.elim
  | cons a as ih => intro bs h; cases bs with
    | nil => exact h.elim
    | cons b bs =>
      obtain ⟨h1, h2⟩ := ih bs h.2
      refine ⟨by simp [h1], fun i x y hx hy => ?_⟩
      cases i with
      | zero => simp at hx hy; subst hx; subst hy; exact h.1
      | succ i => exact h2 i x y (by simpa using hx) (by simpa using hy)

theorem Weak.same {lo : Nat} {vs vs' : List AV} {h : AHeap} (hs : sameL vs vs') : Weak lo vs h vs' h := by
  obtain ⟨hl, hs⟩ := sameL_get vs vs' hs
  intro m Mut w us H hr
  refine ⟨m, Mut, fun _ _ _ _ hx => hx, fun _ hx => hx, fun _ hx => hx, fun _ hx _ => hx, H, ⟨hl ▸ hr.1, fun i a' v ha' hv => ?_⟩⟩
  have hlt : i < vs.length := by rw [hl]; exact (List.getElem?_eq_some_iff.1 ha').1
  have hv1 := hr.2 i _ v (List.getElem?_eq_getElem hlt) hv
  rcases hs i vs[i] a' (List.getElem?_eq_getElem hlt) ha' with e | ⟨sz, len, f, f', e1, e2, e3⟩
  · rw [e]; exact hv1
  · rw [e1] at hv1
    subst e2
    cases hv1 with
    | sl _ _ _ b o cap val hn hc hb hm hs1 hv2 hr2 =>
      exact .sl _ _ _ b o cap val hn hc hb hm (fun i hi => by rw [e3 i hi]; exact hs1 i hi) hv2 (fun i j a hi ha => hr2 i j a hi (by rw [← e3 i hi]; exact ha))
    | sl0 _ _ a cap => exact .sl0 _ _ a cap

/-- A literal list of records. -/
theorem same_recs {D : Type} [Inhabited D] {av : D → AV} {sz n : Nat} (ds : List D) (hn : n = ds.length) {f : Nat → AV} (hf : ∀ i, i < n → f i = (ds.map av).getD i .any) :
    (AV.sl sz n fun i => av (ds.getD i default)) = .sl sz n f ∨ ∃ s len g g', AV.sl sz n f = .sl s len g ∧ (AV.sl sz n fun i => av (ds.getD i default)) = .sl s len g' ∧ ∀ i, i < len → g' i = g i := by
  subst hn
  refine .inr ⟨sz, ds.length, _, _, rfl, rfl, fun i hi => ?_⟩
  rw [hf i hi, List.getD_eq_getElem?_getD, List.getD_eq_getElem?_getD, List.getElem?_map, List.getElem?_eq_getElem hi]
  rfl

section

variable {P : Program}

theorem Ret.of_runH (hmix : P.follows .mixedOrders = true) {f : FuncId} {fn : Func} {c : Code} {args : List AV} (vs : List AV) (h0 : AHeap) (hf : P.funcs[f]? = some fn) (hb : fn.body = some c) (ds : List Dec) (hlow : ∀ v ∈ vs, Low h0.length v)
    (hr : run P c (initT fn args) h0 ds fun e T h1 _ => match e with | .normal => RetH P fn h0 T h1 vs | .ret => RetH P fn h0 T h1 vs | _ => False) : Ret P f args h0 (oneOf vs) h0 := by
  intro m Mut w us H hargs
  refine calls_of_wp hf hb ?_
  have hT : RelT m Mut w (initT fn args) { tmps := us ++ Array.replicate (fn.ntmps - us.size) Go.undef, defers := [] } := by
    refine ⟨by simp [initT, hargs.1], fun i x v hx hv => ?_, rfl⟩
    simp only [initT, List.getElem?_append] at hx
    simp only [Array.getElem?_append] at hv
    by_cases hi : i < us.size
    · rw [if_pos (by rw [hargs.1]; exact hi)] at hx
      rw [if_pos hi] at hv
      exact hargs.2 i x v hx hv
    · rw [if_neg (by rw [hargs.1]; exact hi)] at hx
      rw [if_neg hi] at hv
      rw [List.getElem?_replicate] at hx
      rw [Array.getElem?_replicate] at hv
      split at hx
      · split at hv
        · cases hx; cases hv; exact .undef
        · cases hv
      · cases hx
  refine wp_mono (run_sound hmix c _ h0 ds _ hr m Mut w m Mut w _ (.refl _ _ _) H hT) fun e a w1 ⟨m1, Mut1, T1, h1, ⟨ds', hk⟩, E1, H1, hT1⟩ => ?_
  have fin : RetH P fn h0 T1 h1 vs → a.defers = [] ∧ ∃ v, (results fn a.tmps).run P w1 = .ok v w1 ∧ ∃ x v2 h2 m' Mut', Ending.returned v = .returned x ∧ (v2 = oneOf vs ∧ h2 = h0) ∧ Ext m Mut w m' Mut' w1 ∧ RelH m' Mut' h2 w1 ∧ RelV m' Mut' w1 v2 x := by
    intro hk
    refine ⟨hT1.defers, ?_⟩
    unfold RetH at hk
    split at hk
    · rename_i xs hres
      obtain ⟨x, hx, hrx⟩ := results_run (P := P) H1 hT1 hres (fun c hc => by simp at hc)
      obtain ⟨k1, k2⟩ := hk
      have := eqL_eq _ _ k1
      subst this
      have hp : Pur h1 h0.length (oneOf xs) (oneOf xs) := by
        refine .low _ ?_
        cases xs with
        | nil => exact .tup _ fun c hc => by simp at hc
        | cons x xs => cases xs with
          | nil => exact hlow x (by simp)
          | cons y ys => exact .tup _ fun c hc => hlow c hc
      obtain ⟨m', Mut', p1, p2, p3⟩ := exit_sound (h := h0) (h' := h0) (.pop hp k2 rfl fun id o ho => .inl ho) H E1 H1 hrx
      exact ⟨x, hx, x, oneOf xs, h0, m', Mut', rfl, ⟨rfl, rfl⟩, p1, p2, p3⟩
    · exact hk.elim
  cases e with
  | normal => exact fin hk
  | ret => exact fin hk
  | _ => exact hk.elim

end

end Go.Proofs.Ytngpbfocjgikaaa

namespace Go.Proofs.Ytngpbfocjgikaaa

set_option linter.unusedVariables false

set_option linter.unusedSimpArgs false

def Imp (a b : AV) : Prop := ∀ (m : IdMap) (Mut : Mu) (w : World) (v : Value), RelV m Mut w a v → RelV m Mut w b v

def ImpL (as bs : List AV) : Prop := as.length = bs.length ∧ ∀ (i : Nat) a b, as[i]? = some a → bs[i]? = some b → Imp a b

theorem Imp.refl (a : AV) : Imp a a := fun _ _ _ _ h => h

theorem ImpL.nil : ImpL [] [] := ⟨rfl, fun i a b h => by simp at h⟩

theorem ImpL.cons {a b : AV} {as bs : List AV} (h : Imp a b) (hs : ImpL as bs) : ImpL (a :: as) (b :: bs) :=
  ⟨by simp [hs.1], fun i x y hx hy => by
    cases i with
    | zero => simp at hx hy; subst hx; subst hy; exact h
    | succ i => exact hs.2 i x y (by simpa using hx) (by simpa using hy)⟩

theorem ImpL.refl (as : List AV) : ImpL as as := ⟨rfl, fun i a b h k => by rw [h] at k; cases k; exact .refl a⟩

theorem Imp.agg {cs ds : List AV} (h : ImpL cs ds) : Imp (.agg cs) (.agg ds) := by
  intro m Mut w v hr
  cases hr with
  | agg _ vs hl hh =>
    refine .agg _ vs (h.1 ▸ hl) fun i b v hb hv => ?_
    have hlt : i < cs.length := by rw [h.1]; exact (List.getElem?_eq_some_iff.1 hb).1
    exact h.2 i cs[i] b (List.getElem?_eq_getElem hlt) hb m Mut w v (hh i cs[i] v (List.getElem?_eq_getElem hlt) hv)

theorem Imp.sl {sz n : Nat} {f g : Nat → AV} (h : ∀ i, i < n → ImpL (f i).cells (g i).cells) : Imp (.sl sz n f) (.sl sz n g) := by
  intro m Mut w v hr
  cases hr with
  | sl _ _ _ b o cap val hn hc hb hm hs hv hh =>
    refine .sl _ _ _ b o cap val hn hc hb hm (fun i hi => by rw [← (h i hi).1]; exact hs i hi) hv fun i j x hi hx => ?_
    have hlt : j < (f i).cells.length := by rw [(h i hi).1]; exact (List.getElem?_eq_some_iff.1 hx).1
    exact (h i hi).2 j _ x (List.getElem?_eq_getElem hlt) hx m Mut w _ (hh i j _ hi (List.getElem?_eq_getElem hlt))
  | sl0 _ _ a cap => exact .sl0 _ _ a cap

theorem Ret.imp {P : Program} {f : FuncId} {args args' : List AV} {h h' : AHeap} {r : AV} (hi : ImpL args args') (hr : Ret P f args' h r h') : Ret P f args h r h' :=
  hr.args fun m Mut w us ha => ⟨hi.1 ▸ ha.1, fun i b v hb hv => by
    have hlt : i < args.length := by rw [hi.1]; exact (List.getElem?_eq_some_iff.1 hb).1
    exact hi.2 i args[i] b (List.getElem?_eq_getElem hlt) hb m Mut w v (ha.2 i args[i] v (List.getElem?_eq_getElem hlt) hv)⟩

section

variable {P : Program}

/-- Slices of structs. -/
theorem imp_structs {D : Type} [Inhabited D] (av : D → AV) {k sz : Nat} {e : TypeId} {ls : List Lf} {n : Nat} {f : Nat → AV} (hf : flat P k e = some ls)
    (hd : ∀ cs, LfFits P ls cs → ∃ d : D, ImpL cs (av d).cells) (h : ∀ i, i < n → Fits P k e (f i).cells) : ∃ g : Nat → D, Imp (.sl sz n f) (.sl sz n fun i => av (g i)) := by
  have each : ∀ i, ∃ d : D, i < n → ImpL (f i).cells (av d).cells := fun i => by
    by_cases hi : i < n
    · obtain ⟨d, hd⟩ := hd _ (flat_fits _ _ _ _ hf (h i hi))
      exact ⟨d, fun _ => hd⟩
    · exact ⟨default, fun h => absurd h hi⟩
  obtain ⟨g, hg⟩ := Classical.axiomOfChoice each
  exact ⟨g, .sl hg⟩

end

theorem le_max {n : Nat} (h : n ≤ maxLen) : n ≤ 9223372036854775807 := by unfold maxLen at h; omega

end Go.Proofs.Ytngpbfocjgikaaa

namespace Go.Proofs.Ytngpbfocjgikaaa

set_option linter.unusedVariables false

set_option linter.unusedSimpArgs false

/-- Objects that are forgotten. -/
def deadL : AHeap → AHeap → Prop
  | [], [] => True
  | x :: xs, y :: ys => (y = x ∨ y = .dead) ∧ deadL xs ys
  | _, _ => False

theorem deadL_get : ∀ (xs ys : AHeap), deadL xs ys → xs.length = ys.length ∧ ∀ (i : Nat) y, ys[i]? = some y → y = .dead ∨ xs[i]? = some y := by
  intro xs
  induction xs with
  | nil => intro ys h; cases ys with
    | nil => exact ⟨rfl, fun i y h => by simp at h⟩
    | cons y ys => exact h.elim
  | cons x xs ih => intro ys h; cases ys with
    | nil => exact h.elim
    | cons y ys =>
      obtain ⟨h1, h2⟩ := ih ys h.2
      refine ⟨by simp [h1], fun i z hz => ?_⟩
      cases i with
      | zero => simp at hz; subst hz; rcases h.1 with e | e
                · subst e; exact .inr rfl
                · exact .inl e
      | succ i => simpa using h2 i z (by simpa using hz)

theorem deadL_sound {m : IdMap} {Mut : Mu} {w : World} {h h' : AHeap} (hd : deadL h h') (H : RelH m Mut h w) : RelH m Mut h' w := by
  obtain ⟨hl, hg⟩ := deadL_get _ _ hd
  refine ⟨fun id o ho => ?_, fun id id' o o' b C C' ho ho' hl1 hl2 hm hm' => ?_, fun id n x hx => hl ▸ H.dom id n x hx, H.lt, fun id o n x ho hl1 hx => ?_⟩
  · rcases hg id o ho with e | e
    · subst e; exact trivial
    · exact H.obj id o e
  · rcases hg id o ho with e | e
    · subst e; cases hl1
    · rcases hg id' o' ho' with e' | e'
      · subst e'; cases hl2
      · exact H.inj id id' o o' b C C' e e' hl1 hl2 hm hm'
  · rcases hg id o ho with e | e
    · subst e; cases hl1
    · exact H.top id o n x e hl1 hx

/-- What a piece of code made is forgotten. -/
inductive PopOk (h h1 : AHeap) (T' : List AV) : AHeap → Prop
  | same : PopOk h h1 T' h1
  | dead (h' : AHeap) (hd : deadL h1 h') : PopOk h h1 T' h'
  | pop (ht : h1.take h.length = h) (hT : ∀ t ∈ T', Low h.length t) : PopOk h h1 T' h
  | popLow (h' : AHeap) (ht : h1.take h.length = h') (hl : h'.length = h.length) (ho : ∀ o ∈ h', o.Low h.length) (hT : ∀ t ∈ T', Low h.length t) : PopOk h h1 T' h'

section

variable {P : Program}

theorem RelT.tup {m : IdMap} {Mut : Mu} {w : World} {T : List AV} {a : Act} (h : RelT m Mut w T a) : RelV m Mut w (.tup T) (.tuple a.tmps) := .tup _ _ h.len h.val

theorem WPC.pop {c : Code} {T : List AV} {h : AHeap} {R Q : Exit → List AV → AHeap → Prop} (hc : WPC P c T h R) (hq : ∀ e T1 h1, R e T1 h1 → ∃ T' h', leT T1 T' ∧ Q e T' h' ∧ PopOk h h1 T' h') : WPC P c T h Q :=
  fun m0 Mut0 w0 m Mut w a E H hT => wp_mono (hc m Mut w m Mut w a (.refl _ _ _) H hT) fun e a1 w1 ⟨m1, Mut1, T1, h1, hr, E1, H1, hT1⟩ => by
    obtain ⟨T', h', hle, hq, hp⟩ := hq e T1 h1 hr
    have hT2 : RelT m1 Mut1 w1 T' a1 := by
      obtain ⟨g1, g2⟩ := leT_spec (m := m1) (Mut := Mut1) (w := w1) T1 T' hle
      refine ⟨by rw [← g1]; exact hT1.len, fun i x v hx hv => ?_, hT1.defers⟩
      rcases g2 i x hx with e | e
      · subst e; exact .any v
      · exact hT1.val i x v e hv
    have fin : ∀ {h' : AHeap}, ExitTo h h1 (.tup T') (.tup T') h' → Q e T' h' → APost Q m0 Mut0 w0 e a1 w1 := fun hx hq => by
      obtain ⟨m', Mut', p1, p2, p3⟩ := exit_sound hx H E1 H1 hT2.tup
      refine ⟨m', Mut', T', _, hq, E.trans p1, p2, ?_⟩
      cases p3 with
      | tup _ _ hl hv => exact ⟨hl, hv, hT1.defers⟩
    cases hp with
    | same => exact ⟨m1, Mut1, T', h1, hq, E.trans E1, H1, hT2⟩
    | dead _ hd => exact ⟨m1, Mut1, T', _, hq, E.trans E1, deadL_sound hd H1, hT2⟩
    | pop ht hTl => exact fin (.pop (.low _ (.tup _ hTl)) ht rfl fun id o ho => .inl ho) hq
    | popLow _ ht hl ho hTl => exact fin (.pop (.low _ (.tup _ hTl)) ht hl fun id o hid => .inr (ho o (List.mem_of_getElem? hid))) hq

variable {σ ο : Type}

def LNextP (Tm : σ → List AV) (Hp : σ → AHeap) (inv : σ → Prop) (mu : σ → Nat) (l : Nat → σ → ο) (n : Nat) (s : σ) (T : List AV) (h : AHeap) : Prop :=
  ∃ s', inv s' ∧ mu s' < mu s ∧ l n s' = l (n + 1) s ∧ T = Tm s' ∧ PopOk (Hp s) h (Tm s') (Hp s')

def LEndP (Hp : σ → AHeap) (l : Nat → σ → ο) (oE : ο → Exit) (oT : ο → List AV) (oH : ο → AHeap) (n : Nat) (s : σ) (e : Exit) (T : List AV) (h : AHeap) : Prop :=
  ∃ o, l (n + 1) s = o ∧ e = oE o ∧ T = oT o ∧ PopOk (Hp s) h (oT o) (oH o)

theorem LNextP.mk {Tm : σ → List AV} {Hp : σ → AHeap} {inv : σ → Prop} {mu : σ → Nat} {l : Nat → σ → ο} {n : Nat} {s : σ} {h : AHeap} (s' : σ) (h1 : inv s') (h2 : mu s' < mu s) (h3 : l n s' = l (n + 1) s) (h4 : PopOk (Hp s) h (Tm s') (Hp s')) : LNextP Tm Hp inv mu l n s (Tm s') h := ⟨s', h1, h2, h3, rfl, h4⟩

theorem LEndP.mk {Hp : σ → AHeap} {l : Nat → σ → ο} {oE : ο → Exit} {oT : ο → List AV} {oH : ο → AHeap} {n : Nat} {s : σ} {hh : AHeap} (o : ο) (h : l (n + 1) s = o) (h4 : PopOk (Hp s) hh (oT o) (oH o)) : LEndP Hp l oE oT oH n s (oE o) (oT o) hh := ⟨o, h, rfl, rfl, h4⟩

def LRoundP (Tm : σ → List AV) (Hp : σ → AHeap) (inv : σ → Prop) (mu : σ → Nat) (l : Nat → σ → ο) (oE : ο → Exit) (oT : ο → List AV) (oH : ο → AHeap) (ks kr kx : List Nat) (n : Nat) (s : σ) : Exit → List AV → AHeap → List Dec → Prop :=
  fun e T h _ => match e with
    | .normal => LNextP Tm Hp inv mu l n s (mask ks T) h
    | .ret => LEndP Hp l oE oT oH n s .ret (mask kr T) h
    | e => LEndP Hp l oE oT oH n s e (mask kx T) h

theorem LoopTo.fuelP (hmix : P.follows .mixedOrders = true) {c : Code} (Tm : σ → List AV) (Hp : σ → AHeap) (inv : σ → Prop) (mu : σ → Nat) (l : Nat → σ → ο) (oE : ο → Exit) (oT : ο → List AV) (oH : ο → AHeap) (ks kr kx : List Nat)
    (round : ∀ n s, inv s → mu s < n + 1 → ∃ ds, run P c (Tm s) (Hp s) ds (LRoundP Tm Hp inv mu l oE oT oH ks kr kx n s)) (n : Nat) (s : σ) (hi : inv s) (hm : mu s < n) : LoopTo P c (Tm s) (Hp s) (oE (l n s)) (oT (l n s)) (oH (l n s)) := by
  refine WPC.loop (fun k T h => ∃ s', inv s' ∧ mu s' < k ∧ l k s' = l n s ∧ T = Tm s' ∧ h = Hp s') (fun k T h ⟨s', hi', hm', hl, hT, hh⟩ => ?_) (n := n) ⟨s, hi, hm, rfl, rfl, rfl⟩
  subst hT; subst hh
  cases k with
  | zero => exact absurd hm' (Nat.not_lt_zero _)
  | succ k =>
    obtain ⟨ds, hr⟩ := round k s' hi' hm'
    refine (run_sound hmix c _ _ ds _ hr).pop fun e2 T2 h2 ⟨ds', hk⟩ => ?_
    cases e2 with
    | normal =>
      obtain ⟨s2, a1, a2, a3, a4, a5⟩ := hk
      exact ⟨_, _, a4 ▸ leT_mask ks T2, ⟨k, Nat.lt_succ_self k, s2, a1, by omega, a3.trans hl, rfl, rfl⟩, a5⟩
    | ret =>
      obtain ⟨o, a1, a2, a3, a4⟩ := hk
      exact ⟨_, _, leT_mask kr T2, ⟨by rw [← hl, a1]; exact a2, by rw [← hl, a1]; exact a3, by rw [← hl, a1]⟩, a3 ▸ a4⟩
    | _ =>
      obtain ⟨o, a1, a2, a3, a4⟩ := hk
      exact ⟨_, _, leT_mask kx T2, ⟨by rw [← hl, a1]; exact a2, by rw [← hl, a1]; exact a3, by rw [← hl, a1]⟩, a3 ▸ a4⟩

end

@[simp] theorem low_ofList1 {lo : Nat} {l : List AV} {i : Nat} (hi : i < l.length) (h : ∀ x ∈ l, Low lo x) : Low lo ((Col.ofList l).get i) = True :=
  eq_true (h _ (List.mem_of_getElem? ((Col.ofList_get l).2 i hi)))

@[simp] theorem low_ofListN {lo n : Nat} {l : List AV} (hn : n ≤ l.length) (h : ∀ x ∈ l, Low lo x) : (∀ i, i < n → Low lo ((Col.ofList l).get i)) = True :=
  eq_true fun i hi => h _ (List.mem_of_getElem? ((Col.ofList_get l).2 i (by omega)))

theorem Imp.tup {cs ds : List AV} (h : ImpL cs ds) : Imp (.tup cs) (.tup ds) := by
  intro m Mut w v hr
  cases hr with
  | tup _ vs hl hh =>
    refine .tup _ vs (h.1 ▸ hl) fun i b v hb hv => ?_
    have hlt : i < cs.length := by rw [h.1]; exact (List.getElem?_eq_some_iff.1 hb).1
    exact h.2 i cs[i] b (List.getElem?_eq_getElem hlt) hb m Mut w v (hh i cs[i] v (List.getElem?_eq_getElem hlt) hv)

theorem zero_bool (n : Nat) : Col.zero (ofV (Value.bool false)) n = .bools (List.replicate n false) := rfl

theorem zero_int (k : IntKind) (n : Nat) : Col.zero (ofV (Value.int k 0)) n = .ints k (List.replicate n 0) := rfl

/-- Which truth value it is, told without putting it in. -/
inductive BoolIs (b : Bool) : Prop
  | true (h : b = true)
  | false (h : b = false)

theorem boolIs (b : Bool) : BoolIs b := by
  cases h : b with
  | true => exact .true rfl
  | false => exact .false rfl

theorem Ret.val {P : Program} {f : FuncId} {args : List AV} {h h' : AHeap} {r r' : AV} (e : r = r') (hr : Ret P f args h r h') : Ret P f args h r' h' := e ▸ hr

@[simp] theorem low_ovar (lo : Nat) (v : AV) : (AObj.var v).Low lo = Low lo v := rfl

@[simp] theorem low_orowi (lo sz n : Nat) (k : IntKind) (xs : List Int) : (AObj.row sz n (.ints k xs)).Low lo = True := eq_true fun _ _ => .int _ _

@[simp] theorem low_orows (lo sz n : Nat) (xs : List ByteArray) : (AObj.row sz n (.strs xs)).Low lo = True := eq_true fun _ _ => .str _

@[simp] theorem low_orowb (lo sz n : Nat) (xs : List Bool) : (AObj.row sz n (.bools xs)).Low lo = True := eq_true fun _ _ => .bool _

@[simp] theorem low_orowr (lo sz n : Nat) (xs : List AV) : (AObj.row sz n (.recs xs)).Low lo = ∀ x ∈ xs, Low lo x := propext ⟨fun h x hx => by
  obtain ⟨i, hi, rfl⟩ := List.mem_iff_getElem.1 hx
  have := h (xs.length - 1 - i) (by simp only [Col.len]; omega)
  simp only [Col.get] at this
  rw [if_pos (by omega), show xs.length - 1 - (xs.length - 1 - i) = i by omega, List.getD_eq_getElem?_getD, List.getElem?_eq_getElem hi] at this
  exact this, fun h i hi => by
  simp only [Col.len] at hi
  simp only [Col.get]
  rw [if_pos hi, List.getD_eq_getElem?_getD, List.getElem?_eq_getElem (by omega)]
  exact h _ (List.getElem_mem _)⟩

@[simp] theorem low_odead (lo : Nat) : AObj.dead.Low lo = True := rfl

@[simp] theorem low_oiter (lo : Nat) (s : ByteArray) (p : Nat) : (AObj.iter s p).Low lo = True := rfl

@[simp] theorem low_ptr (lo id n sz i off : Nat) : Low lo (.ptr id n sz i off) = (id < lo) := propext ⟨fun h => by cases h; assumption, fun h => .ptr _ _ _ _ _ h⟩

@[simp] theorem low_ms (lo id n sz off len : Nat) : Low lo (.ms id n sz off len) = (id < lo) := propext ⟨fun h => by cases h; assumption, fun h => .ms _ _ _ _ _ h⟩

@[simp] theorem low_undef (lo : Nat) : Low lo .undef = True := eq_true .undef

@[simp] theorem low_nilp (lo : Nat) : Low lo .nilp = True := eq_true .nilp

end Go.Proofs.Ytngpbfocjgikaaa

namespace Go.Proofs.Ytngpbfocjgikaaa

set_option linter.unusedVariables false

set_option linter.unusedSimpArgs false

end Go.Proofs.Ytngpbfocjgikaaa

namespace Go.Proofs.Ytngpbfocjgikaaa

set_option linter.unusedVariables false

set_option linter.unusedSimpArgs false

variable {P : Program}

instance : Inhabited MCol := ⟨.sset []⟩

@[simp] theorem low_mp (lo id : Nat) : Low lo (.mp id) = (id < lo) := propext ⟨fun h => by cases h; assumption, .mp id⟩

@[simp] theorem lowO_map (lo : Nat) (c : MCol) : AObj.Low lo (.map c) = True := eq_true trivial

/-- At the end: the result is the row i, of plain data. -/
def RetC (P : Program) (fn : Func) (T : List AV) (h1 : AHeap) (i v sz : Nat) (col : Col) : Prop :=
  match aresL P T h1 fn.results.toList with
  | some ([], vs) => vs = [.ms i v sz 0 col.len] ∧ h1[i]? = some (.row sz v col)
  | _ => False

theorem Ret.of_runC (hmix : P.follows .mixedOrders = true) {f : FuncId} {fn : Func} {c : Code} {args : List AV} (i v sz : Nat) (col : Col) (hf : P.funcs[f]? = some fn) (hb : fn.body = some c) (ds : List Dec) (hargs : ∀ v ∈ args, Low 0 v) (hlow : ∀ j, j < col.len → Low 0 (col.get j))
    (hr : run P c (initT fn args) [] ds fun e T h1 _ => match e with | .normal => RetC P fn T h1 i v sz col | .ret => RetC P fn T h1 i v sz col | _ => False) (h : AHeap) :
    Ret P f args h (.ms h.length v sz 0 col.len) (h ++ [.row sz v col]) := by
  intro m Mut w us H ha
  let Mu1 : Mu := ⟨Mut.im, fun _ => False, fun _ h => h.elim⟩
  have H0 : RelH (cutM m 0) Mu1 [] w :=
    { obj := fun id o ho => by simp at ho
      inj := fun id id' o o' b C C' ho => by simp at ho
      dom := fun id n x hx => by
        unfold cutM at hx
        rw [if_neg (Nat.not_lt_zero _)] at hx
        cases hx
      lt := H.lt
      top := fun id o n x ho => by simp at ho }
  have hargs1 : RelL (cutM m 0) Mu1 w args us := ⟨ha.1, fun i a v hi hv => cut_rel (Mut := Mut) (Mut' := Mu1) (fun b hb => hb) (ha.2 i a v hi hv) (hargs a (List.mem_of_getElem? hi))⟩
  refine calls_of_wp hf hb ?_
  have hT : RelT (cutM m 0) Mu1 w (initT fn args) { tmps := us ++ Array.replicate (fn.ntmps - us.size) Go.undef, defers := [] } := by
    refine ⟨by simp [initT, hargs1.1], fun i x v hx hv => ?_, rfl⟩
    simp only [initT, List.getElem?_append] at hx
    simp only [Array.getElem?_append] at hv
    by_cases hi : i < us.size
    · rw [if_pos (by rw [hargs1.1]; exact hi)] at hx
      rw [if_pos hi] at hv
      exact hargs1.2 i x v hx hv
    · rw [if_neg (by rw [hargs1.1]; exact hi)] at hx
      rw [if_neg hi] at hv
      rw [List.getElem?_replicate] at hx
      rw [Array.getElem?_replicate] at hv
      split at hx
      · split at hv
        · cases hx; cases hv; exact .undef
        · cases hv
      · cases hx
  refine wp_mono (run_sound hmix c _ [] ds _ hr (cutM m 0) Mu1 w (cutM m 0) Mu1 w _ (.refl _ _ _) H0 hT) fun e a w1 ⟨m1, Mut1, T1, h1, ⟨ds', hk⟩, E1, H1, hT1⟩ => ?_
  have fin : RetC P fn T1 h1 i v sz col → a.defers = [] ∧ ∃ u, (results fn a.tmps).run P w1 = .ok u w1 ∧ ∃ x v2 h2 m' Mut', Ending.returned u = .returned x ∧ (v2 = AV.ms h.length v sz 0 col.len ∧ h2 = h ++ [.row sz v col]) ∧ Ext m Mut w m' Mut' w1 ∧ RelH m' Mut' h2 w1 ∧ RelV m' Mut' w1 v2 x := by
    intro hk
    refine ⟨hT1.defers, ?_⟩
    unfold RetC at hk
    split at hk
    · rename_i vs hres
      obtain ⟨hvs, hi⟩ := hk
      subst hvs
      obtain ⟨x, hx, hrx⟩ := results_run (P := P) H1 hT1 hres (fun c hc => by simp at hc)
      have hob : ∀ b, b < w.heap.size → w1.heap[b]? = w.heap[b]? := fun b hlt => E1.block b hlt fun h => h
      have old : ∀ b, Mut1.wr b → w.heap.size ≤ b := fun b hw => by
        by_cases hlt : b < w.heap.size
        · exact absurd hw (E1.nwr b hlt fun h => h)
        · omega
      let m2 : IdMap := fun id n => if id < h.length then m id n else if id = h.length then m1 i n else none
      let Mut2 : Mu := ⟨fun b => (b < w.heap.size ∧ Mut.im b) ∨ (w.heap.size ≤ b ∧ Mut1.im b), fun b => (b < w.heap.size ∧ Mut.wr b) ∨ (w.heap.size ≤ b ∧ Mut1.wr b), fun b hw => hw.imp (fun q => ⟨q.1, Mut.le b q.2⟩) fun q => ⟨q.1, Mut1.le b q.2⟩⟩
      have m2o : ∀ {id n}, id < h.length → m2 id n = m id n := fun hid => if_pos hid
      have m2n : ∀ n, m2 h.length n = m1 i n := fun n => by
        show (if h.length < h.length then _ else _) = _
        rw [if_neg (Nat.lt_irrefl _), if_pos rfl]
      have E2 : Ext m Mut w m2 Mut2 w1 := ⟨E1.os, E1.tape, E1.output, E1.size, fun b hlt _ => hob b hlt,
        fun b hlt hn q => by rcases q with q | q; exact hn q.2; omega,
        fun b hlt hn q => by rcases q with q | q; exact hn q.2; omega,
        fun b hlt hi _ => .inl ⟨hlt, hi⟩,
        fun id n y hy => by rw [m2o (H.dom id n y hy)]; exact hy⟩
      have split : ∀ (id : Nat) (o : AObj), (h ++ [AObj.row sz v col])[id]? = some o → (id < h.length ∧ h[id]? = some o) ∨ (id = h.length ∧ o = .row sz v col) := by
        intro id o ho
        rw [List.getElem?_append] at ho
        by_cases hid : id < h.length
        · rw [if_pos hid] at ho; exact .inl ⟨hid, ho⟩
        · rw [if_neg hid] at ho
          right
          by_cases e : id - h.length = 0
          · rw [e] at ho; cases ho; exact ⟨by omega, rfl⟩
          · obtain ⟨d, hd⟩ : ∃ d, id - h.length = d + 1 := ⟨id - h.length - 1, by omega⟩
            rw [hd] at ho; cases ho
      have hnew : RelO m2 Mut2 w1 h.length (.row sz v col) := by
        rcases H1.obj i _ hi with ⟨q1, q2, y, q3⟩ | ⟨q0, b, o, C, cc, t, q1, q2, q3, q4, q5, q6, q7⟩
        · exact .inl ⟨q1, q2, y, by rw [m2n]; exact q3⟩
        · refine .inr ⟨q0, b, o, C, cc, t, by rw [m2n]; exact q1, .inr ⟨old b q2, q2⟩, q3, q4, q5, q6, fun i' j' a' hi' ha' => ?_⟩
          obtain ⟨u, hu, hru⟩ := q7 i' j' a' hi' ha'
          refine ⟨u, hu, ?_⟩
          have hl : Low 0 a' := (hlow i' hi').cells a' (List.mem_of_getElem? ha')
          have hc := cut_rel (lo := 0) (Mut' := Mut2) (fun b hb => by
            rcases hb with hb | hb
            · exact E1.keep b hb.1 hb.2 fun h => h
            · exact hb.2) hru hl
          exact hc.mono (fun id n y hy => by
            unfold cutM at hy
            rw [if_neg (Nat.not_lt_zero _)] at hy
            cases hy) (Nat.le_refl _) (fun _ _ h => h) (fun _ _ _ => rfl)
      have HH : RelH m2 Mut2 (h ++ [.row sz v col]) w1 :=
        { obj := fun id o ho => by
            rcases split id o ho with ⟨hid, ho⟩ | ⟨rfl, rfl⟩
            · refine (H.obj id o ho).mono E2 fun b C hl hm => ?_
              have hM := (H.obj id o ho).wr hl b C hm
              exact ⟨hob b (H.wr b hM), .inl ⟨H.wr b hM, hM⟩⟩
            · exact hnew
          inj := fun id id' o o' b C C' ho ho' hl hl' hm hm' => by
            rcases split id o ho with ⟨hid, ho1⟩ | ⟨rfl, rfl⟩
            · rw [m2o hid] at hm
              have hbo := H.wr b ((H.obj id o ho1).wr hl b C hm)
              rcases split id' o' ho' with ⟨hid', ho1'⟩ | ⟨rfl, rfl⟩
              · rw [m2o hid'] at hm'
                exact H.inj id id' o o' b C C' ho1 ho1' hl hl' hm hm'
              · rw [m2n] at hm'
                have := old b ((H1.obj i _ hi).wr hl' b C' hm')
                omega
            · rw [m2n] at hm
              have hbn := old b ((H1.obj i _ hi).wr hl b C hm)
              rcases split id' o' ho' with ⟨hid', ho1'⟩ | ⟨rfl, rfl⟩
              · rw [m2o hid'] at hm'
                have := H.wr b ((H.obj id' o' ho1').wr hl' b C' hm')
                omega
              · rfl
          dom := fun id n y hy => by
            rw [List.length_append, List.length_singleton]
            by_cases hid : id < h.length
            · omega
            · by_cases e : id = h.length
              · omega
              · have : m2 id n = none := by
                  show (if id < h.length then _ else _) = _
                  rw [if_neg hid, if_neg e]
                rw [this] at hy; cases hy
          lt := fun b q => by
            rcases q with q | q
            · exact Nat.lt_of_lt_of_le q.1 E1.size
            · exact H1.lt b q.2
          top := fun id o n y ho hact hy => by
            rcases split id o ho with ⟨hid, ho1⟩ | ⟨rfl, rfl⟩
            · rw [m2o hid] at hy; exact H.top id o n y ho1 hact hy
            · rw [m2n] at hy; exact H1.top i _ n y hi rfl hy }
      refine ⟨x, hx, x, _, _, m2, Mut2, rfl, ⟨rfl, rfl⟩, E2, HH, ?_⟩
      generalize hlen : col.len = len at hrx ⊢
      change RelV m1 Mut1 w1 (AV.ms i v sz 0 len) x at hrx
      cases hrx with
      | ms _ _ _ _ _ b o C hm hc => exact .ms _ _ _ _ _ b o C (by rw [m2n]; exact hm) hc
      | ms0 _ _ _ _ b o C y hm => exact .ms0 _ _ _ _ b o C y (by rw [m2n]; exact hm)
    · exact hk.elim
  cases e with
  | normal => exact fin hk
  | ret => exact fin hk
  | _ => exact hk.elim

/-- An empty slice that a call hands back, as a row without a block. -/
theorem Ret.snil_row {f : FuncId} {args : List AV} {h h' : AHeap} (sz : Nat) (c : Col) (hc : c.len = 0) (hr : Ret P f args h .snil h') : Ret P f args h (.ms h'.length 0 sz 0 0) (h' ++ [.row sz 0 c]) := by
  intro m Mut w us H ha
  refine (hr m Mut w us H ha).mono fun e w' hp => ?_
  obtain ⟨x, v, k, m', Mut', rfl, ⟨rfl, rfl⟩, E, H', hv⟩ := hp
  obtain ⟨H2, E2⟩ := H'.virt sz c hc
  refine ⟨x, _, _, _, _, rfl, ⟨rfl, rfl⟩, E.trans E2, H2, ?_⟩
  cases hv with
  | snil a => exact .ms0 _ _ _ _ _ _ _ _ (IdMap.put_same _ _ _ _)

/-- A call with an empty slice: with one that is nil, and with one that is not. -/
theorem Ret.of_sl0 {g : FuncId} {h h' : AHeap} {r : AV} (sz : Nat) (f : Nat → AV) (h1 : Ret P g [.nils] h r h') (h2 : Ret P g [.sne] h r h') : Ret P g [.sl sz 0 f] h r h' := by
  intro m Mut w us H ha
  have hs : us.size = 1 := ha.1.symm
  obtain ⟨u, hu⟩ : ∃ u, us[0]? = some u := ⟨us[0], Array.getElem?_eq_getElem (by omega)⟩
  have hr := ha.2 0 _ u rfl hu
  have one : ∀ v : AV, RelV m Mut w v u → RelL m Mut w [v] us := fun v hv => ⟨hs.symm, fun i a x hi hx => by
    cases i with
    | zero => cases hi; rw [hu] at hx; cases hx; exact hv
    | succ i => cases hi⟩
  generalize hz : (0 : Nat) = z at hr
  cases hr with
  | sl _ _ _ b o cap val hn => omega
  | sl0 _ _ a cap =>
    cases a with
    | none => exact h1 m Mut w us H (one _ (.nils cap))
    | some a => exact h2 m Mut w us H (one _ (.sne a cap))

/-- A whole row of records that was made by appending and setting. -/
theorem frz_gen {D : Type} {id n sz N len : Nat} {f : Nat → AV} {av : D → AV} (G : Nat → D) (hl : len ≤ N) (he : ∀ i, i < len → f i = av (G i)) :
    frz1 id n sz (.gen N f) (.ms id n sz 0 len) (.sl sz len fun i => av (G i)) :=
  .inr ⟨0, len, _, rfl, by simpa [Col.len] using hl, rfl, fun i hi => by
    rw [Nat.zero_add]
    exact (he i hi).symm⟩

def RetW (P : Program) (fn : Func) (h0 h' : AHeap) (T : List AV) (h1 : AHeap) (v : List AV) : Prop :=
  match aresL P T h1 fn.results.toList with
  | some ([], vs) => eqL vs v ∧ h1.take h0.length = h'
  | _ => False

def lowH (n : Nat) : AHeap → AHeap → Prop
  | [], [] => True
  | o :: os, p :: ps => (p = o ∨ p.Low n) ∧ lowH n os ps
  | _, _ => False

theorem lowH_spec {n : Nat} : ∀ (h h' : AHeap), lowH n h h' → h'.length = h.length ∧ ∀ (id : Nat) o, h'[id]? = some o → h[id]? = some o ∨ o.Low n := by
  intro h
  induction h with
  | nil => intro h' hl; cases h' with
    | nil => exact ⟨rfl, fun id o ho => by simp at ho⟩
    | cons p ps => exact hl.elim
  | cons o os ih => intro h' hl; cases h' with
    | nil => exact hl.elim
    | cons p ps =>
      obtain ⟨h1, h2⟩ := hl
      obtain ⟨h3, h4⟩ := ih ps h2
      refine ⟨by simp [h3], fun id q hq => ?_⟩
      cases id with
      | zero => cases hq; rcases h1 with rfl | h1
                · exact .inl rfl
                · exact .inr h1
      | succ id => exact h4 id q hq

theorem Ret.of_runW (hmix : P.follows .mixedOrders = true) {f : FuncId} {fn : Func} {c : Code} {args : List AV} (vs : List AV) (h0 h' : AHeap) (hf : P.funcs[f]? = some fn) (hb : fn.body = some c) (ds : List Dec) (hlow : ∀ v ∈ vs, Low h0.length v) (hlo : lowH h0.length h0 h')
    (hr : run P c (initT fn args) h0 ds fun e T h1 _ => match e with | .normal => RetW P fn h0 h' T h1 vs | .ret => RetW P fn h0 h' T h1 vs | _ => False) : Ret P f args h0 (oneOf vs) h' := by
  obtain ⟨hl1, hl2⟩ := lowH_spec _ _ hlo
  intro m Mut w us H hargs
  refine calls_of_wp hf hb ?_
  have hT : RelT m Mut w (initT fn args) { tmps := us ++ Array.replicate (fn.ntmps - us.size) Go.undef, defers := [] } := by
    refine ⟨by simp [initT, hargs.1], fun i x v hx hv => ?_, rfl⟩
    simp only [initT, List.getElem?_append] at hx
    simp only [Array.getElem?_append] at hv
    by_cases hi : i < us.size
    · rw [if_pos (by rw [hargs.1]; exact hi)] at hx
      rw [if_pos hi] at hv
      exact hargs.2 i x v hx hv
    · rw [if_neg (by rw [hargs.1]; exact hi)] at hx
      rw [if_neg hi] at hv
      rw [List.getElem?_replicate] at hx
      rw [Array.getElem?_replicate] at hv
      split at hx
      · split at hv
        · cases hx; cases hv; exact .undef
        · cases hv
      · cases hx
  refine wp_mono (run_sound hmix c _ h0 ds _ hr m Mut w m Mut w _ (.refl _ _ _) H hT) fun e a w1 ⟨m1, Mut1, T1, h1, ⟨ds', hk⟩, E1, H1, hT1⟩ => ?_
  have fin : RetW P fn h0 h' T1 h1 vs → a.defers = [] ∧ ∃ v, (results fn a.tmps).run P w1 = .ok v w1 ∧ ∃ x v2 h2 m' Mut', Ending.returned v = .returned x ∧ (v2 = oneOf vs ∧ h2 = h') ∧ Ext m Mut w m' Mut' w1 ∧ RelH m' Mut' h2 w1 ∧ RelV m' Mut' w1 v2 x := by
    intro hk
    refine ⟨hT1.defers, ?_⟩
    unfold RetW at hk
    split at hk
    · rename_i xs hres
      obtain ⟨x, hx, hrx⟩ := results_run (P := P) H1 hT1 hres (fun c hc => by simp at hc)
      obtain ⟨k1, k2⟩ := hk
      have := eqL_eq _ _ k1
      subst this
      have hp : Pur h1 h0.length (oneOf xs) (oneOf xs) := by
        refine .low _ ?_
        cases xs with
        | nil => exact .tup _ fun c hc => by simp at hc
        | cons x xs => cases xs with
          | nil => exact hlow x (by simp)
          | cons y ys => exact .tup _ fun c hc => hlow c hc
      obtain ⟨m', Mut', p1, p2, p3⟩ := exit_sound (h := h0) (h' := h') (.pop hp k2 hl1 hl2) H E1 H1 hrx
      exact ⟨x, hx, x, oneOf xs, h', m', Mut', rfl, ⟨rfl, rfl⟩, p1, p2, p3⟩
    · exact hk.elim
  cases e with
  | normal => exact fin hk
  | ret => exact fin hk
  | _ => exact hk.elim

end Go.Proofs.Ytngpbfocjgikaaa
