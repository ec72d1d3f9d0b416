/- When one abstract heap says the same as another: a check by computation. Conditions: none. -/
import Derived.Test.YtjdakdjgkpfjkaaA18
namespace Go.Proofs.Ytjdakdjgkpfjkaa
set_option linter.unusedVariables false
set_option linter.unusedSimpArgs false

def allZ (f : AV → AV → Bool) : List AV → List AV → Bool
  | [], [] => true
  | x :: xs, y :: ys => f x y && allZ f xs ys
  | _, _ => false

def eqv : Nat → AV → AV → Bool
  | 0, _, _ => false
  | k + 1, a, b =>
    match a, b with
    | _, .any => true
    | .undef, .undef => true
    | .int k1 n1, .int k2 n2 => decide (k1 = k2) && decide (n1 = n2)
    | .bool x, .bool y => x == y
    | .str x, .str y => decide (x = y)
    | .agg xs, .agg ys => allZ (eqv k) xs ys
    | .tup xs, .tup ys => allZ (eqv k) xs ys
    | .sl s n f, .sl s' n' f' => decide (s = s') && decide (n = n') && (List.range n).all fun i => allZ (eqv k) (f i).cells (f' i).cells
    | .snil, .snil => true
    | .pp xs, .pp ys => allZ (eqv k) xs ys
    | .ptr a b c d e, .ptr a' b' c' d' e' => decide (a = a') && decide (b = b') && decide (c = c') && decide (d = d') && decide (e = e')
    | .ms a b c d e, .ms a' b' c' d' e' => decide (a = a') && decide (b = b') && decide (c = c') && decide (d = d') && decide (e = e')
    | .mp a, .mp a' => decide (a = a')
    | .fn g xs, .fn g' ys => decide (g = g') && allZ (eqv k) xs ys
    | .nilp, .nilp => true
    | .nilf, .nilf => true
    | .nilm, .nilm => true
    | _, _ => false

section
variable {m : IdMap} {Mut : Mu} {w : World}

theorem allZ_spec {f : AV → AV → Bool} : ∀ (xs ys : List AV), allZ f xs ys = true → xs.length = ys.length ∧ ∀ (i : Nat) (y : AV), ys[i]? = some y → ∃ x, xs[i]? = some x ∧ f x y = true := by
  intro xs
  induction xs with
  | nil => intro ys h; cases ys with
    | nil => exact ⟨rfl, fun i y h => by simp at h⟩
    | cons y ys => cases h
  | cons x xs ih => intro ys h; cases ys with
    | nil => cases h
    | cons y ys =>
      simp only [allZ, Bool.and_eq_true] at h
      obtain ⟨h1, h2⟩ := ih ys h.2
      refine ⟨by simp [h1], fun i z hz => ?_⟩
      cases i with
      | zero => simp at hz; subst hz; exact ⟨x, rfl, h.1⟩
      | succ i => simpa using h2 i z (by simpa using hz)

theorem eqv_sound : ∀ (k : Nat) (a b : AV) (v : Value), eqv k a b = true → RelV m Mut w a v → RelV m Mut w b v := by
  intro k
  induction k with
  | zero => intro a b v h; cases h
  | succ k ih =>
    intro a b v h hr
    unfold eqv at h
    split at h
    · exact .any v
    · exact hr
    · simp only [Bool.and_eq_true, decide_eq_true_eq] at h; obtain ⟨rfl, rfl⟩ := h; exact hr
    · have := eq_of_beq h; subst this; exact hr
    · have := of_decide_eq_true h; subst this; exact hr
    · obtain ⟨h1, h2⟩ := allZ_spec _ _ h
      cases hr with
      | agg _ vs hl hh =>
        exact .agg _ vs (h1 ▸ hl) fun i y v hy hv => by
          obtain ⟨x, hx, e⟩ := h2 i y hy
          exact ih x y v e (hh i x v hx hv)
    · obtain ⟨h1, h2⟩ := allZ_spec _ _ h
      cases hr with
      | tup _ vs hl hh =>
        exact .tup _ vs (h1 ▸ hl) fun i y v hy hv => by
          obtain ⟨x, hx, e⟩ := h2 i y hy
          exact ih x y v e (hh i x v hx hv)
    · rename_i s n f s' n' f'
      simp only [Bool.and_eq_true, decide_eq_true_eq, List.all_eq_true, List.mem_range] at h
      obtain ⟨⟨rfl, rfl⟩, h⟩ := h
      cases hr with
      | sl _ _ _ b o cap val hn hc hb hm hs hv hh =>
        refine .sl _ _ _ b o cap val hn hc hb hm (fun i hi => ?_) hv fun i j y hi hy => ?_
        · rw [← (allZ_spec _ _ (h i hi)).1]; exact hs i hi
        · obtain ⟨x, hx, e⟩ := (allZ_spec _ _ (h i hi)).2 j y hy
          exact ih x y _ e (hh i j x hi hx)
      | sl0 _ _ a cap => exact .sl0 _ _ a cap
    · exact hr
    · obtain ⟨h1, h2⟩ := allZ_spec _ _ h
      cases hr with
      | pp _ b o val hb hm hv hh =>
        exact .pp _ b o val hb hm (fun j hj => hv j (h1 ▸ hj)) fun j y hy => by
          obtain ⟨x, hx, e⟩ := h2 j y hy
          exact ih x y _ e (hh j x hx)
    · simp only [Bool.and_eq_true, decide_eq_true_eq] at h; obtain ⟨⟨⟨⟨rfl, rfl⟩, rfl⟩, rfl⟩, rfl⟩ := h; exact hr
    · simp only [Bool.and_eq_true, decide_eq_true_eq] at h; obtain ⟨⟨⟨⟨rfl, rfl⟩, rfl⟩, rfl⟩, rfl⟩ := h; exact hr
    · have := of_decide_eq_true h; subst this; exact hr
    · simp only [Bool.and_eq_true, decide_eq_true_eq] at h
      obtain ⟨rfl, h⟩ := h
      obtain ⟨h1, h2⟩ := allZ_spec _ _ h
      cases hr with
      | fn _ _ vs hl hh =>
        exact .fn _ _ vs (h1 ▸ hl) fun i y v hy hv => by
          obtain ⟨x, hx, e⟩ := h2 i y hy
          exact ih x y v e (hh i x v hx hv)
    · exact hr
    · exact hr
    · exact hr
    · cases h

def eqvO (k : Nat) : AObj → AObj → Bool
  | .var x, .var y => allZ (eqv k) x.cells y.cells
  | .row s n c, .row s' n' c' => decide (s = s') && decide (n = n') && decide (c.len = c'.len) && (List.range c.len).all fun i => allZ (eqv k) (c.get i).cells (c'.get i).cells
  | .frow s n l f, .frow s' n' l' f' => decide (s = s') && decide (n = n') && decide (l = l') && (List.range l).all fun i => allZ (eqv k) (f i).cells (f' i).cells
  | .iter s p, .iter s' p' => decide (s = s') && decide (p = p')
  | .dead, .dead => true
  | _, _ => false

def eqvH (k : Nat) : AHeap → AHeap → Bool
  | [], [] => true
  | x :: xs, y :: ys => eqvO k x y && eqvH k xs ys
  | _, _ => false

theorem eqvO_same {k : Nat} {a b : AObj} (h : eqvO k a b = true) : a.ver = b.ver ∧ a.live = b.live ∧ a.act = b.act := by
  unfold eqvO at h
  split at h
  · exact ⟨rfl, rfl, rfl⟩
  · simp only [Bool.and_eq_true, decide_eq_true_eq] at h; exact ⟨h.1.1.2, by simp [AObj.live, h.1.1.2], rfl⟩
  · simp only [Bool.and_eq_true, decide_eq_true_eq] at h; exact ⟨h.1.1.2, rfl, rfl⟩
  · exact ⟨rfl, rfl, rfl⟩
  · exact ⟨rfl, rfl, rfl⟩
  · cases h

theorem eqvO_sound {k : Nat} {a b : AObj} {id : Nat} (h : eqvO k a b = true) (hr : RelO m Mut w id a) : RelO m Mut w id b := by
  unfold eqvO at h
  split at h
  · obtain ⟨g1, g2⟩ := allZ_spec _ _ h
    obtain ⟨b, c, t, h1, h2, h3, h4⟩ := hr
    exact ⟨b, c, t, h1, h2, h3, g1 ▸ h4.1, fun i y v hy hv => by
      obtain ⟨x, hx, e⟩ := g2 i y hy
      exact eqv_sound k x y v e (h4.2 i x v hx hv)⟩
  · simp only [Bool.and_eq_true, decide_eq_true_eq, List.all_eq_true, List.mem_range] at h
    obtain ⟨⟨⟨rfl, rfl⟩, hl⟩, h⟩ := h
    rcases hr with ⟨q1, q2, q3⟩ | ⟨q, b, o, C, c, t, h1, h2, h3, h4, h5, h6, h7⟩
    · exact .inl ⟨q1, hl ▸ q2, q3⟩
    refine .inr ⟨q, b, o, C, c, t, h1, h2, h3, h4, hl ▸ h5, fun i hi => ?_, fun i j y hi hy => ?_⟩
    · rw [← (allZ_spec _ _ (h i (hl ▸ hi))).1]; exact h6 i (hl ▸ hi)
    · obtain ⟨x, hx, e⟩ := (allZ_spec _ _ (h i (hl ▸ hi))).2 j y hy
      obtain ⟨v, hv, hrv⟩ := h7 i j x (hl ▸ hi) hx
      exact ⟨v, hv, eqv_sound k x y v e hrv⟩
  · simp only [Bool.and_eq_true, decide_eq_true_eq, List.all_eq_true, List.mem_range] at h
    obtain ⟨⟨⟨rfl, rfl⟩, rfl⟩, h⟩ := h
    rcases hr with q | ⟨b, o, C, c, t, h1, h2, h3, h4, h5, h6, h7⟩
    · exact .inl q
    refine .inr ⟨b, o, C, c, t, h1, h2, h3, h4, h5, fun i hi => ?_, fun i j y hi hy => ?_⟩
    · rw [← (allZ_spec _ _ (h i hi)).1]; exact h6 i hi
    · obtain ⟨x, hx, e⟩ := (allZ_spec _ _ (h i hi)).2 j y hy
      obtain ⟨v, hv, hrv⟩ := h7 i j x hi hx
      exact ⟨v, hv, eqv_sound k x y v e hrv⟩
  · simp only [Bool.and_eq_true, decide_eq_true_eq] at h; obtain ⟨rfl, rfl⟩ := h; exact hr
  · exact hr
  · cases h

theorem eqvH_spec {k : Nat} : ∀ (xs ys : AHeap), eqvH k xs ys = true → xs.length = ys.length ∧ ∀ (i : Nat) (y : AObj), ys[i]? = some y → ∃ x, xs[i]? = some x ∧ eqvO k x y = true := by
  intro xs
  induction xs with
  | nil => intro ys h; cases ys with
    | nil => exact ⟨rfl, fun i y h => by simp at h⟩
    | cons y ys => cases h
  | cons x xs ih => intro ys h; cases ys with
    | nil => cases h
    | cons y ys =>
      simp only [eqvH, Bool.and_eq_true] at h
      obtain ⟨h1, h2⟩ := ih ys h.2
      refine ⟨by simp [h1], fun i z hz => ?_⟩
      cases i with
      | zero => simp at hz; subst hz; exact ⟨x, rfl, h.1⟩
      | succ i => simpa using h2 i z (by simpa using hz)

theorem eqvH_sound {k : Nat} {h h' : AHeap} (he : eqvH k h h' = true) (H : RelH m Mut h w) : RelH m Mut h' w := by
  obtain ⟨g1, g2⟩ := eqvH_spec _ _ he
  refine ⟨fun id o ho => ?_, fun id id' o o' b C C' ho ho' hl hl' hm hm' => ?_, fun id n x hx => g1 ▸ H.dom id n x hx, H.lt, fun id o n x ho hl hx => ?_⟩
  · obtain ⟨a, ha, e⟩ := g2 id o ho
    exact eqvO_sound e (H.obj id a ha)
  · obtain ⟨a, ha, e⟩ := g2 id o ho
    obtain ⟨a', ha', e'⟩ := g2 id' o' ho'
    exact H.inj id id' a a' b C C' ha ha' ((eqvO_same e).2.1.trans hl) ((eqvO_same e').2.1.trans hl') ((eqvO_same e).1 ▸ hm) ((eqvO_same e').1 ▸ hm')
  · obtain ⟨a, ha, e⟩ := g2 id o ho
    rw [← (eqvO_same e).1]
    exact H.top id a n x ha ((eqvO_same e).2.2.trans hl) hx

/-- A contract whose heap behind says the same as the one ahead. -/
theorem Ret.same {P : Program} {f : FuncId} {args : List AV} {h h' : AHeap} {r : AV} {k : Nat} (hr : Ret P f args h r h') (he : eqvH k h' h = true) : Ret P f args h r h := by
  intro m Mut w us H ha
  refine (hr m Mut w us H ha).mono fun e w' ⟨x, v, h2, m', Mut', hx, ⟨hv, hh⟩, E, H', hrx⟩ => ?_
  subst hv; subst hh
  exact ⟨x, v, h, m', Mut', hx, ⟨rfl, rfl⟩, E, eqvH_sound he H', hrx⟩

end
end Go.Proofs.Ytjdakdjgkpfjkaa
