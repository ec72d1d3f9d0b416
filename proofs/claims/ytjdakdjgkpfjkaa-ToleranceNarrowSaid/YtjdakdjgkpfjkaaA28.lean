/- A contract over a heap that is told, out of a run. Conditions: none. -/
import Derived.Test.YtjdakdjgkpfjkaaA27
namespace Go.Proofs.Ytjdakdjgkpfjkaa
set_option linter.unusedVariables false
set_option linter.unusedSimpArgs false

def eqL : List AV → List AV → Prop
  | [], [] => True
  | x :: xs, v :: vs => x = v ∧ eqL xs vs
  | _, _ => False

theorem eqL_eq : ∀ (xs vs : List AV), eqL xs vs → xs = vs := by
  intro xs
  induction xs with
  | nil => intro vs h; cases vs with
    | nil => rfl
    | cons v vs => exact h.elim
  | cons x xs ih => intro vs h; cases vs with
    | nil => exact h.elim
    | cons v vs => rw [h.1, ih vs h.2]

def RetH (P : Program) (fn : Func) (h0 : AHeap) (T : List AV) (h1 : AHeap) (v : List AV) : Prop :=
  match aresL P T h1 fn.results.toList with
  | some ([], vs) => eqL vs v ∧ h1.take h0.length = h0
  | _ => False

/-- Slices that say the same. -/
def sameL : List AV → List AV → Prop
  | [], [] => True
  | a :: as, b :: bs => (b = a ∨ ∃ sz len f f', a = .sl sz len f ∧ b = .sl sz len f' ∧ ∀ i, i < len → f' i = f i) ∧ sameL as bs
  | _, _ => False

theorem sameL_get : ∀ (as bs : List AV), sameL as bs → as.length = bs.length ∧ ∀ (i : Nat) a b, as[i]? = some a → bs[i]? = some b → (b = a ∨ ∃ sz len f f', a = .sl sz len f ∧ b = .sl sz len f' ∧ ∀ i, i < len → f' i = f i) := by
  intro as
  induction as with
  | nil => intro bs h; cases bs with
    | nil => exact ⟨rfl, fun i a b h => by simp at h⟩
    | cons b bs => exact h.elim
  | cons a as ih => intro bs h; cases bs with
    | nil => exact h.elim
    | cons b bs =>
      obtain ⟨h1, h2⟩ := ih bs h.2
      refine ⟨by simp [h1], fun i x y hx hy => ?_⟩
      cases i with
      | zero => simp at hx hy; subst hx; subst hy; exact h.1
      | succ i => exact h2 i x y (by simpa using hx) (by simpa using hy)

theorem Weak.same {lo : Nat} {vs vs' : List AV} {h : AHeap} (hs : sameL vs vs') : Weak lo vs h vs' h := by
  obtain ⟨hl, hs⟩ := sameL_get vs vs' hs
  intro m Mut w us H hr
  refine ⟨m, Mut, fun _ _ _ _ hx => hx, fun _ hx => hx, fun _ hx => hx, fun _ hx _ => hx, H, ⟨hl ▸ hr.1, fun i a' v ha' hv => ?_⟩⟩
  have hlt : i < vs.length := by rw [hl]; exact (List.getElem?_eq_some_iff.1 ha').1
  have hv1 := hr.2 i _ v (List.getElem?_eq_getElem hlt) hv
  rcases hs i vs[i] a' (List.getElem?_eq_getElem hlt) ha' with e | ⟨sz, len, f, f', e1, e2, e3⟩
  · rw [e]; exact hv1
  · rw [e1] at hv1
    subst e2
    cases hv1 with
    | sl _ _ _ b o cap val hn hc hb hm hs1 hv2 hr2 =>
      exact .sl _ _ _ b o cap val hn hc hb hm (fun i hi => by rw [e3 i hi]; exact hs1 i hi) hv2 (fun i j a hi ha => hr2 i j a hi (by rw [← e3 i hi]; exact ha))
    | sl0 _ _ a cap => exact .sl0 _ _ a cap

theorem same_one {sz : Nat} {f : Nat → AV} {x : AV} (hx : x = f 0) : (AV.sl sz 1 fun _ => x) = .sl sz 1 f ∨ ∃ s len g g', AV.sl sz 1 f = .sl s len g ∧ (AV.sl sz 1 fun _ => x) = .sl s len g' ∧ ∀ i, i < len → g' i = g i :=
  .inr ⟨sz, 1, f, _, rfl, rfl, fun i hi => by
    have e : i = 0 := Nat.lt_one_iff.1 hi
    rw [e]
    exact hx⟩

/-- A literal list of integers. -/
theorem same_ints {k : IntKind} {n : Nat} (xs : List Int) (hn : n = xs.length) {f : Nat → AV} (hf : f = (Col.ofList (xs.map (AV.int k))).get) :
    (AV.sl 1 n fun i => .int k (xs.getD i 0)) = .sl 1 n f ∨ ∃ s len g g', AV.sl 1 n f = .sl s len g ∧ (AV.sl 1 n fun i => .int k (xs.getD i 0)) = .sl s len g' ∧ ∀ i, i < len → g' i = g i := by
  subst hf; subst hn
  refine .inr ⟨1, xs.length, _, _, rfl, rfl, fun i hi => ?_⟩
  have h1 := (Col.ofList_get (xs.map (AV.int k))).2 i (by simp; omega)
  rw [List.getElem?_map, List.getElem?_eq_getElem hi] at h1
  simp only [Option.map_some, Option.some.injEq] at h1
  rw [← h1, List.getD_eq_getElem?_getD, List.getElem?_eq_getElem hi]
  rfl

/-- A literal list of records. -/
theorem same_recs {D : Type} [Inhabited D] {av : D → AV} {sz n : Nat} (ds : List D) (hn : n = ds.length) {f : Nat → AV} (hf : ∀ i, i < n → f i = (ds.map av).getD i .any) :
    (AV.sl sz n fun i => av (ds.getD i default)) = .sl sz n f ∨ ∃ s len g g', AV.sl sz n f = .sl s len g ∧ (AV.sl sz n fun i => av (ds.getD i default)) = .sl s len g' ∧ ∀ i, i < len → g' i = g i := by
  subst hn
  refine .inr ⟨sz, ds.length, _, _, rfl, rfl, fun i hi => ?_⟩
  rw [hf i hi, List.getD_eq_getElem?_getD, List.getD_eq_getElem?_getD, List.getElem?_map, List.getElem?_eq_getElem hi]
  rfl

section
variable {P : Program}

theorem Ret.of_runH (hmix : P.follows .mixedOrders = true) {f : FuncId} {fn : Func} {c : Code} {args : List AV} (vs : List AV) (h0 : AHeap) (hf : P.funcs[f]? = some fn) (hb : fn.body = some c) (ds : List Dec) (hlow : ∀ v ∈ vs, Low h0.length v)
    (hr : run P c (initT fn args) h0 ds fun e T h1 _ => match e with | .normal => RetH P fn h0 T h1 vs | .ret => RetH P fn h0 T h1 vs | _ => False) : Ret P f args h0 (oneOf vs) h0 := by
  intro m Mut w us H hargs
  refine calls_of_wp hf hb ?_
  have hT : RelT m Mut w (initT fn args) { tmps := us ++ Array.replicate (fn.ntmps - us.size) Go.undef, defers := [] } := by
    refine ⟨by simp [initT, hargs.1], fun i x v hx hv => ?_, rfl⟩
    simp only [initT, List.getElem?_append] at hx
    simp only [Array.getElem?_append] at hv
    by_cases hi : i < us.size
    · rw [if_pos (by rw [hargs.1]; exact hi)] at hx
      rw [if_pos hi] at hv
      exact hargs.2 i x v hx hv
    · rw [if_neg (by rw [hargs.1]; exact hi)] at hx
      rw [if_neg hi] at hv
      rw [List.getElem?_replicate] at hx
      rw [Array.getElem?_replicate] at hv
      split at hx
      · split at hv
        · cases hx; cases hv; exact .undef
        · cases hv
      · cases hx
  refine wp_mono (run_sound hmix c _ h0 ds _ hr m Mut w m Mut w _ (.refl _ _ _) H hT) fun e a w1 ⟨m1, Mut1, T1, h1, ⟨ds', hk⟩, E1, H1, hT1⟩ => ?_
  have fin : RetH P fn h0 T1 h1 vs → a.defers = [] ∧ ∃ v, (results fn a.tmps).run P w1 = .ok v w1 ∧ ∃ x v2 h2 m' Mut', Ending.returned v = .returned x ∧ (v2 = oneOf vs ∧ h2 = h0) ∧ Ext m Mut w m' Mut' w1 ∧ RelH m' Mut' h2 w1 ∧ RelV m' Mut' w1 v2 x := by
    intro hk
    refine ⟨hT1.defers, ?_⟩
    unfold RetH at hk
    split at hk
    · rename_i xs hres
      obtain ⟨x, hx, hrx⟩ := results_run (P := P) H1 hT1 hres (fun c hc => by simp at hc)
      obtain ⟨k1, k2⟩ := hk
      have := eqL_eq _ _ k1
      subst this
      have hp : Pur h1 h0.length (oneOf xs) (oneOf xs) := by
        refine .low _ ?_
        cases xs with
        | nil => exact .tup _ fun c hc => by simp at hc
        | cons x xs => cases xs with
          | nil => exact hlow x (by simp)
          | cons y ys => exact .tup _ fun c hc => hlow c hc
      obtain ⟨m', Mut', p1, p2, p3⟩ := exit_sound (h := h0) (h' := h0) (.pop hp k2 rfl fun id o ho => .inl ho) H E1 H1 hrx
      exact ⟨x, hx, x, oneOf xs, h0, m', Mut', rfl, ⟨rfl, rfl⟩, p1, p2, p3⟩
    · exact hk.elim
  cases e with
  | normal => exact fin hk
  | ret => exact fin hk
  | _ => exact hk.elim
end
end Go.Proofs.Ytjdakdjgkpfjkaa
