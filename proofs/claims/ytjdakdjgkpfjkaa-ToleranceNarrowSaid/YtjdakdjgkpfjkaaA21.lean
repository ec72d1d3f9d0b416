/- Loops whose rounds are told one by one. Conditions: none. -/
import Derived.Test.YtjdakdjgkpfjkaaA20
namespace Go.Proofs.Ytjdakdjgkpfjkaa
set_option linter.unusedVariables false
set_option linter.unusedSimpArgs false

section
variable {P : Program} {σ ο : Type}

/-- The next round's state. -/
def LNext (Tm : σ → List AV) (Hp : σ → AHeap) (inv : σ → Prop) (mu : σ → Nat) (l : Nat → σ → ο) (n : Nat) (s : σ) (T : List AV) (h : AHeap) : Prop :=
  ∃ s', inv s' ∧ mu s' < mu s ∧ l n s' = l (n + 1) s ∧ T = Tm s' ∧ h = Hp s'

/-- The loop's end. -/
def LEnd (l : Nat → σ → ο) (oE : ο → Exit) (oT : ο → List AV) (oH : ο → AHeap) (n : Nat) (s : σ) (e : Exit) (T : List AV) (h : AHeap) : Prop :=
  ∃ o, l (n + 1) s = o ∧ e = oE o ∧ T = oT o ∧ h = oH o

theorem LNext.mk {Tm : σ → List AV} {Hp : σ → AHeap} {inv : σ → Prop} {mu : σ → Nat} {l : Nat → σ → ο} {n : Nat} {s : σ} (s' : σ) (h1 : inv s') (h2 : mu s' < mu s) (h3 : l n s' = l (n + 1) s) : LNext Tm Hp inv mu l n s (Tm s') (Hp s') := ⟨s', h1, h2, h3, rfl, rfl⟩
theorem LEnd.mk {l : Nat → σ → ο} {oE : ο → Exit} {oT : ο → List AV} {oH : ο → AHeap} {n : Nat} {s : σ} (o : ο) (h : l (n + 1) s = o) : LEnd l oE oT oH n s (oE o) (oT o) (oH o) := ⟨o, h, rfl, rfl, rfl⟩

/-- What a round's end must meet. -/
def LRound (Tm : σ → List AV) (Hp : σ → AHeap) (inv : σ → Prop) (mu : σ → Nat) (l : Nat → σ → ο) (oE : ο → Exit) (oT : ο → List AV) (oH : ο → AHeap) (ks kr kx : List Nat) (n : Nat) (s : σ) : Exit → List AV → AHeap → List Dec → Prop :=
  fun e T h _ => match e with
    | .normal => LNext Tm Hp inv mu l n s (mask ks T) h
    | .ret => LEnd l oE oT oH n s .ret (mask kr T) h
    | e => LEnd l oE oT oH n s e (mask kx T) h

theorem LoopTo.fuel (hmix : P.follows .mixedOrders = true) {c : Code} (Tm : σ → List AV) (Hp : σ → AHeap) (inv : σ → Prop) (mu : σ → Nat) (l : Nat → σ → ο) (oE : ο → Exit) (oT : ο → List AV) (oH : ο → AHeap) (ks kr kx : List Nat)
    (round : ∀ n s, inv s → mu s < n + 1 → ∃ ds, run P c (Tm s) (Hp s) ds (LRound Tm Hp inv mu l oE oT oH ks kr kx n s)) (n : Nat) (s : σ) (hi : inv s) (hm : mu s < n) : LoopTo P c (Tm s) (Hp s) (oE (l n s)) (oT (l n s)) (oH (l n s)) := by
  refine WPC.loop (fun k T h => ∃ s', inv s' ∧ mu s' < k ∧ l k s' = l n s ∧ T = Tm s' ∧ h = Hp s') (fun k T h ⟨s', hi', hm', hl, hT, hh⟩ => ?_) (n := n) ⟨s, hi, hm, rfl, rfl, rfl⟩
  subst hT; subst hh
  cases k with
  | zero => exact absurd hm' (Nat.not_lt_zero _)
  | succ k =>
    obtain ⟨ds, hr⟩ := round k s' hi' hm'
    refine (run_sound hmix c _ _ ds _ hr).post fun e2 T2 h2 ⟨ds', hk⟩ => ?_
    cases e2 with
    | normal =>
      obtain ⟨s2, a1, a2, a3, a4, a5⟩ := hk
      exact ⟨_, a4 ▸ leT_mask ks T2, k, Nat.lt_succ_self k, s2, a1, by omega, a3.trans hl, rfl, a5⟩
    | ret =>
      obtain ⟨o, a1, a2, a3, a4⟩ := hk
      exact ⟨_, leT_mask kr T2, by rw [← hl, a1]; exact a2, by rw [← hl, a1]; exact a3, by rw [← hl, a1]; exact a4⟩
    | _ =>
      obtain ⟨o, a1, a2, a3, a4⟩ := hk
      exact ⟨_, leT_mask kx T2, by rw [← hl, a1]; exact a2, by rw [← hl, a1]; exact a3, by rw [← hl, a1]; exact a4⟩

end

/-! ### What a loop's head must keep -/
def opTmp : Operand → List Nat
  | .tmp t => [t]
  | _ => []
def readsC : Code → List Nat
  | .region _ ops _ => ops.toList.flatMap (looks ops.toList)
  | .cond c x y => opTmp c ++ readsC x ++ readsC y
  | .seq x y => readsC x ++ readsC y
  | .block _ c => readsC c
  | .loop c => readsC c
  | .scope c => readsC c
  | _ => []
def writesC : Code → List Nat
  | .region _ ops _ => ops.toList.filterMap (·.dst)
  | .cond _ x y => writesC x ++ writesC y
  | .seq x y => writesC x ++ writesC y
  | .block _ c => writesC c
  | .loop c => writesC c
  | .scope c => writesC c
  | _ => []
def afterLoop : Code → Nat → List Nat → List Nat ⊕ Nat
  | .seq x y, k, aft => match afterLoop x k (readsC y ++ aft) with
    | .inl l => .inl l
    | .inr k' => afterLoop y k' aft
  | .cond _ x y, k, aft => match afterLoop x k aft with
    | .inl l => .inl l
    | .inr k' => afterLoop y k' aft
  | .block _ c, k, aft => afterLoop c k aft
  | .scope c, k, aft => afterLoop c k aft
  | .loop c, k, aft => match k with
    | 0 => .inl aft
    | k + 1 => afterLoop c k (readsC c ++ aft)
  | _, k, _ => .inr k
def resultTmps (fn : Func) : List Nat := fn.results.toList.flatMap fun | .tmp t => [t] | .cell a _ => [a]
def aftN (fn : Func) (k : Nat) : List Nat := match afterLoop (bodyOf fn) k (resultTmps fn) with | .inl l => l | .inr _ => []
/-- positions that are not among these -/
def others (n : Nat) (l : List Nat) : List Nat := (List.range n).filter fun i => !l.contains i

/-- Temporaries of which only some are told, in their order. -/
def mkTg : Nat → Nat → List (Nat × AV) → List AV
  | _, 0, _ => []
  | i, n + 1, [] => .any :: mkTg (i + 1) n []
  | i, n + 1, (k, v) :: es => match Nat.beq k i with
    | true => v :: mkTg (i + 1) n es
    | false => .any :: mkTg (i + 1) n ((k, v) :: es)
def mkT (n : Nat) (es : List (Nat × AV)) : List AV := mkTg 0 n es

theorem low_mkTg {lo : Nat} : ∀ (n i : Nat) (es : List (Nat × AV)), (∀ e ∈ es, Low lo e.2) → ∀ t ∈ mkTg i n es, Low lo t := by
  intro n
  induction n with
  | zero => intro i es _ t ht; simp [mkTg] at ht
  | succ n ih =>
    intro i es h t ht
    cases es with
    | nil =>
      simp only [mkTg, List.mem_cons] at ht
      rcases ht with rfl | ht
      · exact .any
      · exact ih (i + 1) [] h t ht
    | cons e es =>
      obtain ⟨k, v⟩ := e
      simp only [mkTg] at ht
      split at ht <;> simp only [List.mem_cons] at ht <;> rcases ht with rfl | ht
      · exact h (k, t) (List.mem_cons_self ..)
      · exact ih (i + 1) es (fun e he => h e (List.mem_cons_of_mem _ he)) t ht
      · exact .any
      · exact ih (i + 1) _ h t ht
@[simp] theorem low_mkT {lo n : Nat} {es : List (Nat × AV)} (h : ∀ e ∈ es, Low lo e.2) : (∀ t ∈ mkT n es, Low lo t) = True := eq_true (low_mkTg n 0 es h)

/-! ### Lists handed back -/
def avInts (k : IntKind) (xs : List Int) : AV := .sl 1 xs.length (offGet (.ints k xs) 0)
def avStrs (xs : List ByteArray) : AV := .sl 1 xs.length (offGet (.strs xs) 0)
def avBools (xs : List Bool) : AV := .sl 1 xs.length (offGet (.bools xs) 0)

/-- A row of records, the last one first. -/
def avRecs (sz : Nat) (xs : List AV) : AV := .sl sz xs.length (offGet (.recs xs) 0)
@[simp] theorem low_avRecs (lo sz : Nat) (xs : List AV) : Low lo (avRecs sz xs) = ∀ x ∈ xs, Low lo x := propext ⟨fun h x hx => by
  obtain ⟨i, hi, rfl⟩ := List.mem_iff_getElem.1 hx
  cases h with
  | sl _ _ _ h =>
    have := h (xs.length - 1 - i) (by omega)
    rw [offGet_eq, Nat.zero_add] at this
    simp only [Col.get] at this
    rw [if_pos (by omega), show xs.length - 1 - (xs.length - 1 - i) = i by omega, List.getD_eq_getElem?_getD, List.getElem?_eq_getElem hi] at this
    exact this, fun h => .sl _ _ _ fun i hi => by
  rw [offGet_eq, Nat.zero_add]
  simp only [Col.get]
  rw [if_pos hi, List.getD_eq_getElem?_getD, List.getElem?_eq_getElem (by omega)]
  exact h _ (List.getElem_mem _)⟩

/-- A row of records that grew, read from its first on. -/
def rget {D : Type} [Inhabited D] (L : List D) (i : Nat) : D := L.getD (L.length - 1 - i) default
def recL {D : Type} [Inhabited D] (sz : Nat) (av : D → AV) (L : List D) : AV := .sl sz L.length fun i => av (rget L i)
@[simp] theorem low_recL {D : Type} [Inhabited D] (lo sz : Nat) (av : D → AV) (L : List D) : Low lo (recL sz av L) = ∀ i, i < L.length → Low lo (av (rget L i)) := propext ⟨fun h => by cases h with | sl _ _ _ h => exact h, fun h => .sl _ _ _ h⟩

@[simp] theorem low_avInts (lo : Nat) (k : IntKind) (xs : List Int) : (Low lo (avInts k xs)) = True := eq_true (.sl _ _ _ fun i _ => by rw [offGet_eq]; exact .int _ _)
@[simp] theorem low_avStrs (lo : Nat) (xs : List ByteArray) : (Low lo (avStrs xs)) = True := eq_true (.sl _ _ _ fun i _ => by rw [offGet_eq]; exact .str _)
@[simp] theorem low_avBools (lo : Nat) (xs : List Bool) : (Low lo (avBools xs)) = True := eq_true (.sl _ _ _ fun i _ => by rw [offGet_eq]; exact .bool _)

end Go.Proofs.Ytjdakdjgkpfjkaa
