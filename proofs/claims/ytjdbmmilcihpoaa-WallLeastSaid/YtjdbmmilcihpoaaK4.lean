/- WallLeast: whatever the input, the law hands back true. Conditions: none. -/
import Derived.Test.YtjdbmmilcihpoaaK3

/- Plain laws: what is laid is not less than what Layout finds; where its stones begin. Conditions: none. -/
open Go
namespace Go.Proofs.Ytjdbmmilcihpoaa
set_option linter.unusedVariables false
set_option linter.unusedSimpArgs false
variable {L j l : Int} {n m k : Nat} {f g s : Nat → Int} {xs : List Int}

/-! ### Comparing lists -/
def lessI (s : Nat → Int) : Nat → Nat → List Int → Bool
  | 0, _, [] => false
  | 0, _, _ :: _ => true
  | _ + 1, _, [] => false
  | c + 1, i, y :: R => if s i = y then lessI s c (i + 1) R else decide (s i < y)
def out19 (k : Nat) (n : Nat) : L19a.O → Bool
  | .e0 b => b
  | .e1 => decide ((k : Int) < (n : Int))
theorem L19_run (hk : k ≤ 9223372036854775807) (R : List Int) (hR : R.length ≤ 9223372036854775807) : ∀ q i, i ≤ k → i ≤ R.length → k - i < q → out19 k R.length (L19a.N k s R.length (fun t => R.getD t 0) q (i : Int)) = lessI s (k - i) i (R.drop i) := by
  intro q
  induction q with
  | zero => intro i _ _ h; omega
  | succ q ih =>
    intro i hi hiR hq
    simp only [L19a.N, Int.toNat_natCast]
    by_cases h1 : i < k
    · rw [decide_eq_true (show (i : Int) < (k : Int) by omega), show k - i = (k - (i + 1)) + 1 by omega]
      simp only [cond_true]
      by_cases h2 : i < R.length
      · rw [decide_eq_true (show (i : Int) < (R.length : Int) by omega), wrap_succ (n := k) hk h1, List.drop_eq_getElem_cons h2]
        simp only [cond_true, lessI]
        have e : R.getD i 0 = R[i] := by rw [List.getD_eq_getElem?_getD, List.getElem?_eq_getElem h2]; rfl
        simp only [e]
        by_cases h3 : s i = R[i]
        · rw [if_pos h3, show (s i == R[i]) = true from beq_iff_eq.2 h3]
          exact ih (i + 1) h1 h2 (by omega)
        · rw [if_neg h3, show (s i == R[i]) = false from beq_eq_false_iff_ne.2 h3]
          rfl
      · rw [decide_eq_false (show ¬ (i : Int) < (R.length : Int) by omega), List.drop_eq_nil_of_le (by omega)]
        show decide ((k : Int) < (R.length : Int)) = false
        exact decide_eq_false (by omega)
    · rw [decide_eq_false (by omega), show k - i = 0 by omega]
      show decide ((k : Int) < (R.length : Int)) = _
      by_cases h2 : i < R.length
      · rw [List.drop_eq_getElem_cons h2]
        exact decide_eq_true (by omega)
      · rw [List.drop_eq_nil_of_le (by omega)]
        exact decide_eq_false (by omega)
theorem r19_eq (hk : k ≤ 9223372036854775807) (R : List Int) (hR : R.length ≤ 9223372036854775807) : r19.v k s R.length (fun t => R.getD t 0) = lessI s k 0 R := by
  have := L19_run (s := s) hk R hR (((k : Int) - 0).toNat + 1) 0 (Nat.zero_le _) (Nat.zero_le _) (by omega)
  have e : out19 k R.length (L19a.run k s R.length (fun t => R.getD t 0) 0) = lessI s k 0 R := this
  unfold r19.v
  cases q : L19a.run k s R.length (fun t => R.getD t 0) 0 <;> rw [q] at e <;> exact e

/-! ### What is laid -/
theorem sizes_mono (h : LOk L j l n f m g) : ∀ b a, a < b → b < n → f a < f b := by
  intro b
  induction b with
  | zero => intro a h1; omega
  | succ b ih =>
    intro a h1 h2
    have := h.f3 b h2
    by_cases e : a = b
    · rw [e]; exact this
    · have := ih a (by omega) (by omega); omega
/-- The first good size is the least. -/
theorem fs_le (h : LOk L j l n f m g) (hf : FOk L j l n f m g xs) {t : Nat} (ht : (t : Int) < L) {x : Int} (hx : memB n f x = true) (hg : goX L j l m g xs t x = true) : 0 < xs.getD t 0 ∧ xs.getD t 0 ≤ x := by
  obtain ⟨i, hi, e⟩ := anyN_true.1 hx
  have e := eq_of_beq e
  rw [hf.val t ht]
  rcases fs_cases (goX L j l m g xs t) f n 0 with ⟨_, a2⟩ | ⟨i2, a1, a2, a3, a4, a5⟩
  · rw [← e, a2 i (Nat.zero_le _) (by omega)] at hg; cases hg
  · rw [a3]
    have := h.f1 i2 (by omega)
    refine ⟨by omega, ?_⟩
    rcases Nat.lt_trichotomy i i2 with q | q | q
    · rw [← e, a5 i (Nat.zero_le _) q] at hg; cases hg
    · rw [← q, e]; exact Int.le_refl _
    · have := sizes_mono h i i2 q hi; omega

theorem LayT.inv_last {t : Nat} {R : List Int} (hR : LayT L j l m g xs t R) (h : (t : Int) + xs.getD t 0 = L) (hj : 0 ≤ j) : R = [xs.getD t 0] := by
  cases hR with
  | last _ _ => rfl
  | more _ u R hu hl _ _ _ => omega
theorem LayT.inv_more {t u : Nat} {R : List Int} (hR : LayT L j l m g xs t R) (hu : (u : Int) = (t : Int) + xs.getD t 0 + j) (hl : (u : Int) < L) (hj : 0 ≤ j) : ∃ R', R = xs.getD t 0 :: R' ∧ LayT L j l m g xs u R' := by
  cases hR with
  | last _ h => omega
  | more _ u' R' hu' hl' _ _ hR' =>
    have : u' = u := by omega
    subst this
    exact ⟨R', rfl, hR'⟩

theorem laid_not_less (h : LOk L j l n f m g) (hf : FOk L j l n f m g xs) (hn : n ≤ 9223372036854775807) (hk : k ≤ 9223372036854775807) :
    ∀ q i (t : Nat), i < k → k - i < q → t ≤ 21000 → out13 L (L13a.N L j l n f m g k s q (t : Int) (i : Int)) = true →
      (t : Int) < L ∧ 0 < xs.getD t 0 ∧ ∀ R, LayT L j l m g xs t R → lessI s (k - i) i R = false := by
  have hl1 := h.l1
  have hl2 := h.l2
  have hj1 := h.j1
  have hj2 := h.j2
  intro q
  induction q with
  | zero => intro i t _ h; omega
  | succ q ih =>
    intro i t hi hq ht ho
    simp only [L13a.N, Int.toNat_natCast] at ho
    rw [decide_eq_true (show (i : Int) < k by omega), r35_eq hn, wrap_succ hk hi] at ho
    simp only [cond_true] at ho
    cases hmem : memB n f (s i) with
    | false => rw [hmem] at ho; cases ho
    | true =>
      obtain ⟨x1, x2⟩ := mem_bd h hmem
      rw [hmem] at ho
      simp only [i64_small (x := (t : Int) + s i) (by omega), i64_small (x := (t : Int) + s i + j) (by omega), i64_small (x := L - (t : Int)) (by omega), i64_small (x := (k : Int) - 1) (by omega), cond_true] at ho
      by_cases c : s i > L - (t : Int)
      · rw [decide_eq_true c] at ho; cases ho
      rw [decide_eq_false c] at ho
      simp only [cond_false] at ho
      have htL : (t : Int) < L := by omega
      rw [show k - i = (k - (i + 1)) + 1 by omega]
      -- what follows from a good size
      have core : goX L j l m g xs t (s i) = true → (∀ R, xs.getD t 0 = s i → LayT L j l m g xs t R → lessI s ((k - (i + 1)) + 1) i R = false) →
          (t : Int) < L ∧ 0 < xs.getD t 0 ∧ ∀ R, LayT L j l m g xs t R → lessI s ((k - (i + 1)) + 1) i R = false := fun hg hrest => by
        obtain ⟨p1, p2⟩ := fs_le h hf htL hmem hg
        refine ⟨htL, p1, fun R hR => ?_⟩
        by_cases e : xs.getD t 0 = s i
        · exact hrest R e hR
        · cases hR with
          | last _ _ => simp only [lessI]; rw [if_neg fun q => e q.symm]; exact decide_eq_false (by omega)
          | more _ _ _ _ _ _ _ _ => simp only [lessI]; rw [if_neg fun q => e q.symm]; exact decide_eq_false (by omega)
      by_cases c3 : (i : Int) < (k : Int) - 1
      · rw [decide_eq_true c3] at ho
        simp only [cond_true] at ho
        cases hr : r34.v ((t : Int) + s i) j l m g with
        | false => rw [hr] at ho; cases ho
        | true =>
          rw [hr] at ho
          simp only [cond_true] at ho
          obtain ⟨u, hu⟩ : ∃ u : Nat, (u : Int) = (t : Int) + s i + j := ⟨((t : Int) + s i + j).toNat, by omega⟩
          rw [← hu] at ho
          obtain ⟨q1, q2, q3⟩ := ih (i + 1) u (by omega) (by omega) (by omega) ho
          refine core ?_ fun R e hR => ?_
          · unfold goX
            rw [← hu, decide_eq_true q1, hr, Int.toNat_natCast, decide_eq_true (show xs.getD u 0 > 0 by omega)]; simp
          · obtain ⟨R', rfl, hR'⟩ := hR.inv_more (u := u) (by rw [e]; exact hu) q1 hj1
            simp only [lessI]
            rw [if_pos e.symm]
            exact q3 R' hR'
      · rw [decide_eq_false c3] at ho
        obtain rfl : k = i + 1 := by omega
        have hend : (t : Int) + s i = L := by
          cases q with
          | zero => omega
          | succ q =>
            simp only [cond_false, L13a.N] at ho
            rw [decide_eq_false (show ¬ ((i + 1 : Nat) : Int) < ((i + 1 : Nat) : Int) by omega)] at ho
            exact eq_of_beq ho
        refine core ?_ fun R e hR => ?_
        · unfold goX; rw [decide_eq_true hend]; rfl
        · rw [hR.inv_last (by rw [e]; exact hend) hj1]
          simp only [lessI]
          rw [if_pos e.symm, Nat.sub_self]
          rfl

/-- What Layout finds is laid. -/
theorem lay_laid (h : LOk L j l n f m g) (hf : FOk L j l n f m g xs) (hn : n ≤ 9223372036854775807) (R0 : List Int) (hR0 : R0.length ≤ 9223372036854775807) {t : Nat} {R : List Int} (hR : LayT L j l m g xs t R) :
    ∀ q i, (t : Int) < L → xs.getD t 0 > 0 → R0.drop i = R → R.length < q → out13 L (L13a.N L j l n f m g R0.length (fun i => R0.getD i 0) q (t : Int) (i : Int)) = true := by
  have hl2 := h.l2
  have hj1 := h.j1
  have hj2 := h.j2
  have getR : ∀ i x R', R0.drop i = x :: R' → i < R0.length ∧ R0.getD i 0 = x ∧ R0.drop (i + 1) = R' ∧ R0.length = i + 1 + R'.length := by
    intro i x R' e
    have hi : i < R0.length := by
      by_cases hi : i < R0.length
      · exact hi
      · rw [List.drop_eq_nil_of_le (by omega)] at e; cases e
    rw [List.drop_eq_getElem_cons hi] at e
    injection e with e1 e2
    refine ⟨hi, by rw [List.getD_eq_getElem?_getD, List.getElem?_eq_getElem hi]; exact e1, e2, ?_⟩
    rw [← e2, List.length_drop]; omega
  have szs : ∀ t : Nat, (t : Int) < L → xs.getD t 0 > 0 → memB n f (xs.getD t 0) = true ∧ (t : Int) + xs.getD t 0 ≤ L := by
    intro t ht hx
    rcases hf.step h ht with e | ⟨b1, b2, b3⟩
    · omega
    · constructor
      · rw [hf.val t ht]
        rcases fs_cases (goX L j l m g xs t) f n 0 with ⟨a1, _⟩ | ⟨i, a1, a2, a3, a4, _⟩
        · have := hf.val t ht; omega
        · rw [a3]; exact anyN_true.2 ⟨i, by omega, by simp⟩
      · unfold goX at b3
        simp only [Bool.or_eq_true, Bool.and_eq_true, decide_eq_true_eq] at b3
        rcases b3 with q | ⟨q, _⟩ <;> omega
  induction hR with
  | last t hend =>
    intro q i ht hx e hq
    obtain ⟨g1, g2, g3, g4⟩ := getR i _ _ e
    obtain ⟨s1, s2⟩ := szs t ht hx
    simp only [List.length_nil] at g4
    obtain ⟨q, rfl⟩ : ∃ r, q = r + 1 := ⟨q - 1, by simp only [List.length_cons, List.length_nil] at hq; omega⟩
    simp only [L13a.N, Int.toNat_natCast, g2]
    rw [decide_eq_true (show (i : Int) < R0.length by omega), r35_eq hn, s1, wrap_succ hR0 g1]
    simp only [cond_true, i64_small (x := (t : Int) + xs.getD t 0) (by omega), i64_small (x := L - (t : Int)) (by omega), i64_small (x := (R0.length : Int) - 1) (by omega)]
    rw [decide_eq_false (show ¬ xs.getD t 0 > L - (t : Int) by omega), decide_eq_false (show ¬ (i : Int) < (R0.length : Int) - 1 by omega)]
    simp only [cond_false]
    obtain ⟨q, rfl⟩ : ∃ r, q = r + 1 := ⟨q - 1, by simp only [List.length_cons, List.length_nil] at hq; omega⟩
    simp only [L13a.N]
    rw [decide_eq_false (show ¬ ((i + 1 : Nat) : Int) < (R0.length : Int) by omega)]
    exact beq_iff_eq.2 hend
  | more t u R hu hl hr hx2 hR ih =>
    intro q i ht hx e hq
    obtain ⟨g1, g2, g3, g4⟩ := getR i _ _ e
    obtain ⟨s1, s2⟩ := szs t ht hx
    have hne : 0 < R.length := List.length_pos_iff.2 hR.ne
    simp only [List.length_cons] at hq
    obtain ⟨q, rfl⟩ : ∃ r, q = r + 1 := ⟨q - 1, by omega⟩
    simp only [L13a.N, Int.toNat_natCast, g2]
    rw [decide_eq_true (show (i : Int) < R0.length by omega), r35_eq hn, s1, wrap_succ hR0 g1]
    simp only [cond_true, i64_small (x := (t : Int) + xs.getD t 0) (by omega), i64_small (x := (t : Int) + xs.getD t 0 + j) (by omega), i64_small (x := L - (t : Int)) (by omega), i64_small (x := (R0.length : Int) - 1) (by omega)]
    rw [decide_eq_false (show ¬ xs.getD t 0 > L - (t : Int) by omega), decide_eq_true (show (i : Int) < (R0.length : Int) - 1 by omega), hr]
    simp only [cond_true, cond_false]
    rw [← hu]
    exact ih q (i + 1) hl hx2 g3 (by omega)

/-! ### Where stones may begin -/
inductive RP (L j l : Int) (n : Nat) (f : Nat → Int) (m : Nat) (g : Nat → Int) : Nat → Prop
  | zero : RP L j l n f m g 0
  | step (t u i : Nat) (ht : RP L j l n f m g t) (hi : i < n) (hu : (u : Int) = (t : Int) + f i + j) (hl : (u : Int) < L) (hr : r34.v ((t : Int) + f i) j l m g = true) : RP L j l n f m g u

theorem L18b_run (h : LOk L j l n f m g) (hm : m ≤ 9223372036854775807) {t : Nat} (ht : (t : Int) < L) : ∀ q b (br : List Bool), b ≤ n → n - b < q → br.length = L.toNat →
    ∃ br', L18ab.N L j l n f m g t q (b : Int) br = .e0 br' ∧ br'.length = L.toNat ∧ (∀ u, br.getD u false = true → br'.getD u false = true) ∧ (∀ i u : Nat, b ≤ i → i < n → (u : Int) = (t : Int) + f i + j → (u : Int) < L → r34.v ((t : Int) + f i) j l m g = true → br'.getD u false = true) := by
  have hn := h.n2
  have hj1 := h.j1
  have hj2 := h.j2
  have hl2 := h.l2
  intro q
  induction q with
  | zero => intro b br _ h; omega
  | succ q ih =>
    intro b br hb hq hl
    simp only [L18ab.N, Int.toNat_natCast, Nat.zero_add]
    by_cases hlt : b < n
    · have f1 := h.f1 b hlt
      have f2 := h.f2 b hlt
      simp only [free_same _ hm, i64_small (x := (t : Int) + f b) (by omega), i64_small (x := (t : Int) + f b + j) (by omega)]
      rw [decide_eq_true (show (b : Int) < n by omega), wrap_succ (n := n) (by omega) hlt]
      simp only [cond_true]
      have skip (hno : ¬ ((t : Int) + f b + j < L ∧ r34.v ((t : Int) + f b) j l m g = true)) : ∃ br', L18ab.N L j l n f m g t q ((b + 1 : Nat) : Int) br = .e0 br' ∧ br'.length = L.toNat ∧ (∀ u, br.getD u false = true → br'.getD u false = true) ∧ (∀ i u : Nat, b ≤ i → i < n → (u : Int) = (t : Int) + f i + j → (u : Int) < L → r34.v ((t : Int) + f i) j l m g = true → br'.getD u false = true) := by
        obtain ⟨br', e1, e2, e3, e4⟩ := ih (b + 1) br hlt (by omega) hl
        refine ⟨br', e1, e2, e3, fun i u h1 h2 h3 h4 h5 => ?_⟩
        by_cases e : i = b
        · subst e; exact (hno ⟨by omega, h5⟩).elim
        · exact e4 i u (by omega) h2 h3 h4 h5
      by_cases c1 : (t : Int) + f b + j < L
      · rw [decide_eq_true c1]
        simp only [cond_true]
        cases c2 : r34.v ((t : Int) + f b) j l m g with
        | false => simp only [cond_false]; exact skip fun q => by rw [q.2] at c2; cases c2
        | true =>
          simp only [cond_true]
          have hlt2 : ((t : Int) + f b + j).toNat < br.length := by omega
          obtain ⟨br', e1, e2, e3, e4⟩ := ih (b + 1) (br.set ((t : Int) + f b + j).toNat true) hlt (by omega) (by rw [List.length_set]; exact hl)
          refine ⟨br', e1, e2, fun u hu => e3 u ?_, fun i u h1 h2 h3 h4 h5 => ?_⟩
          · rw [bgetD_set hlt2]; split
            · rfl
            · exact hu
          · by_cases e : i = b
            · subst e
              exact e3 u (by rw [bgetD_set hlt2, if_pos (by omega)])
            · exact e4 i u (by omega) h2 h3 h4 h5
      · rw [decide_eq_false c1]
        simp only [cond_false]
        exact skip fun q => c1 q.1
    · rw [decide_eq_false (by omega)]
      exact ⟨br, rfl, hl, fun _ h => h, fun i u h1 h2 => by omega⟩

theorem L18_run (h : LOk L j l n f m g) (hm : m ≤ 9223372036854775807) : ∀ (q a v : Nat) (al : List Int) (ar : List Bool), (a : Int) ≤ L → L - a < q → ar.length = L.toNat → (∀ t : Nat, RP L j l n f m g t → t < a → (t : Int) ∈ al) →
    (∀ u : Nat, a ≤ u → (u : Int) < L → (u = 0 ∨ ∃ t i : Nat, t < a ∧ RP L j l n f m g t ∧ i < n ∧ (u : Int) = (t : Int) + f i + j ∧ r34.v ((t : Int) + f i) j l m g = true) → ar.getD u false = true) →
    ∃ v' al' ar', L18a.N L j l n f m g q v al (a : Int) ar = .e0 v' al' ar' ∧ ∀ t : Nat, RP L j l n f m g t → (t : Int) < L → (t : Int) ∈ al' := by
  have hl2 := h.l2
  have hj1 := h.j1
  intro q
  induction q with
  | zero => intro a v al ar _ h; omega
  | succ q ih =>
    intro a v al ar ha hq hl h1 h2
    simp only [L18a.N, Int.toNat_natCast, Nat.zero_add]
    by_cases hlt : (a : Int) < L
    · rw [decide_eq_true hlt, wrap_succ (n := L.toNat) (by omega) (by omega)]
      simp only [cond_true]
      have isset : RP L j l n f m g a → ar.getD a false = true := fun hr => h2 a (Nat.le_refl _) hlt (by
        cases hr with
        | zero => exact .inl rfl
        | step t _ i ht hi hu hl hr =>
          have := h.f1 i hi
          exact .inr ⟨t, i, by omega, ht, hi, hu, hr⟩)
      cases hb : ar.getD a false with
      | true =>
        simp only [cond_true]
        obtain ⟨br', e1, e2, e3, e4⟩ := L18b_run h hm hlt (((n : Int) - 0).toNat + 1) 0 ar (Nat.zero_le _) (by omega) hl
        have e : L18ab.run L j l n f m g (a : Int) 0 ar = .e0 br' := e1
        rw [e]
        refine ih (a + 1) (v + 1) (al ++ [(a : Int)]) br' (by omega) (by omega) e2 (fun t ht hta => ?_) (fun u hu1 hu2 hu3 => ?_)
        · by_cases e5 : t = a
          · subst e5; simp
          · exact List.mem_append_left _ (h1 t ht (by omega))
        · rcases hu3 with rfl | ⟨t, i, t1, t2, t3, t4, t5⟩
          · omega
          · by_cases e5 : t = a
            · subst e5; exact e4 i u (Nat.zero_le _) t3 t4 hu2 t5
            · exact e3 u (h2 u (by omega) hu2 (.inr ⟨t, i, by omega, t2, t3, t4, t5⟩))
      | false =>
        simp only [cond_false]
        have hno : ¬ RP L j l n f m g a := fun hr => by rw [isset hr] at hb; cases hb
        refine ih (a + 1) v al ar (by omega) (by omega) hl (fun t ht hta => ?_) (fun u hu1 hu2 hu3 => ?_)
        · by_cases e5 : t = a
          · subst e5; exact (hno ht).elim
          · exact h1 t ht (by omega)
        · rcases hu3 with rfl | ⟨t, i, t1, t2, t3, t4, t5⟩
          · omega
          · by_cases e5 : t = a
            · subst e5; exact (hno t2).elim
            · exact h2 u (by omega) hu2 (.inr ⟨t, i, by omega, t2, t3, t4, t5⟩)
    · rw [decide_eq_false hlt]
      exact ⟨v, al, ar, rfl, fun t ht htl => h1 t ht (by omega)⟩

theorem reach_mem (h : LOk L j l n f m g) (hm : m ≤ 9223372036854775807) {t : Nat} (ht : RP L j l n f m g t) (hl : (t : Int) < L) : (t : Int) ∈ r18.v L j l n f m g := by
  have hl1 := h.l1
  obtain ⟨v', al', ar', e, hmem⟩ := L18_run h hm ((L - 0).toNat + 1) 0 0 [] ((List.replicate L.toNat false).set 0 true) (by omega) (by omega) (by simp) (fun t _ h => by omega) (fun u _ hu hc => by
    rcases hc with rfl | ⟨t, i, t1, _⟩
    · rw [bgetD_set (by rw [List.length_replicate]; omega), if_pos rfl]
    · omega)
  have e' : L18a.run L j l n f m g 0 [] 0 ((List.replicate L.toNat false).set 0 true) = .e0 v' al' ar' := e
  unfold r18.v
  rw [e']
  exact hmem t ht hl

/-! ### The search in Reach -/
theorem L4b_run (L j l : Int) (n : Nat) (f : Nat → Int) (m : Nat) (g : Nat → Int) (a : Int) (hlen : (r12.v0 L j l n f m g).length ≤ 9223372036854775807) : ∀ q i b, i ≤ (r12.v0 L j l n f m g).length → (r12.v0 L j l n f m g).length - i < q →
    (b = true ∨ ∃ t, i ≤ t ∧ t < (r12.v0 L j l n f m g).length ∧ (r12.v0 L j l n f m g).getD t 0 = a) → L4ab.N L j l n f m g a q b (i : Int) = .e0 true := by
  intro q
  induction q with
  | zero => intro i b _ h; omega
  | succ q ih =>
    intro i b hi hq hb
    simp only [L4ab.N, Int.toNat_natCast]
    by_cases h : i < (r12.v0 L j l n f m g).length
    · rw [decide_eq_true (show (i : Int) < ((r12.v0 L j l n f m g).length : Int) by omega), wrap_succ hlen h]
      simp only [cond_true]
      cases b with
      | true => exact ih (i + 1) true h (by omega) (.inl rfl)
      | false =>
        simp only [cond_false]
        rcases hb with hb | ⟨t, t1, t2, t3⟩
        · cases hb
        · refine ih (i + 1) _ h (by omega) ?_
          by_cases e : t = i
          · subst e; exact .inl (beq_iff_eq.2 t3)
          · exact .inr ⟨t, by omega, t2, t3⟩
    · rw [decide_eq_false (by omega)]
      rcases hb with rfl | ⟨t, t1, t2, t3⟩
      · rfl
      · omega
theorem L4b_mem {a : Int} (hlen : (r12.v0 L j l n f m g).length ≤ 9223372036854775807) (hm : a ∈ r12.v0 L j l n f m g) : L4ab.run L j l n f m g a false 0 = .e0 true := by
  obtain ⟨t, ht, e⟩ := List.mem_iff_getElem.1 hm
  have := L4b_run L j l n f m g a hlen ((((r12.v0 L j l n f m g).length : Int) - 0).toNat + 1) 0 false (Nat.zero_le _) (by omega) (.inr ⟨t, Nat.zero_le _, ht, by rw [List.getD_eq_getElem?_getD, List.getElem?_eq_getElem ht]; exact e⟩)
  exact this
def o4x : L4axb.O → L4ab.O
  | .e0 b => .e0 b
theorem L4xb_same {a : Int} {c : Bool} : ∀ q b i, L4axb.N L j l n f m g a q b i = .e0 c ↔ L4ab.N L j l n f m g a q b i = .e0 c := by
  intro q
  induction q with
  | zero => intro b i; constructor <;> (intro h; cases h; rfl)
  | succ q ih =>
    intro b i
    simp only [L4axb.N, L4ab.N]
    cases decide (i < ((r12.v0 L j l n f m g).length : Int)) with
    | false => constructor <;> (intro h; cases h; rfl)
    | true =>
      simp only [cond_true]
      cases b with
      | true => exact ih _ _
      | false => exact ih _ _
end Go.Proofs.Ytjdbmmilcihpoaa

/- The law of the least layout, in plain words. Conditions: none. -/
open Go
namespace Go.Proofs.Ytjdbmmilcihpoaa
set_option linter.unusedVariables false
set_option linter.unusedSimpArgs false
variable {L j l : Int} {n m k : Nat} {f g s : Nat → Int} {xs : List Int}

theorem L4a_run (h : LOk L j l n f m g) (hm : m ≤ 9223372036854775807) (hf : FOk L j l n f m g xs) (hz : (r32.v L j l n f m g == 0) = true) (hn : n ≤ 9223372036854775807) (R0 : List Int) (e0 : r11.v0 L j l n f m g = R0) (hR0 : R0.length ≤ 20001) {t : Nat} {R : List Int} (hR : LayT L j l m g xs t R) :
    ∀ q i, (t : Int) < L → xs.getD t 0 > 0 → RP L j l n f m g t → R0.drop i = R → R.length < q → L4a.N L j l n f m g q (t : Int) (i : Int) = .e1 := by
  have hl2 := h.l2
  have hj1 := h.j1
  have hj2 := h.j2
  have hlen := (lens_ok hn hm hz).2.2.1
  have e12 := (reach_same hn hm hz).1
  have getR : ∀ i x R', R0.drop i = x :: R' → i < R0.length ∧ R0.getD i 0 = x ∧ R0.drop (i + 1) = R' ∧ R0.length = i + 1 + R'.length := by
    intro i x R' e
    have hi : i < R0.length := by
      by_cases hi : i < R0.length
      · exact hi
      · rw [List.drop_eq_nil_of_le (by omega)] at e; cases e
    rw [List.drop_eq_getElem_cons hi] at e
    injection e with e1 e2
    refine ⟨hi, by rw [List.getD_eq_getElem?_getD, List.getElem?_eq_getElem hi]; exact e1, e2, ?_⟩
    rw [← e2, List.length_drop]; omega
  have step : ∀ t : Nat, (t : Int) < L → RP L j l n f m g t → L4ab.run L j l n f m g (t : Int) false 0 = .e0 true := fun t ht hrp =>
    L4b_mem (by omega) (by rw [e12]; exact reach_mem h hm hrp ht)
  induction hR with
  | last t hend =>
    intro q i ht hx hrp e hq
    obtain ⟨g1, g2, g3, g4⟩ := getR i _ _ e
    simp only [List.length_nil] at g4
    obtain ⟨q, rfl⟩ : ∃ r, q = r + 1 := ⟨q - 1, by simp only [List.length_cons, List.length_nil] at hq; omega⟩
    simp only [L4a.N, Int.toNat_natCast, e0, g2, step t ht hrp]
    rw [decide_eq_true (show (i : Int) < R0.length by omega), wrap_succ (n := R0.length) (by omega) g1]
    simp only [cond_true]
    obtain ⟨q, rfl⟩ : ∃ r, q = r + 1 := ⟨q - 1, by simp only [List.length_cons, List.length_nil] at hq; omega⟩
    simp only [L4a.N, e0]
    rw [decide_eq_false (show ¬ ((i + 1 : Nat) : Int) < (R0.length : Int) by omega)]
    rfl
  | more t u R hu hl hr hx2 hR ih =>
    intro q i ht hx hrp e hq
    obtain ⟨g1, g2, g3, g4⟩ := getR i _ _ e
    simp only [List.length_cons] at hq
    obtain ⟨q, rfl⟩ : ∃ r, q = r + 1 := ⟨q - 1, by omega⟩
    have hsz : xs.getD t 0 ≤ 20000 := by rcases hf.step h ht with e | ⟨_, b, _⟩ <;> omega
    simp only [L4a.N, Int.toNat_natCast, e0, g2, step t ht hrp]
    rw [decide_eq_true (show (i : Int) < R0.length by omega), wrap_succ (n := R0.length) (by omega) g1, i64_small (x := xs.getD t 0 + j) (by omega), i64_small (x := (t : Int) + (xs.getD t 0 + j)) (by omega), show (t : Int) + (xs.getD t 0 + j) = (u : Int) by omega]
    simp only [cond_true]
    refine ih q (i + 1) hl hx2 ?_ g3 (by omega)
    have hv := hf.val t ht
    rcases fs_cases (goX L j l m g xs t) f n 0 with ⟨a1, _⟩ | ⟨i2, a1, a2, a3, a4, _⟩
    · omega
    · have e2 : xs.getD t 0 = f i2 := hv.trans a3
      exact .step t u i2 hrp (by omega) (by rw [← e2]; exact hu) hl (by rw [← e2]; exact hr)
theorem L4xb_mem {a : Int} (hlen : (r12.v0 L j l n f m g).length ≤ 9223372036854775807) (hm : a ∈ r12.v0 L j l n f m g) : L4axb.run L j l n f m g a false 0 = .e0 true :=
  (L4xb_same (a := a) (c := true) _ _ _).2 (L4b_mem hlen hm)
theorem L4ax_run (h : LOk L j l n f m g) (hm : m ≤ 9223372036854775807) (hf : FOk L j l n f m g xs) (hz : (r32.v L j l n f m g == 0) = true) (hn : n ≤ 9223372036854775807) (R0 : List Int) (e0 : r11.v0 L j l n f m g = R0) (hR0 : R0.length ≤ 20001) {t : Nat} {R : List Int} (hR : LayT L j l m g xs t R) :
    ∀ q i, (t : Int) < L → xs.getD t 0 > 0 → RP L j l n f m g t → R0.drop i = R → R.length < q → L4ax.N L j l n f m g q (t : Int) (i : Int) = .e1 := by
  have hl2 := h.l2
  have hj1 := h.j1
  have hj2 := h.j2
  have hlen := (lens_ok hn hm hz).2.2.1
  have e12 := (reach_same hn hm hz).1
  have getR : ∀ i x R', R0.drop i = x :: R' → i < R0.length ∧ R0.getD i 0 = x ∧ R0.drop (i + 1) = R' ∧ R0.length = i + 1 + R'.length := by
    intro i x R' e
    have hi : i < R0.length := by
      by_cases hi : i < R0.length
      · exact hi
      · rw [List.drop_eq_nil_of_le (by omega)] at e; cases e
    rw [List.drop_eq_getElem_cons hi] at e
    injection e with e1 e2
    refine ⟨hi, by rw [List.getD_eq_getElem?_getD, List.getElem?_eq_getElem hi]; exact e1, e2, ?_⟩
    rw [← e2, List.length_drop]; omega
  have step : ∀ t : Nat, (t : Int) < L → RP L j l n f m g t → L4axb.run L j l n f m g (t : Int) false 0 = .e0 true := fun t ht hrp =>
    L4xb_mem (by omega) (by rw [e12]; exact reach_mem h hm hrp ht)
  induction hR with
  | last t hend =>
    intro q i ht hx hrp e hq
    obtain ⟨g1, g2, g3, g4⟩ := getR i _ _ e
    simp only [List.length_nil] at g4
    obtain ⟨q, rfl⟩ : ∃ r, q = r + 1 := ⟨q - 1, by simp only [List.length_cons, List.length_nil] at hq; omega⟩
    simp only [L4ax.N, Int.toNat_natCast, e0, g2, step t ht hrp]
    rw [decide_eq_true (show (i : Int) < R0.length by omega), wrap_succ (n := R0.length) (by omega) g1]
    simp only [cond_true]
    obtain ⟨q, rfl⟩ : ∃ r, q = r + 1 := ⟨q - 1, by simp only [List.length_cons, List.length_nil] at hq; omega⟩
    simp only [L4ax.N, e0]
    rw [decide_eq_false (show ¬ ((i + 1 : Nat) : Int) < (R0.length : Int) by omega)]
    rfl
  | more t u R hu hl hr hx2 hR ih =>
    intro q i ht hx hrp e hq
    obtain ⟨g1, g2, g3, g4⟩ := getR i _ _ e
    simp only [List.length_cons] at hq
    obtain ⟨q, rfl⟩ : ∃ r, q = r + 1 := ⟨q - 1, by omega⟩
    have hsz : xs.getD t 0 ≤ 20000 := by rcases hf.step h ht with e | ⟨_, b, _⟩ <;> omega
    simp only [L4ax.N, Int.toNat_natCast, e0, g2, step t ht hrp]
    rw [decide_eq_true (show (i : Int) < R0.length by omega), wrap_succ (n := R0.length) (by omega) g1, i64_small (x := xs.getD t 0 + j) (by omega), i64_small (x := (t : Int) + (xs.getD t 0 + j)) (by omega), show (t : Int) + (xs.getD t 0 + j) = (u : Int) by omega]
    simp only [cond_true]
    refine ih q (i + 1) hl hx2 ?_ g3 (by omega)
    have hv := hf.val t ht
    rcases fs_cases (goX L j l m g xs t) f n 0 with ⟨a1, _⟩ | ⟨i2, a1, a2, a3, a4, _⟩
    · omega
    · have e2 : xs.getD t 0 = f i2 := hv.trans a3
      exact .step t u i2 hrp (by omega) (by rw [← e2]; exact hu) hl (by rw [← e2]; exact hr)

theorem laid_out (hz : (r32.v L j l n f m g == 0) = true) (h : r13.v L j l n f m g k s = true) : 0 < k ∧ out13 L (L13a.N L j l n f m g k s ((((k : Int) - 0).toNat) + 1) ((0 : Nat) : Int) ((0 : Nat) : Int)) = true := by
  unfold r13.v at h
  rw [hz] at h
  simp only [cond_true] at h
  cases h0 : (k : Int) == 0 with
  | true => rw [h0] at h; cases h
  | false =>
    rw [h0] at h
    have : (k : Int) ≠ 0 := ne_of_beq_false h0
    refine ⟨by omega, ?_⟩
    show out13 L (L13a.run L j l n f m g k s 0 0) = true
    simp only [cond_false] at h
    cases q : L13a.run L j l n f m g k s 0 0 <;> rw [q] at h <;> exact h

theorem r4_true (hn : n ≤ 9223372036854775807) (hm : m ≤ 9223372036854775807) (hk : k ≤ 9223372036854775807) : r4.v L j l n f m g k s = true := by
  unfold r4.v
  cases r10.v L n m with
  | false => rfl
  | true =>
    cases decide ((k : Int) > 40) with
    | true => rfl
    | false =>
      simp only [cond_true, cond_false]
      cases hz : (r32.v L j l n f m g == 0) with
      | false =>
        have e1 : r11.v1 L j l n f m g = r32.v L j l n f m g := by unfold r11.v1; rw [hz]; rfl
        have e2 : r11.v0 L j l n f m g = [] := by unfold r11.v0; rw [hz]; rfl
        have e3 : r13.v L j l n f m g k s = false := by unfold r13.v; rw [hz]; rfl
        rw [e1, hz, e2, e3]; rfl
      | true =>
        have hl := lens_ok hn hm hz
        obtain ⟨p1, p2⟩ := reach_same hn hm hz
        obtain ⟨xs, hf, h, hc⟩ := layout_cases hn hm hz
        have hl1 := h.l1
        have less : r13.v L j l n f m g k s = true → 0 < xs.getD 0 0 ∧ ∀ R, LayT L j l m g xs 0 R → lessI s k 0 R = false := fun ht => by
          obtain ⟨k0, ho⟩ := laid_out hz ht
          obtain ⟨_, q1, q2⟩ := laid_not_less h hf hn hk _ 0 0 k0 (by omega) (by omega) ho
          exact ⟨q1, q2⟩
        rcases hc with ⟨hx, a1, a2, a3⟩ | ⟨hx, R, hR, a1, a2, a3⟩
        · rw [a1, a2]
          cases hs : r13.v L j l n f m g k s with
          | false => rfl
          | true => have := (less hs).1; omega
        · have hlR : R.length ≤ 20001 := by have := hl.1; rwa [a1] at this
          have hne : 0 < R.length := List.length_pos_iff.2 hR.ne
          have r1 : r13.v L j l n f m g R.length (fun i => R.getD i 0) = true := by
            have := lay_laid h hf hn R (by omega) hR ((((R.length : Nat) : Int) - 0).toNat + 1) 0 (by omega) hx rfl (by omega)
            have e1 : out13 L (L13a.run L j l n f m g R.length (fun i => R.getD i 0) 0 0) = true := this
            unfold r13.v
            rw [hz, show ((R.length : Int) == 0) = false from beq_eq_false_iff_ne.2 (by omega)]
            simp only [cond_true, cond_false]
            cases q : L13a.run L j l n f m g R.length (fun i => R.getD i 0) 0 0 <;> rw [q] at e1 <;> exact e1
          have r2 : L4a.run L j l n f m g 0 0 = .e1 := by
            have := L4a_run h hm hf hz hn R a1 hlR hR ((((r11.v0 L j l n f m g).length : Int) - 0).toNat + 1) 0 (by omega) hx .zero rfl (by rw [a1]; omega)
            exact this
          have r3 : L4ax.run L j l n f m g 0 0 = .e1 := by
            have := L4ax_run h hm hf hz hn R a1 hlR hR ((((r11.v0 L j l n f m g).length : Int) - 0).toNat + 1) 0 (by omega) hx .zero rfl (by rw [a1]; omega)
            exact this
          rw [r2, r3, a1, a2, p2, r1]
          cases hs : r13.v L j l n f m g k s with
          | false => rfl
          | true =>
            rw [r19_eq hk R (by omega), (less hs).2 R hR]
            rfl
end Go.Proofs.Ytjdbmmilcihpoaa

/- WallLeast: whatever the input, the law hands back true. Conditions: none. -/
open Go
namespace Go.Proofs.Ytjdbmmilcihpoaa
open Go.ChangeShapes Go.WideShapes Go.ChangeAt Go.RowKit

set_option maxRecDepth 100000 in
theorem law4 (xs : List AV) (h : FitsA Try.prog 5 [3, 3, 3, 22, 22, 22] xs) : Ret Try.prog 4 xs [] (.bool true) [] := by
  obtain ⟨x0, x1, x2, x3, x4, x5, rfl, h0, h1, h2, h3, h4, h5⟩ := fitsA6 h
  obtain ⟨u0, rfl⟩ := arg_int h0
  obtain ⟨u1, rfl⟩ := arg_int h1
  obtain ⟨u2, rfl⟩ := arg_int h2
  obtain ⟨m3, f3, hm3, i3⟩ := arg_ints h3
  obtain ⟨m4, f4, hm4, i4⟩ := arg_ints h4
  obtain ⟨m5, f5, hm5, i5⟩ := arg_ints h5
  have := r4 u0 u1 u2 m3 f3 hm3 m4 f4 hm4 m5 f5 hm5 []
  rw [r4_true hm3 hm4 hm5] at this
  exact this.imp (.cons (.refl _) (.cons (.refl _) (.cons (.refl _) (.cons i3 (.cons i4 (.cons i5 .nil))))))

set_option maxRecDepth 100000 in
theorem wallLeast_lifted (os : Os) (started : os.Started) (H : Type) (enc : TypeId × Value → H) :
    ReturnsInHanded {} Try.checked os 4 .any (Rows.wallLeastSpec.pre6 enc Try.prog Try.f4 Rows.wallLeastRow.domain false) (Rows.wallLeastSpec.post enc Try.prog Try.f4 false true false false) :=
  lifted (C := Try.checked) 5 own started (by kernel_rfl) Try.func4
    (ChangeSpec.witness6 (enc := enc) (C := Try.checked) false ⟨#[], #[.int .i64 0, .int .i64 0, .int .i64 0, .slice none 0 0, .slice none 0 0, .slice none 0 0], []⟩ 8 (by kernel_rfl) (by kernel_rfl) (by kernel_rfl) (by kernel_rfl))
    rfl (fun ds hd => by
      match ds, hd with
      | [_, _, _, _, _, _], _ => rfl) (rt := 4) (by kernel_rfl) (by kernel_rfl) laidOut (by kernel_rfl) law4

theorem wallLeast_holds : Rows.WallLeastSaid :=
  OpenClaim.holds_of_wide 4 Try.f4 rfl rfl rfl rfl rfl rfl rfl ⟨rfl, rfl, rfl, rfl, rfl⟩ rfl rfl rfl rfl rfl (by kernel_rfl) Try.func4 (by kernel_rfl)
    (of_decide_eq_true (by kernel_rfl)) (by unfold Func.isWrapper; first | (rw [if_pos (by decide +kernel)]; kernel_rfl) | (rw [if_neg (by decide +kernel)]; exact ⟨rfl, rfl⟩))
    (fun os started H enc _ => wallLeast_lifted os started H enc)
#print axioms wallLeast_holds
end Go.Proofs.Ytjdbmmilcihpoaa
