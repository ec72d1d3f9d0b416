/- Plain laws: CraneMargins. Conditions: none. -/
import Derived.Test.YtgmppoappaolkaaD24
open Go
namespace Go.Proofs.Ytgmppoappaolkaa
set_option linter.unusedVariables false
set_option linter.unusedSimpArgs false
variable {s : SD} {a b c d e f m : Int} {n : Nat} {g : Nat → SD}

theorem one_ok (hn : n ≤ 9223372036854775807) (h : r43.v n g = 0) {i : Nat} (hi : i < n) : r43.v 1 (fun _ => g i) = 0 := by
  rw [r43_any hn] at h
  obtain ⟨h1, h⟩ := bif_else h (by decide)
  obtain ⟨h2, h⟩ := bif_else h (by decide)
  obtain ⟨h3, _⟩ := bif_else h (by decide)
  rw [r43_any (by decide), anyN_false.2 (fun j _ => anyN_false.1 h1 i hi), anyN_false.2 (fun j _ => anyN_false.1 h2 i hi), anyN_false.2 (fun j _ => anyN_false.1 h3 i hi)]
  rfl

def mar (g : Nat → SD) (a b c d e f m : Int) (j : Nat) : Int := r46.v (g j) a b c d e f m

/-- The chosen stand: the first with the greatest margin. -/
def Best (g : Nat → SD) (a b c d e f m : Int) (n : Nat) (z : Int) : Prop :=
  (z = -1 ∧ ∀ j, j < n → mar g a b c d e f m j < 0) ∨
  (∃ p : Nat, z = p ∧ p < n ∧ 0 ≤ mar g a b c d e f m p ∧ (∀ j, j < n → mar g a b c d e f m j ≤ mar g a b c d e f m p) ∧ ∀ j, j < p → mar g a b c d e f m j < mar g a b c d e f m p)

theorem choose_best (hn : n ≤ 9223372036854775807) : ∀ (k i : Nat) (p q : Int), i ≤ n → n - i < k →
    ((p = -1 ∧ q = -1 ∧ ∀ j, j < i → mar g a b c d e f m j < 0) ∨
     (∃ p' : Nat, p = p' ∧ p' < i ∧ q = mar g a b c d e f m p' ∧ 0 ≤ mar g a b c d e f m p' ∧ (∀ j, j < i → mar g a b c d e f m j ≤ mar g a b c d e f m p') ∧ ∀ j, j < p' → mar g a b c d e f m j < mar g a b c d e f m p')) →
    ∃ z, L33.N n g a b c d e f m k (i : Int) p q = .e0 z ∧ Best g a b c d e f m n z := by
  intro k
  induction k with
  | zero => intro i p q _ h; omega
  | succ k ih =>
    intro i p q hi hm hr
    simp only [L33.N]
    by_cases h : i < n
    · rw [decide_eq_true (show (i : Int) < (n : Int) by omega)]
      simp only [cond_true]
      rw [Int.toNat_natCast, wrap_succ hn h]
      have em : r46.v (g i) a b c d e f m = mar g a b c d e f m i := rfl
      rw [em]
      by_cases hq : mar g a b c d e f m i > q
      · rw [decide_eq_true hq]
        refine ih (i + 1) _ _ h (by omega) (.inr ⟨i, rfl, by omega, rfl, ?_, fun j hj => ?_, fun j hj => ?_⟩)
        · rcases hr with ⟨_, r2, _⟩ | ⟨p', _, _, r3, r4, _⟩ <;> omega
        · rcases Nat.lt_or_ge j i with hji | hji
          · rcases hr with ⟨_, r2, r3⟩ | ⟨p', _, _, r3, r4, r5, _⟩
            · have := r3 j hji; omega
            · have := r5 j hji; omega
          · have : j = i := by omega
            subst this; exact Int.le_refl _
        · rcases hr with ⟨_, r2, r3⟩ | ⟨p', _, _, r3, r4, r5, _⟩
          · have := r3 j hj; omega
          · have := r5 j hj; omega
      · rw [decide_eq_false hq]
        refine ih (i + 1) _ _ h (by omega) ?_
        rcases hr with ⟨r1, r2, r3⟩ | ⟨p', r1, r2, r3, r4, r5, r6⟩
        · refine .inl ⟨r1, r2, fun j hj => ?_⟩
          rcases Nat.lt_or_ge j i with hji | hji
          · exact r3 j hji
          · have : j = i := by omega
            subst this; omega
        · refine .inr ⟨p', r1, by omega, r3, r4, fun j hj => ?_, r6⟩
          rcases Nat.lt_or_ge j i with hji | hji
          · exact r5 j hji
          · have : j = i := by omega
            subst this; omega
    · have : i = n := by omega
      subst this
      rw [decide_eq_false (show ¬ (i : Int) < (i : Int) by omega)]
      refine ⟨p, rfl, ?_⟩
      rcases hr with ⟨r1, r2, r3⟩ | ⟨p', r1, r2, r3, r4, r5, r6⟩
      · exact .inl ⟨r1, r3⟩
      · exact .inr ⟨p', r1, r2, r4, r5, r6⟩

theorem r20_ne9 (hn : n ≤ 9223372036854775807) : r20.v n g ≠ 9 := by
  unfold r20.v
  rw [r43_any hn]
  cases decide ((n : Int) > 16) <;> cases anyN n (fun i => r62.v (g i)) <;> cases anyN n (fun i => r64.v (g i)) <;> cases anyN n (fun i => r65.v (g i)) <;> simp <;> (try decide)
  cases L20.run n g 1 <;> decide
theorem r36_ne9 : r36.v a b c d e f ≠ 9 := by
  unfold r36.v
  cases r57.v a <;> cases r57.v d <;> cases r57.v b <;> cases r57.v e <;> cases r57.v c <;> cases r57.v f <;> simp
  cases decide (d ≤ a) <;> cases decide (e ≤ b) <;> cases decide (f ≤ c) <;> decide

/-- Capacity and Lifts of a valid stand at a valid box. -/
theorem r22_of (h1 : r43.v 1 (fun _ => s) = 0) (hb : (r36.v a b c d e f == 0) = true) : r22.v0 s a b c d e f = (bif decide (r45.v s a b c d e f < 0) then 0 else r45.v s a b c d e f) ∧ r22.v1 s a b c d e f = (bif decide (r45.v s a b c d e f < 0) then 9 else 0) := by
  unfold r22.v0 r22.v1
  rw [h1, hb]
  exact ⟨rfl, rfl⟩
theorem r23_of (h1 : r43.v 1 (fun _ => s) = 0) (hb : (r36.v a b c d e f == 0) = true) (hd : r37.v m = true) : r23.v1 s a b c d e f m = 0 ∧ r23.v0 s a b c d e f m = decide (r46.v s a b c d e f m ≥ 0) := by
  unfold r23.v0 r23.v1
  rw [h1, hb, hd]
  exact ⟨rfl, rfl⟩

theorem margins_loop (hn : n ≤ 9223372036854775807) (hst : ∀ i, i < n → StOk (g i)) (h1 : ∀ i, i < n → r43.v 1 (fun _ => g i) = 0) (hb : (r36.v a b c d e f == 0) = true) (hd : r37.v m = true) (p q r : Int)
    (hz : (q = 9 ∧ ∀ j, j < n → mar g a b c d e f m j < 0) ∨ (q = 0 ∧ ∃ p' : Nat, p = p' ∧ p' < n ∧ r = mar g a b c d e f m p' + massOf a b c d e f m ∧ (∀ j, j < n → mar g a b c d e f m j ≤ mar g a b c d e f m p') ∧ ∀ j, j < p' → mar g a b c d e f m j < mar g a b c d e f m p')) :
    ∀ (k i : Nat), i ≤ n → n - i < k → L10.N n g a b c d e f m k (i : Int) p q r = .e1 := by
  intro k
  induction k with
  | zero => intro i _ h; omega
  | succ k ih =>
    intro i hi hm
    simp only [L10.N]
    by_cases h : i < n
    · rw [decide_eq_true (show (i : Int) < (n : Int) by omega)]
      simp only [cond_true]
      rw [Int.toNat_natCast, wrap_succ hn h]
      obtain ⟨e1, e0⟩ := r23_of (m := m) (h1 i h) hb hd
      rw [e1, e0]
      simp only [beq_self_eq_true, cond_true]
      have em : r46.v (g i) a b c d e f m = mar g a b c d e f m i := rfl
      rcases mar_cases (hst i h) (box_ok hb) hd with ⟨_, m2⟩ | ⟨_, m2, m3, m4, m5, m6⟩
      · rw [decide_eq_false (show ¬ r46.v (g i) a b c d e f m ≥ 0 by omega)]
        simp only [cond_false]
        rw [ih (i + 1) h (by omega)]
        cases q == 9 <;> rfl
      · rcases hz with ⟨z1, z2⟩ | ⟨z1, p', z2, z3, z4, z5, z6⟩
        · have := z2 i h; rw [← em] at this; omega
        · obtain ⟨c0, c1⟩ := r22_of (h1 i h) hb
          have hneg : ¬ r45.v (g i) a b c d e f < 0 := by rw [m5]; omega
          rw [decide_eq_false hneg] at c0 c1
          simp only [cond_false] at c0 c1
          rw [decide_eq_true (show r46.v (g i) a b c d e f m ≥ 0 by omega), c0, c1, z1, m5]
          have h5 := z5 i h
          rw [← em] at h5
          rw [decide_eq_false (show ¬ r25.v0 (g i) a b c d e f > r by omega)]
          simp only [cond_true, cond_false, beq_self_eq_true, show ((0 : Int) == 9) = false from rfl]
          have ihn := ih (i + 1) h (by omega)
          rw [z1] at ihn
          cases hq : r25.v0 (g i) a b c d e f == r with
          | false => simp only [cond_false]; exact ihn
          | true =>
            have hq := eq_of_beq hq
            have : ¬ (i : Int) < p := fun hlt => by
              have h6 := z6 i (by omega)
              rw [← em] at h6
              omega
            rw [decide_eq_false this]
            simp only [cond_true, cond_false]
            exact ihn
    · rw [decide_eq_false (show ¬ (i : Int) < (n : Int) by omega)]
      rfl

theorem r10_true (hn : n ≤ 9223372036854775807) : r10.v n g a b c d e f m = true := by
  unfold r10.v
  cases r19.v n g 16
  · rfl
  simp only [cond_true]
  have n9 := r20_ne9 (g := g) hn
  have b9 := r36_ne9 (a := a) (b := b) (c := c) (d := d) (e := e) (f := f)
  unfold r33.v0 r33.v1
  cases hs : r20.v n g == 0 with
  | false => simp [hs, n9]
  | true =>
    have h43 := ok20z hs
    have hst := ok43s hn h43
    cases hb : r36.v a b c d e f == 0 with
    | false => simp [hb, b9]
    | true =>
      cases hd : r37.v m with
      | false => simp
      | true =>
        obtain ⟨z, z1, z2⟩ := choose_best (g := g) (a := a) (b := b) (c := c) (d := d) (e := e) (f := f) (m := m) hn (n + 1) 0 (-1) (-1) (Nat.zero_le _) (by omega) (.inl ⟨rfl, rfl, fun j hj => absurd hj (Nat.not_lt_zero j)⟩)
        have e1 : L33.run n g a b c d e f m 0 (-1) (-1) = .e0 z := by simpa [L33.run, L33.mu] using z1
        rw [e1]
        have run : ∀ p q r : Int, ((q = 9 ∧ ∀ j, j < n → mar g a b c d e f m j < 0) ∨ (q = 0 ∧ ∃ p' : Nat, p = p' ∧ p' < n ∧ r = mar g a b c d e f m p' + massOf a b c d e f m ∧ (∀ j, j < n → mar g a b c d e f m j ≤ mar g a b c d e f m p') ∧ ∀ j, j < p' → mar g a b c d e f m j < mar g a b c d e f m p')) → L10.run n g a b c d e f m 0 p q r = .e1 := fun p q r hz => by
          have := margins_loop hn hst (fun i hi => one_ok hn h43 hi) hb hd p q r hz (n + 1) 0 (Nat.zero_le _) (by omega)
          simpa [L10.run, L10.mu] using this
        rcases z2 with ⟨rfl, z3⟩ | ⟨p, rfl, z3, z4, z5, z6⟩
        · simp [run 0 9 0 (.inl ⟨rfl, z3⟩)]
        · have o1 := one_ok hn h43 z3
          obtain ⟨f1, f0⟩ := r23_of (m := m) o1 hb hd
          obtain ⟨c0, c1⟩ := r22_of o1 hb
          have em : r46.v (g p) a b c d e f m = mar g a b c d e f m p := rfl
          rcases mar_cases (hst p z3) (box_ok hb) hd with ⟨_, m2⟩ | ⟨_, m2, m3, m4, m5, m6⟩
          · rw [em] at m2; omega
          · have hneg : ¬ r45.v (g p) a b c d e f < 0 := by rw [m5]; omega
            rw [decide_eq_false hneg] at c0 c1
            simp only [cond_false] at c0 c1
            have hrun := run p 0 (r45.v (g p) a b c d e f) (.inr ⟨rfl, p, rfl, z3, by rw [m5, ← em]; omega, z5, z6⟩)
            simp [show ¬ (p : Int) < 0 by omega, show ¬ (n : Int) ≤ (p : Int) by omega, f1, f0, c0, c1, hrun, em, z4]
end Go.Proofs.Ytgmppoappaolkaa
