/- Plain laws: the chosen stand; boxes within boxes. Conditions: none. -/
import Derived.Test.YtgmppoappaolkaaD22
open Go
namespace Go.Proofs.Ytgmppoappaolkaa
variable {s : SD} {a b c d e f m : Int} {n : Nat} {g : Nat → SD}

theorem cap_eq (h : StOk s) : r45.v s a b c d e f = bif r25.v1 s a b c d e f then r25.v0 s a b c d e f else -1 := by
  rcases cap_cases (a := a) (b := b) (c := c) (d := d) (e := e) (f := f) h with ⟨h1, h2, h3⟩ | ⟨z, z0, z1, h1, h2, h3⟩
  · rw [h1, h3]; rfl
  · rw [h1, h2, h3]; rfl

/-- The margin, by what is lifted. -/
theorem mar_cases (h : StOk s) (hk : BoxOk a b c d e f) (hd : r37.v m = true) :
    (r26.v s a b c d e f m = false ∧ r46.v s a b c d e f m < 0) ∨
    (r26.v s a b c d e f m = true ∧ 0 ≤ r46.v s a b c d e f m ∧ r46.v s a b c d e f m = r25.v0 s a b c d e f - massOf a b c d e f m ∧ r25.v1 s a b c d e f = true ∧ r45.v s a b c d e f = r25.v0 s a b c d e f ∧ 0 ≤ r25.v0 s a b c d e f) := by
  have hl := lift_eq h hk hd
  have hm := mass_le hk hd
  cases hr : r26.v s a b c d e f m with
  | false => rw [hr] at hl; exact .inl ⟨rfl, by have := of_decide_eq_false hl; omega⟩
  | true =>
    rw [hr] at hl
    have h0 := of_decide_eq_true hl
    refine .inr ⟨rfl, h0, ?_⟩
    rcases cap_cases (a := a) (b := b) (c := c) (d := d) (e := e) (f := f) h with ⟨h1, h2, h3⟩ | ⟨z, z0, z1, h1, h2, h3⟩
    · unfold r26.v at hr; rw [h3] at hr; cases hr
    · refine ⟨?_, h3, by rw [h1, h2], by rw [h2]; exact z0⟩
      unfold r46.v
      rw [h1, h2, decide_eq_false (show ¬ z < 0 by omega)]
      simp only [cond_false]
      exact IntWalk.i64_in _ (by omega)

theorem choose_rel (hn : n ≤ 9223372036854775807) (hst : ∀ i, i < n → StOk (g i)) (hk : BoxOk a b c d e f) (hd : r37.v m = true) : ∀ (k i : Nat) (p q q' : Int), i ≤ n → n - i < k →
    ((p < 0 ∧ q = -1) ∨ (0 ≤ p ∧ 0 ≤ q ∧ q = q' - massOf a b c d e f m)) → ∃ z, L33.N n g a b c d e f m k (i : Int) p q = .e0 z ∧ L34.N n g a b c d e f m k (i : Int) p q' = .e0 z := by
  intro k
  induction k with
  | zero => intro i p q q' _ h; omega
  | succ k ih =>
    intro i p q q' hi hm hr
    simp only [L33.N, L34.N]
    by_cases h : i < n
    · rw [decide_eq_true (show (i : Int) < (n : Int) by omega)]
      simp only [cond_true]
      rw [Int.toNat_natCast, wrap_succ hn h]
      rcases mar_cases (hst i h) hk hd with ⟨h1, h2⟩ | ⟨h1, h2, h3, _⟩
      · rw [h1, decide_eq_false (show ¬ r46.v (g i) a b c d e f m > q by rcases hr with ⟨_, hr⟩ | ⟨_, hr, _⟩ <;> omega)]
        simp only [cond_false]
        exact ih (i + 1) p q q' h (by omega) hr
      · rw [h1]
        simp only [cond_true]
        have next := ih (i + 1) (i : Int) (r46.v (g i) a b c d e f m) (r25.v0 (g i) a b c d e f) h (by omega) (.inr ⟨by omega, h2, h3⟩)
        rcases hr with ⟨r1, r2⟩ | ⟨r1, r2, r3⟩
        · rw [decide_eq_true (show r46.v (g i) a b c d e f m > q by omega), decide_eq_true r1]
          exact next
        · rw [decide_eq_false (show ¬ p < 0 by omega)]
          simp only [cond_false]
          by_cases hq : r46.v (g i) a b c d e f m > q
          · rw [decide_eq_true hq, decide_eq_true (show r25.v0 (g i) a b c d e f > q' by omega)]
            exact next
          · rw [decide_eq_false hq, decide_eq_false (show ¬ r25.v0 (g i) a b c d e f > q' by omega)]
            exact ih (i + 1) p q q' h (by omega) (.inr ⟨r1, r2, r3⟩)
    · rw [decide_eq_false (show ¬ (i : Int) < (n : Int) by omega)]
      exact ⟨p, rfl, rfl⟩

theorem r9_true (hn : n ≤ 9223372036854775807) : r9.v n g a b c d e f m = true := by
  have e17 : r17.v = r37.v := rfl
  unfold r9.v
  rw [r14_eq, e17, ← check_eq hn]
  unfold r33.v0 r33.v1 r34.v
  cases r19.v n g 20
  · rfl
  simp only [cond_true]
  cases hs : r20.v n g == 0 with
  | false => simp
  | true =>
    have hst := ok43s hn (ok20z hs)
    cases hb : r36.v a b c d e f == 0 with
    | false => simp
    | true =>
      have hk := box_ok hb
      cases hd : r37.v m with
      | false => simp
      | true =>
        obtain ⟨z, z1, z2⟩ := choose_rel hn hst hk hd (n + 1) 0 (-1) (-1) 0 (Nat.zero_le _) (by omega) (.inl ⟨by decide, rfl⟩)
        have e1 : L33.run n g a b c d e f m 0 (-1) (-1) = .e0 z := by simpa [L33.run, L33.mu] using z1
        have e2 : L34.run n g a b c d e f m 0 (-1) 0 = .e0 z := by simpa [L34.run, L34.mu] using z2
        rw [e1, e2]
        by_cases hz : z < 0 <;> simp [hz]

/-- What Lifts says, where it says OK. -/
theorem r23_ok (h : (r23.v1 s a b c d e f m == 0) = true) : StOk s ∧ BoxOk a b c d e f ∧ r37.v m = true ∧ r23.v0 s a b c d e f m = r26.v s a b c d e f m := by
  have h := eq_of_beq h
  unfold r23.v1 at h
  unfold r23.v0
  cases hs : (r43.v 1 fun _ => s) == 0 with
  | false => rw [hs] at h; simp only [cond_false] at h; rw [h] at hs; cases hs
  | true =>
    rw [hs] at h
    cases hb : r36.v a b c d e f == 0 with
    | false => rw [hb] at h; simp only [cond_true, cond_false] at h; rw [h] at hb; cases hb
    | true =>
      cases hd : r37.v m with
      | false => rw [hb, hd] at h; simp at h
      | true =>
        have hst : StOk s := ok43s (by decide) (eq_of_beq hs) 0 (by decide)
        exact ⟨hst, box_ok hb, rfl, by simp only [cond_true]; exact lift_eq hst (box_ok hb) hd⟩
theorem r23_bad (h : (r23.v1 s a b c d e f m == 0) = false) : r23.v0 s a b c d e f m = false := by
  unfold r23.v1 at h
  unfold r23.v0
  cases hs : (r43.v 1 fun _ => s) == 0 <;> cases hb : r36.v a b c d e f == 0 <;> cases hd : r37.v m <;> simp [hs, hb, hd] at h ⊢

theorem mass_mono {u v w : Int} (hk : BoxOk a b c d e f) (hk' : BoxOk (a + u) (b + v) (c + w) (d - u) (e - v) (f - w)) (hu : 0 ≤ u) (hv : 0 ≤ v) (hw : 0 ≤ w) (hd : r37.v m = true) :
    massOf (a + u) (b + v) (c + w) (d - u) (e - v) (f - w) m ≤ massOf a b c d e f m := by
  have ⟨n1, n2⟩ := dens_ok hd
  obtain ⟨v1, v2, v3, v4⟩ := vol_le hk
  obtain ⟨w1, w2, w3, w4⟩ := vol_le hk'
  obtain ⟨k1, k2, k3, k4, k5, k6, k7, k8, k9⟩ := hk
  obtain ⟨l1, l2, l3, l4, l5, l6, l7, l8, l9⟩ := hk'
  have p1 : (d - u - (a + u)) * (e - v - (b + v)) ≤ (d - a) * (e - b) := Int.mul_le_mul (by omega) (by omega) (by omega) (by omega)
  have p2 : vol (a + u) (b + v) (c + w) (d - u) (e - v) (f - w) ≤ vol a b c d e f := Int.mul_le_mul p1 (by omega) (by omega) (by omega)
  unfold massOf
  exact Int.ediv_le_ediv (by decide) (Int.mul_le_mul_of_nonneg_right p2 (by omega))

theorem r7_true {u v w : Int} : r7.v s a b c d e f u v w m = true := by
  unfold r7.v
  cases r19.v 1 (fun _ => s) 1
  · rfl
  simp only [cond_true]
  by_cases c1 : u < 0
  · rw [decide_eq_true c1]; rfl
  by_cases c2 : v < 0
  · rw [decide_eq_false c1, decide_eq_true c2]; rfl
  by_cases c3 : w < 0
  · rw [decide_eq_false c1, decide_eq_false c2, decide_eq_true c3]; rfl
  by_cases c4 : u > 1000000
  · rw [decide_eq_false c1, decide_eq_false c2, decide_eq_false c3, decide_eq_true c4]; rfl
  by_cases c5 : v > 1000000
  · rw [decide_eq_false c1, decide_eq_false c2, decide_eq_false c3, decide_eq_false c4, decide_eq_true c5]; rfl
  by_cases c6 : w > 1000000
  · rw [decide_eq_false c1, decide_eq_false c2, decide_eq_false c3, decide_eq_false c4, decide_eq_false c5, decide_eq_true c6]; rfl
  rw [decide_eq_false c1, decide_eq_false c2, decide_eq_false c3, decide_eq_false c4, decide_eq_false c5, decide_eq_false c6]
  simp only [cond_false]
  cases h1 : r23.v1 s a b c d e f m == 0 with
  | false => simp only [cond_false, bnot]; rw [r23_bad h1]; rfl
  | true =>
    obtain ⟨hst, hk, hd, hl⟩ := r23_ok h1
    have hk0 := hk
    obtain ⟨k1, k2, k3, k4, k5, k6, k7, k8, k9⟩ := hk
    simp only [cond_true]
    rw [IntWalk.i64_in (a + u) (by omega), IntWalk.i64_in (b + v) (by omega), IntWalk.i64_in (c + w) (by omega), IntWalk.i64_in (d - u) (by omega), IntWalk.i64_in (e - v) (by omega), IntWalk.i64_in (f - w) (by omega)]
    cases h2 : r23.v1 s (a + u) (b + v) (c + w) (d - u) (e - v) (f - w) m == 0 with
    | false => rfl
    | true =>
      obtain ⟨_, hk', _, hl'⟩ := r23_ok h2
      simp only [cond_true]
      rw [hl, hl']
      cases h3 : r26.v s a b c d e f m with
      | false => rfl
      | true =>
        simp only [cond_true]
        have er : reach s (a + u) (b + v) (c + w) (d - u) (e - v) (f - w) = reach s a b c d e f := by
          funext i
          unfold reach r40.v
          rw [show a + u + (d - u) = a + d by omega, show b + v + (e - v) = b + e by omega]
        have e0 : r25.v0 s (a + u) (b + v) (c + w) (d - u) (e - v) (f - w) = r25.v0 s a b c d e f := by
          unfold r25.v0; rw [L25_run hst, L25_run hst, er]
        have e1 : r25.v1 s (a + u) (b + v) (c + w) (d - u) (e - v) (f - w) = r25.v1 s a b c d e f := by
          unfold r25.v1; rw [L25_run hst, L25_run hst, er]
        unfold r26.v at h3 ⊢
        rw [e0, e1]
        rw [refMass hk0 hd] at h3
        rw [refMass hk' hd]
        cases h4 : r25.v1 s a b c d e f with
        | false => rw [h4] at h3; cases h3
        | true =>
          rw [h4] at h3
          have h5 := of_decide_eq_true h3
          have h6 := mass_mono hk0 hk' (Int.not_lt.1 c1) (Int.not_lt.1 c2) (Int.not_lt.1 c3) hd
          exact decide_eq_true (Int.le_trans h6 h5)
end Go.Proofs.Ytgmppoappaolkaa
