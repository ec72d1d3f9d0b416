/- Plain laws: CraneStands. Conditions: none. -/
import Derived.Test.YtgmppoappaolkaaD19
open Go
namespace Go.Proofs.Ytgmppoappaolkaa

theorem dup_eq {n : Nat} {g : Nat → SD} : ∀ (k : Nat) (i : Int), (match L20.N n g k i with | .e0 => (5 : Int) | .e1 => 0) = (match L21.N n g k i with | .e0 => (5 : Int) | .e1 => 0) := by
  intro k
  induction k with
  | zero => intro i; rfl
  | succ k ih =>
    intro i
    simp only [L20.N, L21.N]
    cases decide (i < (n : Int)) with
    | false => rfl
    | true =>
      simp only [cond_true]
      cases Op.bytesLess (g (IntKind.i64.wrap (i - 1)).toNat).nm.toList (g i.toNat).nm.toList with
      | false => rfl
      | true => exact ih _

theorem check_eq {n : Nat} {g : Nat → SD} (hn : n ≤ 9223372036854775807) : r20.v n g = r21.v n g := by
  unfold r20.v r21.v
  rw [r44_any hn]
  have h : (match L20.run n g 1 with | .e0 => (5 : Int) | .e1 => 0) = (match L21.run n g 1 with | .e0 => (5 : Int) | .e1 => 0) := dup_eq _ _
  cases h1 : L20.run n g 1 <;> cases h2 : L21.run n g 1 <;> rw [h1, h2] at h <;> first | rfl | (simp at h)

/-- A valid stand. -/
structure StOk (s : SD) : Prop where
  nl : s.nl = s.nr
  n1 : 1 ≤ s.nr
  n16 : s.nr ≤ 16
  r1 : ∀ i, i < s.nr → 1 ≤ s.r i
  r2 : ∀ i, i < s.nr → s.r i ≤ 500000
  l1 : ∀ i, i < s.nr → 0 ≤ s.l i
  l2 : ∀ i, i < s.nr → s.l i ≤ 1000000000000000
  x1 : r39.v s.x = true
  y1 : r39.v s.y = true

theorem good_of {s : SD} {i : Nat} (h : badR s i = false) : 1 ≤ s.r i ∧ s.r i ≤ 500000 ∧ 0 ≤ s.l i ∧ s.l i ≤ 1000000000000000 := by
  unfold badR at h
  simp only [Bool.or_eq_false_iff, decide_eq_false_iff_not] at h
  omega

theorem stOk_of {s : SD} (h65 : r65.v s = false) (h64 : r64.v s = false) : StOk s := by
  have h4 := r64_false h64
  unfold r65.v at h65
  rw [L65_run, srch_any] at h65
  cases hx : r39.v s.x <;> cases hy : r39.v s.y <;> cases ha : anyN s.nr (badR s) <;> simp [hx, hy, ha] at h65
  have hb := fun i hi => good_of (anyN_false.1 ha i hi)
  exact ⟨h4.2.2, h4.1, h4.2.1, fun i hi => (hb i hi).1, fun i hi => (hb i hi).2.1, fun i hi => (hb i hi).2.2.1, fun i hi => (hb i hi).2.2.2, hx, hy⟩

theorem ok43s {n : Nat} {g : Nat → SD} (hn : n ≤ 9223372036854775807) (h : r43.v n g = 0) : ∀ i, i < n → StOk (g i) := by
  intro i hi
  rw [r43_any hn] at h
  obtain ⟨_, h⟩ := bif_else h (by decide)
  obtain ⟨h2, h⟩ := bif_else h (by decide)
  obtain ⟨h3, _⟩ := bif_else h (by decide)
  exact stOk_of (anyN_false.1 h3 i hi) (anyN_false.1 h2 i hi)

variable {s : SD} {a b c d e f : Int}

/-- What a stand lifts: the limit of the first radius that reaches. -/
def reach (s : SD) (a b c d e f : Int) (i : Nat) : Bool := decide (4 * (s.r i * s.r i) ≥ r40.v s.x s.y a b c d e f)

theorem sq_le {r : Int} (h1 : 1 ≤ r) (h2 : r ≤ 500000) : 0 ≤ r * r ∧ r * r ≤ 250000000000 := prod2 (P := 500000) (Q := 500000) (by omega) h2 (by omega) h2

theorem r69_reach (h : StOk s) {i : Nat} (hi : i < s.nr) : r69.v s a b c d e f (s.r i) = reach s a b c d e f i := by
  have h1 := h.r1 i hi
  have h2 := h.r2 i hi
  have h3 := sq_le h1 h2
  unfold r69.v reach
  have e1 : 4 * s.r i * s.r i = 4 * (s.r i * s.r i) := Int.mul_assoc _ _ _
  rw [IntWalk.i64_in (4 * s.r i) (by omega), e1, IntWalk.i64_in (4 * (s.r i * s.r i)) (by omega)]

theorem L25_run (h : StOk s) : L25.run s a b c d e f 0 = srch (reach s a b c d e f) (fun i => L25.O.e0 (s.l i)) .e1 0 s.nr := by
  have e16 : r16.v = r40.v := rfl
  have := search_eq (n := s.nr) (reach s a b c d e f) (fun i => L25.O.e0 (s.l i)) .e1 (N := L25.N s a b c d e f) (fun k i hi => by
    simp only [L25.N, wrap_succ s.hnr hi, Int.toNat_natCast]; rw [decide_eq_true (by omega)]
    have h1 := h.r1 i hi
    have h2 := h.r2 i hi
    have h3 := sq_le h1 h2
    have e1 : 2 * s.r i * (2 * s.r i) = 4 * (s.r i * s.r i) := by
      rw [Int.mul_assoc, Int.mul_left_comm (s.r i) 2, ← Int.mul_assoc]; rfl
    unfold reach
    show (bif true then (bif decide (IntKind.i64.wrap (IntKind.i64.wrap (2 * s.r i) * IntKind.i64.wrap (2 * s.r i)) ≥ r16.v s.x s.y a b c d e f) then L25.O.e0 (s.l i) else L25.N s a b c d e f k ((i + 1 : Nat) : Int)) else L25.O.e1) = _
    rw [IntWalk.i64_in (2 * s.r i) (by omega), e1, IntWalk.i64_in (4 * (s.r i * s.r i)) (by omega), e16]
    rfl) (fun k => by simp [L25.N]) (s.nr + 1) 0 (Nat.zero_le _) (by omega)
  simpa [L25.run, L25.mu] using this

/-- What a valid stand lifts at a box. -/
theorem cap_cases (h : StOk s) : (r45.v s a b c d e f = -1 ∧ r25.v0 s a b c d e f = 0 ∧ r25.v1 s a b c d e f = false) ∨
    ∃ z, 0 ≤ z ∧ z ≤ 1000000000000000 ∧ r45.v s a b c d e f = z ∧ r25.v0 s a b c d e f = z ∧ r25.v1 s a b c d e f = true := by
  have hreach : ∀ i, i < s.nr → r69.v s a b c d e f (s.r i) = reach s a b c d e f i := fun i hi => r69_reach h hi
  unfold r45.v r25.v0 r25.v1
  rw [L25_run h]
  rcases r68_cases (s := s) (a := a) (b := b) (c := c) (d := d) (e := e) (f := f) with ⟨h1, h2⟩ | ⟨i, h1, h2, h3, h4⟩
  · left
    rw [h2]
    rcases srch_cases (reach s a b c d e f) (fun i => L25.O.e0 (s.l i)) .e1 s.nr 0 with ⟨_, k2⟩ | ⟨j, _, k2, k3, _, _⟩
    · rw [k2]; exact ⟨rfl, rfl, rfl⟩
    · rw [← hreach j (by omega), h1 j (by omega)] at k3; cases k3
  · right
    rw [h4]
    refine ⟨s.l i, h.l1 i h1, h.l2 i h1, ?_⟩
    rw [decide_eq_false (by omega)]
    rcases srch_cases (reach s a b c d e f) (fun i => L25.O.e0 (s.l i)) .e1 s.nr 0 with ⟨k1, _⟩ | ⟨j, _, k2, k3, k4, k5⟩
    · have := k1 i (Nat.zero_le _) (by omega); rw [← hreach i h1, h2] at this; cases this
    · have hj : j = i := by
        rcases Nat.lt_trichotomy i j with q | q | q
        · have := k4 i (Nat.zero_le _) q; rw [← hreach i h1, h2] at this; cases this
        · exact q.symm
        · rw [← hreach j (by omega), h3 j q] at k3; cases k3
      subst hj
      rw [k5]
      exact ⟨by simp, rfl, rfl⟩

theorem mass_le {n : Int} (hk : BoxOk a b c d e f) (hn : r37.v n = true) : 0 ≤ massOf a b c d e f n ∧ massOf a b c d e f n ≤ 80000000000000000 := by
  have ⟨n1, n2⟩ := dens_ok hn
  obtain ⟨v1, v2, v3, v4⟩ := vol_le hk
  have := prod2 (p := vol a b c d e f) (q := n) v3 v4 (by omega) n2
  unfold massOf
  omega

theorem lift_eq {n : Int} (h : StOk s) (hk : BoxOk a b c d e f) (hn : r37.v n = true) : decide (r46.v s a b c d e f n ≥ 0) = r26.v s a b c d e f n := by
  have hm := mass_le hk hn
  unfold r46.v r26.v
  rw [refMass hk hn]
  rcases cap_cases (a := a) (b := b) (c := c) (d := d) (e := e) (f := f) h with ⟨h1, h2, h3⟩ | ⟨z, z0, z1, h1, h2, h3⟩
  · rw [h1, h3]; rfl
  · rw [h1, h2, h3, decide_eq_false (show ¬ z < 0 by omega)]
    simp only [cond_true, cond_false]
    rw [IntWalk.i64_in (z - massOf a b c d e f n) (by omega)]
    by_cases q : massOf a b c d e f n ≤ z
    · rw [decide_eq_true q, decide_eq_true (by omega)]
    · rw [decide_eq_false q, decide_eq_false (by omega)]

theorem r4_true {n : Nat} {g : Nat → SD} (hn : n ≤ 9223372036854775807) (m : Int) : r4.v n g s a b c d e f m = true := by
  have e17 : r17.v = r37.v := rfl
  have e24 : r24.v s = r43.v 1 fun _ => s := by unfold r24.v; exact r44_any (by decide)
  unfold r4.v
  rw [check_eq hn, r14_eq, e17, e24]
  unfold r22.v0 r22.v1 r23.v0 r23.v1
  cases r19.v n g 20
  · rfl
  cases r19.v 1 (fun _ => s) 1
  · rfl
  simp only [cond_true, beq_self_eq_true]
  cases hs : (r43.v 1 fun _ => s) == 0 with
  | false => simp [bnot]
  | true =>
    have hst : StOk s := ok43s (by decide) (eq_of_beq hs) 0 (by decide)
    cases hb : r36.v a b c d e f == 0 with
    | false => simp [bnot]
    | true =>
      have hk := box_ok hb
      rcases cap_cases (a := a) (b := b) (c := c) (d := d) (e := e) (f := f) hst with ⟨h1, h2, h3⟩ | ⟨z, z0, z1, h1, h2, h3⟩
      · cases hd : r37.v m with
        | false => simp [h1, h2, h3, bnot]
        | true => simp [h1, h2, h3, ← lift_eq hst hk hd]
      · cases hd : r37.v m with
        | false => simp [h1, h2, h3, bnot, show ¬ z < 0 by omega]
        | true => simp [h1, h2, h3, ← lift_eq hst hk hd, show ¬ z < 0 by omega]
end Go.Proofs.Ytgmppoappaolkaa
