/- Plain laws: boxes, volumes, masses. Conditions: the box is valid. -/
import Derived.Test.YtgmppoappaolkaaD5
open Go
namespace Go.Proofs.Ytgmppoappaolkaa

/-- A valid box. -/
structure BoxOk (a b c d e f : Int) : Prop where
  a0 : -1000000 ≤ a
  d1 : d ≤ 1000000
  b0 : -1000000 ≤ b
  e1 : e ≤ 1000000
  c0 : -1000000 ≤ c
  f1 : f ≤ 1000000
  ad : a < d
  be : b < e
  cf : c < f

theorem bif_then {c : Bool} {x y : Int} (h : (bif c then x else y) = 0) (hy : y ≠ 0) : c = true ∧ x = 0 := by
  cases c
  · exact absurd h hy
  · exact ⟨rfl, h⟩
theorem bif_else {c : Bool} {x y : Int} (h : (bif c then x else y) = 0) (hx : x ≠ 0) : c = false ∧ y = 0 := by
  cases c
  · exact ⟨rfl, h⟩
  · exact absurd h hx
theorem in_ok {z : Int} (h : r57.v z = true) : -1000000 ≤ z ∧ z ≤ 1000000 := by
  unfold r57.v at h
  cases h1 : decide (z ≥ -1000000) with
  | false => rw [h1] at h; cases h
  | true => rw [h1] at h; exact ⟨of_decide_eq_true h1, of_decide_eq_true h⟩

theorem box_ok {a b c d e f : Int} (h : (r36.v a b c d e f == 0) = true) : BoxOk a b c d e f := by
  have h := eq_of_beq h
  unfold r36.v at h
  obtain ⟨h1, h⟩ := bif_then h (by decide)
  obtain ⟨h2, h⟩ := bif_then h (by decide)
  obtain ⟨h3, h⟩ := bif_then h (by decide)
  obtain ⟨h4, h⟩ := bif_then h (by decide)
  obtain ⟨h5, h⟩ := bif_then h (by decide)
  obtain ⟨h6, h⟩ := bif_then h (by decide)
  obtain ⟨h7, h⟩ := bif_else h (by decide)
  obtain ⟨h8, h⟩ := bif_else h (by decide)
  obtain ⟨h9, h⟩ := bif_else h (by decide)
  exact ⟨(in_ok h1).1, (in_ok h2).2, (in_ok h3).1, (in_ok h4).2, (in_ok h5).1, (in_ok h6).2, Int.not_le.1 (of_decide_eq_false h7), Int.not_le.1 (of_decide_eq_false h8), Int.not_le.1 (of_decide_eq_false h9)⟩

theorem in_step (z X : Int) : (bif decide (z < -1000000) then 6 else (bif decide (z > 1000000) then 6 else X)) = bif r57.v z then X else 6 := by
  unfold r57.v
  cases h1 : decide (z < -1000000) <;> cases h2 : decide (z > 1000000) <;> cases h3 : decide (z ≥ -1000000) <;> cases h4 : decide (z ≤ 1000000) <;> simp only [cond_true, cond_false] <;> simp only [decide_eq_true_eq, decide_eq_false_iff_not] at h1 h2 h3 h4 <;> omega

theorem r14_eq (a b c d e f : Int) : r14.v a b c d e f = r36.v a b c d e f := by
  unfold r14.v r36.v
  simp only [in_step]

theorem dens_ok {n : Int} (h : r37.v n = true) : 1 ≤ n ∧ n ≤ 10000 := by
  unfold r37.v at h
  simp only [Bool.cond_decide] at h
  split at h <;> simp_all

theorem prod2 {p q P Q : Int} (hp : 0 ≤ p) (hp1 : p ≤ P) (hq : 0 ≤ q) (hq1 : q ≤ Q) : 0 ≤ p * q ∧ p * q ≤ P * Q :=
  ⟨Int.mul_nonneg hp hq, Int.mul_le_mul hp1 hq1 hq (by omega)⟩

def vol (a b c d e f : Int) : Int := (d - a) * (e - b) * (f - c)

theorem vol_le {a b c d e f : Int} (h : BoxOk a b c d e f) : 0 ≤ (d - a) * (e - b) ∧ (d - a) * (e - b) ≤ 4000000000000 ∧ 0 ≤ vol a b c d e f ∧ vol a b c d e f ≤ 8000000000000000000 := by
  obtain ⟨h1, h2, h3, h4, h5, h6, h7, h8, h9⟩ := h
  have p1 := prod2 (p := d - a) (q := e - b) (P := 2000000) (Q := 2000000) (by omega) (by omega) (by omega) (by omega)
  have p2 := prod2 (p := (d - a) * (e - b)) (q := f - c) (P := 4000000000000) (Q := 2000000) p1.1 p1.2 (by omega) (by omega)
  exact ⟨p1.1, p1.2, p2.1, p2.2⟩

theorem r71_vol {a b c d e f : Int} (h : BoxOk a b c d e f) : r71.v a b c d e f = vol a b c d e f := by
  obtain ⟨v1, v2, v3, v4⟩ := vol_le h
  obtain ⟨h1, h2, h3, h4, h5, h6, h7, h8, h9⟩ := h
  unfold r71.v r77.v0 r77.v1 r77.v2
  rw [IntWalk.i64_in (d - a) (by omega), IntWalk.i64_in (e - b) (by omega), IntWalk.i64_in (f - c) (by omega), IntWalk.i64_in ((d - a) * (e - b)) (by omega)]
  exact IntWalk.i64_in (vol a b c d e f) (by omega)

def massOf (a b c d e f n : Int) : Int := vol a b c d e f * n / 1000000

theorem r38_ret (a b c d e f n : Int) (hb : (r36.v a b c d e f == 0) = true) (hn : r37.v n = true) (h : AHeap) :
    Ret Try.prog 38 [bx a b c d e f, AV.int IntKind.i64 n] h (AV.int IntKind.i64 (massOf a b c d e f n)) h := by
  have hk := box_ok hb
  have ⟨n1, n2⟩ := dens_ok hn
  obtain ⟨v1, v2, v3, v4⟩ := vol_le hk
  have ev : r58.v0 a b c d e f = vol a b c d e f := by unfold r58.v0; rw [hb, cond_true, r71_vol hk]
  have hp := prod2 (p := vol a b c d e f) (q := n) v3 v4 (by omega) n2
  have e0 : r59.v0 (IntKind.u64.wrap (r58.v0 a b c d e f)) (IntKind.u64.wrap n) = vol a b c d e f * n / 18446744073709551616 := by
    rw [ev, IntWalk.u64_in (vol a b c d e f) (by omega), IntWalk.u64_in n (by omega), r59_v0 _ _ (by omega) (by omega) (by omega) (by omega)]
  have e1 : r59.v1 (IntKind.u64.wrap (r58.v0 a b c d e f)) (IntKind.u64.wrap n) = vol a b c d e f * n % 18446744073709551616 := by
    rw [ev, IntWalk.u64_in (vol a b c d e f) (by omega), IntWalk.u64_in n (by omega)]
    unfold r59.v1
    rw [IntKind.wrap_u64]
  have h1 := r38 a b c d e f n (by rw [e0]; omega) (by rw [e0]; omega) (by rw [e1]; omega) (by rw [e1]; omega) h
  have e2 : r38.v a b c d e f n = massOf a b c d e f n := by
    unfold r38.v massOf
    rw [e0, e1]
    generalize vol a b c d e f * n = p at *
    rw [show p / 18446744073709551616 * 18446744073709551616 + p % 18446744073709551616 = p by omega]
    exact IntWalk.i64_in _ (by omega)
  rw [e2] at h1
  exact h1

theorem refMass {a b c d e f n : Int} (hk : BoxOk a b c d e f) (hn : r37.v n = true) : r18.v a b c d e f n = massOf a b c d e f n := by
  have ⟨n1, n2⟩ := dens_ok hn
  obtain ⟨v1, v2, v3, v4⟩ := vol_le hk
  have e1 := r71_vol hk
  unfold r71.v r77.v0 r77.v1 r77.v2 at e1
  unfold r18.v massOf
  rw [e1]
  generalize vol a b c d e f = v at *
  have hp := prod2 (p := v) (q := n) v3 v4 (by omega) n2
  rw [Int.tdiv_eq_ediv_of_nonneg v3, Int.tmod_eq_emod_of_nonneg v3, IntWalk.i64_in (v / 1000000) (by omega)]
  have b1 := prod2 (p := v / 1000000) (q := n) (P := 8000000000000) (Q := 10000) (by omega) (by omega) (by omega) n2
  have b2 := prod2 (p := v % 1000000) (q := n) (P := 1000000) (Q := 10000) (by omega) (by omega) (by omega) n2
  rw [IntWalk.i64_in (v / 1000000 * n) (by omega), IntWalk.i64_in (v % 1000000 * n) (by omega), Int.tdiv_eq_ediv_of_nonneg (by omega), IntWalk.i64_in (v % 1000000 * n / 1000000) (by omega), IntWalk.i64_in _ (by omega)]
  have : v * n = v / 1000000 * n * 1000000 + v % 1000000 * n := by
    have : v = v / 1000000 * 1000000 + v % 1000000 := by omega
    calc v * n = (v / 1000000 * 1000000 + v % 1000000) * n := by rw [← this]
      _ = _ := by rw [Int.add_mul, Int.mul_right_comm]
  omega
end Go.Proofs.Ytgmppoappaolkaa
