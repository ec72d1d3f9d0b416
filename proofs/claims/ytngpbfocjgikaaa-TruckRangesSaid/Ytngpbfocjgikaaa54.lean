/- TruckRanges: whatever the input, the law hands back true. Conditions: none. -/
import Derived.Test.Ytngpbfocjgikaaa53

open Go

namespace Go.Proofs.Ytngpbfocjgikaaa

set_option maxHeartbeats 0

set_option maxRecDepth 100000

set_option linter.unusedVariables false

set_option linter.unusedSimpArgs false

variable {n : Nat} {g : Nat → LD} {t : TD}

/-- The reference's fraction, of small numbers: in lowest terms. -/
theorem new_val {a b : Int} (ha : -900000000000000000 ≤ a ∧ a ≤ 900000000000000000) (hb : 0 < b ∧ b ≤ 900000000000000000) :
    r40.v0 a b = a / (Int.gcd a b : Int) ∧ r40.v1 a b = b / (Int.gcd a b : Int) := by
  have eg : gc (b.natAbs : Int) (a.natAbs : Int) = (Int.gcd a b : Int) := by
    unfold gc Int.gcd
    rw [Int.toNat_natCast, Int.toNat_natCast, Nat.gcd_comm]
  have hp : (0 : Int) < (Int.gcd a b : Int) := by
    have : 0 < Int.gcd a b := Int.gcd_pos_of_ne_zero_right a (by omega)
    omega
  have h1 : (a.natAbs : Int) / (Int.gcd a b : Int) ≤ a.natAbs := Int.ediv_le_self _ (by omega)
  have h2 : (b.natAbs : Int) / (Int.gcd a b : Int) ≤ b.natAbs := Int.ediv_le_self _ (by omega)
  have h3 : 0 ≤ (a.natAbs : Int) / (Int.gcd a b : Int) := Int.ediv_nonneg (by omega) (by omega)
  have h4 : 0 ≤ (b.natAbs : Int) / (Int.gcd a b : Int) := Int.ediv_nonneg (by omega) (by omega)
  have eb : (b.natAbs : Int) = b := by omega
  unfold r40.v0 r40.v1
  rw [show (b == 0) = false by simp; omega, cond_false, cond_false]
  unfold r64.v0 r64.v1
  rw [eg, decide_eq_false (by omega), decide_eq_false (by omega), cond_false, cond_false, cond_false, cond_false, i64_small (x := (a.natAbs : Int) / (Int.gcd a b : Int)) (by omega), i64_small (x := (b.natAbs : Int) / (Int.gcd a b : Int)) (by omega), eb]
  refine ⟨?_, rfl⟩
  rw [decide_eq_false (show ¬ b < 0 by omega)]
  by_cases q : a < 0
  · rw [decide_eq_true q]
    show IntKind.i64.wrap (0 - (a.natAbs : Int) / (Int.gcd a b : Int)) = _
    rw [i64_small (by omega), show (a.natAbs : Int) = -a by omega, Int.neg_ediv_of_dvd (Int.gcd_dvd_left a b)]
    omega
  · rw [decide_eq_false q]
    show (a.natAbs : Int) / (Int.gcd a b : Int) = _
    rw [show (a.natAbs : Int) = a by omega]

/-- Numerator and denominator are the given ones without a common factor. -/
theorem new_red {a b : Int} (ha : -900000000000000000 ≤ a ∧ a ≤ 900000000000000000) (hb : 0 < b ∧ b ≤ 900000000000000000) :
    ∃ G : Int, 0 < G ∧ a = r40.v0 a b * G ∧ b = r40.v1 a b * G := by
  obtain ⟨e1, e2⟩ := new_val ha hb
  refine ⟨(Int.gcd a b : Int), ?_, ?_, ?_⟩
  · have : 0 < Int.gcd a b := Int.gcd_pos_of_ne_zero_right a (by omega)
    omega
  · rw [e1, Int.ediv_mul_cancel (Int.gcd_dvd_left a b)]
  · rw [e2, Int.ediv_mul_cancel (Int.gcd_dvd_right a b)]

/-- Both axle loads times the span. -/
noncomputable def rearN (t : TD) (n : Nat) (g : Nat → LD) : Int := t.e1 * (2 * (t.re - t.fr)) + (sm g t.fr n).2

noncomputable def frontN (t : TD) (n : Nat) (g : Nat → LD) : Int := (t.e0 + (sm g t.fr n).1) * (2 * (t.re - t.fr)) - (sm g t.fr n).2

structure NB (t : TD) (n : Nat) (g : Nat → LD) : Prop where
  s : 0 < 2 * (t.re - t.fr) ∧ 2 * (t.re - t.fr) ≤ 200000
  e : 0 ≤ t.e1 * (2 * (t.re - t.fr)) ∧ t.e1 * (2 * (t.re - t.fr)) ≤ 200000000000000
  e0 : 0 ≤ t.e0 * (2 * (t.re - t.fr)) ∧ t.e0 * (2 * (t.re - t.fr)) ≤ 200000000000000
  m : 0 ≤ (sm g t.fr n).1 ∧ (sm g t.fr n).1 ≤ 1200000000
  ms : 0 ≤ (sm g t.fr n).1 * (2 * (t.re - t.fr)) ∧ (sm g t.fr n).1 * (2 * (t.re - t.fr)) ≤ 240000000000000
  mo : -300000000000000 ≤ (sm g t.fr n).2 ∧ (sm g t.fr n).2 ≤ 300000000000000
  ef : frontN t n g = t.e0 * (2 * (t.re - t.fr)) + (sm g t.fr n).1 * (2 * (t.re - t.fr)) - (sm g t.fr n).2

theorem nb (ht : TOk t) (hn : n ≤ 12) (hg : ∀ i, i < n → LOk (g i)) : NB t n g := by
  obtain ⟨⟨a1, a2⟩, a3, a4⟩ := sm_bd (g := g) ht.fr n hn hg
  have hs := span_bd ht
  have m0 := mulb (m := t.e0) (x := 2 * (t.re - t.fr)) (A := 1000000000) (B := 200000) ht.e0.1 ht.e0.2 (by omega) (by omega)
  have m1 := mulb (m := t.e1) (x := 2 * (t.re - t.fr)) (A := 1000000000) (B := 200000) ht.e1.1 ht.e1.2 (by omega) (by omega)
  have m2 := mulb (m := (sm g t.fr n).1) (x := 2 * (t.re - t.fr)) (A := 1200000000) (B := 200000) a1 (by omega) (by omega) (by omega)
  refine ⟨hs, ⟨Int.mul_nonneg ht.e1.1 (by omega), by omega⟩, ⟨Int.mul_nonneg ht.e0.1 (by omega), by omega⟩, ⟨a1, by omega⟩, ⟨Int.mul_nonneg a1 (by omega), by omega⟩, ⟨by omega, by omega⟩, ?_⟩
  unfold frontN
  rw [Int.add_mul]

theorem w_rear (ht : TOk t) (hn : n ≤ 12) (hg : ∀ i, i < n → LOk (g i)) : IntKind.i64.wrap (IntKind.i64.wrap (t.e1 * (2 * (t.re - t.fr))) + (sm g t.fr n).2) = rearN t n g := by
  have b := nb ht hn hg
  have h1 := b.e; have h2 := b.mo
  unfold rearN
  rw [i64_small (x := t.e1 * (2 * (t.re - t.fr))) (by omega), i64_small (by omega)]

theorem w_front (ht : TOk t) (hn : n ≤ 12) (hg : ∀ i, i < n → LOk (g i)) : IntKind.i64.wrap (IntKind.i64.wrap (IntKind.i64.wrap (t.e0 + (sm g t.fr n).1) * (2 * (t.re - t.fr))) - (sm g t.fr n).2) = frontN t n g := by
  have b := nb ht hn hg
  have h1 := b.e0; have h2 := b.mo; have h3 := b.m; have h4 := b.ms; have h5 := ht.e0
  rw [i64_small (x := t.e0 + (sm g t.fr n).1) (by omega), Int.add_mul, i64_small (x := t.e0 * (2 * (t.re - t.fr)) + (sm g t.fr n).1 * (2 * (t.re - t.fr))) (by omega), i64_small (by omega), b.ef]

theorem w_front2 (ht : TOk t) (hn : n ≤ 12) (hg : ∀ i, i < n → LOk (g i)) :
    IntKind.i64.wrap (IntKind.i64.wrap (IntKind.i64.wrap (t.e0 * (2 * (t.re - t.fr))) + IntKind.i64.wrap ((sm g t.fr n).1 * (2 * (t.re - t.fr)))) - (sm g t.fr n).2) = frontN t n g := by
  have b := nb ht hn hg
  have h1 := b.e0; have h2 := b.mo; have h3 := b.m; have h4 := b.ms
  rw [i64_small (x := t.e0 * (2 * (t.re - t.fr))) (by omega), i64_small (x := (sm g t.fr n).1 * (2 * (t.re - t.fr))) (by omega), i64_small (x := t.e0 * (2 * (t.re - t.fr)) + (sm g t.fr n).1 * (2 * (t.re - t.fr))) (by omega), i64_small (by omega), b.ef]

theorem rear_bd (ht : TOk t) (hn : n ≤ 12) (hg : ∀ i, i < n → LOk (g i)) : -900000000000000000 ≤ rearN t n g ∧ rearN t n g ≤ 900000000000000000 := by
  have b := nb ht hn hg
  have h1 := b.e; have h2 := b.mo
  unfold rearN
  omega

theorem front_bd (ht : TOk t) (hn : n ≤ 12) (hg : ∀ i, i < n → LOk (g i)) : -900000000000000000 ≤ frontN t n g ∧ frontN t n g ≤ 900000000000000000 := by
  have b := nb ht hn hg
  have h1 := b.e0; have h2 := b.mo; have h3 := b.ms
  rw [b.ef]
  omega

theorem r42_eq (ht : TOk t) : r42.v t = 2 * (t.re - t.fr) := by
  have hfr := ht.fr
  have hre := ht.re
  unfold r42.v
  rw [i64_small (x := t.re - t.fr) (by omega), i64_small (by omega)]

theorem r27_eq (ht : TOk t) (hn : n ≤ 12) (hg : ∀ i, i < n → LOk (g i)) : r27.v0 t n g = r40.v0 (frontN t n g) (2 * (t.re - t.fr)) ∧ r27.v1 t n g = r40.v1 (frontN t n g) (2 * (t.re - t.fr)) ∧
    r27.v2 t n g = r40.v0 (rearN t n g) (2 * (t.re - t.fr)) ∧ r27.v3 t n g = r40.v1 (rearN t n g) (2 * (t.re - t.fr)) := by
  unfold r27.v0 r27.v1 r27.v2 r27.v3
  rw [span_eq ht, r41_sm (by omega) t.fr, r20_sm (by omega) t.fr, w_front2 ht hn hg, w_rear ht hn hg]
  exact ⟨rfl, rfl, rfl, rfl⟩

/-- One axle: the fraction is within its limit if and only if the numbers are. -/
theorem lim_iff {a s l : Int} (ha : -900000000000000000 ≤ a ∧ a ≤ 900000000000000000) (hs : 0 < s ∧ s ≤ 900000000000000000) :
    (¬ r40.v0 a s < 0 ∧ ¬ r43.v (r40.v0 a s) (r40.v1 a s) l > 0) ↔ 0 ≤ a ∧ a ≤ l * s := by
  obtain ⟨G, g0, g1, g2⟩ := new_red ha hs
  generalize r40.v0 a s = x at *
  generalize r40.v1 a s = y at *
  have e1 : ¬ r43.v x y l > 0 ↔ x ≤ l * y := by
    unfold r43.v
    rw [Int.mul_one]
    generalize l * y = z
    by_cases q : x < z
    · rw [decide_eq_true q, if_pos q]
      rw [show (z - x == 0) = false by simp; omega]
      exact ⟨fun _ => by omega, fun _ => by decide⟩
    · rw [decide_eq_false q, if_neg q]
      by_cases h : x = z
      · rw [show (x - z == 0) = true by simp; omega]
        exact ⟨fun _ => by omega, fun _ => by decide⟩
      · rw [show (x - z == 0) = false by simp; omega]
        exact ⟨fun h => absurd (show (1 : Int) > 0 by decide) h, fun _ => by omega⟩
  rw [e1, g2, show l * (y * G) = l * y * G by rw [Int.mul_assoc]]
  generalize l * y = z at *
  rw [g1]
  constructor
  · rintro ⟨h1, h2⟩
    exact ⟨Int.mul_nonneg (by omega) (by omega), Int.mul_le_mul_of_nonneg_right h2 (by omega)⟩
  · rintro ⟨h1, h2⟩
    refine ⟨fun h => ?_, Int.le_of_mul_le_mul_right h2 g0⟩
    have := Int.mul_neg_of_neg_of_pos h g0
    omega

theorem r32_iff {x a b : Int} : r32.v x a b = true ↔ a ≤ x ∧ x ≤ b := by
  unfold r32.v
  by_cases h : x ≥ a
  · rw [decide_eq_true h, cond_true, decide_eq_true_iff]; exact ⟨fun q => ⟨h, q⟩, fun q => q.2⟩
  · rw [decide_eq_false h, cond_false]; exact ⟨fun q => (by cases q), fun q => absurd q.1 h⟩

theorem safe_iff (ht : TOk t) (hn : n ≤ 12) (hg : ∀ i, i < n → LOk (g i)) : r34.v t (r33.v0 n g t.fr) (r33.v1 n g t.fr) = true ↔
    (0 ≤ rearN t n g ∧ rearN t n g ≤ t.l1 * (2 * (t.re - t.fr))) ∧ 0 ≤ frontN t n g ∧ frontN t n g ≤ t.l0 * (2 * (t.re - t.fr)) := by
  obtain ⟨s0, s1⟩ := r33_sm (n := n) (g := g) (by omega) t.fr
  have hs := span_bd ht
  have m0 := mulb (m := t.l0) (x := 2 * (t.re - t.fr)) (A := 1000000000) (B := 200000) (l0_lo ht) ht.l0.2 (by omega) (by omega)
  have m1 := mulb (m := t.l1) (x := 2 * (t.re - t.fr)) (A := 1000000000) (B := 200000) (l1_lo ht) ht.l1.2 (by omega) (by omega)
  unfold r34.v
  rw [r42_eq ht, s0, s1, w_rear ht hn hg, w_front ht hn hg, i64_small (x := t.l1 * (2 * (t.re - t.fr))) (by omega), i64_small (x := t.l0 * (2 * (t.re - t.fr))) (by omega)]
  rw [← r32_iff, ← r32_iff]
  cases r32.v (rearN t n g) 0 (t.l1 * (2 * (t.re - t.fr)))
  · exact ⟨fun h => (by cases h), fun h => h.1⟩
  · exact ⟨fun h => ⟨rfl, h⟩, fun h => h.2⟩

theorem ref_iff (ht : TOk t) (hn : n ≤ 12) (hg : ∀ i, i < n → LOk (g i)) : r28.v t n g = true ↔
    (0 ≤ rearN t n g ∧ rearN t n g ≤ t.l1 * (2 * (t.re - t.fr))) ∧ 0 ≤ frontN t n g ∧ frontN t n g ≤ t.l0 * (2 * (t.re - t.fr)) := by
  have hs := span_bd ht
  obtain ⟨b1, b2, b3, b4⟩ := r27_eq ht hn hg
  rw [← lim_iff (l := t.l1) (rear_bd ht hn hg) (by omega), ← lim_iff (l := t.l0) (front_bd ht hn hg) (by omega), ← b1, ← b2, ← b3, ← b4]
  unfold r28.v
  by_cases q1 : r27.v0 t n g < 0
  · rw [decide_eq_true q1]; exact ⟨fun h => (by cases h), fun h => absurd q1 h.2.1⟩
  · rw [decide_eq_false q1, cond_false]
    by_cases q2 : r43.v (r27.v0 t n g) (r27.v1 t n g) t.l0 > 0
    · rw [decide_eq_true q2]; exact ⟨fun h => (by cases h), fun h => absurd q2 h.2.2⟩
    · rw [decide_eq_false q2, cond_false]
      by_cases q3 : r27.v2 t n g < 0
      · rw [decide_eq_true q3]; exact ⟨fun h => (by cases h), fun h => absurd q3 h.1.1⟩
      · rw [decide_eq_false q3, cond_false]
        by_cases q4 : r43.v (r27.v2 t n g) (r27.v3 t n g) t.l1 > 0
        · rw [decide_eq_true q4]; exact ⟨fun h => (by cases h), fun h => absurd q4 h.1.2⟩
        · rw [decide_eq_false q4, cond_false]; exact ⟨fun _ => ⟨⟨q3, q4⟩, q1, q2⟩, fun _ => rfl⟩

theorem safe_eq (ht : TOk t) (hn : n ≤ 12) (hg : ∀ i, i < n → LOk (g i)) : r34.v t (r33.v0 n g t.fr) (r33.v1 n g t.fr) = r28.v t n g := by
  have e := (safe_iff ht hn hg).trans (ref_iff ht hn hg).symm
  cases h : r28.v t n g with
  | true => exact e.2 h
  | false =>
    cases h2 : r34.v t (r33.v0 n g t.fr) (r33.v1 n g t.fr) with
    | false => rfl
    | true => rw [e.1 h2] at h; cases h

theorem beq_of {x y : Int} (h : x = y) : (x == y) = true := by simpa using h

theorem few_70 (h : r11.v t n g = true) : n ≤ 70 := by
  unfold r11.v at h
  by_cases h1 : (n : Int) > 70
  · rw [decide_eq_true (show (n : Int) > 10 by omega), decide_eq_false (show ¬ (n : Int) ≤ 64 by omega), decide_eq_true h1] at h
    revert h
    cases decide ((t.nm.size : Int) > 100) <;> (intro h; simp at h)
  · omega

end Go.Proofs.Ytngpbfocjgikaaa

open Go

namespace Go.Proofs.Ytngpbfocjgikaaa

set_option linter.unusedSimpArgs false

set_option linter.unusedVariables false

set_option maxHeartbeats 0

set_option maxRecDepth 100000

theorem bd_at {t : TD} {a ln : Int} (h : IntKind.i64.wrap (a + ln) ≤ t.tl) (ht : TOk t) (hi : 0 ≤ a ∧ a ≤ 50001) (hl : 1 ≤ ln ∧ ln ≤ 50000) : a ≤ 49999 := by
  have := ht.tl
  rw [i64_small (by omega)] at h
  omega

inductive L21a.O where
  | e0 (a0 : Int) (a1 : Int)

noncomputable def L21a.T (t : TD) (n : Nat) (g : Nat → LD) (ln : Int) (ms : Int) (a11 : Int) (ao2_0 : Int) (ao2_1 : Int) : List AV := mkT 44 [(1, AV.sl 4 n fun (i : Nat) => AV.agg [AV.str (g i).nm, AV.int IntKind.i64 (g i).lo, AV.int IntKind.i64 (g i).ln, AV.int IntKind.i64 (g i).ms]), (2, AV.int IntKind.i64 ln), (3, AV.int IntKind.i64 ms), (4, AV.ptr 0 1 8 0 0), (8, AV.ptr 1 1 2 0 0), (10, AV.ptr 2 1 2 0 0), (11, AV.int IntKind.i64 a11)]

noncomputable def L21a.H (t : TD) (n : Nat) (g : Nat → LD) (ln : Int) (ms : Int) (a11 : Int) (ao2_0 : Int) (ao2_1 : Int) : AHeap := [AObj.var (AV.agg [AV.str t.nm, AV.int IntKind.i64 t.tl, AV.int IntKind.i64 t.fr, AV.int IntKind.i64 t.re, AV.int IntKind.i64 t.l0, AV.int IntKind.i64 t.l1, AV.int IntKind.i64 t.e0, AV.int IntKind.i64 t.e1]), AObj.var (AV.agg [AV.int IntKind.i64 0, AV.int IntKind.i64 0]), AObj.var (AV.agg [AV.int IntKind.i64 ao2_0, AV.int IntKind.i64 ao2_1])]

def L21a.inv (t : TD) (n : Nat) (g : Nat → LD) (ln : Int) (ms : Int) (a11 : Int) (ao2_0 : Int) (ao2_1 : Int) : Prop := 0 ≤ a11 ∧ a11 ≤ 50001

noncomputable def L21a.mu (t : TD) (n : Nat) (g : Nat → LD) (ln : Int) (ms : Int) (a11 : Int) (ao2_0 : Int) (ao2_1 : Int) : Nat := (50001 - a11).toNat

noncomputable def L21a.E : L21a.O → Exit
  | .e0 a0 a1 => Exit.exit 0

noncomputable def L21a.X (t : TD) (n : Nat) (g : Nat → LD) (ln : Int) (ms : Int) : L21a.O → List AV
  | .e0 a0 a1 => mkT 44 [(8, (AV.ptr 1 1 2 0 0)), (10, (AV.ptr 2 1 2 0 0))]

noncomputable def L21a.XH (t : TD) (n : Nat) (g : Nat → LD) (ln : Int) (ms : Int) : L21a.O → AHeap
  | .e0 a0 a1 => ((AObj.var (AV.agg [AV.str t.nm, AV.int IntKind.i64 t.tl, AV.int IntKind.i64 t.fr, AV.int IntKind.i64 t.re, AV.int IntKind.i64 t.l0, AV.int IntKind.i64 t.l1, AV.int IntKind.i64 t.e0, AV.int IntKind.i64 t.e1])) :: ((AObj.var (AV.agg [AV.int IntKind.i64 0, AV.int IntKind.i64 0])) :: ((AObj.var (AV.agg ((AV.int IntKind.i64 a0) :: ((AV.int IntKind.i64 a1) :: ([]))))) :: ([]))))

noncomputable def L21a.N (t : TD) (n : Nat) (g : Nat → LD) (ln : Int) (ms : Int) : Nat → Int → Int → Int → L21a.O
  | 0, _, ao2_0, ao2_1 => .e0 ao2_0 ao2_1
  | k_ + 1, a11, ao2_0, ao2_1 => (bif decide (IntKind.i64.wrap (a11 + ln) ≤ t.tl) then (bif r28.v t ((Col.gen n fun (i : Nat) => AV.agg [AV.str (g i).nm, AV.int IntKind.i64 (g i).lo, AV.int IntKind.i64 (g i).ln, AV.int IntKind.i64 (g i).ms]).join AppMode.one 1 fun (a : Nat) => (Col.ofList [AV.agg [AV.str (ByteArray.mk #[]), AV.int IntKind.i64 a11, AV.int IntKind.i64 ln, AV.int IntKind.i64 ms]]).get a).len fun (i : Nat) => if i = n then LD.mk (ByteArray.mk #[]) a11 ln ms else g i then (bif decide (ao2_1 < 0) then (L21a.N t n g ln ms k_ (IntKind.i64.wrap (a11 + 1)) (a11) (a11)) else (L21a.N t n g ln ms k_ (IntKind.i64.wrap (a11 + 1)) (ao2_0) (a11))) else (L21a.N t n g ln ms k_ (IntKind.i64.wrap (a11 + 1)) (ao2_0) (ao2_1))) else (.e0 (ao2_0) (ao2_1)))

noncomputable def L21a.run (t : TD) (n : Nat) (g : Nat → LD) (ln : Int) (ms : Int) (a11 : Int) (ao2_0 : Int) (ao2_1 : Int) : L21a.O := L21a.N t n g ln ms (((50001 - a11).toNat) + 1) a11 ao2_0 ao2_1

theorem L21a.nx (t : TD) (n : Nat) (g : Nat → LD) (ln : Int) (ms : Int) {k_ : Nat} {z_ : Int × Int × Int} {h_ : AHeap} (s_ : Int × Int × Int) (h1 : L21a.inv t n g ln ms s_.1 s_.2.1 s_.2.2) (h2 : L21a.mu t n g ln ms s_.1 s_.2.1 s_.2.2 < L21a.mu t n g ln ms z_.1 z_.2.1 z_.2.2) (h3 : L21a.N t n g ln ms k_ s_.1 s_.2.1 s_.2.2 = L21a.N t n g ln ms (k_ + 1) z_.1 z_.2.1 z_.2.2) (h4 : PopOk (L21a.H t n g ln ms z_.1 z_.2.1 z_.2.2) h_ (L21a.T t n g ln ms s_.1 s_.2.1 s_.2.2) (L21a.H t n g ln ms s_.1 s_.2.1 s_.2.2)) : LNextP (fun (z_ : Int × Int × Int) => L21a.T t n g ln ms z_.1 z_.2.1 z_.2.2) (fun (z_ : Int × Int × Int) => L21a.H t n g ln ms z_.1 z_.2.1 z_.2.2) (fun (z_ : Int × Int × Int) => L21a.inv t n g ln ms z_.1 z_.2.1 z_.2.2) (fun (z_ : Int × Int × Int) => L21a.mu t n g ln ms z_.1 z_.2.1 z_.2.2) (fun (k_ : Nat) (z_ : Int × Int × Int) => L21a.N t n g ln ms k_ z_.1 z_.2.1 z_.2.2) k_ z_ (L21a.T t n g ln ms s_.1 s_.2.1 s_.2.2) h_ := LNextP.mk (Tm := (fun (z_ : Int × Int × Int) => L21a.T t n g ln ms z_.1 z_.2.1 z_.2.2)) (Hp := (fun (z_ : Int × Int × Int) => L21a.H t n g ln ms z_.1 z_.2.1 z_.2.2)) (inv := (fun (z_ : Int × Int × Int) => L21a.inv t n g ln ms z_.1 z_.2.1 z_.2.2)) (mu := (fun (z_ : Int × Int × Int) => L21a.mu t n g ln ms z_.1 z_.2.1 z_.2.2)) (l := (fun (k_ : Nat) (z_ : Int × Int × Int) => L21a.N t n g ln ms k_ z_.1 z_.2.1 z_.2.2)) s_ h1 h2 h3 h4

theorem L21a.en (t : TD) (n : Nat) (g : Nat → LD) (ln : Int) (ms : Int) {k_ : Nat} {z_ : Int × Int × Int} {h_ : AHeap} (o_ : L21a.O) (h3 : L21a.N t n g ln ms (k_ + 1) z_.1 z_.2.1 z_.2.2 = o_) (h4 : PopOk (L21a.H t n g ln ms z_.1 z_.2.1 z_.2.2) h_ (L21a.X t n g ln ms o_) (L21a.XH t n g ln ms o_)) : LEndP (fun (z_ : Int × Int × Int) => L21a.H t n g ln ms z_.1 z_.2.1 z_.2.2) (fun (k_ : Nat) (z_ : Int × Int × Int) => L21a.N t n g ln ms k_ z_.1 z_.2.1 z_.2.2) L21a.E (L21a.X t n g ln ms) (L21a.XH t n g ln ms) k_ z_ (L21a.E o_) (L21a.X t n g ln ms o_) h_ := LEndP.mk (Hp := (fun (z_ : Int × Int × Int) => L21a.H t n g ln ms z_.1 z_.2.1 z_.2.2)) (l := (fun (k_ : Nat) (z_ : Int × Int × Int) => L21a.N t n g ln ms k_ z_.1 z_.2.1 z_.2.2)) (oE := L21a.E) (oT := L21a.X t n g ln ms) (oH := L21a.XH t n g ln ms) o_ h3 h4

noncomputable abbrev L21a.h0 (t : TD) (n : Nat) (g : Nat → LD) (ln : Int) (ms : Int) (a11 : Int) (ao2_0 : Int) (ao2_1 : Int) : AHeap := ([AObj.var (AV.agg [AV.str t.nm, AV.int IntKind.i64 t.tl, AV.int IntKind.i64 t.fr, AV.int IntKind.i64 t.re, AV.int IntKind.i64 t.l0, AV.int IntKind.i64 t.l1, AV.int IntKind.i64 t.e0, AV.int IntKind.i64 t.e1]), AObj.var (AV.agg [AV.int IntKind.i64 0, AV.int IntKind.i64 0]), AObj.var (AV.agg [AV.int IntKind.i64 ao2_0, AV.int IntKind.i64 ao2_1]), AObj.frow 4 (n + 1) (Col.gen (n + 1) fun (j : Nat) => if j = n then (fun (a : Nat) => (Col.ofList [AV.agg [AV.str (ByteArray.mk #[]), AV.int IntKind.i64 a11, AV.int IntKind.i64 ln, AV.int IntKind.i64 ms]]).get a) 0 else (fun (i : Nat) => AV.agg [AV.str (g i).nm, AV.int IntKind.i64 (g i).lo, AV.int IntKind.i64 (g i).ln, AV.int IntKind.i64 (g i).ms]) j).len fun (a : Nat) => (Col.gen (n + 1) fun (j : Nat) => if j = n then (fun (a : Nat) => (Col.ofList [AV.agg [AV.str (ByteArray.mk #[]), AV.int IntKind.i64 a11, AV.int IntKind.i64 ln, AV.int IntKind.i64 ms]]).get a) 0 else (fun (i : Nat) => AV.agg [AV.str (g i).nm, AV.int IntKind.i64 (g i).lo, AV.int IntKind.i64 (g i).ln, AV.int IntKind.i64 (g i).ms]) j).get a])

noncomputable abbrev L21a.h1 (t : TD) (n : Nat) (g : Nat → LD) (ln : Int) (ms : Int) (a11 : Int) (ao2_0 : Int) (ao2_1 : Int) : AHeap := ([AObj.var (AV.agg [AV.str t.nm, AV.int IntKind.i64 t.tl, AV.int IntKind.i64 t.fr, AV.int IntKind.i64 t.re, AV.int IntKind.i64 t.l0, AV.int IntKind.i64 t.l1, AV.int IntKind.i64 t.e0, AV.int IntKind.i64 t.e1]), AObj.var (AV.agg [AV.int IntKind.i64 0, AV.int IntKind.i64 0]), AObj.var (AV.agg [AV.int IntKind.i64 ao2_0, AV.int IntKind.i64 ao2_1]), AObj.row 4 (n + 1) (Col.gen (n + 1) fun (j : Nat) => if j = n then (fun (a : Nat) => (Col.ofList [AV.agg [AV.str (ByteArray.mk #[]), AV.int IntKind.i64 a11, AV.int IntKind.i64 ln, AV.int IntKind.i64 ms]]).get a) 0 else (fun (i : Nat) => AV.agg [AV.str (g i).nm, AV.int IntKind.i64 (g i).lo, AV.int IntKind.i64 (g i).ln, AV.int IntKind.i64 (g i).ms]) j)])

theorem L21a.spec (t : TD) (ht : TOk t) (n : Nat) (hn : n ≤ 12) (g : Nat → LD) (ln : Int) (hl : 1 ≤ ln ∧ ln ≤ 50000) (ms : Int) (k_ : Nat) (z_ : Int × Int × Int) (hi_ : L21a.inv t n g ln ms z_.1 z_.2.1 z_.2.2) (hm_ : L21a.mu t n g ln ms z_.1 z_.2.1 z_.2.2 < k_) : LoopTo Try.prog (loopN Try.f21 0) (L21a.T t n g ln ms z_.1 z_.2.1 z_.2.2) (L21a.H t n g ln ms z_.1 z_.2.1 z_.2.2) (L21a.E (L21a.N t n g ln ms k_ z_.1 z_.2.1 z_.2.2)) (L21a.X t n g ln ms (L21a.N t n g ln ms k_ z_.1 z_.2.1 z_.2.2)) (L21a.XH t n g ln ms (L21a.N t n g ln ms k_ z_.1 z_.2.1 z_.2.2)) := by
  refine LoopTo.fuelP mix (fun (z_ : Int × Int × Int) => L21a.T t n g ln ms z_.1 z_.2.1 z_.2.2) (fun (z_ : Int × Int × Int) => L21a.H t n g ln ms z_.1 z_.2.1 z_.2.2) (fun (z_ : Int × Int × Int) => L21a.inv t n g ln ms z_.1 z_.2.1 z_.2.2) (fun (z_ : Int × Int × Int) => L21a.mu t n g ln ms z_.1 z_.2.1 z_.2.2) (fun (k_ : Nat) (z_ : Int × Int × Int) => L21a.N t n g ln ms k_ z_.1 z_.2.1 z_.2.2) L21a.E (L21a.X t n g ln ms) (L21a.XH t n g ln ms) (others 44 [1, 2, 3, 4, 8, 10, 11]) (others 44 [8, 9]) (others 44 [8, 10]) ?_ k_ z_ hi_ hm_
  clear hm_ hi_ z_ k_
  intro k_ z_ hinv hmu
  obtain ⟨a11, ao2_0, ao2_1⟩ := z_
  have hinv : 0 ≤ a11 ∧ a11 ≤ 50001 := hinv
  have hmu : ((50001 - a11).toNat) < k_ + 1 := hmu
  cases h1 : decide (IntKind.i64.wrap (a11 + ln) ≤ t.tl) with
  | true =>
    have h1p := of_decide_eq_true h1
    try have := bd_at (by first | assumption | omega) (by first | assumption | omega) (by first | assumption | omega) (by first | assumption | omega)
    have o0 : n * (40 : Nat) ≤ (140737488355328 : Nat) := by first | assumption | omega | (simp_all; done)
    have o1 : (n + (1 : Nat)) * (40 : Nat) ≤ (140737488355328 : Nat) := by first | assumption | omega | (simp_all; done)
    have o2 : ((Col.gen n fun (i : Nat) => AV.agg [AV.str (g i).nm, AV.int IntKind.i64 (g i).lo, AV.int IntKind.i64 (g i).ln, AV.int IntKind.i64 (g i).ms]).join AppMode.one (1 : Nat) fun (a : Nat) => (Col.ofList [AV.agg [AV.str (ByteArray.mk #[]), AV.int IntKind.i64 a11, AV.int IntKind.i64 ln, AV.int IntKind.i64 ms]]).get a).len ≤ n + (1 : Nat) := by first | assumption | omega | (simp only [List.length_append, List.length_cons, List.length_nil, List.length_map]; omega) | rfl | (exact Nat.le_refl _) | (simp [Col.len]; done) | (simp only [Col.len, zero_bool, zero_int, List.length_replicate, List.length_set] at *; omega) | (simp_all; done)
    have o3 : TOk t := by first | assumption | (simp_all; done)
    have o4 : ((Col.gen n fun (i : Nat) => AV.agg [AV.str (g i).nm, AV.int IntKind.i64 (g i).lo, AV.int IntKind.i64 (g i).ln, AV.int IntKind.i64 (g i).ms]).join AppMode.one (1 : Nat) fun (a : Nat) => (Col.ofList [AV.agg [AV.str (ByteArray.mk #[]), AV.int IntKind.i64 a11, AV.int IntKind.i64 ln, AV.int IntKind.i64 ms]]).get a).len ≤ (9223372036854775807 : Nat) := by first | assumption | omega | (simp only [List.length_append, List.length_cons, List.length_nil, List.length_map]; omega) | rfl | (exact Nat.le_refl _) | (simp [Col.len]; done) | (simp only [Col.len, zero_bool, zero_int, List.length_replicate, List.length_set] at *; omega) | (simp_all; done)
    cases h2 : r28.v t ((Col.gen n fun (i : Nat) => AV.agg [AV.str (g i).nm, AV.int IntKind.i64 (g i).lo, AV.int IntKind.i64 (g i).ln, AV.int IntKind.i64 (g i).ms]).join AppMode.one 1 fun (a : Nat) => (Col.ofList [AV.agg [AV.str (ByteArray.mk #[]), AV.int IntKind.i64 a11, AV.int IntKind.i64 ln, AV.int IntKind.i64 ms]]).get a).len fun (i : Nat) => if i = n then LD.mk (ByteArray.mk #[]) a11 ln ms else g i with
    | true =>
      cases h3 : decide (ao2_1 < 0) with
      | true =>
        have h3p := of_decide_eq_true h3
        try have := bd_at (by first | assumption | omega) (by first | assumption | omega) (by first | assumption | omega) (by first | assumption | omega)
        try have := IntWalk.i64_in (a11 + 1) (by omega)
        have o5 : (0 : Int) ≤ IntKind.i64.wrap (a11 + (1 : Int)) := by first | assumption | omega | (simp_all; done)
        have o6 : IntKind.i64.wrap (a11 + (1 : Int)) ≤ (50001 : Int) := by first | assumption | omega | (simp_all; done)
        have o7 : ((50001 : Int) - IntKind.i64.wrap (a11 + (1 : Int))).toNat < ((50001 : Int) - a11).toNat := by first | assumption | omega | (simp_all; done)
        exact ⟨[.b true, .app .many false, .app .one false, .fret ([AV.agg [AV.str t.nm, AV.int IntKind.i64 t.tl, AV.int IntKind.i64 t.fr, AV.int IntKind.i64 t.re, AV.int IntKind.i64 t.l0, AV.int IntKind.i64 t.l1, AV.int IntKind.i64 t.e0, AV.int IntKind.i64 t.e1], AV.sl 4 ((Col.gen n fun (i : Nat) => AV.agg [AV.str (g i).nm, AV.int IntKind.i64 (g i).lo, AV.int IntKind.i64 (g i).ln, AV.int IntKind.i64 (g i).ms]).join AppMode.one 1 fun (a : Nat) => (Col.ofList [AV.agg [AV.str (ByteArray.mk #[]), AV.int IntKind.i64 a11, AV.int IntKind.i64 ln, AV.int IntKind.i64 ms]]).get a).len fun (i : Nat) => (if i = n then LD.mk (ByteArray.mk #[]) a11 ln ms else g i).av]) (L21a.h0 t n g ln ms a11 ao2_0 ao2_1) (AV.bool (r28.v t ((Col.gen n fun (i : Nat) => AV.agg [AV.str (g i).nm, AV.int IntKind.i64 (g i).lo, AV.int IntKind.i64 (g i).ln, AV.int IntKind.i64 (g i).ms]).join AppMode.one 1 fun (a : Nat) => (Col.ofList [AV.agg [AV.str (ByteArray.mk #[]), AV.int IntKind.i64 a11, AV.int IntKind.i64 ln, AV.int IntKind.i64 ms]]).get a).len fun (i : Nat) => if i = n then LD.mk (ByteArray.mk #[]) a11 ln ms else g i)) (L21a.h0 t n g ln ms a11 ao2_0 ao2_1), .b true, .b true], kmp (by kernel_rfl) (And.intro h1 (And.intro (And.intro (show (4 : Nat) = (4 : Nat) by first | decide | exact Int.NonNeg.mk _) (And.intro (show AppMode.many.needs n fun (i : Nat) => AV.agg [AV.str (g i).nm, AV.int IntKind.i64 (g i).lo, AV.int IntKind.i64 (g i).ln, AV.int IntKind.i64 (g i).ms] by first | exact ⟨rfl, rfl⟩ | exact (fun i_ hi_ => rfl) | simp [AppMode.needs]) o0)) (And.intro (And.intro (show (4 : Nat) = (4 : Nat) by first | decide | exact Int.NonNeg.mk _) (And.intro (show AppMode.one.needs 1 fun (a : Nat) => (Col.ofList [AV.agg [AV.str (ByteArray.mk #[]), AV.int IntKind.i64 a11, AV.int IntKind.i64 ln, AV.int IntKind.i64 ms]]).get a by first | exact ⟨rfl, rfl⟩ | exact (fun i_ hi_ => rfl) | simp [AppMode.needs]) (And.intro o1 (And.intro (rfl : n = n) (And.intro (show (0 : Nat) = (0 : Nat) by first | decide | exact Int.NonNeg.mk _) (rfl : n = n)))))) (And.intro (show Weak 4 ([AV.agg [AV.str t.nm, AV.int IntKind.i64 t.tl, AV.int IntKind.i64 t.fr, AV.int IntKind.i64 t.re, AV.int IntKind.i64 t.l0, AV.int IntKind.i64 t.l1, AV.int IntKind.i64 t.e0, AV.int IntKind.i64 t.e1], AV.ms 3 (n + 1) 4 0 ((Col.gen n fun (i : Nat) => AV.agg [AV.str (g i).nm, AV.int IntKind.i64 (g i).lo, AV.int IntKind.i64 (g i).ln, AV.int IntKind.i64 (g i).ms]).join AppMode.one 1 fun (a : Nat) => (Col.ofList [AV.agg [AV.str (ByteArray.mk #[]), AV.int IntKind.i64 a11, AV.int IntKind.i64 ln, AV.int IntKind.i64 ms]]).get a).len]) (L21a.h1 t n g ln ms a11 ao2_0 ao2_1) ([AV.agg [AV.str t.nm, AV.int IntKind.i64 t.tl, AV.int IntKind.i64 t.fr, AV.int IntKind.i64 t.re, AV.int IntKind.i64 t.l0, AV.int IntKind.i64 t.l1, AV.int IntKind.i64 t.e0, AV.int IntKind.i64 t.e1], AV.sl 4 ((Col.gen n fun (i : Nat) => AV.agg [AV.str (g i).nm, AV.int IntKind.i64 (g i).lo, AV.int IntKind.i64 (g i).ln, AV.int IntKind.i64 (g i).ms]).join AppMode.one 1 fun (a : Nat) => (Col.ofList [AV.agg [AV.str (ByteArray.mk #[]), AV.int IntKind.i64 a11, AV.int IntKind.i64 ln, AV.int IntKind.i64 ms]]).get a).len fun (i : Nat) => (if i = n then LD.mk (ByteArray.mk #[]) a11 ln ms else g i).av]) (L21a.h0 t n g ln ms a11 ao2_0 ao2_1) from Weak.frz (id := 3) (n := n + 1) (sz := 4) (c := Col.gen (n + 1) fun (j : Nat) => if j = n then (fun (a : Nat) => (Col.ofList [AV.agg [AV.str (ByteArray.mk #[]), AV.int IntKind.i64 a11, AV.int IntKind.i64 ln, AV.int IntKind.i64 ms]]).get a) 0 else (fun (i : Nat) => AV.agg [AV.str (g i).nm, AV.int IntKind.i64 (g i).lo, AV.int IntKind.i64 (g i).ln, AV.int IntKind.i64 (g i).ms]) j) rfl (And.intro (Or.inl (frz_same _)) (And.intro (Or.inl (frz_gen (av := LD.av) (fun (j : Nat) => if j = n then LD.mk (ByteArray.mk #[]) a11 ln ms else g j) o2 (fun i_ hi_ => by first | rfl | (split <;> rfl)))) trivial))) (And.intro (r28 (t) o3 (((Col.gen n fun (i : Nat) => AV.agg [AV.str (g i).nm, AV.int IntKind.i64 (g i).lo, AV.int IntKind.i64 (g i).ln, AV.int IntKind.i64 (g i).ms]).join AppMode.one 1 fun (a : Nat) => (Col.ofList [AV.agg [AV.str (ByteArray.mk #[]), AV.int IntKind.i64 a11, AV.int IntKind.i64 ln, AV.int IntKind.i64 ms]]).get a).len) o4 (fun (i : Nat) => if i = n then LD.mk (ByteArray.mk #[]) a11 ln ms else g i) (L21a.h0 t n g ln ms a11 ao2_0 ao2_1)) (And.intro h2 (And.intro h3 (L21a.nx t n g ln ms (k_ := k_) (z_ := (a11, ao2_0, ao2_1)) (h_ := [AObj.var (AV.agg [AV.str t.nm, AV.int IntKind.i64 t.tl, AV.int IntKind.i64 t.fr, AV.int IntKind.i64 t.re, AV.int IntKind.i64 t.l0, AV.int IntKind.i64 t.l1, AV.int IntKind.i64 t.e0, AV.int IntKind.i64 t.e1]), AObj.var (AV.agg [AV.int IntKind.i64 0, AV.int IntKind.i64 0]), AObj.var (AV.agg [AV.int IntKind.i64 a11, AV.int IntKind.i64 a11]), AObj.frow 4 (n + 1) (Col.gen (n + 1) fun (j : Nat) => if j = n then (fun (a : Nat) => (Col.ofList [AV.agg [AV.str (ByteArray.mk #[]), AV.int IntKind.i64 a11, AV.int IntKind.i64 ln, AV.int IntKind.i64 ms]]).get a) 0 else (fun (i : Nat) => AV.agg [AV.str (g i).nm, AV.int IntKind.i64 (g i).lo, AV.int IntKind.i64 (g i).ln, AV.int IntKind.i64 (g i).ms]) j).len fun (a : Nat) => (Col.gen (n + 1) fun (j : Nat) => if j = n then (fun (a : Nat) => (Col.ofList [AV.agg [AV.str (ByteArray.mk #[]), AV.int IntKind.i64 a11, AV.int IntKind.i64 ln, AV.int IntKind.i64 ms]]).get a) 0 else (fun (i : Nat) => AV.agg [AV.str (g i).nm, AV.int IntKind.i64 (g i).lo, AV.int IntKind.i64 (g i).ln, AV.int IntKind.i64 (g i).ms]) j).get a]) ((IntKind.i64.wrap (a11 + 1), a11, a11)) (And.intro o5 o6) o7 (by first | (simp only [L21a.N, h1, h2, h3, cond_true, cond_false]; done) | (try unfold L21a.N; try simp only [h1, cond_true, cond_false]; try simp only [h2, cond_true, cond_false]; try simp only [h3, cond_true, cond_false]; try rfl; done)) (PopOk.popLow _ rfl rfl (by simp [L21a.T, L21a.X, L21a.H, L21a.XH]) (by simp [L21a.T, L21a.X, L21a.H, L21a.XH]))))))))))⟩
      | false =>
        have h3p := of_decide_eq_false h3
        try have := bd_at (by first | assumption | omega) (by first | assumption | omega) (by first | assumption | omega) (by first | assumption | omega)
        try have := IntWalk.i64_in (a11 + 1) (by omega)
        have o5 : (0 : Int) ≤ IntKind.i64.wrap (a11 + (1 : Int)) := by first | assumption | omega | (simp_all; done)
        have o6 : IntKind.i64.wrap (a11 + (1 : Int)) ≤ (50001 : Int) := by first | assumption | omega | (simp_all; done)
        have o7 : ((50001 : Int) - IntKind.i64.wrap (a11 + (1 : Int))).toNat < ((50001 : Int) - a11).toNat := by first | assumption | omega | (simp_all; done)
        exact ⟨[.b true, .app .many false, .app .one false, .fret ([AV.agg [AV.str t.nm, AV.int IntKind.i64 t.tl, AV.int IntKind.i64 t.fr, AV.int IntKind.i64 t.re, AV.int IntKind.i64 t.l0, AV.int IntKind.i64 t.l1, AV.int IntKind.i64 t.e0, AV.int IntKind.i64 t.e1], AV.sl 4 ((Col.gen n fun (i : Nat) => AV.agg [AV.str (g i).nm, AV.int IntKind.i64 (g i).lo, AV.int IntKind.i64 (g i).ln, AV.int IntKind.i64 (g i).ms]).join AppMode.one 1 fun (a : Nat) => (Col.ofList [AV.agg [AV.str (ByteArray.mk #[]), AV.int IntKind.i64 a11, AV.int IntKind.i64 ln, AV.int IntKind.i64 ms]]).get a).len fun (i : Nat) => (if i = n then LD.mk (ByteArray.mk #[]) a11 ln ms else g i).av]) (L21a.h0 t n g ln ms a11 ao2_0 ao2_1) (AV.bool (r28.v t ((Col.gen n fun (i : Nat) => AV.agg [AV.str (g i).nm, AV.int IntKind.i64 (g i).lo, AV.int IntKind.i64 (g i).ln, AV.int IntKind.i64 (g i).ms]).join AppMode.one 1 fun (a : Nat) => (Col.ofList [AV.agg [AV.str (ByteArray.mk #[]), AV.int IntKind.i64 a11, AV.int IntKind.i64 ln, AV.int IntKind.i64 ms]]).get a).len fun (i : Nat) => if i = n then LD.mk (ByteArray.mk #[]) a11 ln ms else g i)) (L21a.h0 t n g ln ms a11 ao2_0 ao2_1), .b true, .b false], kmp (by kernel_rfl) (And.intro h1 (And.intro (And.intro (show (4 : Nat) = (4 : Nat) by first | decide | exact Int.NonNeg.mk _) (And.intro (show AppMode.many.needs n fun (i : Nat) => AV.agg [AV.str (g i).nm, AV.int IntKind.i64 (g i).lo, AV.int IntKind.i64 (g i).ln, AV.int IntKind.i64 (g i).ms] by first | exact ⟨rfl, rfl⟩ | exact (fun i_ hi_ => rfl) | simp [AppMode.needs]) o0)) (And.intro (And.intro (show (4 : Nat) = (4 : Nat) by first | decide | exact Int.NonNeg.mk _) (And.intro (show AppMode.one.needs 1 fun (a : Nat) => (Col.ofList [AV.agg [AV.str (ByteArray.mk #[]), AV.int IntKind.i64 a11, AV.int IntKind.i64 ln, AV.int IntKind.i64 ms]]).get a by first | exact ⟨rfl, rfl⟩ | exact (fun i_ hi_ => rfl) | simp [AppMode.needs]) (And.intro o1 (And.intro (rfl : n = n) (And.intro (show (0 : Nat) = (0 : Nat) by first | decide | exact Int.NonNeg.mk _) (rfl : n = n)))))) (And.intro (show Weak 4 ([AV.agg [AV.str t.nm, AV.int IntKind.i64 t.tl, AV.int IntKind.i64 t.fr, AV.int IntKind.i64 t.re, AV.int IntKind.i64 t.l0, AV.int IntKind.i64 t.l1, AV.int IntKind.i64 t.e0, AV.int IntKind.i64 t.e1], AV.ms 3 (n + 1) 4 0 ((Col.gen n fun (i : Nat) => AV.agg [AV.str (g i).nm, AV.int IntKind.i64 (g i).lo, AV.int IntKind.i64 (g i).ln, AV.int IntKind.i64 (g i).ms]).join AppMode.one 1 fun (a : Nat) => (Col.ofList [AV.agg [AV.str (ByteArray.mk #[]), AV.int IntKind.i64 a11, AV.int IntKind.i64 ln, AV.int IntKind.i64 ms]]).get a).len]) (L21a.h1 t n g ln ms a11 ao2_0 ao2_1) ([AV.agg [AV.str t.nm, AV.int IntKind.i64 t.tl, AV.int IntKind.i64 t.fr, AV.int IntKind.i64 t.re, AV.int IntKind.i64 t.l0, AV.int IntKind.i64 t.l1, AV.int IntKind.i64 t.e0, AV.int IntKind.i64 t.e1], AV.sl 4 ((Col.gen n fun (i : Nat) => AV.agg [AV.str (g i).nm, AV.int IntKind.i64 (g i).lo, AV.int IntKind.i64 (g i).ln, AV.int IntKind.i64 (g i).ms]).join AppMode.one 1 fun (a : Nat) => (Col.ofList [AV.agg [AV.str (ByteArray.mk #[]), AV.int IntKind.i64 a11, AV.int IntKind.i64 ln, AV.int IntKind.i64 ms]]).get a).len fun (i : Nat) => (if i = n then LD.mk (ByteArray.mk #[]) a11 ln ms else g i).av]) (L21a.h0 t n g ln ms a11 ao2_0 ao2_1) from Weak.frz (id := 3) (n := n + 1) (sz := 4) (c := Col.gen (n + 1) fun (j : Nat) => if j = n then (fun (a : Nat) => (Col.ofList [AV.agg [AV.str (ByteArray.mk #[]), AV.int IntKind.i64 a11, AV.int IntKind.i64 ln, AV.int IntKind.i64 ms]]).get a) 0 else (fun (i : Nat) => AV.agg [AV.str (g i).nm, AV.int IntKind.i64 (g i).lo, AV.int IntKind.i64 (g i).ln, AV.int IntKind.i64 (g i).ms]) j) rfl (And.intro (Or.inl (frz_same _)) (And.intro (Or.inl (frz_gen (av := LD.av) (fun (j : Nat) => if j = n then LD.mk (ByteArray.mk #[]) a11 ln ms else g j) o2 (fun i_ hi_ => by first | rfl | (split <;> rfl)))) trivial))) (And.intro (r28 (t) o3 (((Col.gen n fun (i : Nat) => AV.agg [AV.str (g i).nm, AV.int IntKind.i64 (g i).lo, AV.int IntKind.i64 (g i).ln, AV.int IntKind.i64 (g i).ms]).join AppMode.one 1 fun (a : Nat) => (Col.ofList [AV.agg [AV.str (ByteArray.mk #[]), AV.int IntKind.i64 a11, AV.int IntKind.i64 ln, AV.int IntKind.i64 ms]]).get a).len) o4 (fun (i : Nat) => if i = n then LD.mk (ByteArray.mk #[]) a11 ln ms else g i) (L21a.h0 t n g ln ms a11 ao2_0 ao2_1)) (And.intro h2 (And.intro h3 (L21a.nx t n g ln ms (k_ := k_) (z_ := (a11, ao2_0, ao2_1)) (h_ := [AObj.var (AV.agg [AV.str t.nm, AV.int IntKind.i64 t.tl, AV.int IntKind.i64 t.fr, AV.int IntKind.i64 t.re, AV.int IntKind.i64 t.l0, AV.int IntKind.i64 t.l1, AV.int IntKind.i64 t.e0, AV.int IntKind.i64 t.e1]), AObj.var (AV.agg [AV.int IntKind.i64 0, AV.int IntKind.i64 0]), AObj.var (AV.agg [AV.int IntKind.i64 ao2_0, AV.int IntKind.i64 a11]), AObj.frow 4 (n + 1) (Col.gen (n + 1) fun (j : Nat) => if j = n then (fun (a : Nat) => (Col.ofList [AV.agg [AV.str (ByteArray.mk #[]), AV.int IntKind.i64 a11, AV.int IntKind.i64 ln, AV.int IntKind.i64 ms]]).get a) 0 else (fun (i : Nat) => AV.agg [AV.str (g i).nm, AV.int IntKind.i64 (g i).lo, AV.int IntKind.i64 (g i).ln, AV.int IntKind.i64 (g i).ms]) j).len fun (a : Nat) => (Col.gen (n + 1) fun (j : Nat) => if j = n then (fun (a : Nat) => (Col.ofList [AV.agg [AV.str (ByteArray.mk #[]), AV.int IntKind.i64 a11, AV.int IntKind.i64 ln, AV.int IntKind.i64 ms]]).get a) 0 else (fun (i : Nat) => AV.agg [AV.str (g i).nm, AV.int IntKind.i64 (g i).lo, AV.int IntKind.i64 (g i).ln, AV.int IntKind.i64 (g i).ms]) j).get a]) ((IntKind.i64.wrap (a11 + 1), ao2_0, a11)) (And.intro o5 o6) o7 (by first | (simp only [L21a.N, h1, h2, h3, cond_true, cond_false]; done) | (try unfold L21a.N; try simp only [h1, cond_true, cond_false]; try simp only [h2, cond_true, cond_false]; try simp only [h3, cond_true, cond_false]; try rfl; done)) (PopOk.popLow _ rfl rfl (by simp [L21a.T, L21a.X, L21a.H, L21a.XH]) (by simp [L21a.T, L21a.X, L21a.H, L21a.XH]))))))))))⟩
    | false =>
      try have := bd_at (by first | assumption | omega) (by first | assumption | omega) (by first | assumption | omega) (by first | assumption | omega)
      try have := IntWalk.i64_in (a11 + 1) (by omega)
      have o5 : (0 : Int) ≤ IntKind.i64.wrap (a11 + (1 : Int)) := by first | assumption | omega | (simp_all; done)
      have o6 : IntKind.i64.wrap (a11 + (1 : Int)) ≤ (50001 : Int) := by first | assumption | omega | (simp_all; done)
      have o7 : ((50001 : Int) - IntKind.i64.wrap (a11 + (1 : Int))).toNat < ((50001 : Int) - a11).toNat := by first | assumption | omega | (simp_all; done)
      exact ⟨[.b true, .app .many false, .app .one false, .fret ([AV.agg [AV.str t.nm, AV.int IntKind.i64 t.tl, AV.int IntKind.i64 t.fr, AV.int IntKind.i64 t.re, AV.int IntKind.i64 t.l0, AV.int IntKind.i64 t.l1, AV.int IntKind.i64 t.e0, AV.int IntKind.i64 t.e1], AV.sl 4 ((Col.gen n fun (i : Nat) => AV.agg [AV.str (g i).nm, AV.int IntKind.i64 (g i).lo, AV.int IntKind.i64 (g i).ln, AV.int IntKind.i64 (g i).ms]).join AppMode.one 1 fun (a : Nat) => (Col.ofList [AV.agg [AV.str (ByteArray.mk #[]), AV.int IntKind.i64 a11, AV.int IntKind.i64 ln, AV.int IntKind.i64 ms]]).get a).len fun (i : Nat) => (if i = n then LD.mk (ByteArray.mk #[]) a11 ln ms else g i).av]) (L21a.h0 t n g ln ms a11 ao2_0 ao2_1) (AV.bool (r28.v t ((Col.gen n fun (i : Nat) => AV.agg [AV.str (g i).nm, AV.int IntKind.i64 (g i).lo, AV.int IntKind.i64 (g i).ln, AV.int IntKind.i64 (g i).ms]).join AppMode.one 1 fun (a : Nat) => (Col.ofList [AV.agg [AV.str (ByteArray.mk #[]), AV.int IntKind.i64 a11, AV.int IntKind.i64 ln, AV.int IntKind.i64 ms]]).get a).len fun (i : Nat) => if i = n then LD.mk (ByteArray.mk #[]) a11 ln ms else g i)) (L21a.h0 t n g ln ms a11 ao2_0 ao2_1), .b false], kmp (by kernel_rfl) (And.intro h1 (And.intro (And.intro (show (4 : Nat) = (4 : Nat) by first | decide | exact Int.NonNeg.mk _) (And.intro (show AppMode.many.needs n fun (i : Nat) => AV.agg [AV.str (g i).nm, AV.int IntKind.i64 (g i).lo, AV.int IntKind.i64 (g i).ln, AV.int IntKind.i64 (g i).ms] by first | exact ⟨rfl, rfl⟩ | exact (fun i_ hi_ => rfl) | simp [AppMode.needs]) o0)) (And.intro (And.intro (show (4 : Nat) = (4 : Nat) by first | decide | exact Int.NonNeg.mk _) (And.intro (show AppMode.one.needs 1 fun (a : Nat) => (Col.ofList [AV.agg [AV.str (ByteArray.mk #[]), AV.int IntKind.i64 a11, AV.int IntKind.i64 ln, AV.int IntKind.i64 ms]]).get a by first | exact ⟨rfl, rfl⟩ | exact (fun i_ hi_ => rfl) | simp [AppMode.needs]) (And.intro o1 (And.intro (rfl : n = n) (And.intro (show (0 : Nat) = (0 : Nat) by first | decide | exact Int.NonNeg.mk _) (rfl : n = n)))))) (And.intro (show Weak 4 ([AV.agg [AV.str t.nm, AV.int IntKind.i64 t.tl, AV.int IntKind.i64 t.fr, AV.int IntKind.i64 t.re, AV.int IntKind.i64 t.l0, AV.int IntKind.i64 t.l1, AV.int IntKind.i64 t.e0, AV.int IntKind.i64 t.e1], AV.ms 3 (n + 1) 4 0 ((Col.gen n fun (i : Nat) => AV.agg [AV.str (g i).nm, AV.int IntKind.i64 (g i).lo, AV.int IntKind.i64 (g i).ln, AV.int IntKind.i64 (g i).ms]).join AppMode.one 1 fun (a : Nat) => (Col.ofList [AV.agg [AV.str (ByteArray.mk #[]), AV.int IntKind.i64 a11, AV.int IntKind.i64 ln, AV.int IntKind.i64 ms]]).get a).len]) (L21a.h1 t n g ln ms a11 ao2_0 ao2_1) ([AV.agg [AV.str t.nm, AV.int IntKind.i64 t.tl, AV.int IntKind.i64 t.fr, AV.int IntKind.i64 t.re, AV.int IntKind.i64 t.l0, AV.int IntKind.i64 t.l1, AV.int IntKind.i64 t.e0, AV.int IntKind.i64 t.e1], AV.sl 4 ((Col.gen n fun (i : Nat) => AV.agg [AV.str (g i).nm, AV.int IntKind.i64 (g i).lo, AV.int IntKind.i64 (g i).ln, AV.int IntKind.i64 (g i).ms]).join AppMode.one 1 fun (a : Nat) => (Col.ofList [AV.agg [AV.str (ByteArray.mk #[]), AV.int IntKind.i64 a11, AV.int IntKind.i64 ln, AV.int IntKind.i64 ms]]).get a).len fun (i : Nat) => (if i = n then LD.mk (ByteArray.mk #[]) a11 ln ms else g i).av]) (L21a.h0 t n g ln ms a11 ao2_0 ao2_1) from Weak.frz (id := 3) (n := n + 1) (sz := 4) (c := Col.gen (n + 1) fun (j : Nat) => if j = n then (fun (a : Nat) => (Col.ofList [AV.agg [AV.str (ByteArray.mk #[]), AV.int IntKind.i64 a11, AV.int IntKind.i64 ln, AV.int IntKind.i64 ms]]).get a) 0 else (fun (i : Nat) => AV.agg [AV.str (g i).nm, AV.int IntKind.i64 (g i).lo, AV.int IntKind.i64 (g i).ln, AV.int IntKind.i64 (g i).ms]) j) rfl (And.intro (Or.inl (frz_same _)) (And.intro (Or.inl (frz_gen (av := LD.av) (fun (j : Nat) => if j = n then LD.mk (ByteArray.mk #[]) a11 ln ms else g j) o2 (fun i_ hi_ => by first | rfl | (split <;> rfl)))) trivial))) (And.intro (r28 (t) o3 (((Col.gen n fun (i : Nat) => AV.agg [AV.str (g i).nm, AV.int IntKind.i64 (g i).lo, AV.int IntKind.i64 (g i).ln, AV.int IntKind.i64 (g i).ms]).join AppMode.one 1 fun (a : Nat) => (Col.ofList [AV.agg [AV.str (ByteArray.mk #[]), AV.int IntKind.i64 a11, AV.int IntKind.i64 ln, AV.int IntKind.i64 ms]]).get a).len) o4 (fun (i : Nat) => if i = n then LD.mk (ByteArray.mk #[]) a11 ln ms else g i) (L21a.h0 t n g ln ms a11 ao2_0 ao2_1)) (And.intro h2 (L21a.nx t n g ln ms (k_ := k_) (z_ := (a11, ao2_0, ao2_1)) (h_ := [AObj.var (AV.agg [AV.str t.nm, AV.int IntKind.i64 t.tl, AV.int IntKind.i64 t.fr, AV.int IntKind.i64 t.re, AV.int IntKind.i64 t.l0, AV.int IntKind.i64 t.l1, AV.int IntKind.i64 t.e0, AV.int IntKind.i64 t.e1]), AObj.var (AV.agg [AV.int IntKind.i64 0, AV.int IntKind.i64 0]), AObj.var (AV.agg [AV.int IntKind.i64 ao2_0, AV.int IntKind.i64 ao2_1]), AObj.frow 4 (n + 1) (Col.gen (n + 1) fun (j : Nat) => if j = n then (fun (a : Nat) => (Col.ofList [AV.agg [AV.str (ByteArray.mk #[]), AV.int IntKind.i64 a11, AV.int IntKind.i64 ln, AV.int IntKind.i64 ms]]).get a) 0 else (fun (i : Nat) => AV.agg [AV.str (g i).nm, AV.int IntKind.i64 (g i).lo, AV.int IntKind.i64 (g i).ln, AV.int IntKind.i64 (g i).ms]) j).len fun (a : Nat) => (Col.gen (n + 1) fun (j : Nat) => if j = n then (fun (a : Nat) => (Col.ofList [AV.agg [AV.str (ByteArray.mk #[]), AV.int IntKind.i64 a11, AV.int IntKind.i64 ln, AV.int IntKind.i64 ms]]).get a) 0 else (fun (i : Nat) => AV.agg [AV.str (g i).nm, AV.int IntKind.i64 (g i).lo, AV.int IntKind.i64 (g i).ln, AV.int IntKind.i64 (g i).ms]) j).get a]) ((IntKind.i64.wrap (a11 + 1), ao2_0, ao2_1)) (And.intro o5 o6) o7 (by first | (simp only [L21a.N, h1, h2, cond_true, cond_false]; done) | (try unfold L21a.N; try simp only [h1, cond_true, cond_false]; try simp only [h2, cond_true, cond_false]; try rfl; done)) (PopOk.pop rfl (by simp [L21a.T, L21a.X, L21a.H, L21a.XH])))))))))⟩
  | false =>
    have h1p := of_decide_eq_false h1
    exact ⟨[.b false], kmp (by kernel_rfl) (And.intro h1 (L21a.en t n g ln ms (k_ := k_) (z_ := (a11, ao2_0, ao2_1)) (.e0 (ao2_0) (ao2_1) : L21a.O) (by first | (simp only [L21a.N, h1, cond_true, cond_false]; done) | (try unfold L21a.N; try simp only [h1, cond_true, cond_false]; try rfl; done)) PopOk.same))⟩

theorem L21a.e0 (t : TD) (ht : TOk t) (n : Nat) (hn : n ≤ 12) (g : Nat → LD) (ln : Int) (hl : 1 ≤ ln ∧ ln ≤ 50000) (ms : Int) (a11 : Int) (ao2_0 : Int) (ao2_1 : Int) (hinv : L21a.inv t n g ln ms a11 ao2_0 ao2_1) (a0 : Int) (a1 : Int) (hN : L21a.run t n g ln ms a11 ao2_0 ao2_1 = (.e0 a0 a1 : L21a.O)) : LoopTo Try.prog (loopN Try.f21 0) (L21a.T t n g ln ms a11 ao2_0 ao2_1) (L21a.H t n g ln ms a11 ao2_0 ao2_1) (Exit.exit 0) (L21a.X t n g ln ms (.e0 a0 a1 : L21a.O)) (L21a.XH t n g ln ms (.e0 a0 a1 : L21a.O)) := by
  have h_ := L21a.spec t ht n hn g ln hl ms (((50001 - a11).toNat) + 1) (a11, ao2_0, ao2_1) hinv (Nat.lt_succ_self _)
  unfold L21a.run at hN
  simp only [hN] at h_
  exact h_

noncomputable def r21.v0 (t : TD) (n : Nat) (g : Nat → LD) (ln : Int) (ms : Int) : Int := (match L21a.run t n g ln ms 0 0 (-1) with | .e0 h1d0 h1d1 => (bif decide (h1d1 < 0) then 0 else h1d0) )

noncomputable def r21.v1 (t : TD) (n : Nat) (g : Nat → LD) (ln : Int) (ms : Int) : Int := (match L21a.run t n g ln ms 0 0 (-1) with | .e0 h1d0 h1d1 => (bif decide (h1d1 < 0) then 0 else h1d1) )

noncomputable def r21.v2 (t : TD) (n : Nat) (g : Nat → LD) (ln : Int) (ms : Int) : Bool := (match L21a.run t n g ln ms 0 0 (-1) with | .e0 h1d0 h1d1 => (bif decide (h1d1 < 0) then false else true) )

theorem r21 (t : TD) (ht : TOk t) (n : Nat) (hn : n ≤ 12) (g : Nat → LD) (ln : Int) (hl : 1 ≤ ln ∧ ln ≤ 50000) (ms : Int) (h : AHeap) : Ret Try.prog 21 ([t.av, lds n g, AV.int IntKind.i64 ln, AV.int IntKind.i64 ms]) h (AV.tup [(AV.agg ((AV.int IntKind.i64 (r21.v0 t n g ln ms)) :: ((AV.int IntKind.i64 (r21.v1 t n g ln ms)) :: []))), (AV.bool (r21.v2 t n g ln ms))]) h := by
  have o0 : TOk t := by first | assumption | (simp_all; done)
  have o1 : n ≤ (12 : Nat) := by first | assumption | omega | (simp_all; done)
  have o2 : (1 : Int) ≤ ln := by first | assumption | omega | (simp_all; done)
  have o3 : ln ≤ (50000 : Int) := by first | assumption | omega | (simp_all; done)
  cases h1 : L21a.run t n g ln ms 0 0 (-1) with
  | e0 h1d0 h1d1 =>
    cases h2 : decide (h1d1 < 0) with
    | true =>
      have h2p := of_decide_eq_true h2
      exact Ret.of_run1 mix [(AV.agg ((AV.int IntKind.i64 (r21.v0 t n g ln ms)) :: ((AV.int IntKind.i64 (r21.v1 t n g ln ms)) :: []))), (AV.bool (r21.v2 t n g ln ms))] Try.func21 rfl [.loop (others 44 [1, 2, 3, 4, 8, 10, 11]) (Exit.exit 0) (L21a.X t n g ln ms (L21a.O.e0 h1d0 h1d1)) (L21a.XH t n g ln ms (L21a.O.e0 h1d0 h1d1)), .b true] (by simp) (by simp) (kmp (by kernel_rfl) (And.intro (L21a.e0 (t) o0 (n) o1 (g) (ln) (And.intro o2 o3) (ms) (0) (0) (-1) (And.intro (show (0 : Int) ≤ (0 : Int) by first | decide | exact Int.NonNeg.mk _) (show (0 : Int) ≤ (50001 : Int) by first | decide | exact Int.NonNeg.mk _)) h1d0 h1d1 h1) (And.intro h2 (And.intro (And.intro trivial (show (AV.agg [AV.int IntKind.i64 0, AV.int IntKind.i64 0]) = ((AV.agg ((AV.int IntKind.i64 (r21.v0 t n g ln ms)) :: ((AV.int IntKind.i64 (r21.v1 t n g ln ms)) :: [])))) by first | (simp only [r21.v0, r21.v1, r21.v2, h2, h1, cond_true, cond_false]; done) | (try unfold r21.v0; try unfold r21.v1; try unfold r21.v2; try simp only [h2, cond_true, cond_false]; try simp only [h1, cond_true, cond_false]; try rfl; done) | rfl)) (And.intro (show (AV.bool false) = ((AV.bool (r21.v2 t n g ln ms))) by first | (simp only [r21.v0, r21.v1, r21.v2, h2, h1, cond_true, cond_false]; done) | (try unfold r21.v0; try unfold r21.v1; try unfold r21.v2; try simp only [h2, cond_true, cond_false]; try simp only [h1, cond_true, cond_false]; try rfl; done) | rfl) trivial))))) h
    | false =>
      have h2p := of_decide_eq_false h2
      exact Ret.of_run1 mix [(AV.agg ((AV.int IntKind.i64 (r21.v0 t n g ln ms)) :: ((AV.int IntKind.i64 (r21.v1 t n g ln ms)) :: []))), (AV.bool (r21.v2 t n g ln ms))] Try.func21 rfl [.loop (others 44 [1, 2, 3, 4, 8, 10, 11]) (Exit.exit 0) (L21a.X t n g ln ms (L21a.O.e0 h1d0 h1d1)) (L21a.XH t n g ln ms (L21a.O.e0 h1d0 h1d1)), .b false] (by simp) (by simp) (kmp (by kernel_rfl) (And.intro (L21a.e0 (t) o0 (n) o1 (g) (ln) (And.intro o2 o3) (ms) (0) (0) (-1) (And.intro (show (0 : Int) ≤ (0 : Int) by first | decide | exact Int.NonNeg.mk _) (show (0 : Int) ≤ (50001 : Int) by first | decide | exact Int.NonNeg.mk _)) h1d0 h1d1 h1) (And.intro h2 (And.intro (And.intro trivial (show (AV.agg [AV.int IntKind.i64 h1d0, AV.int IntKind.i64 h1d1]) = ((AV.agg ((AV.int IntKind.i64 (r21.v0 t n g ln ms)) :: ((AV.int IntKind.i64 (r21.v1 t n g ln ms)) :: [])))) by first | (simp only [r21.v0, r21.v1, r21.v2, h2, h1, cond_true, cond_false]; done) | (try unfold r21.v0; try unfold r21.v1; try unfold r21.v2; try simp only [h2, cond_true, cond_false]; try simp only [h1, cond_true, cond_false]; try rfl; done) | rfl)) (And.intro (show (AV.bool true) = ((AV.bool (r21.v2 t n g ln ms))) by first | (simp only [r21.v0, r21.v1, r21.v2, h2, h1, cond_true, cond_false]; done) | (try unfold r21.v0; try unfold r21.v1; try unfold r21.v2; try simp only [h2, cond_true, cond_false]; try simp only [h1, cond_true, cond_false]; try rfl; done) | rfl) trivial))))) h

end Go.Proofs.Ytngpbfocjgikaaa

open Go

namespace Go.Proofs.Ytngpbfocjgikaaa

set_option maxHeartbeats 0

set_option maxRecDepth 100000

set_option linter.unusedVariables false

set_option linter.unusedSimpArgs false

variable {n : Nat} {g : Nat → LD} {t : TD}

/-- One more load, without a name. -/
abbrev Gr (n : Nat) (g : Nat → LD) (ln ms p : Int) : Nat → LD := fun i => if i = n then LD.mk (ByteArray.mk #[]) p ln ms else g i

def RngR (S : Int → Bool) (W : Int) (i lo hi : Int) : Prop :=
  (hi < 0 ∧ ∀ a, 0 ≤ a → a < i → S a = false) ∨ (0 ≤ lo ∧ lo ≤ hi ∧ hi < i ∧ hi ≤ W ∧ S lo = true ∧ S hi = true ∧ ∀ a, 0 ≤ a → a < i → S a = true → lo ≤ a ∧ a ≤ hi)

theorem rngr_N {ln ms : Int} (ht : TOk t) (hl : 1 ≤ ln ∧ ln ≤ 50000) : ∀ (m : Nat) (i lo hi : Int), 0 ≤ i → i ≤ 50001 → (50001 - i).toNat < m → RngR (fun a => r28.v t (n + 1) (Gr n g ln ms a)) (t.tl - ln) i lo hi →
    ∃ j lo' hi', L21a.N t n g ln ms m i lo hi = .e0 lo' hi' ∧ t.tl - ln < j ∧ RngR (fun a => r28.v t (n + 1) (Gr n g ln ms a)) (t.tl - ln) j lo' hi' := by
  intro m
  have htl := ht.tl
  induction m with
  | zero => intro i lo hi _ _ h; omega
  | succ m ih =>
    intro i lo hi h0 h1 hm hinv
    simp only [L21a.N]
    rw [show IntKind.i64.wrap (i + ln) = i + ln from i64_small (by omega)]
    by_cases hi' : i + ln ≤ t.tl
    · rw [decide_eq_true hi', cond_true, show IntKind.i64.wrap (i + 1) = i + 1 from i64_small (by omega)]
      change ∃ j lo' hi', (bif r28.v t (n + 1) (Gr n g ln ms i) then _ else _) = _ ∧ _
      cases hs : r28.v t (n + 1) (Gr n g ln ms i) with
      | true =>
        rw [cond_true]
        rcases hinv with ⟨q, q1⟩ | ⟨q1, q2, q3, q4, q5, q6, q7⟩
        · rw [decide_eq_true q, cond_true]
          refine ih (i + 1) i i (by omega) (by omega) (by omega) (.inr ⟨h0, Int.le_refl _, by omega, by omega, hs, hs, fun a a1 a2 a3 => ?_⟩)
          by_cases e : a = i
          · omega
          · rw [q1 a a1 (by omega)] at a3; cases a3
        · rw [decide_eq_false (show ¬ hi < 0 by omega), cond_false]
          refine ih (i + 1) lo i (by omega) (by omega) (by omega) (.inr ⟨q1, by omega, by omega, by omega, q5, hs, fun a a1 a2 a3 => ?_⟩)
          by_cases e : a = i
          · omega
          · have := q7 a a1 (by omega) a3; omega
      | false =>
        rw [cond_false]
        refine ih (i + 1) lo hi (by omega) (by omega) (by omega) ?_
        rcases hinv with ⟨q, q1⟩ | ⟨q1, q2, q3, q4, q5, q6, q7⟩
        · refine .inl ⟨q, fun a a1 a2 => ?_⟩
          by_cases e : a = i
          · rw [e]; exact hs
          · exact q1 a a1 (by omega)
        · refine .inr ⟨q1, q2, by omega, q4, q5, q6, fun a a1 a2 a3 => ?_⟩
          by_cases e : a = i
          · rw [e] at a3
            exact absurd (hs.symm.trans a3) (by decide)
          · exact q7 a a1 (by omega) a3
    · rw [decide_eq_false hi', cond_false]
      exact ⟨i, lo, hi, rfl, by omega, hinv⟩

theorem ref_range {ln ms : Int} (ht : TOk t) (hl : 1 ≤ ln ∧ ln ≤ 50000) :
    (r21.v2 t n g ln ms = false ∧ r21.v0 t n g ln ms = 0 ∧ r21.v1 t n g ln ms = 0 ∧ ∀ a, 0 ≤ a → a ≤ t.tl - ln → r28.v t (n + 1) (Gr n g ln ms a) = false) ∨
    (r21.v2 t n g ln ms = true ∧ 0 ≤ r21.v0 t n g ln ms ∧ r21.v0 t n g ln ms ≤ r21.v1 t n g ln ms ∧ r21.v1 t n g ln ms ≤ t.tl - ln ∧ r28.v t (n + 1) (Gr n g ln ms (r21.v0 t n g ln ms)) = true ∧ r28.v t (n + 1) (Gr n g ln ms (r21.v1 t n g ln ms)) = true ∧
      ∀ a, 0 ≤ a → a ≤ t.tl - ln → r28.v t (n + 1) (Gr n g ln ms a) = true → r21.v0 t n g ln ms ≤ a ∧ a ≤ r21.v1 t n g ln ms) := by
  obtain ⟨j, lo, hi, e, hj, hp⟩ := rngr_N (n := n) (g := g) (ms := ms) ht hl ((50001 - (0 : Int)).toNat + 1) 0 0 (-1) (Int.le_refl _) (by omega) (by omega) (.inl ⟨by decide, fun a a1 a2 => by omega⟩)
  unfold r21.v0 r21.v1 r21.v2 L21a.run
  rw [e]
  rcases hp with ⟨q, q1⟩ | ⟨q1, q2, q3, q4, q5, q6, q7⟩
  · simp only [decide_eq_true q, cond_true]
    exact .inl ⟨trivial, trivial, trivial, fun a a1 a2 => q1 a a1 (by omega)⟩
  · simp only [decide_eq_false (show ¬ hi < 0 by omega), cond_false]
    exact .inr ⟨trivial, q1, q2, q4, q5, q6, fun a a1 a2 a3 => q7 a a1 (by omega) a3⟩

/-- The truck with one more load: both say the same. -/
theorem more_eq (ht : TOk t) (hn : n ≤ 10) (hg : ∀ i, i < n → LOk (g i)) {ln ms a : Int} (hl : 1 ≤ ln ∧ ln ≤ 50000) (hm : 1 ≤ ms ∧ ms ≤ 100000000) (h0 : 0 ≤ a) (h1 : a ≤ t.tl - ln) :
    sB t n g ln ms a = r28.v t (n + 1) (Gr n g ln ms a) := by
  have htl := ht.tl
  have eN : Gr n g ln ms a n = LD.mk (ByteArray.mk #[]) a ln ms := if_pos rfl
  have eO : ∀ i, i < n → Gr n g ln ms a i = g i := fun i hi => if_neg (by omega)
  have hG : ∀ i, i < n + 1 → LOk (Gr n g ln ms a i) := fun i hi => by
    by_cases e : i = n
    · rw [e, eN]; exact ⟨⟨h0, by simp only; omega⟩, hl, hm⟩
    · rw [eO i (by omega)]; exact hg i (by omega)
  rw [← safe_eq ht (by omega) hG]
  unfold sB
  obtain ⟨d1, d2⟩ := r33_sm (n := n + 1) (g := Gr n g ln ms a) (by omega) t.fr
  obtain ⟨e1, e2⟩ := r33_sm (n := n) (g := g) (by omega) t.fr
  rw [d1, d2, e1, e2]
  have e3 : sm (Gr n g ln ms a) t.fr (n + 1) = addL t.fr (sm g t.fr n) (LD.mk (ByteArray.mk #[]) a ln ms) := by
    show addL t.fr (sm (Gr n g ln ms a) t.fr n) (Gr n g ln ms a n) = _
    rw [sm_congr t.fr n eO, eN]
  rw [e3]
  rfl

theorem in32 {x a b : Int} (h : a ≤ x ∧ x ≤ b) : r32.v x a b = true := r32_iff.2 h

theorem out32 {x a b : Int} (h : ¬ (a ≤ x ∧ x ≤ b)) : r32.v x a b = false := by
  cases e : r32.v x a b with
  | false => rfl
  | true => exact absurd (r32_iff.1 e) h

/-- Both ranges agree. -/
theorem range_same (h : r18.v t n g = 0) (ht : TOk t) (hn : n ≤ 10) (hg : ∀ i, i < n → LOk (g i)) {ln ms : Int} (hl : 1 ≤ ln ∧ ln ≤ 50000) (hm : 1 ≤ ms ∧ ms ≤ 100000000) :
    r12.v0 t n g ln ms = r21.v0 t n g ln ms ∧ r12.v1 t n g ln ms = r21.v1 t n g ln ms ∧ r12.v2 t n g ln ms = bif r21.v2 t n g ln ms then 0 else 9 := by
  have me := fun a h0 h1 => more_eq (a := a) ht hn hg hl hm h0 h1
  rcases range_ok h (in32 hl) (in32 hm) with ⟨a1, a2, a3, a4⟩ | ⟨a1, a2, a3, a4, a5, a6, a7⟩ <;> rcases ref_range (n := n) (g := g) (ms := ms) ht hl with ⟨b1, b2, b3, b4⟩ | ⟨b1, b2, b3, b4, b5, b6, b7⟩
  · rw [a1, a2, a3, b1, b2, b3]; exact ⟨rfl, rfl, rfl⟩
  · have q := a4 _ b2 (by omega)
    rw [me _ b2 (by omega), b5] at q; cases q
  · have q := b4 _ a2 (by omega)
    rw [← me _ a2 (by omega), a5] at q; cases q
  · have c1 := a7 _ b2 (by omega) (by rw [me _ b2 (by omega), b5])
    have c2 := a7 (r21.v1 t n g ln ms) (by omega) b4 (by rw [me _ (by omega) b4, b6])
    have c3 := b7 _ a2 (by omega) (by rw [← me _ a2 (by omega), a5])
    have c4 := b7 (r12.v1 t n g ln ms) (by omega) a4 (by rw [← me _ (by omega) a4, a6])
    rw [a1, b1]
    exact ⟨by omega, by omega, rfl⟩

end Go.Proofs.Ytngpbfocjgikaaa

open Go

namespace Go.Proofs.Ytngpbfocjgikaaa

set_option linter.unusedSimpArgs false

set_option linter.unusedVariables false

set_option maxHeartbeats 0

set_option maxRecDepth 100000

noncomputable abbrev r5ai.h0 (t : TD) (n : Nat) (g : Nat → LD) (ln : Int) (ms : Int) : AHeap := ([AObj.var (AV.agg [AV.str t.nm, AV.int IntKind.i64 t.tl, AV.int IntKind.i64 t.fr, AV.int IntKind.i64 t.re, AV.int IntKind.i64 t.l0, AV.int IntKind.i64 t.l1, AV.int IntKind.i64 t.e0, AV.int IntKind.i64 t.e1])])

noncomputable abbrev r5ai.h1 (t : TD) (n : Nat) (g : Nat → LD) (ln : Int) (ms : Int) : AHeap := ([AObj.var (AV.agg [AV.str t.nm, AV.int IntKind.i64 t.tl, AV.int IntKind.i64 t.fr, AV.int IntKind.i64 t.re, AV.int IntKind.i64 t.l0, AV.int IntKind.i64 t.l1, AV.int IntKind.i64 t.e0, AV.int IntKind.i64 t.e1]), AObj.var (AV.agg [AV.int IntKind.i64 (r12.v0 t n g ln ms), AV.int IntKind.i64 (r12.v1 t n g ln ms)])])

theorem r5ai (ha : r10.v = true) (t : TD) (hnm : t.nm.size ≤ 9223372036854775807) (n : Nat) (hn : n ≤ 10) (g : Nat → LD) (hg : ∀ (i : Nat), (g i).nm.size ≤ 9223372036854775807) (ln : Int) (ms : Int) (hf : r11.v t n g = true) (h15 : decide (t.tl > 1500) = false) (h0 : (r19.v t n g == 0) = true) (h0p : r19.v t n g = 0) (b1 : decide (ln < 1) = false) (b2 : decide (ln > 50000) = false) (b3 : decide (ms < 1) = false) (b4 : decide (ms > 100000000) = false) (hl1 : 1 ≤ ln) (hl2 : ln ≤ 50000) (q0 : (r12.v0 t n g ln ms == r21.v0 t n g ln ms) = true) (q1 : (r12.v1 t n g ln ms == r21.v1 t n g ln ms) = true) (hi : r21.v2 t n g ln ms = true) (q2 : (r12.v2 t n g ln ms == 0) = true) (h : AHeap) : Ret Try.prog 5 ([t.av, lds n g, AV.int IntKind.i64 ln, AV.int IntKind.i64 ms]) h (AV.bool true) h := by
  have o0 : n ≤ (9223372036854775807 : Nat) := by first | assumption | omega | (exact hg _) | (exact hg _ (by omega)) | (simp_all; done)
  have o1 : t.nm.size ≤ (9223372036854775807 : Nat) := by first | assumption | omega | (exact hg _) | (exact hg _ (by omega)) | (simp_all; done)
  have o2 : n ≤ (12 : Nat) := by first | assumption | omega | (exact hg _) | (exact hg _ (by omega)) | (simp_all; done)
  have o3 : ∀ (i : Nat), (g i).nm.size ≤ (9223372036854775807 : Nat) := by first | assumption | omega | (exact hg _) | (exact hg _ (by omega)) | (simp_all; done)
  have o4 : TOk t := by first | assumption | (apply tok19 <;> first | assumption | omega) | (exact hg _) | (exact hg _ (by omega)) | (simp_all; done)
  have o5 : (1 : Int) ≤ ln := by first | assumption | omega | (exact hg _) | (exact hg _ (by omega)) | (simp_all; done)
  have o6 : ln ≤ (50000 : Int) := by first | assumption | omega | (exact hg _) | (exact hg _ (by omega)) | (simp_all; done)
  exact Ret.of_run1 mix [(AV.bool true)] Try.func5 rfl [.ret (AV.bool r10.v) (r5ai.h0 t n g ln ms), .b false, .ret (AV.bool (r11.v t n g)) (r5ai.h0 t n g ln ms), .b false, .b false, .b false, .b false, .b false, .b false, .b false, .b false, .b false, .b false, .b false, .ret (AV.tup [AV.agg [AV.int IntKind.i64 (r12.v0 t n g ln ms), AV.int IntKind.i64 (r12.v1 t n g ln ms)], AV.int IntKind.i64 (r12.v2 t n g ln ms)]) (r5ai.h0 t n g ln ms), .ret (AV.int IntKind.i64 (r19.v t n g)) (r5ai.h1 t n g ln ms), .b true, .b true, .b true, .b false, .b false, .b true, .b false, .b true, .b false, .b false, .b true, .b false, .b true, .b false, .b false, .b true, .b false, .b true, .b false, .b false, .ret (AV.tup [AV.agg [AV.int IntKind.i64 (r21.v0 t n g ln ms), AV.int IntKind.i64 (r21.v1 t n g ln ms)], AV.bool (r21.v2 t n g ln ms)]) (r5ai.h1 t n g ln ms), .b true, .b true, .b true, .b true, .b true, .b true, .b true, .b true, .b true, .b true, .b true, .b true, .b true, .b true] (by simp) (by simp) (kmp (by kernel_rfl) (And.intro (r10 (r5ai.h0 t n g ln ms)) (And.intro (rfl : false = false) (And.intro (r11 (t) (n) (g) o0 (r5ai.h0 t n g ln ms)) (And.intro (show (bnot (r11.v t n g)) = false by rw [hf]; try rfl) (And.intro (show (bnot (r11.v t n g)) = false by rw [hf]; try rfl) (And.intro (show (bnot (r11.v t n g)) = false by rw [hf]; try rfl) (And.intro (show (bnot (r11.v t n g)) = false by rw [hf]; try rfl) (And.intro h15 (And.intro h15 (And.intro h15 (And.intro (show (bnot (r11.v t n g)) = false by rw [hf]; try rfl) (And.intro h15 (And.intro (show (bnot (r11.v t n g)) = false by rw [hf]; try rfl) (And.intro (rfl : false = false) (And.intro (r12 (t) o1 (n) o2 (g) o3 (ln) (ms) (r5ai.h0 t n g ln ms)) (And.intro (r19 (t) o1 (n) o0 (g) o3 (r5ai.h1 t n g ln ms)) (And.intro h0 (And.intro h0 (And.intro h0 (And.intro b1 (And.intro b1 (And.intro h0 (And.intro b1 (And.intro h0 (And.intro b2 (And.intro b2 (And.intro h0 (And.intro b2 (And.intro h0 (And.intro b3 (And.intro b3 (And.intro h0 (And.intro b3 (And.intro h0 (And.intro b4 (And.intro (show (bnot (r19.v t n g == 0)) = false by rw [h0]; try rfl) (And.intro (r21 (t) o4 (n) o2 (g) (ln) (And.intro o5 o6) (ms) (r5ai.h1 t n g ln ms)) (And.intro (show (r12.v0 t n g ln ms == r21.v0 t n g ln ms && (r12.v1 t n g ln ms == r21.v1 t n g ln ms && true)) = true by rw [q0, q1]; try rfl) (And.intro (show (r12.v0 t n g ln ms == r21.v0 t n g ln ms && (r12.v1 t n g ln ms == r21.v1 t n g ln ms && true)) = true by rw [q0, q1]; try rfl) (And.intro hi (And.intro hi (And.intro (show (r12.v0 t n g ln ms == r21.v0 t n g ln ms && (r12.v1 t n g ln ms == r21.v1 t n g ln ms && true)) = true by rw [q0, q1]; try rfl) (And.intro hi (And.intro (show (r12.v0 t n g ln ms == r21.v0 t n g ln ms && (r12.v1 t n g ln ms == r21.v1 t n g ln ms && true)) = true by rw [q0, q1]; try rfl) (And.intro q2 (And.intro q2 (And.intro q2 (And.intro q2 (And.intro (show (r12.v0 t n g ln ms == r21.v0 t n g ln ms && (r12.v1 t n g ln ms == r21.v1 t n g ln ms && true)) = true by rw [q0, q1]; try rfl) (And.intro q2 (And.intro (show (r12.v0 t n g ln ms == r21.v0 t n g ln ms && (r12.v1 t n g ln ms == r21.v1 t n g ln ms && true)) = true by rw [q0, q1]; try rfl) (And.intro (show (AV.bool true) = ((AV.bool true)) by first | (simp only [hf, h0, q0, q1, cond_true, cond_false]; done) | (try simp only [hf, cond_true, cond_false]; try simp only [h0, cond_true, cond_false]; try simp only [q0, cond_true, cond_false]; try simp only [q1, cond_true, cond_false]; try rfl; done) | rfl) trivial))))))))))))))))))))))))))))))))))))))))))))))))))))) h

noncomputable def r5an.v (t : TD) (n : Nat) (g : Nat → LD) (ln : Int) (ms : Int) : Bool := r12.v2 t n g ln ms == 9

noncomputable abbrev r5an.h0 (t : TD) (n : Nat) (g : Nat → LD) (ln : Int) (ms : Int) : AHeap := ([AObj.var (AV.agg [AV.str t.nm, AV.int IntKind.i64 t.tl, AV.int IntKind.i64 t.fr, AV.int IntKind.i64 t.re, AV.int IntKind.i64 t.l0, AV.int IntKind.i64 t.l1, AV.int IntKind.i64 t.e0, AV.int IntKind.i64 t.e1])])

noncomputable abbrev r5an.h1 (t : TD) (n : Nat) (g : Nat → LD) (ln : Int) (ms : Int) : AHeap := ([AObj.var (AV.agg [AV.str t.nm, AV.int IntKind.i64 t.tl, AV.int IntKind.i64 t.fr, AV.int IntKind.i64 t.re, AV.int IntKind.i64 t.l0, AV.int IntKind.i64 t.l1, AV.int IntKind.i64 t.e0, AV.int IntKind.i64 t.e1]), AObj.var (AV.agg [AV.int IntKind.i64 (r12.v0 t n g ln ms), AV.int IntKind.i64 (r12.v1 t n g ln ms)])])

theorem r5an (ha : r10.v = true) (t : TD) (hnm : t.nm.size ≤ 9223372036854775807) (n : Nat) (hn : n ≤ 10) (g : Nat → LD) (hg : ∀ (i : Nat), (g i).nm.size ≤ 9223372036854775807) (ln : Int) (ms : Int) (hf : r11.v t n g = true) (h15 : decide (t.tl > 1500) = false) (h0 : (r19.v t n g == 0) = true) (h0p : r19.v t n g = 0) (b1 : decide (ln < 1) = false) (b2 : decide (ln > 50000) = false) (b3 : decide (ms < 1) = false) (b4 : decide (ms > 100000000) = false) (hl1 : 1 ≤ ln) (hl2 : ln ≤ 50000) (q0 : (r12.v0 t n g ln ms == r21.v0 t n g ln ms) = true) (q1 : (r12.v1 t n g ln ms == r21.v1 t n g ln ms) = true) (hi : r21.v2 t n g ln ms = false) (q2 : (r12.v2 t n g ln ms == 9) = true) (h : AHeap) : Ret Try.prog 5 ([t.av, lds n g, AV.int IntKind.i64 ln, AV.int IntKind.i64 ms]) h (AV.bool (r5an.v t n g ln ms)) h := by
  have o0 : n ≤ (9223372036854775807 : Nat) := by first | assumption | omega | (exact hg _) | (exact hg _ (by omega)) | (simp_all; done)
  have o1 : t.nm.size ≤ (9223372036854775807 : Nat) := by first | assumption | omega | (exact hg _) | (exact hg _ (by omega)) | (simp_all; done)
  have o2 : n ≤ (12 : Nat) := by first | assumption | omega | (exact hg _) | (exact hg _ (by omega)) | (simp_all; done)
  have o3 : ∀ (i : Nat), (g i).nm.size ≤ (9223372036854775807 : Nat) := by first | assumption | omega | (exact hg _) | (exact hg _ (by omega)) | (simp_all; done)
  have o4 : TOk t := by first | assumption | (apply tok19 <;> first | assumption | omega) | (exact hg _) | (exact hg _ (by omega)) | (simp_all; done)
  have o5 : (1 : Int) ≤ ln := by first | assumption | omega | (exact hg _) | (exact hg _ (by omega)) | (simp_all; done)
  have o6 : ln ≤ (50000 : Int) := by first | assumption | omega | (exact hg _) | (exact hg _ (by omega)) | (simp_all; done)
  exact Ret.of_run1 mix [(AV.bool (r5an.v t n g ln ms))] Try.func5 rfl [.ret (AV.bool r10.v) (r5an.h0 t n g ln ms), .b false, .ret (AV.bool (r11.v t n g)) (r5an.h0 t n g ln ms), .b false, .b false, .b false, .b false, .b false, .b false, .b false, .b false, .b false, .b false, .b false, .ret (AV.tup [AV.agg [AV.int IntKind.i64 (r12.v0 t n g ln ms), AV.int IntKind.i64 (r12.v1 t n g ln ms)], AV.int IntKind.i64 (r12.v2 t n g ln ms)]) (r5an.h0 t n g ln ms), .ret (AV.int IntKind.i64 (r19.v t n g)) (r5an.h1 t n g ln ms), .b true, .b true, .b true, .b false, .b false, .b true, .b false, .b true, .b false, .b false, .b true, .b false, .b true, .b false, .b false, .b true, .b false, .b true, .b false, .b false, .ret (AV.tup [AV.agg [AV.int IntKind.i64 (r21.v0 t n g ln ms), AV.int IntKind.i64 (r21.v1 t n g ln ms)], AV.bool (r21.v2 t n g ln ms)]) (r5an.h1 t n g ln ms), .b true, .b true, .b false, .b false, .b true, .b false, .b true, .b false, .b false, .b false, .b true, .b true, .b false, .b true, .b true, .b false, .b true] (by simp) (by simp) (kmp (by kernel_rfl) (And.intro (r10 (r5an.h0 t n g ln ms)) (And.intro (rfl : false = false) (And.intro (r11 (t) (n) (g) o0 (r5an.h0 t n g ln ms)) (And.intro (show (bnot (r11.v t n g)) = false by rw [hf]; try rfl) (And.intro (show (bnot (r11.v t n g)) = false by rw [hf]; try rfl) (And.intro (show (bnot (r11.v t n g)) = false by rw [hf]; try rfl) (And.intro (show (bnot (r11.v t n g)) = false by rw [hf]; try rfl) (And.intro h15 (And.intro h15 (And.intro h15 (And.intro (show (bnot (r11.v t n g)) = false by rw [hf]; try rfl) (And.intro h15 (And.intro (show (bnot (r11.v t n g)) = false by rw [hf]; try rfl) (And.intro (rfl : false = false) (And.intro (r12 (t) o1 (n) o2 (g) o3 (ln) (ms) (r5an.h0 t n g ln ms)) (And.intro (r19 (t) o1 (n) o0 (g) o3 (r5an.h1 t n g ln ms)) (And.intro h0 (And.intro h0 (And.intro h0 (And.intro b1 (And.intro b1 (And.intro h0 (And.intro b1 (And.intro h0 (And.intro b2 (And.intro b2 (And.intro h0 (And.intro b2 (And.intro h0 (And.intro b3 (And.intro b3 (And.intro h0 (And.intro b3 (And.intro h0 (And.intro b4 (And.intro (show (bnot (r19.v t n g == 0)) = false by rw [h0]; try rfl) (And.intro (r21 (t) o4 (n) o2 (g) (ln) (And.intro o5 o6) (ms) (r5an.h1 t n g ln ms)) (And.intro (show (r12.v0 t n g ln ms == r21.v0 t n g ln ms && (r12.v1 t n g ln ms == r21.v1 t n g ln ms && true)) = true by rw [q0, q1]; try rfl) (And.intro (show (r12.v0 t n g ln ms == r21.v0 t n g ln ms && (r12.v1 t n g ln ms == r21.v1 t n g ln ms && true)) = true by rw [q0, q1]; try rfl) (And.intro hi (And.intro hi (And.intro (show (r12.v0 t n g ln ms == r21.v0 t n g ln ms && (r12.v1 t n g ln ms == r21.v1 t n g ln ms && true)) = true by rw [q0, q1]; try rfl) (And.intro hi (And.intro (show (r12.v0 t n g ln ms == r21.v0 t n g ln ms && (r12.v1 t n g ln ms == r21.v1 t n g ln ms && true)) = true by rw [q0, q1]; try rfl) (And.intro (rfl : false = false) (And.intro (rfl : false = false) (And.intro (rfl : false = false) (And.intro (show (bnot (r21.v2 t n g ln ms)) = true by rw [hi]; try rfl) (And.intro (show (bnot (r21.v2 t n g ln ms)) = true by rw [hi]; try rfl) (And.intro (rfl : false = false) (And.intro (show (bnot (r21.v2 t n g ln ms)) = true by rw [hi]; try rfl) (And.intro (show (r12.v0 t n g ln ms == r21.v0 t n g ln ms && (r12.v1 t n g ln ms == r21.v1 t n g ln ms && true)) = true by rw [q0, q1]; try rfl) (And.intro (rfl : false = false) (And.intro (show (r12.v0 t n g ln ms == r21.v0 t n g ln ms && (r12.v1 t n g ln ms == r21.v1 t n g ln ms && true)) = true by rw [q0, q1]; try rfl) (And.intro (show (AV.bool (r12.v2 t n g ln ms == 9)) = ((AV.bool (r5an.v t n g ln ms))) by first | (simp only [r5an.v, hf, h0, q0, q1, hi, cond_true, cond_false]; done) | (try unfold r5an.v; try simp only [hf, cond_true, cond_false]; try simp only [h0, cond_true, cond_false]; try simp only [q0, cond_true, cond_false]; try simp only [q1, cond_true, cond_false]; try simp only [hi, cond_true, cond_false]; try rfl; done) | rfl) trivial)))))))))))))))))))))))))))))))))))))))))))))))))))))))) h

noncomputable def r5e.v (t : TD) (n : Nat) (g : Nat → LD) (ln : Int) (ms : Int) : Bool := (bif decide (t.tl > 1500) then (bif decide (t.tl ≤ 50000) then true else r12.v0 t n g ln ms == 0 && (fun (q : Bool) => r12.v1 t n g ln ms == 0 && q) true) else r12.v0 t n g ln ms == 0 && (fun (q : Bool) => r12.v1 t n g ln ms == 0 && q) true)

noncomputable abbrev r5e.h0 (t : TD) (n : Nat) (g : Nat → LD) (ln : Int) (ms : Int) : AHeap := ([AObj.var (AV.agg [AV.str t.nm, AV.int IntKind.i64 t.tl, AV.int IntKind.i64 t.fr, AV.int IntKind.i64 t.re, AV.int IntKind.i64 t.l0, AV.int IntKind.i64 t.l1, AV.int IntKind.i64 t.e0, AV.int IntKind.i64 t.e1])])

noncomputable abbrev r5e.h1 (t : TD) (n : Nat) (g : Nat → LD) (ln : Int) (ms : Int) : AHeap := ([AObj.var (AV.agg [AV.str t.nm, AV.int IntKind.i64 t.tl, AV.int IntKind.i64 t.fr, AV.int IntKind.i64 t.re, AV.int IntKind.i64 t.l0, AV.int IntKind.i64 t.l1, AV.int IntKind.i64 t.e0, AV.int IntKind.i64 t.e1]), AObj.var (AV.agg [AV.int IntKind.i64 (r12.v0 t n g ln ms), AV.int IntKind.i64 (r12.v1 t n g ln ms)])])

theorem r5e (ha : r10.v = true) (t : TD) (hnm : t.nm.size ≤ 9223372036854775807) (n : Nat) (hn : n ≤ 10) (g : Nat → LD) (hg : ∀ (i : Nat), (g i).nm.size ≤ 9223372036854775807) (ln : Int) (ms : Int) (hf : r11.v t n g = true) (h0 : (r19.v t n g == 0) = false) (q2 : (r12.v2 t n g ln ms == r19.v t n g) = true) (z0 : (r12.v0 t n g ln ms == 0) = true) (z1 : (r12.v1 t n g ln ms == 0) = true) (h : AHeap) : Ret Try.prog 5 ([t.av, lds n g, AV.int IntKind.i64 ln, AV.int IntKind.i64 ms]) h (AV.bool (r5e.v t n g ln ms)) h := by
  have o0 : n ≤ (9223372036854775807 : Nat) := by first | assumption | omega | (exact hg _) | (exact hg _ (by omega)) | (simp_all; done)
  cases h1 : decide (t.tl > 1500) with
  | true =>
    have h1p := of_decide_eq_true h1
    cases h2 : decide (t.tl ≤ 50000) with
    | true =>
      have h2p := of_decide_eq_true h2
      exact Ret.of_run1 mix [(AV.bool (r5e.v t n g ln ms))] Try.func5 rfl [.ret (AV.bool r10.v) (r5e.h0 t n g ln ms), .b false, .ret (AV.bool (r11.v t n g)) (r5e.h0 t n g ln ms), .b false, .b false, .b false, .b false, .b true, .b true, .b true, .b false, .b true, .b false, .b true] (by simp) (by simp) (kmp (by kernel_rfl) (And.intro (r10 (r5e.h0 t n g ln ms)) (And.intro (rfl : false = false) (And.intro (r11 (t) (n) (g) o0 (r5e.h0 t n g ln ms)) (And.intro (show (bnot (r11.v t n g)) = false by rw [hf]; try rfl) (And.intro (show (bnot (r11.v t n g)) = false by rw [hf]; try rfl) (And.intro (show (bnot (r11.v t n g)) = false by rw [hf]; try rfl) (And.intro (show (bnot (r11.v t n g)) = false by rw [hf]; try rfl) (And.intro h1 (And.intro h1 (And.intro h1 (And.intro (show (bnot (r11.v t n g)) = false by rw [hf]; try rfl) (And.intro h1 (And.intro (show (bnot (r11.v t n g)) = false by rw [hf]; try rfl) (And.intro h2 (And.intro (show (AV.bool true) = ((AV.bool (r5e.v t n g ln ms))) by first | (simp only [r5e.v, hf, h1, h2, cond_true, cond_false]; done) | (try unfold r5e.v; try simp only [hf, cond_true, cond_false]; try simp only [h1, cond_true, cond_false]; try simp only [h2, cond_true, cond_false]; try rfl; done) | rfl) trivial)))))))))))))))) h
    | false =>
      have h2p := of_decide_eq_false h2
      have o1 : t.nm.size ≤ (9223372036854775807 : Nat) := by first | assumption | omega | (exact hg _) | (exact hg _ (by omega)) | (simp_all; done)
      have o2 : n ≤ (12 : Nat) := by first | assumption | omega | (exact hg _) | (exact hg _ (by omega)) | (simp_all; done)
      have o3 : ∀ (i : Nat), (g i).nm.size ≤ (9223372036854775807 : Nat) := by first | assumption | omega | (exact hg _) | (exact hg _ (by omega)) | (simp_all; done)
      exact Ret.of_run1 mix [(AV.bool (r5e.v t n g ln ms))] Try.func5 rfl [.ret (AV.bool r10.v) (r5e.h0 t n g ln ms), .b false, .ret (AV.bool (r11.v t n g)) (r5e.h0 t n g ln ms), .b false, .b false, .b false, .b false, .b true, .b true, .b true, .b false, .b true, .b false, .b false, .ret (AV.tup [AV.agg [AV.int IntKind.i64 (r12.v0 t n g ln ms), AV.int IntKind.i64 (r12.v1 t n g ln ms)], AV.int IntKind.i64 (r12.v2 t n g ln ms)]) (r5e.h0 t n g ln ms), .ret (AV.int IntKind.i64 (r19.v t n g)) (r5e.h1 t n g ln ms), .b false, .b false, .b false, .b false, .b false, .b false, .b false, .b false, .b false, .b false, .b true, .b true, .b true, .b true, .b true] (by simp) (by simp) (kmp (by kernel_rfl) (And.intro (r10 (r5e.h0 t n g ln ms)) (And.intro (rfl : false = false) (And.intro (r11 (t) (n) (g) o0 (r5e.h0 t n g ln ms)) (And.intro (show (bnot (r11.v t n g)) = false by rw [hf]; try rfl) (And.intro (show (bnot (r11.v t n g)) = false by rw [hf]; try rfl) (And.intro (show (bnot (r11.v t n g)) = false by rw [hf]; try rfl) (And.intro (show (bnot (r11.v t n g)) = false by rw [hf]; try rfl) (And.intro h1 (And.intro h1 (And.intro h1 (And.intro (show (bnot (r11.v t n g)) = false by rw [hf]; try rfl) (And.intro h1 (And.intro (show (bnot (r11.v t n g)) = false by rw [hf]; try rfl) (And.intro h2 (And.intro (r12 (t) o1 (n) o2 (g) o3 (ln) (ms) (r5e.h0 t n g ln ms)) (And.intro (r19 (t) o1 (n) o0 (g) o3 (r5e.h1 t n g ln ms)) (And.intro h0 (And.intro h0 (And.intro h0 (And.intro h0 (And.intro h0 (And.intro h0 (And.intro h0 (And.intro h0 (And.intro h0 (And.intro (rfl : false = false) (And.intro (show (bnot (r19.v t n g == 0)) = true by rw [h0]; try rfl) (And.intro q2 (And.intro q2 (And.intro q2 (And.intro q2 (And.intro (show (AV.bool (r12.v0 t n g ln ms == 0 && (fun (q : Bool) => r12.v1 t n g ln ms == 0 && q) true)) = ((AV.bool (r5e.v t n g ln ms))) by first | (simp only [r5e.v, hf, h1, h2, h0, cond_true, cond_false]; done) | (try unfold r5e.v; try simp only [hf, cond_true, cond_false]; try simp only [h1, cond_true, cond_false]; try simp only [h2, cond_true, cond_false]; try simp only [h0, cond_true, cond_false]; try rfl; done) | rfl) trivial))))))))))))))))))))))))))))))))) h
  | false =>
    have h1p := of_decide_eq_false h1
    have o1 : t.nm.size ≤ (9223372036854775807 : Nat) := by first | assumption | omega | (exact hg _) | (exact hg _ (by omega)) | (simp_all; done)
    have o2 : n ≤ (12 : Nat) := by first | assumption | omega | (exact hg _) | (exact hg _ (by omega)) | (simp_all; done)
    have o3 : ∀ (i : Nat), (g i).nm.size ≤ (9223372036854775807 : Nat) := by first | assumption | omega | (exact hg _) | (exact hg _ (by omega)) | (simp_all; done)
    exact Ret.of_run1 mix [(AV.bool (r5e.v t n g ln ms))] Try.func5 rfl [.ret (AV.bool r10.v) (r5e.h0 t n g ln ms), .b false, .ret (AV.bool (r11.v t n g)) (r5e.h0 t n g ln ms), .b false, .b false, .b false, .b false, .b false, .b false, .b false, .b false, .b false, .b false, .b false, .ret (AV.tup [AV.agg [AV.int IntKind.i64 (r12.v0 t n g ln ms), AV.int IntKind.i64 (r12.v1 t n g ln ms)], AV.int IntKind.i64 (r12.v2 t n g ln ms)]) (r5e.h0 t n g ln ms), .ret (AV.int IntKind.i64 (r19.v t n g)) (r5e.h1 t n g ln ms), .b false, .b false, .b false, .b false, .b false, .b false, .b false, .b false, .b false, .b false, .b true, .b true, .b true, .b true, .b true] (by simp) (by simp) (kmp (by kernel_rfl) (And.intro (r10 (r5e.h0 t n g ln ms)) (And.intro (rfl : false = false) (And.intro (r11 (t) (n) (g) o0 (r5e.h0 t n g ln ms)) (And.intro (show (bnot (r11.v t n g)) = false by rw [hf]; try rfl) (And.intro (show (bnot (r11.v t n g)) = false by rw [hf]; try rfl) (And.intro (show (bnot (r11.v t n g)) = false by rw [hf]; try rfl) (And.intro (show (bnot (r11.v t n g)) = false by rw [hf]; try rfl) (And.intro h1 (And.intro h1 (And.intro h1 (And.intro (show (bnot (r11.v t n g)) = false by rw [hf]; try rfl) (And.intro h1 (And.intro (show (bnot (r11.v t n g)) = false by rw [hf]; try rfl) (And.intro (rfl : false = false) (And.intro (r12 (t) o1 (n) o2 (g) o3 (ln) (ms) (r5e.h0 t n g ln ms)) (And.intro (r19 (t) o1 (n) o0 (g) o3 (r5e.h1 t n g ln ms)) (And.intro h0 (And.intro h0 (And.intro h0 (And.intro h0 (And.intro h0 (And.intro h0 (And.intro h0 (And.intro h0 (And.intro h0 (And.intro (rfl : false = false) (And.intro (show (bnot (r19.v t n g == 0)) = true by rw [h0]; try rfl) (And.intro q2 (And.intro q2 (And.intro q2 (And.intro q2 (And.intro (show (AV.bool (r12.v0 t n g ln ms == 0 && (fun (q : Bool) => r12.v1 t n g ln ms == 0 && q) true)) = ((AV.bool (r5e.v t n g ln ms))) by first | (simp only [r5e.v, hf, h1, h0, cond_true, cond_false]; done) | (try unfold r5e.v; try simp only [hf, cond_true, cond_false]; try simp only [h1, cond_true, cond_false]; try simp only [h0, cond_true, cond_false]; try rfl; done) | rfl) trivial))))))))))))))))))))))))))))))))) h

noncomputable def r5x1.v (t : TD) (n : Nat) (g : Nat → LD) (ln : Int) (ms : Int) : Bool := (bif decide (t.tl > 1500) then (bif decide (t.tl ≤ 50000) then true else r12.v0 t n g ln ms == 0 && (fun (q : Bool) => r12.v1 t n g ln ms == 0 && q) true) else r12.v0 t n g ln ms == 0 && (fun (q : Bool) => r12.v1 t n g ln ms == 0 && q) true)

noncomputable abbrev r5x1.h0 (t : TD) (n : Nat) (g : Nat → LD) (ln : Int) (ms : Int) : AHeap := ([AObj.var (AV.agg [AV.str t.nm, AV.int IntKind.i64 t.tl, AV.int IntKind.i64 t.fr, AV.int IntKind.i64 t.re, AV.int IntKind.i64 t.l0, AV.int IntKind.i64 t.l1, AV.int IntKind.i64 t.e0, AV.int IntKind.i64 t.e1])])

noncomputable abbrev r5x1.h1 (t : TD) (n : Nat) (g : Nat → LD) (ln : Int) (ms : Int) : AHeap := ([AObj.var (AV.agg [AV.str t.nm, AV.int IntKind.i64 t.tl, AV.int IntKind.i64 t.fr, AV.int IntKind.i64 t.re, AV.int IntKind.i64 t.l0, AV.int IntKind.i64 t.l1, AV.int IntKind.i64 t.e0, AV.int IntKind.i64 t.e1]), AObj.var (AV.agg [AV.int IntKind.i64 (r12.v0 t n g ln ms), AV.int IntKind.i64 (r12.v1 t n g ln ms)])])

theorem r5x1 (ha : r10.v = true) (t : TD) (hnm : t.nm.size ≤ 9223372036854775807) (n : Nat) (hn : n ≤ 10) (g : Nat → LD) (hg : ∀ (i : Nat), (g i).nm.size ≤ 9223372036854775807) (ln : Int) (ms : Int) (hf : r11.v t n g = true) (h0 : (r19.v t n g == 0) = true) (h0p : r19.v t n g = 0) (b1 : decide (ln < 1) = true) (q2 : (r12.v2 t n g ln ms == 6) = true) (z0 : (r12.v0 t n g ln ms == 0) = true) (z1 : (r12.v1 t n g ln ms == 0) = true) (h : AHeap) : Ret Try.prog 5 ([t.av, lds n g, AV.int IntKind.i64 ln, AV.int IntKind.i64 ms]) h (AV.bool (r5x1.v t n g ln ms)) h := by
  have o0 : n ≤ (9223372036854775807 : Nat) := by first | assumption | omega | (exact hg _) | (exact hg _ (by omega)) | (simp_all; done)
  cases h1 : decide (t.tl > 1500) with
  | true =>
    have h1p := of_decide_eq_true h1
    cases h2 : decide (t.tl ≤ 50000) with
    | true =>
      have h2p := of_decide_eq_true h2
      exact Ret.of_run1 mix [(AV.bool (r5x1.v t n g ln ms))] Try.func5 rfl [.ret (AV.bool r10.v) (r5x1.h0 t n g ln ms), .b false, .ret (AV.bool (r11.v t n g)) (r5x1.h0 t n g ln ms), .b false, .b false, .b false, .b false, .b true, .b true, .b true, .b false, .b true, .b false, .b true] (by simp) (by simp) (kmp (by kernel_rfl) (And.intro (r10 (r5x1.h0 t n g ln ms)) (And.intro (rfl : false = false) (And.intro (r11 (t) (n) (g) o0 (r5x1.h0 t n g ln ms)) (And.intro (show (bnot (r11.v t n g)) = false by rw [hf]; try rfl) (And.intro (show (bnot (r11.v t n g)) = false by rw [hf]; try rfl) (And.intro (show (bnot (r11.v t n g)) = false by rw [hf]; try rfl) (And.intro (show (bnot (r11.v t n g)) = false by rw [hf]; try rfl) (And.intro h1 (And.intro h1 (And.intro h1 (And.intro (show (bnot (r11.v t n g)) = false by rw [hf]; try rfl) (And.intro h1 (And.intro (show (bnot (r11.v t n g)) = false by rw [hf]; try rfl) (And.intro h2 (And.intro (show (AV.bool true) = ((AV.bool (r5x1.v t n g ln ms))) by first | (simp only [r5x1.v, hf, h1, h2, cond_true, cond_false]; done) | (try unfold r5x1.v; try simp only [hf, cond_true, cond_false]; try simp only [h1, cond_true, cond_false]; try simp only [h2, cond_true, cond_false]; try rfl; done) | rfl) trivial)))))))))))))))) h
    | false =>
      have h2p := of_decide_eq_false h2
      have o1 : t.nm.size ≤ (9223372036854775807 : Nat) := by first | assumption | omega | (exact hg _) | (exact hg _ (by omega)) | (simp_all; done)
      have o2 : n ≤ (12 : Nat) := by first | assumption | omega | (exact hg _) | (exact hg _ (by omega)) | (simp_all; done)
      have o3 : ∀ (i : Nat), (g i).nm.size ≤ (9223372036854775807 : Nat) := by first | assumption | omega | (exact hg _) | (exact hg _ (by omega)) | (simp_all; done)
      exact Ret.of_run1 mix [(AV.bool (r5x1.v t n g ln ms))] Try.func5 rfl [.ret (AV.bool r10.v) (r5x1.h0 t n g ln ms), .b false, .ret (AV.bool (r11.v t n g)) (r5x1.h0 t n g ln ms), .b false, .b false, .b false, .b false, .b true, .b true, .b true, .b false, .b true, .b false, .b false, .ret (AV.tup [AV.agg [AV.int IntKind.i64 (r12.v0 t n g ln ms), AV.int IntKind.i64 (r12.v1 t n g ln ms)], AV.int IntKind.i64 (r12.v2 t n g ln ms)]) (r5x1.h0 t n g ln ms), .ret (AV.int IntKind.i64 (r19.v t n g)) (r5x1.h1 t n g ln ms), .b true, .b true, .b true, .b true, .b true, .b true, .b true, .b true, .b true, .b true, .b true, .b true, .b true, .b true, .b true, .b true, .b true, .b true, .b true, .b true, .b true, .b true, .b true, .b true] (by simp) (by simp) (kmp (by kernel_rfl) (And.intro (r10 (r5x1.h0 t n g ln ms)) (And.intro (rfl : false = false) (And.intro (r11 (t) (n) (g) o0 (r5x1.h0 t n g ln ms)) (And.intro (show (bnot (r11.v t n g)) = false by rw [hf]; try rfl) (And.intro (show (bnot (r11.v t n g)) = false by rw [hf]; try rfl) (And.intro (show (bnot (r11.v t n g)) = false by rw [hf]; try rfl) (And.intro (show (bnot (r11.v t n g)) = false by rw [hf]; try rfl) (And.intro h1 (And.intro h1 (And.intro h1 (And.intro (show (bnot (r11.v t n g)) = false by rw [hf]; try rfl) (And.intro h1 (And.intro (show (bnot (r11.v t n g)) = false by rw [hf]; try rfl) (And.intro h2 (And.intro (r12 (t) o1 (n) o2 (g) o3 (ln) (ms) (r5x1.h0 t n g ln ms)) (And.intro (r19 (t) o1 (n) o0 (g) o3 (r5x1.h1 t n g ln ms)) (And.intro h0 (And.intro h0 (And.intro h0 (And.intro b1 (And.intro b1 (And.intro h0 (And.intro b1 (And.intro h0 (And.intro (rfl : true = true) (And.intro (rfl : true = true) (And.intro h0 (And.intro (rfl : true = true) (And.intro h0 (And.intro (rfl : true = true) (And.intro (rfl : true = true) (And.intro h0 (And.intro (rfl : true = true) (And.intro h0 (And.intro (rfl : true = true) (And.intro (rfl : true = true) (And.intro q2 (And.intro q2 (And.intro q2 (And.intro q2 (And.intro (show (AV.bool (r12.v0 t n g ln ms == 0 && (fun (q : Bool) => r12.v1 t n g ln ms == 0 && q) true)) = ((AV.bool (r5x1.v t n g ln ms))) by first | (simp only [r5x1.v, hf, h1, h2, cond_true, cond_false]; done) | (try unfold r5x1.v; try simp only [hf, cond_true, cond_false]; try simp only [h1, cond_true, cond_false]; try simp only [h2, cond_true, cond_false]; try rfl; done) | rfl) trivial)))))))))))))))))))))))))))))))))))))))))) h
  | false =>
    have h1p := of_decide_eq_false h1
    have o1 : t.nm.size ≤ (9223372036854775807 : Nat) := by first | assumption | omega | (exact hg _) | (exact hg _ (by omega)) | (simp_all; done)
    have o2 : n ≤ (12 : Nat) := by first | assumption | omega | (exact hg _) | (exact hg _ (by omega)) | (simp_all; done)
    have o3 : ∀ (i : Nat), (g i).nm.size ≤ (9223372036854775807 : Nat) := by first | assumption | omega | (exact hg _) | (exact hg _ (by omega)) | (simp_all; done)
    exact Ret.of_run1 mix [(AV.bool (r5x1.v t n g ln ms))] Try.func5 rfl [.ret (AV.bool r10.v) (r5x1.h0 t n g ln ms), .b false, .ret (AV.bool (r11.v t n g)) (r5x1.h0 t n g ln ms), .b false, .b false, .b false, .b false, .b false, .b false, .b false, .b false, .b false, .b false, .b false, .ret (AV.tup [AV.agg [AV.int IntKind.i64 (r12.v0 t n g ln ms), AV.int IntKind.i64 (r12.v1 t n g ln ms)], AV.int IntKind.i64 (r12.v2 t n g ln ms)]) (r5x1.h0 t n g ln ms), .ret (AV.int IntKind.i64 (r19.v t n g)) (r5x1.h1 t n g ln ms), .b true, .b true, .b true, .b true, .b true, .b true, .b true, .b true, .b true, .b true, .b true, .b true, .b true, .b true, .b true, .b true, .b true, .b true, .b true, .b true, .b true, .b true, .b true, .b true] (by simp) (by simp) (kmp (by kernel_rfl) (And.intro (r10 (r5x1.h0 t n g ln ms)) (And.intro (rfl : false = false) (And.intro (r11 (t) (n) (g) o0 (r5x1.h0 t n g ln ms)) (And.intro (show (bnot (r11.v t n g)) = false by rw [hf]; try rfl) (And.intro (show (bnot (r11.v t n g)) = false by rw [hf]; try rfl) (And.intro (show (bnot (r11.v t n g)) = false by rw [hf]; try rfl) (And.intro (show (bnot (r11.v t n g)) = false by rw [hf]; try rfl) (And.intro h1 (And.intro h1 (And.intro h1 (And.intro (show (bnot (r11.v t n g)) = false by rw [hf]; try rfl) (And.intro h1 (And.intro (show (bnot (r11.v t n g)) = false by rw [hf]; try rfl) (And.intro (rfl : false = false) (And.intro (r12 (t) o1 (n) o2 (g) o3 (ln) (ms) (r5x1.h0 t n g ln ms)) (And.intro (r19 (t) o1 (n) o0 (g) o3 (r5x1.h1 t n g ln ms)) (And.intro h0 (And.intro h0 (And.intro h0 (And.intro b1 (And.intro b1 (And.intro h0 (And.intro b1 (And.intro h0 (And.intro (rfl : true = true) (And.intro (rfl : true = true) (And.intro h0 (And.intro (rfl : true = true) (And.intro h0 (And.intro (rfl : true = true) (And.intro (rfl : true = true) (And.intro h0 (And.intro (rfl : true = true) (And.intro h0 (And.intro (rfl : true = true) (And.intro (rfl : true = true) (And.intro q2 (And.intro q2 (And.intro q2 (And.intro q2 (And.intro (show (AV.bool (r12.v0 t n g ln ms == 0 && (fun (q : Bool) => r12.v1 t n g ln ms == 0 && q) true)) = ((AV.bool (r5x1.v t n g ln ms))) by first | (simp only [r5x1.v, hf, h1, cond_true, cond_false]; done) | (try unfold r5x1.v; try simp only [hf, cond_true, cond_false]; try simp only [h1, cond_true, cond_false]; try rfl; done) | rfl) trivial)))))))))))))))))))))))))))))))))))))))))) h

noncomputable def r5x2.v (t : TD) (n : Nat) (g : Nat → LD) (ln : Int) (ms : Int) : Bool := (bif decide (t.tl > 1500) then (bif decide (t.tl ≤ 50000) then true else r12.v0 t n g ln ms == 0 && (fun (q : Bool) => r12.v1 t n g ln ms == 0 && q) true) else r12.v0 t n g ln ms == 0 && (fun (q : Bool) => r12.v1 t n g ln ms == 0 && q) true)

noncomputable abbrev r5x2.h0 (t : TD) (n : Nat) (g : Nat → LD) (ln : Int) (ms : Int) : AHeap := ([AObj.var (AV.agg [AV.str t.nm, AV.int IntKind.i64 t.tl, AV.int IntKind.i64 t.fr, AV.int IntKind.i64 t.re, AV.int IntKind.i64 t.l0, AV.int IntKind.i64 t.l1, AV.int IntKind.i64 t.e0, AV.int IntKind.i64 t.e1])])

noncomputable abbrev r5x2.h1 (t : TD) (n : Nat) (g : Nat → LD) (ln : Int) (ms : Int) : AHeap := ([AObj.var (AV.agg [AV.str t.nm, AV.int IntKind.i64 t.tl, AV.int IntKind.i64 t.fr, AV.int IntKind.i64 t.re, AV.int IntKind.i64 t.l0, AV.int IntKind.i64 t.l1, AV.int IntKind.i64 t.e0, AV.int IntKind.i64 t.e1]), AObj.var (AV.agg [AV.int IntKind.i64 (r12.v0 t n g ln ms), AV.int IntKind.i64 (r12.v1 t n g ln ms)])])

theorem r5x2 (ha : r10.v = true) (t : TD) (hnm : t.nm.size ≤ 9223372036854775807) (n : Nat) (hn : n ≤ 10) (g : Nat → LD) (hg : ∀ (i : Nat), (g i).nm.size ≤ 9223372036854775807) (ln : Int) (ms : Int) (hf : r11.v t n g = true) (h0 : (r19.v t n g == 0) = true) (h0p : r19.v t n g = 0) (b1 : decide (ln < 1) = false) (b2 : decide (ln > 50000) = true) (q2 : (r12.v2 t n g ln ms == 6) = true) (z0 : (r12.v0 t n g ln ms == 0) = true) (z1 : (r12.v1 t n g ln ms == 0) = true) (h : AHeap) : Ret Try.prog 5 ([t.av, lds n g, AV.int IntKind.i64 ln, AV.int IntKind.i64 ms]) h (AV.bool (r5x2.v t n g ln ms)) h := by
  have o0 : n ≤ (9223372036854775807 : Nat) := by first | assumption | omega | (exact hg _) | (exact hg _ (by omega)) | (simp_all; done)
  cases h1 : decide (t.tl > 1500) with
  | true =>
    have h1p := of_decide_eq_true h1
    cases h2 : decide (t.tl ≤ 50000) with
    | true =>
      have h2p := of_decide_eq_true h2
      exact Ret.of_run1 mix [(AV.bool (r5x2.v t n g ln ms))] Try.func5 rfl [.ret (AV.bool r10.v) (r5x2.h0 t n g ln ms), .b false, .ret (AV.bool (r11.v t n g)) (r5x2.h0 t n g ln ms), .b false, .b false, .b false, .b false, .b true, .b true, .b true, .b false, .b true, .b false, .b true] (by simp) (by simp) (kmp (by kernel_rfl) (And.intro (r10 (r5x2.h0 t n g ln ms)) (And.intro (rfl : false = false) (And.intro (r11 (t) (n) (g) o0 (r5x2.h0 t n g ln ms)) (And.intro (show (bnot (r11.v t n g)) = false by rw [hf]; try rfl) (And.intro (show (bnot (r11.v t n g)) = false by rw [hf]; try rfl) (And.intro (show (bnot (r11.v t n g)) = false by rw [hf]; try rfl) (And.intro (show (bnot (r11.v t n g)) = false by rw [hf]; try rfl) (And.intro h1 (And.intro h1 (And.intro h1 (And.intro (show (bnot (r11.v t n g)) = false by rw [hf]; try rfl) (And.intro h1 (And.intro (show (bnot (r11.v t n g)) = false by rw [hf]; try rfl) (And.intro h2 (And.intro (show (AV.bool true) = ((AV.bool (r5x2.v t n g ln ms))) by first | (simp only [r5x2.v, hf, h1, h2, cond_true, cond_false]; done) | (try unfold r5x2.v; try simp only [hf, cond_true, cond_false]; try simp only [h1, cond_true, cond_false]; try simp only [h2, cond_true, cond_false]; try rfl; done) | rfl) trivial)))))))))))))))) h
    | false =>
      have h2p := of_decide_eq_false h2
      have o1 : t.nm.size ≤ (9223372036854775807 : Nat) := by first | assumption | omega | (exact hg _) | (exact hg _ (by omega)) | (simp_all; done)
      have o2 : n ≤ (12 : Nat) := by first | assumption | omega | (exact hg _) | (exact hg _ (by omega)) | (simp_all; done)
      have o3 : ∀ (i : Nat), (g i).nm.size ≤ (9223372036854775807 : Nat) := by first | assumption | omega | (exact hg _) | (exact hg _ (by omega)) | (simp_all; done)
      exact Ret.of_run1 mix [(AV.bool (r5x2.v t n g ln ms))] Try.func5 rfl [.ret (AV.bool r10.v) (r5x2.h0 t n g ln ms), .b false, .ret (AV.bool (r11.v t n g)) (r5x2.h0 t n g ln ms), .b false, .b false, .b false, .b false, .b true, .b true, .b true, .b false, .b true, .b false, .b false, .ret (AV.tup [AV.agg [AV.int IntKind.i64 (r12.v0 t n g ln ms), AV.int IntKind.i64 (r12.v1 t n g ln ms)], AV.int IntKind.i64 (r12.v2 t n g ln ms)]) (r5x2.h0 t n g ln ms), .ret (AV.int IntKind.i64 (r19.v t n g)) (r5x2.h1 t n g ln ms), .b true, .b true, .b true, .b false, .b false, .b true, .b false, .b true, .b true, .b true, .b true, .b true, .b true, .b true, .b true, .b true, .b true, .b true, .b true, .b true, .b true, .b true, .b true, .b true] (by simp) (by simp) (kmp (by kernel_rfl) (And.intro (r10 (r5x2.h0 t n g ln ms)) (And.intro (rfl : false = false) (And.intro (r11 (t) (n) (g) o0 (r5x2.h0 t n g ln ms)) (And.intro (show (bnot (r11.v t n g)) = false by rw [hf]; try rfl) (And.intro (show (bnot (r11.v t n g)) = false by rw [hf]; try rfl) (And.intro (show (bnot (r11.v t n g)) = false by rw [hf]; try rfl) (And.intro (show (bnot (r11.v t n g)) = false by rw [hf]; try rfl) (And.intro h1 (And.intro h1 (And.intro h1 (And.intro (show (bnot (r11.v t n g)) = false by rw [hf]; try rfl) (And.intro h1 (And.intro (show (bnot (r11.v t n g)) = false by rw [hf]; try rfl) (And.intro h2 (And.intro (r12 (t) o1 (n) o2 (g) o3 (ln) (ms) (r5x2.h0 t n g ln ms)) (And.intro (r19 (t) o1 (n) o0 (g) o3 (r5x2.h1 t n g ln ms)) (And.intro h0 (And.intro h0 (And.intro h0 (And.intro b1 (And.intro b1 (And.intro h0 (And.intro b1 (And.intro h0 (And.intro b2 (And.intro b2 (And.intro h0 (And.intro b2 (And.intro h0 (And.intro (rfl : true = true) (And.intro (rfl : true = true) (And.intro h0 (And.intro (rfl : true = true) (And.intro h0 (And.intro (rfl : true = true) (And.intro (rfl : true = true) (And.intro q2 (And.intro q2 (And.intro q2 (And.intro q2 (And.intro (show (AV.bool (r12.v0 t n g ln ms == 0 && (fun (q : Bool) => r12.v1 t n g ln ms == 0 && q) true)) = ((AV.bool (r5x2.v t n g ln ms))) by first | (simp only [r5x2.v, hf, h1, h2, cond_true, cond_false]; done) | (try unfold r5x2.v; try simp only [hf, cond_true, cond_false]; try simp only [h1, cond_true, cond_false]; try simp only [h2, cond_true, cond_false]; try rfl; done) | rfl) trivial)))))))))))))))))))))))))))))))))))))))))) h
  | false =>
    have h1p := of_decide_eq_false h1
    have o1 : t.nm.size ≤ (9223372036854775807 : Nat) := by first | assumption | omega | (exact hg _) | (exact hg _ (by omega)) | (simp_all; done)
    have o2 : n ≤ (12 : Nat) := by first | assumption | omega | (exact hg _) | (exact hg _ (by omega)) | (simp_all; done)
    have o3 : ∀ (i : Nat), (g i).nm.size ≤ (9223372036854775807 : Nat) := by first | assumption | omega | (exact hg _) | (exact hg _ (by omega)) | (simp_all; done)
    exact Ret.of_run1 mix [(AV.bool (r5x2.v t n g ln ms))] Try.func5 rfl [.ret (AV.bool r10.v) (r5x2.h0 t n g ln ms), .b false, .ret (AV.bool (r11.v t n g)) (r5x2.h0 t n g ln ms), .b false, .b false, .b false, .b false, .b false, .b false, .b false, .b false, .b false, .b false, .b false, .ret (AV.tup [AV.agg [AV.int IntKind.i64 (r12.v0 t n g ln ms), AV.int IntKind.i64 (r12.v1 t n g ln ms)], AV.int IntKind.i64 (r12.v2 t n g ln ms)]) (r5x2.h0 t n g ln ms), .ret (AV.int IntKind.i64 (r19.v t n g)) (r5x2.h1 t n g ln ms), .b true, .b true, .b true, .b false, .b false, .b true, .b false, .b true, .b true, .b true, .b true, .b true, .b true, .b true, .b true, .b true, .b true, .b true, .b true, .b true, .b true, .b true, .b true, .b true] (by simp) (by simp) (kmp (by kernel_rfl) (And.intro (r10 (r5x2.h0 t n g ln ms)) (And.intro (rfl : false = false) (And.intro (r11 (t) (n) (g) o0 (r5x2.h0 t n g ln ms)) (And.intro (show (bnot (r11.v t n g)) = false by rw [hf]; try rfl) (And.intro (show (bnot (r11.v t n g)) = false by rw [hf]; try rfl) (And.intro (show (bnot (r11.v t n g)) = false by rw [hf]; try rfl) (And.intro (show (bnot (r11.v t n g)) = false by rw [hf]; try rfl) (And.intro h1 (And.intro h1 (And.intro h1 (And.intro (show (bnot (r11.v t n g)) = false by rw [hf]; try rfl) (And.intro h1 (And.intro (show (bnot (r11.v t n g)) = false by rw [hf]; try rfl) (And.intro (rfl : false = false) (And.intro (r12 (t) o1 (n) o2 (g) o3 (ln) (ms) (r5x2.h0 t n g ln ms)) (And.intro (r19 (t) o1 (n) o0 (g) o3 (r5x2.h1 t n g ln ms)) (And.intro h0 (And.intro h0 (And.intro h0 (And.intro b1 (And.intro b1 (And.intro h0 (And.intro b1 (And.intro h0 (And.intro b2 (And.intro b2 (And.intro h0 (And.intro b2 (And.intro h0 (And.intro (rfl : true = true) (And.intro (rfl : true = true) (And.intro h0 (And.intro (rfl : true = true) (And.intro h0 (And.intro (rfl : true = true) (And.intro (rfl : true = true) (And.intro q2 (And.intro q2 (And.intro q2 (And.intro q2 (And.intro (show (AV.bool (r12.v0 t n g ln ms == 0 && (fun (q : Bool) => r12.v1 t n g ln ms == 0 && q) true)) = ((AV.bool (r5x2.v t n g ln ms))) by first | (simp only [r5x2.v, hf, h1, cond_true, cond_false]; done) | (try unfold r5x2.v; try simp only [hf, cond_true, cond_false]; try simp only [h1, cond_true, cond_false]; try rfl; done) | rfl) trivial)))))))))))))))))))))))))))))))))))))))))) h

noncomputable def r5x3.v (t : TD) (n : Nat) (g : Nat → LD) (ln : Int) (ms : Int) : Bool := (bif decide (t.tl > 1500) then (bif decide (t.tl ≤ 50000) then true else r12.v0 t n g ln ms == 0 && (fun (q : Bool) => r12.v1 t n g ln ms == 0 && q) true) else r12.v0 t n g ln ms == 0 && (fun (q : Bool) => r12.v1 t n g ln ms == 0 && q) true)

noncomputable abbrev r5x3.h0 (t : TD) (n : Nat) (g : Nat → LD) (ln : Int) (ms : Int) : AHeap := ([AObj.var (AV.agg [AV.str t.nm, AV.int IntKind.i64 t.tl, AV.int IntKind.i64 t.fr, AV.int IntKind.i64 t.re, AV.int IntKind.i64 t.l0, AV.int IntKind.i64 t.l1, AV.int IntKind.i64 t.e0, AV.int IntKind.i64 t.e1])])

noncomputable abbrev r5x3.h1 (t : TD) (n : Nat) (g : Nat → LD) (ln : Int) (ms : Int) : AHeap := ([AObj.var (AV.agg [AV.str t.nm, AV.int IntKind.i64 t.tl, AV.int IntKind.i64 t.fr, AV.int IntKind.i64 t.re, AV.int IntKind.i64 t.l0, AV.int IntKind.i64 t.l1, AV.int IntKind.i64 t.e0, AV.int IntKind.i64 t.e1]), AObj.var (AV.agg [AV.int IntKind.i64 (r12.v0 t n g ln ms), AV.int IntKind.i64 (r12.v1 t n g ln ms)])])

theorem r5x3 (ha : r10.v = true) (t : TD) (hnm : t.nm.size ≤ 9223372036854775807) (n : Nat) (hn : n ≤ 10) (g : Nat → LD) (hg : ∀ (i : Nat), (g i).nm.size ≤ 9223372036854775807) (ln : Int) (ms : Int) (hf : r11.v t n g = true) (h0 : (r19.v t n g == 0) = true) (h0p : r19.v t n g = 0) (b1 : decide (ln < 1) = false) (b2 : decide (ln > 50000) = false) (b3 : decide (ms < 1) = true) (q2 : (r12.v2 t n g ln ms == 6) = true) (z0 : (r12.v0 t n g ln ms == 0) = true) (z1 : (r12.v1 t n g ln ms == 0) = true) (h : AHeap) : Ret Try.prog 5 ([t.av, lds n g, AV.int IntKind.i64 ln, AV.int IntKind.i64 ms]) h (AV.bool (r5x3.v t n g ln ms)) h := by
  have o0 : n ≤ (9223372036854775807 : Nat) := by first | assumption | omega | (exact hg _) | (exact hg _ (by omega)) | (simp_all; done)
  cases h1 : decide (t.tl > 1500) with
  | true =>
    have h1p := of_decide_eq_true h1
    cases h2 : decide (t.tl ≤ 50000) with
    | true =>
      have h2p := of_decide_eq_true h2
      exact Ret.of_run1 mix [(AV.bool (r5x3.v t n g ln ms))] Try.func5 rfl [.ret (AV.bool r10.v) (r5x3.h0 t n g ln ms), .b false, .ret (AV.bool (r11.v t n g)) (r5x3.h0 t n g ln ms), .b false, .b false, .b false, .b false, .b true, .b true, .b true, .b false, .b true, .b false, .b true] (by simp) (by simp) (kmp (by kernel_rfl) (And.intro (r10 (r5x3.h0 t n g ln ms)) (And.intro (rfl : false = false) (And.intro (r11 (t) (n) (g) o0 (r5x3.h0 t n g ln ms)) (And.intro (show (bnot (r11.v t n g)) = false by rw [hf]; try rfl) (And.intro (show (bnot (r11.v t n g)) = false by rw [hf]; try rfl) (And.intro (show (bnot (r11.v t n g)) = false by rw [hf]; try rfl) (And.intro (show (bnot (r11.v t n g)) = false by rw [hf]; try rfl) (And.intro h1 (And.intro h1 (And.intro h1 (And.intro (show (bnot (r11.v t n g)) = false by rw [hf]; try rfl) (And.intro h1 (And.intro (show (bnot (r11.v t n g)) = false by rw [hf]; try rfl) (And.intro h2 (And.intro (show (AV.bool true) = ((AV.bool (r5x3.v t n g ln ms))) by first | (simp only [r5x3.v, hf, h1, h2, cond_true, cond_false]; done) | (try unfold r5x3.v; try simp only [hf, cond_true, cond_false]; try simp only [h1, cond_true, cond_false]; try simp only [h2, cond_true, cond_false]; try rfl; done) | rfl) trivial)))))))))))))))) h
    | false =>
      have h2p := of_decide_eq_false h2
      have o1 : t.nm.size ≤ (9223372036854775807 : Nat) := by first | assumption | omega | (exact hg _) | (exact hg _ (by omega)) | (simp_all; done)
      have o2 : n ≤ (12 : Nat) := by first | assumption | omega | (exact hg _) | (exact hg _ (by omega)) | (simp_all; done)
      have o3 : ∀ (i : Nat), (g i).nm.size ≤ (9223372036854775807 : Nat) := by first | assumption | omega | (exact hg _) | (exact hg _ (by omega)) | (simp_all; done)
      exact Ret.of_run1 mix [(AV.bool (r5x3.v t n g ln ms))] Try.func5 rfl [.ret (AV.bool r10.v) (r5x3.h0 t n g ln ms), .b false, .ret (AV.bool (r11.v t n g)) (r5x3.h0 t n g ln ms), .b false, .b false, .b false, .b false, .b true, .b true, .b true, .b false, .b true, .b false, .b false, .ret (AV.tup [AV.agg [AV.int IntKind.i64 (r12.v0 t n g ln ms), AV.int IntKind.i64 (r12.v1 t n g ln ms)], AV.int IntKind.i64 (r12.v2 t n g ln ms)]) (r5x3.h0 t n g ln ms), .ret (AV.int IntKind.i64 (r19.v t n g)) (r5x3.h1 t n g ln ms), .b true, .b true, .b true, .b false, .b false, .b true, .b false, .b true, .b false, .b false, .b true, .b false, .b true, .b true, .b true, .b true, .b true, .b true, .b true, .b true, .b true, .b true, .b true, .b true] (by simp) (by simp) (kmp (by kernel_rfl) (And.intro (r10 (r5x3.h0 t n g ln ms)) (And.intro (rfl : false = false) (And.intro (r11 (t) (n) (g) o0 (r5x3.h0 t n g ln ms)) (And.intro (show (bnot (r11.v t n g)) = false by rw [hf]; try rfl) (And.intro (show (bnot (r11.v t n g)) = false by rw [hf]; try rfl) (And.intro (show (bnot (r11.v t n g)) = false by rw [hf]; try rfl) (And.intro (show (bnot (r11.v t n g)) = false by rw [hf]; try rfl) (And.intro h1 (And.intro h1 (And.intro h1 (And.intro (show (bnot (r11.v t n g)) = false by rw [hf]; try rfl) (And.intro h1 (And.intro (show (bnot (r11.v t n g)) = false by rw [hf]; try rfl) (And.intro h2 (And.intro (r12 (t) o1 (n) o2 (g) o3 (ln) (ms) (r5x3.h0 t n g ln ms)) (And.intro (r19 (t) o1 (n) o0 (g) o3 (r5x3.h1 t n g ln ms)) (And.intro h0 (And.intro h0 (And.intro h0 (And.intro b1 (And.intro b1 (And.intro h0 (And.intro b1 (And.intro h0 (And.intro b2 (And.intro b2 (And.intro h0 (And.intro b2 (And.intro h0 (And.intro b3 (And.intro b3 (And.intro h0 (And.intro b3 (And.intro h0 (And.intro (rfl : true = true) (And.intro (rfl : true = true) (And.intro q2 (And.intro q2 (And.intro q2 (And.intro q2 (And.intro (show (AV.bool (r12.v0 t n g ln ms == 0 && (fun (q : Bool) => r12.v1 t n g ln ms == 0 && q) true)) = ((AV.bool (r5x3.v t n g ln ms))) by first | (simp only [r5x3.v, hf, h1, h2, cond_true, cond_false]; done) | (try unfold r5x3.v; try simp only [hf, cond_true, cond_false]; try simp only [h1, cond_true, cond_false]; try simp only [h2, cond_true, cond_false]; try rfl; done) | rfl) trivial)))))))))))))))))))))))))))))))))))))))))) h
  | false =>
    have h1p := of_decide_eq_false h1
    have o1 : t.nm.size ≤ (9223372036854775807 : Nat) := by first | assumption | omega | (exact hg _) | (exact hg _ (by omega)) | (simp_all; done)
    have o2 : n ≤ (12 : Nat) := by first | assumption | omega | (exact hg _) | (exact hg _ (by omega)) | (simp_all; done)
    have o3 : ∀ (i : Nat), (g i).nm.size ≤ (9223372036854775807 : Nat) := by first | assumption | omega | (exact hg _) | (exact hg _ (by omega)) | (simp_all; done)
    exact Ret.of_run1 mix [(AV.bool (r5x3.v t n g ln ms))] Try.func5 rfl [.ret (AV.bool r10.v) (r5x3.h0 t n g ln ms), .b false, .ret (AV.bool (r11.v t n g)) (r5x3.h0 t n g ln ms), .b false, .b false, .b false, .b false, .b false, .b false, .b false, .b false, .b false, .b false, .b false, .ret (AV.tup [AV.agg [AV.int IntKind.i64 (r12.v0 t n g ln ms), AV.int IntKind.i64 (r12.v1 t n g ln ms)], AV.int IntKind.i64 (r12.v2 t n g ln ms)]) (r5x3.h0 t n g ln ms), .ret (AV.int IntKind.i64 (r19.v t n g)) (r5x3.h1 t n g ln ms), .b true, .b true, .b true, .b false, .b false, .b true, .b false, .b true, .b false, .b false, .b true, .b false, .b true, .b true, .b true, .b true, .b true, .b true, .b true, .b true, .b true, .b true, .b true, .b true] (by simp) (by simp) (kmp (by kernel_rfl) (And.intro (r10 (r5x3.h0 t n g ln ms)) (And.intro (rfl : false = false) (And.intro (r11 (t) (n) (g) o0 (r5x3.h0 t n g ln ms)) (And.intro (show (bnot (r11.v t n g)) = false by rw [hf]; try rfl) (And.intro (show (bnot (r11.v t n g)) = false by rw [hf]; try rfl) (And.intro (show (bnot (r11.v t n g)) = false by rw [hf]; try rfl) (And.intro (show (bnot (r11.v t n g)) = false by rw [hf]; try rfl) (And.intro h1 (And.intro h1 (And.intro h1 (And.intro (show (bnot (r11.v t n g)) = false by rw [hf]; try rfl) (And.intro h1 (And.intro (show (bnot (r11.v t n g)) = false by rw [hf]; try rfl) (And.intro (rfl : false = false) (And.intro (r12 (t) o1 (n) o2 (g) o3 (ln) (ms) (r5x3.h0 t n g ln ms)) (And.intro (r19 (t) o1 (n) o0 (g) o3 (r5x3.h1 t n g ln ms)) (And.intro h0 (And.intro h0 (And.intro h0 (And.intro b1 (And.intro b1 (And.intro h0 (And.intro b1 (And.intro h0 (And.intro b2 (And.intro b2 (And.intro h0 (And.intro b2 (And.intro h0 (And.intro b3 (And.intro b3 (And.intro h0 (And.intro b3 (And.intro h0 (And.intro (rfl : true = true) (And.intro (rfl : true = true) (And.intro q2 (And.intro q2 (And.intro q2 (And.intro q2 (And.intro (show (AV.bool (r12.v0 t n g ln ms == 0 && (fun (q : Bool) => r12.v1 t n g ln ms == 0 && q) true)) = ((AV.bool (r5x3.v t n g ln ms))) by first | (simp only [r5x3.v, hf, h1, cond_true, cond_false]; done) | (try unfold r5x3.v; try simp only [hf, cond_true, cond_false]; try simp only [h1, cond_true, cond_false]; try rfl; done) | rfl) trivial)))))))))))))))))))))))))))))))))))))))))) h

noncomputable def r5x4.v (t : TD) (n : Nat) (g : Nat → LD) (ln : Int) (ms : Int) : Bool := (bif decide (t.tl > 1500) then (bif decide (t.tl ≤ 50000) then true else r12.v0 t n g ln ms == 0 && (fun (q : Bool) => r12.v1 t n g ln ms == 0 && q) true) else r12.v0 t n g ln ms == 0 && (fun (q : Bool) => r12.v1 t n g ln ms == 0 && q) true)

noncomputable abbrev r5x4.h0 (t : TD) (n : Nat) (g : Nat → LD) (ln : Int) (ms : Int) : AHeap := ([AObj.var (AV.agg [AV.str t.nm, AV.int IntKind.i64 t.tl, AV.int IntKind.i64 t.fr, AV.int IntKind.i64 t.re, AV.int IntKind.i64 t.l0, AV.int IntKind.i64 t.l1, AV.int IntKind.i64 t.e0, AV.int IntKind.i64 t.e1])])

noncomputable abbrev r5x4.h1 (t : TD) (n : Nat) (g : Nat → LD) (ln : Int) (ms : Int) : AHeap := ([AObj.var (AV.agg [AV.str t.nm, AV.int IntKind.i64 t.tl, AV.int IntKind.i64 t.fr, AV.int IntKind.i64 t.re, AV.int IntKind.i64 t.l0, AV.int IntKind.i64 t.l1, AV.int IntKind.i64 t.e0, AV.int IntKind.i64 t.e1]), AObj.var (AV.agg [AV.int IntKind.i64 (r12.v0 t n g ln ms), AV.int IntKind.i64 (r12.v1 t n g ln ms)])])

theorem r5x4 (ha : r10.v = true) (t : TD) (hnm : t.nm.size ≤ 9223372036854775807) (n : Nat) (hn : n ≤ 10) (g : Nat → LD) (hg : ∀ (i : Nat), (g i).nm.size ≤ 9223372036854775807) (ln : Int) (ms : Int) (hf : r11.v t n g = true) (h0 : (r19.v t n g == 0) = true) (h0p : r19.v t n g = 0) (b1 : decide (ln < 1) = false) (b2 : decide (ln > 50000) = false) (b3 : decide (ms < 1) = false) (b4 : decide (ms > 100000000) = true) (q2 : (r12.v2 t n g ln ms == 6) = true) (z0 : (r12.v0 t n g ln ms == 0) = true) (z1 : (r12.v1 t n g ln ms == 0) = true) (h : AHeap) : Ret Try.prog 5 ([t.av, lds n g, AV.int IntKind.i64 ln, AV.int IntKind.i64 ms]) h (AV.bool (r5x4.v t n g ln ms)) h := by
  have o0 : n ≤ (9223372036854775807 : Nat) := by first | assumption | omega | (exact hg _) | (exact hg _ (by omega)) | (simp_all; done)
  cases h1 : decide (t.tl > 1500) with
  | true =>
    have h1p := of_decide_eq_true h1
    cases h2 : decide (t.tl ≤ 50000) with
    | true =>
      have h2p := of_decide_eq_true h2
      exact Ret.of_run1 mix [(AV.bool (r5x4.v t n g ln ms))] Try.func5 rfl [.ret (AV.bool r10.v) (r5x4.h0 t n g ln ms), .b false, .ret (AV.bool (r11.v t n g)) (r5x4.h0 t n g ln ms), .b false, .b false, .b false, .b false, .b true, .b true, .b true, .b false, .b true, .b false, .b true] (by simp) (by simp) (kmp (by kernel_rfl) (And.intro (r10 (r5x4.h0 t n g ln ms)) (And.intro (rfl : false = false) (And.intro (r11 (t) (n) (g) o0 (r5x4.h0 t n g ln ms)) (And.intro (show (bnot (r11.v t n g)) = false by rw [hf]; try rfl) (And.intro (show (bnot (r11.v t n g)) = false by rw [hf]; try rfl) (And.intro (show (bnot (r11.v t n g)) = false by rw [hf]; try rfl) (And.intro (show (bnot (r11.v t n g)) = false by rw [hf]; try rfl) (And.intro h1 (And.intro h1 (And.intro h1 (And.intro (show (bnot (r11.v t n g)) = false by rw [hf]; try rfl) (And.intro h1 (And.intro (show (bnot (r11.v t n g)) = false by rw [hf]; try rfl) (And.intro h2 (And.intro (show (AV.bool true) = ((AV.bool (r5x4.v t n g ln ms))) by first | (simp only [r5x4.v, hf, h1, h2, cond_true, cond_false]; done) | (try unfold r5x4.v; try simp only [hf, cond_true, cond_false]; try simp only [h1, cond_true, cond_false]; try simp only [h2, cond_true, cond_false]; try rfl; done) | rfl) trivial)))))))))))))))) h
    | false =>
      have h2p := of_decide_eq_false h2
      have o1 : t.nm.size ≤ (9223372036854775807 : Nat) := by first | assumption | omega | (exact hg _) | (exact hg _ (by omega)) | (simp_all; done)
      have o2 : n ≤ (12 : Nat) := by first | assumption | omega | (exact hg _) | (exact hg _ (by omega)) | (simp_all; done)
      have o3 : ∀ (i : Nat), (g i).nm.size ≤ (9223372036854775807 : Nat) := by first | assumption | omega | (exact hg _) | (exact hg _ (by omega)) | (simp_all; done)
      exact Ret.of_run1 mix [(AV.bool (r5x4.v t n g ln ms))] Try.func5 rfl [.ret (AV.bool r10.v) (r5x4.h0 t n g ln ms), .b false, .ret (AV.bool (r11.v t n g)) (r5x4.h0 t n g ln ms), .b false, .b false, .b false, .b false, .b true, .b true, .b true, .b false, .b true, .b false, .b false, .ret (AV.tup [AV.agg [AV.int IntKind.i64 (r12.v0 t n g ln ms), AV.int IntKind.i64 (r12.v1 t n g ln ms)], AV.int IntKind.i64 (r12.v2 t n g ln ms)]) (r5x4.h0 t n g ln ms), .ret (AV.int IntKind.i64 (r19.v t n g)) (r5x4.h1 t n g ln ms), .b true, .b true, .b true, .b false, .b false, .b true, .b false, .b true, .b false, .b false, .b true, .b false, .b true, .b false, .b false, .b true, .b false, .b true, .b true, .b true, .b true, .b true, .b true, .b true] (by simp) (by simp) (kmp (by kernel_rfl) (And.intro (r10 (r5x4.h0 t n g ln ms)) (And.intro (rfl : false = false) (And.intro (r11 (t) (n) (g) o0 (r5x4.h0 t n g ln ms)) (And.intro (show (bnot (r11.v t n g)) = false by rw [hf]; try rfl) (And.intro (show (bnot (r11.v t n g)) = false by rw [hf]; try rfl) (And.intro (show (bnot (r11.v t n g)) = false by rw [hf]; try rfl) (And.intro (show (bnot (r11.v t n g)) = false by rw [hf]; try rfl) (And.intro h1 (And.intro h1 (And.intro h1 (And.intro (show (bnot (r11.v t n g)) = false by rw [hf]; try rfl) (And.intro h1 (And.intro (show (bnot (r11.v t n g)) = false by rw [hf]; try rfl) (And.intro h2 (And.intro (r12 (t) o1 (n) o2 (g) o3 (ln) (ms) (r5x4.h0 t n g ln ms)) (And.intro (r19 (t) o1 (n) o0 (g) o3 (r5x4.h1 t n g ln ms)) (And.intro h0 (And.intro h0 (And.intro h0 (And.intro b1 (And.intro b1 (And.intro h0 (And.intro b1 (And.intro h0 (And.intro b2 (And.intro b2 (And.intro h0 (And.intro b2 (And.intro h0 (And.intro b3 (And.intro b3 (And.intro h0 (And.intro b3 (And.intro h0 (And.intro b4 (And.intro (rfl : true = true) (And.intro q2 (And.intro q2 (And.intro q2 (And.intro q2 (And.intro (show (AV.bool (r12.v0 t n g ln ms == 0 && (fun (q : Bool) => r12.v1 t n g ln ms == 0 && q) true)) = ((AV.bool (r5x4.v t n g ln ms))) by first | (simp only [r5x4.v, hf, h1, h2, cond_true, cond_false]; done) | (try unfold r5x4.v; try simp only [hf, cond_true, cond_false]; try simp only [h1, cond_true, cond_false]; try simp only [h2, cond_true, cond_false]; try rfl; done) | rfl) trivial)))))))))))))))))))))))))))))))))))))))))) h
  | false =>
    have h1p := of_decide_eq_false h1
    have o1 : t.nm.size ≤ (9223372036854775807 : Nat) := by first | assumption | omega | (exact hg _) | (exact hg _ (by omega)) | (simp_all; done)
    have o2 : n ≤ (12 : Nat) := by first | assumption | omega | (exact hg _) | (exact hg _ (by omega)) | (simp_all; done)
    have o3 : ∀ (i : Nat), (g i).nm.size ≤ (9223372036854775807 : Nat) := by first | assumption | omega | (exact hg _) | (exact hg _ (by omega)) | (simp_all; done)
    exact Ret.of_run1 mix [(AV.bool (r5x4.v t n g ln ms))] Try.func5 rfl [.ret (AV.bool r10.v) (r5x4.h0 t n g ln ms), .b false, .ret (AV.bool (r11.v t n g)) (r5x4.h0 t n g ln ms), .b false, .b false, .b false, .b false, .b false, .b false, .b false, .b false, .b false, .b false, .b false, .ret (AV.tup [AV.agg [AV.int IntKind.i64 (r12.v0 t n g ln ms), AV.int IntKind.i64 (r12.v1 t n g ln ms)], AV.int IntKind.i64 (r12.v2 t n g ln ms)]) (r5x4.h0 t n g ln ms), .ret (AV.int IntKind.i64 (r19.v t n g)) (r5x4.h1 t n g ln ms), .b true, .b true, .b true, .b false, .b false, .b true, .b false, .b true, .b false, .b false, .b true, .b false, .b true, .b false, .b false, .b true, .b false, .b true, .b true, .b true, .b true, .b true, .b true, .b true] (by simp) (by simp) (kmp (by kernel_rfl) (And.intro (r10 (r5x4.h0 t n g ln ms)) (And.intro (rfl : false = false) (And.intro (r11 (t) (n) (g) o0 (r5x4.h0 t n g ln ms)) (And.intro (show (bnot (r11.v t n g)) = false by rw [hf]; try rfl) (And.intro (show (bnot (r11.v t n g)) = false by rw [hf]; try rfl) (And.intro (show (bnot (r11.v t n g)) = false by rw [hf]; try rfl) (And.intro (show (bnot (r11.v t n g)) = false by rw [hf]; try rfl) (And.intro h1 (And.intro h1 (And.intro h1 (And.intro (show (bnot (r11.v t n g)) = false by rw [hf]; try rfl) (And.intro h1 (And.intro (show (bnot (r11.v t n g)) = false by rw [hf]; try rfl) (And.intro (rfl : false = false) (And.intro (r12 (t) o1 (n) o2 (g) o3 (ln) (ms) (r5x4.h0 t n g ln ms)) (And.intro (r19 (t) o1 (n) o0 (g) o3 (r5x4.h1 t n g ln ms)) (And.intro h0 (And.intro h0 (And.intro h0 (And.intro b1 (And.intro b1 (And.intro h0 (And.intro b1 (And.intro h0 (And.intro b2 (And.intro b2 (And.intro h0 (And.intro b2 (And.intro h0 (And.intro b3 (And.intro b3 (And.intro h0 (And.intro b3 (And.intro h0 (And.intro b4 (And.intro (rfl : true = true) (And.intro q2 (And.intro q2 (And.intro q2 (And.intro q2 (And.intro (show (AV.bool (r12.v0 t n g ln ms == 0 && (fun (q : Bool) => r12.v1 t n g ln ms == 0 && q) true)) = ((AV.bool (r5x4.v t n g ln ms))) by first | (simp only [r5x4.v, hf, h1, cond_true, cond_false]; done) | (try unfold r5x4.v; try simp only [hf, cond_true, cond_false]; try simp only [h1, cond_true, cond_false]; try rfl; done) | rfl) trivial)))))))))))))))))))))))))))))))))))))))))) h

noncomputable def r5m.v (t : TD) (n : Nat) (g : Nat → LD) (ln : Int) (ms : Int) : Bool := (bif decide (t.tl > 1500) then (bif decide (t.tl ≤ 50000) then true else r12m.v0 t n g ln ms == 0 && (fun (q : Bool) => r12m.v1 t n g ln ms == 0 && q) true) else r12m.v0 t n g ln ms == 0 && (fun (q : Bool) => r12m.v1 t n g ln ms == 0 && q) true)

noncomputable abbrev r5m.h0 (t : TD) (n : Nat) (g : Nat → LD) (ln : Int) (ms : Int) : AHeap := ([AObj.var (AV.agg [AV.str t.nm, AV.int IntKind.i64 t.tl, AV.int IntKind.i64 t.fr, AV.int IntKind.i64 t.re, AV.int IntKind.i64 t.l0, AV.int IntKind.i64 t.l1, AV.int IntKind.i64 t.e0, AV.int IntKind.i64 t.e1])])

noncomputable abbrev r5m.h1 (t : TD) (n : Nat) (g : Nat → LD) (ln : Int) (ms : Int) : AHeap := ([AObj.var (AV.agg [AV.str t.nm, AV.int IntKind.i64 t.tl, AV.int IntKind.i64 t.fr, AV.int IntKind.i64 t.re, AV.int IntKind.i64 t.l0, AV.int IntKind.i64 t.l1, AV.int IntKind.i64 t.e0, AV.int IntKind.i64 t.e1]), AObj.var (AV.agg [AV.int IntKind.i64 (r12m.v0 t n g ln ms), AV.int IntKind.i64 (r12m.v1 t n g ln ms)])])

theorem r5m (ha : r10.v = true) (t : TD) (hnm : t.nm.size ≤ 9223372036854775807) (n : Nat) (hn : n ≤ 70) (hq : decide ((↑n : Int) > 64) = true) (g : Nat → LD) (hg : ∀ (i : Nat), (g i).nm.size ≤ 9223372036854775807) (ln : Int) (ms : Int) (hf : r11.v t n g = true) (h0 : (r19.v t n g == 0) = false) (q2 : (r12m.v2 t n g ln ms == r19.v t n g) = true) (z0 : (r12m.v0 t n g ln ms == 0) = true) (z1 : (r12m.v1 t n g ln ms == 0) = true) (h : AHeap) : Ret Try.prog 5 ([t.av, lds n g, AV.int IntKind.i64 ln, AV.int IntKind.i64 ms]) h (AV.bool (r5m.v t n g ln ms)) h := by
  have o0 : n ≤ (9223372036854775807 : Nat) := by first | assumption | omega | (exact hg _) | (exact hg _ (by omega)) | (simp_all; done)
  cases h1 : decide (t.tl > 1500) with
  | true =>
    have h1p := of_decide_eq_true h1
    cases h2 : decide (t.tl ≤ 50000) with
    | true =>
      have h2p := of_decide_eq_true h2
      exact Ret.of_run1 mix [(AV.bool (r5m.v t n g ln ms))] Try.func5 rfl [.ret (AV.bool r10.v) (r5m.h0 t n g ln ms), .b false, .ret (AV.bool (r11.v t n g)) (r5m.h0 t n g ln ms), .b false, .b false, .b false, .b false, .b true, .b true, .b true, .b false, .b true, .b false, .b true] (by simp) (by simp) (kmp (by kernel_rfl) (And.intro (r10 (r5m.h0 t n g ln ms)) (And.intro (rfl : false = false) (And.intro (r11 (t) (n) (g) o0 (r5m.h0 t n g ln ms)) (And.intro (show (bnot (r11.v t n g)) = false by rw [hf]; try rfl) (And.intro (show (bnot (r11.v t n g)) = false by rw [hf]; try rfl) (And.intro (show (bnot (r11.v t n g)) = false by rw [hf]; try rfl) (And.intro (show (bnot (r11.v t n g)) = false by rw [hf]; try rfl) (And.intro h1 (And.intro h1 (And.intro h1 (And.intro (show (bnot (r11.v t n g)) = false by rw [hf]; try rfl) (And.intro h1 (And.intro (show (bnot (r11.v t n g)) = false by rw [hf]; try rfl) (And.intro h2 (And.intro (show (AV.bool true) = ((AV.bool (r5m.v t n g ln ms))) by first | (simp only [r5m.v, hf, h1, h2, cond_true, cond_false]; done) | (try unfold r5m.v; try simp only [hf, cond_true, cond_false]; try simp only [h1, cond_true, cond_false]; try simp only [h2, cond_true, cond_false]; try rfl; done) | rfl) trivial)))))))))))))))) h
    | false =>
      have h2p := of_decide_eq_false h2
      have o1 : t.nm.size ≤ (9223372036854775807 : Nat) := by first | assumption | omega | (exact hg _) | (exact hg _ (by omega)) | (simp_all; done)
      have o2 : decide ((↑n : Int) > (64 : Int)) = true := by first | assumption | omega | (exact hg _) | (exact hg _ (by omega)) | (simp_all; done)
      have o3 : ∀ (i : Nat), (g i).nm.size ≤ (9223372036854775807 : Nat) := by first | assumption | omega | (exact hg _) | (exact hg _ (by omega)) | (simp_all; done)
      exact Ret.of_run1 mix [(AV.bool (r5m.v t n g ln ms))] Try.func5 rfl [.ret (AV.bool r10.v) (r5m.h0 t n g ln ms), .b false, .ret (AV.bool (r11.v t n g)) (r5m.h0 t n g ln ms), .b false, .b false, .b false, .b false, .b true, .b true, .b true, .b false, .b true, .b false, .b false, .ret (AV.tup [AV.agg [AV.int IntKind.i64 (r12m.v0 t n g ln ms), AV.int IntKind.i64 (r12m.v1 t n g ln ms)], AV.int IntKind.i64 (r12m.v2 t n g ln ms)]) (r5m.h0 t n g ln ms), .ret (AV.int IntKind.i64 (r19.v t n g)) (r5m.h1 t n g ln ms), .b false, .b false, .b false, .b false, .b false, .b false, .b false, .b false, .b false, .b false, .b true, .b true, .b true, .b true, .b true] (by simp) (by simp) (kmp (by kernel_rfl) (And.intro (r10 (r5m.h0 t n g ln ms)) (And.intro (rfl : false = false) (And.intro (r11 (t) (n) (g) o0 (r5m.h0 t n g ln ms)) (And.intro (show (bnot (r11.v t n g)) = false by rw [hf]; try rfl) (And.intro (show (bnot (r11.v t n g)) = false by rw [hf]; try rfl) (And.intro (show (bnot (r11.v t n g)) = false by rw [hf]; try rfl) (And.intro (show (bnot (r11.v t n g)) = false by rw [hf]; try rfl) (And.intro h1 (And.intro h1 (And.intro h1 (And.intro (show (bnot (r11.v t n g)) = false by rw [hf]; try rfl) (And.intro h1 (And.intro (show (bnot (r11.v t n g)) = false by rw [hf]; try rfl) (And.intro h2 (And.intro (r12m (t) o1 (n) o0 o2 (g) (ln) (ms) (r5m.h0 t n g ln ms)) (And.intro (r19 (t) o1 (n) o0 (g) o3 (r5m.h1 t n g ln ms)) (And.intro h0 (And.intro h0 (And.intro h0 (And.intro h0 (And.intro h0 (And.intro h0 (And.intro h0 (And.intro h0 (And.intro h0 (And.intro (rfl : false = false) (And.intro (show (bnot (r19.v t n g == 0)) = true by rw [h0]; try rfl) (And.intro q2 (And.intro q2 (And.intro q2 (And.intro q2 (And.intro (show (AV.bool (r12m.v0 t n g ln ms == 0 && (fun (q : Bool) => r12m.v1 t n g ln ms == 0 && q) true)) = ((AV.bool (r5m.v t n g ln ms))) by first | (simp only [r5m.v, hf, h1, h2, h0, cond_true, cond_false]; done) | (try unfold r5m.v; try simp only [hf, cond_true, cond_false]; try simp only [h1, cond_true, cond_false]; try simp only [h2, cond_true, cond_false]; try simp only [h0, cond_true, cond_false]; try rfl; done) | rfl) trivial))))))))))))))))))))))))))))))))) h
  | false =>
    have h1p := of_decide_eq_false h1
    have o1 : t.nm.size ≤ (9223372036854775807 : Nat) := by first | assumption | omega | (exact hg _) | (exact hg _ (by omega)) | (simp_all; done)
    have o2 : decide ((↑n : Int) > (64 : Int)) = true := by first | assumption | omega | (exact hg _) | (exact hg _ (by omega)) | (simp_all; done)
    have o3 : ∀ (i : Nat), (g i).nm.size ≤ (9223372036854775807 : Nat) := by first | assumption | omega | (exact hg _) | (exact hg _ (by omega)) | (simp_all; done)
    exact Ret.of_run1 mix [(AV.bool (r5m.v t n g ln ms))] Try.func5 rfl [.ret (AV.bool r10.v) (r5m.h0 t n g ln ms), .b false, .ret (AV.bool (r11.v t n g)) (r5m.h0 t n g ln ms), .b false, .b false, .b false, .b false, .b false, .b false, .b false, .b false, .b false, .b false, .b false, .ret (AV.tup [AV.agg [AV.int IntKind.i64 (r12m.v0 t n g ln ms), AV.int IntKind.i64 (r12m.v1 t n g ln ms)], AV.int IntKind.i64 (r12m.v2 t n g ln ms)]) (r5m.h0 t n g ln ms), .ret (AV.int IntKind.i64 (r19.v t n g)) (r5m.h1 t n g ln ms), .b false, .b false, .b false, .b false, .b false, .b false, .b false, .b false, .b false, .b false, .b true, .b true, .b true, .b true, .b true] (by simp) (by simp) (kmp (by kernel_rfl) (And.intro (r10 (r5m.h0 t n g ln ms)) (And.intro (rfl : false = false) (And.intro (r11 (t) (n) (g) o0 (r5m.h0 t n g ln ms)) (And.intro (show (bnot (r11.v t n g)) = false by rw [hf]; try rfl) (And.intro (show (bnot (r11.v t n g)) = false by rw [hf]; try rfl) (And.intro (show (bnot (r11.v t n g)) = false by rw [hf]; try rfl) (And.intro (show (bnot (r11.v t n g)) = false by rw [hf]; try rfl) (And.intro h1 (And.intro h1 (And.intro h1 (And.intro (show (bnot (r11.v t n g)) = false by rw [hf]; try rfl) (And.intro h1 (And.intro (show (bnot (r11.v t n g)) = false by rw [hf]; try rfl) (And.intro (rfl : false = false) (And.intro (r12m (t) o1 (n) o0 o2 (g) (ln) (ms) (r5m.h0 t n g ln ms)) (And.intro (r19 (t) o1 (n) o0 (g) o3 (r5m.h1 t n g ln ms)) (And.intro h0 (And.intro h0 (And.intro h0 (And.intro h0 (And.intro h0 (And.intro h0 (And.intro h0 (And.intro h0 (And.intro h0 (And.intro (rfl : false = false) (And.intro (show (bnot (r19.v t n g == 0)) = true by rw [h0]; try rfl) (And.intro q2 (And.intro q2 (And.intro q2 (And.intro q2 (And.intro (show (AV.bool (r12m.v0 t n g ln ms == 0 && (fun (q : Bool) => r12m.v1 t n g ln ms == 0 && q) true)) = ((AV.bool (r5m.v t n g ln ms))) by first | (simp only [r5m.v, hf, h1, h0, cond_true, cond_false]; done) | (try unfold r5m.v; try simp only [hf, cond_true, cond_false]; try simp only [h1, cond_true, cond_false]; try simp only [h0, cond_true, cond_false]; try rfl; done) | rfl) trivial))))))))))))))))))))))))))))))))) h

noncomputable abbrev r5n.h0 (t : TD) (n : Nat) (g : Nat → LD) (ln : Int) (ms : Int) : AHeap := ([AObj.var (AV.agg [AV.str t.nm, AV.int IntKind.i64 t.tl, AV.int IntKind.i64 t.fr, AV.int IntKind.i64 t.re, AV.int IntKind.i64 t.l0, AV.int IntKind.i64 t.l1, AV.int IntKind.i64 t.e0, AV.int IntKind.i64 t.e1])])

theorem r5n (ha : r10.v = true) (t : TD) (hnm : t.nm.size ≤ 9223372036854775807) (n : Nat) (hn : n ≤ 9223372036854775807) (g : Nat → LD) (hg : ∀ (i : Nat), (g i).nm.size ≤ 9223372036854775807) (ln : Int) (ms : Int) (hf : r11.v t n g = false) (h : AHeap) : Ret Try.prog 5 ([t.av, lds n g, AV.int IntKind.i64 ln, AV.int IntKind.i64 ms]) h (AV.bool true) h := by
  have o0 : n ≤ (9223372036854775807 : Nat) := by first | assumption | omega | (exact hg _) | (exact hg _ (by omega)) | (simp_all; done)
  exact Ret.of_run1 mix [(AV.bool true)] Try.func5 rfl [.ret (AV.bool r10.v) (r5n.h0 t n g ln ms), .b false, .ret (AV.bool (r11.v t n g)) (r5n.h0 t n g ln ms), .b true, .b true, .b true, .b true, .b true, .b true, .b true] (by simp) (by simp) (kmp (by kernel_rfl) (And.intro (r10 (r5n.h0 t n g ln ms)) (And.intro (rfl : false = false) (And.intro (r11 (t) (n) (g) o0 (r5n.h0 t n g ln ms)) (And.intro (show (bnot (r11.v t n g)) = true by rw [hf]; try rfl) (And.intro (show (bnot (r11.v t n g)) = true by rw [hf]; try rfl) (And.intro (show (bnot (r11.v t n g)) = true by rw [hf]; try rfl) (And.intro (show (bnot (r11.v t n g)) = true by rw [hf]; try rfl) (And.intro (show (bnot (r11.v t n g)) = true by rw [hf]; try rfl) (And.intro (show (bnot (r11.v t n g)) = true by rw [hf]; try rfl) (And.intro (rfl : true = true) (And.intro (show (AV.bool true) = ((AV.bool true)) by first | (simp only [hf, cond_true, cond_false]; done) | (try simp only [hf, cond_true, cond_false]; try rfl; done) | rfl) trivial)))))))))))) h

noncomputable abbrev r5t.h0 (t : TD) (n : Nat) (g : Nat → LD) (ln : Int) (ms : Int) : AHeap := ([AObj.var (AV.agg [AV.str t.nm, AV.int IntKind.i64 t.tl, AV.int IntKind.i64 t.fr, AV.int IntKind.i64 t.re, AV.int IntKind.i64 t.l0, AV.int IntKind.i64 t.l1, AV.int IntKind.i64 t.e0, AV.int IntKind.i64 t.e1])])

theorem r5t (ha : r10.v = true) (t : TD) (hnm : t.nm.size ≤ 9223372036854775807) (n : Nat) (hn : n ≤ 9223372036854775807) (g : Nat → LD) (hg : ∀ (i : Nat), (g i).nm.size ≤ 9223372036854775807) (ln : Int) (ms : Int) (hf : r11.v t n g = true) (h15 : decide (t.tl > 1500) = true) (h16 : decide (t.tl ≤ 50000) = true) (h : AHeap) : Ret Try.prog 5 ([t.av, lds n g, AV.int IntKind.i64 ln, AV.int IntKind.i64 ms]) h (AV.bool true) h := by
  have o0 : n ≤ (9223372036854775807 : Nat) := by first | assumption | omega | (exact hg _) | (exact hg _ (by omega)) | (simp_all; done)
  exact Ret.of_run1 mix [(AV.bool true)] Try.func5 rfl [.ret (AV.bool r10.v) (r5t.h0 t n g ln ms), .b false, .ret (AV.bool (r11.v t n g)) (r5t.h0 t n g ln ms), .b false, .b false, .b false, .b false, .b true, .b true, .b true, .b false, .b true, .b false, .b true] (by simp) (by simp) (kmp (by kernel_rfl) (And.intro (r10 (r5t.h0 t n g ln ms)) (And.intro (rfl : false = false) (And.intro (r11 (t) (n) (g) o0 (r5t.h0 t n g ln ms)) (And.intro (show (bnot (r11.v t n g)) = false by rw [hf]; try rfl) (And.intro (show (bnot (r11.v t n g)) = false by rw [hf]; try rfl) (And.intro (show (bnot (r11.v t n g)) = false by rw [hf]; try rfl) (And.intro (show (bnot (r11.v t n g)) = false by rw [hf]; try rfl) (And.intro h15 (And.intro h15 (And.intro h15 (And.intro (show (bnot (r11.v t n g)) = false by rw [hf]; try rfl) (And.intro h15 (And.intro (show (bnot (r11.v t n g)) = false by rw [hf]; try rfl) (And.intro h16 (And.intro (show (AV.bool true) = ((AV.bool true)) by first | (simp only [hf, cond_true, cond_false]; done) | (try simp only [hf, cond_true, cond_false]; try rfl; done) | rfl) trivial)))))))))))))))) h

end Go.Proofs.Ytngpbfocjgikaaa

open Go

namespace Go.Proofs.Ytngpbfocjgikaaa

set_option maxHeartbeats 0

set_option maxRecDepth 100000

set_option linter.unusedVariables false

set_option linter.unusedSimpArgs false

variable {n : Nat} {g : Nat → LD} {t : TD} {ln ms : Int}

theorem bif_all {a b c : Bool} (h : c = true) : (bif a then (bif b then true else c) else c) = true := by
  subst h
  cases a <;> cases b <;> rfl

theorem z_and {x y : Int} (h0 : (x == 0) = true) (h1 : (y == 0) = true) : (x == 0 && (fun (q : Bool) => y == 0 && q) true) = true := by
  rw [h0, h1]; rfl

theorem r5_ok (hnm : t.nm.size ≤ 9223372036854775807) (hn : n ≤ 10) (hg : ∀ i, (g i).nm.size ≤ 9223372036854775807) (hf : r11.v t n g = true) : Ret Try.prog 5 [t.av, lds n g, AV.int .i64 ln, AV.int .i64 ms] [] (.bool true) [] := by
  have ce := check_eq (t := t) hnm (show n ≤ 9223372036854775807 by omega) hg
  by_cases h : r19.v t n g = 0
  · have h18 : r18.v t n g = 0 := ce.trans h
    have e18 : (r18.v t n g == 0) = true := beq_of h18
    obtain ⟨c1, c2⟩ := r18_0 h18
    have ht := tok c1
    have hl := (r35_0 (show n ≤ 9223372036854775807 by omega) c2).1
    by_cases b1 : ln < 1
    · have o := out32 (x := ln) (a := 1) (b := 50000) (by omega)
      have z0 : (r12.v0 t n g ln ms == 0) = true := beq_of (by unfold r12.v0; rw [e18, o]; rfl)
      have z1 : (r12.v1 t n g ln ms == 0) = true := beq_of (by unfold r12.v1; rw [e18, o]; rfl)
      have r := r5x1 awake_true t hnm n hn g hg ln ms hf (beq_of h) h (decide_eq_true b1) (beq_of (by unfold r12.v2; rw [e18, o]; rfl)) z0 z1 []
      unfold r5x1.v at r
      rwa [bif_all (z_and z0 z1)] at r
    by_cases b2 : ln > 50000
    · have o := out32 (x := ln) (a := 1) (b := 50000) (by omega)
      have z0 : (r12.v0 t n g ln ms == 0) = true := beq_of (by unfold r12.v0; rw [e18, o]; rfl)
      have z1 : (r12.v1 t n g ln ms == 0) = true := beq_of (by unfold r12.v1; rw [e18, o]; rfl)
      have r := r5x2 awake_true t hnm n hn g hg ln ms hf (beq_of h) h (decide_eq_false b1) (decide_eq_true b2) (beq_of (by unfold r12.v2; rw [e18, o]; rfl)) z0 z1 []
      unfold r5x2.v at r
      rwa [bif_all (z_and z0 z1)] at r
    have ol := in32 (x := ln) (a := 1) (b := 50000) (by omega)
    by_cases b3 : ms < 1
    · have o := out32 (x := ms) (a := 1) (b := 100000000) (by omega)
      have z0 : (r12.v0 t n g ln ms == 0) = true := beq_of (by unfold r12.v0; rw [e18, ol, o]; rfl)
      have z1 : (r12.v1 t n g ln ms == 0) = true := beq_of (by unfold r12.v1; rw [e18, ol, o]; rfl)
      have r := r5x3 awake_true t hnm n hn g hg ln ms hf (beq_of h) h (decide_eq_false b1) (decide_eq_false b2) (decide_eq_true b3) (beq_of (by unfold r12.v2; rw [e18, ol, o]; rfl)) z0 z1 []
      unfold r5x3.v at r
      rwa [bif_all (z_and z0 z1)] at r
    by_cases b4 : ms > 100000000
    · have o := out32 (x := ms) (a := 1) (b := 100000000) (by omega)
      have z0 : (r12.v0 t n g ln ms == 0) = true := beq_of (by unfold r12.v0; rw [e18, ol, o]; rfl)
      have z1 : (r12.v1 t n g ln ms == 0) = true := beq_of (by unfold r12.v1; rw [e18, ol, o]; rfl)
      have r := r5x4 awake_true t hnm n hn g hg ln ms hf (beq_of h) h (decide_eq_false b1) (decide_eq_false b2) (decide_eq_false b3) (decide_eq_true b4) (beq_of (by unfold r12.v2; rw [e18, ol, o]; rfl)) z0 z1 []
      unfold r5x4.v at r
      rwa [bif_all (z_and z0 z1)] at r
    obtain ⟨s0, s1, s2⟩ := range_same h18 ht hn hl (ln := ln) (ms := ms) (by omega) (by omega)
    by_cases h15 : t.tl > 1500
    · exact r5t awake_true t hnm n (by omega) g hg ln ms hf (decide_eq_true h15) (decide_eq_true ht.tl.2) []
    · cases hi : r21.v2 t n g ln ms with
      | true =>
        exact r5ai awake_true t hnm n hn g hg ln ms hf (decide_eq_false h15) (beq_of h) h (decide_eq_false b1) (decide_eq_false b2) (decide_eq_false b3) (decide_eq_false b4) (by omega) (by omega) (beq_of s0) (beq_of s1) hi (beq_of (by rw [s2, hi]; rfl)) []
      | false =>
        have q2 : (r12.v2 t n g ln ms == 9) = true := beq_of (by rw [s2, hi]; rfl)
        have r := r5an awake_true t hnm n hn g hg ln ms hf (decide_eq_false h15) (beq_of h) h (decide_eq_false b1) (decide_eq_false b2) (decide_eq_false b3) (decide_eq_false b4) (by omega) (by omega) (beq_of s0) (beq_of s1) hi q2 []
        unfold r5an.v at r
        rwa [q2] at r
  · have e : (r19.v t n g == 0) = false := by simpa using h
    have z0 : (r12.v0 t n g ln ms == 0) = true := beq_of (by unfold r12.v0; rw [ce, e]; rfl)
    have z1 : (r12.v1 t n g ln ms == 0) = true := beq_of (by unfold r12.v1; rw [ce, e]; rfl)
    have r := r5e awake_true t hnm n hn g hg ln ms hf e (beq_of (by unfold r12.v2; rw [ce, e]; rfl)) z0 z1 []
    unfold r5e.v at r
    rwa [bif_all (z_and z0 z1)] at r

theorem r5m_ok (hnm : t.nm.size ≤ 9223372036854775807) (hn : n ≤ 70) (hg : ∀ i, (g i).nm.size ≤ 9223372036854775807) (hf : r11.v t n g = true) (hq : decide ((n : Int) > 64) = true) : Ret Try.prog 5 [t.av, lds n g, AV.int .i64 ln, AV.int .i64 ms] [] (.bool true) [] := by
  have ce := checkm_eq (t := t) (g := g) hnm hq
  have h : r19.v t n g ≠ 0 := by
    unfold r19.v
    rw [many_eq hq]
    by_cases q : r17.v t = 0
    · rw [q]; decide
    · rw [show (r17.v t == 0) = false by simpa using q, cond_false]; exact q
  have e : (r19.v t n g == 0) = false := by simpa using h
  have z0 : (r12m.v0 t n g ln ms == 0) = true := beq_of (by unfold r12m.v0; rw [ce, e]; rfl)
  have z1 : (r12m.v1 t n g ln ms == 0) = true := beq_of (by unfold r12m.v1; rw [ce, e]; rfl)
  have r := r5m awake_true t hnm n hn hq g hg ln ms hf e (beq_of (by unfold r12m.v2; rw [ce, e]; rfl)) z0 z1 []
  unfold r5m.v at r
  rwa [bif_all (z_and z0 z1)] at r

end Go.Proofs.Ytngpbfocjgikaaa

open Go

namespace Go.Proofs.Ytngpbfocjgikaaa

open Go.ChangeShapes Go.WideShapes Go.ChangeAt Go.RowKit

set_option maxRecDepth 100000 in
theorem law5 (xs : List AV) (h : FitsA Try.prog 5 [24, 25, 3, 2] xs) : Ret Try.prog 5 xs [] (.bool true) [] := by
  obtain ⟨x0, x1, x2, x3, rfl, h0, h1, h2, h3⟩ := fitsA4 h
  obtain ⟨t, hnm, i0⟩ := arg_truck h0
  obtain ⟨n, g, hn, hg, i1⟩ := arg_loads h1
  obtain ⟨ln, rfl, _⟩ := arg_int h2
  obtain ⟨ms, rfl, _⟩ := arg_i64 h3
  have key : Ret Try.prog 5 [t.av, lds n g, AV.int .i64 ln, AV.int .i64 ms] [] (.bool true) [] := by
    cases hf : r11.v t n g with
    | false => exact r5n awake_true t hnm n hn g hg ln ms hf []
    | true =>
      rcases few_n hf with hs | hq
      · exact r5_ok hnm (by omega) hg hf
      · exact r5m_ok hnm (few_70 hf) hg hf hq
  exact key.imp (.cons i0 (.cons i1 (.cons (.refl _) (.cons (.refl _) .nil))))

set_option maxRecDepth 100000 in
theorem truckRanges_lifted (os : Os) (started : os.Started) (H : Type) (enc : TypeId × Value → H) :
    ReturnsInHanded {} Try.checked os 5 .any (Rows.truckRangesSpec.pre6 enc Try.prog Try.f5 Rows.truckRangesRow.domain false) (Rows.truckRangesSpec.post enc Try.prog Try.f5 false true false false) :=
  lifted (C := Try.checked) 5 own started (by kernel_rfl) Try.func5
    (ChangeSpec.witness6 (enc := enc) (C := Try.checked) false ⟨#[], #[.agg #[.string ByteArray.empty, .int .i64 0, .int .i64 0, .int .i64 0, .int .i64 0, .int .i64 0, .int .i64 0, .int .i64 0], .slice none 0 0, .int .i64 0, .int .i64 0], []⟩ 8 (by kernel_rfl) (by kernel_rfl) (by kernel_rfl) (by kernel_rfl))
    rfl (fun ds hd => by
      match ds, hd with
      | [_, _, _, _], _ => rfl) (rt := 4) (by kernel_rfl) (by kernel_rfl) laidOut (by kernel_rfl) law5

theorem truckRanges_holds : Rows.TruckRangesSaid :=
  OpenClaim.holds_of_wide 5 Try.f5 rfl rfl rfl rfl rfl rfl rfl ⟨rfl, rfl, rfl, rfl, rfl⟩ rfl rfl rfl rfl rfl (by kernel_rfl) Try.func5 (by kernel_rfl)
    (of_decide_eq_true (by kernel_rfl)) (by unfold Func.isWrapper; first | (rw [if_pos (by decide +kernel)]; kernel_rfl) | (rw [if_neg (by decide +kernel)]; exact ⟨rfl, rfl⟩))
    (fun os started H enc _ => truckRanges_lifted os started H enc)

end Go.Proofs.Ytngpbfocjgikaaa
