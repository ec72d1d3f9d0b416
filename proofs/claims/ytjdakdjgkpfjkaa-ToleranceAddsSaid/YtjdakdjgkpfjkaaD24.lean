/- The law of sums, in plain words. Conditions: none. -/
import Derived.Test.YtjdakdjgkpfjkaaD23
import Derived.Test.YtjdakdjgkpfjkaaD18
open Go
namespace Go.Proofs.Ytjdakdjgkpfjkaa
set_option linter.unusedVariables false
set_option linter.unusedSimpArgs false
variable {n : Nat} {g : Nat → PD} {j1 j2 : Int} {k : Nat} {p : Nat → PD}

theorem sumB_add (f : Nat → Int) (u a : Nat) : ∀ b, sumB f u (a + b) = sumB f u a + sumB f (u + a) b := by
  intro b
  induction b with
  | zero => simp [sumB]
  | succ b ih =>
    rw [← Nat.add_assoc]
    simp only [sumB]
    rw [ih, Nat.add_assoc u a b]
    omega

/-- What Span hands back: an error and nothing, or the sums. -/
theorem r13_cases (hn : n ≤ 9223372036854775807) (hk : k ≤ 30) (u w : Int) :
    (r13.v2 n g j1 j2 k p u w ≠ 0 ∧ r13.v0 n g j1 j2 k p u w = 0 ∧ r13.v1 n g j1 j2 k p u w = 0) ∨
    ∃ a b : Nat, u = a ∧ w = b ∧ a < b ∧ b ≤ n ∧ ROk n g j1 j2 k p ∧ r13.v2 n g j1 j2 k p u w = 0 ∧ r13.v0 n g j1 j2 k p u w = jn n a b * j1 + sLo g a b ∧ r13.v1 n g j1 j2 k p u w = jn n a b * j2 + sHi g a b := by
  unfold r13.v0 r13.v1 r13.v2
  cases hz : (r16.v n g j1 j2 k p == 0) with
  | false =>
    simp only [cond_false]
    exact .inl ⟨by simpa using hz, by simp, by simp⟩
  | true =>
    simp only [cond_true]
    by_cases h1 : u < 0
    · simp only [decide_eq_true h1, cond_true]; exact .inl ⟨by decide, by simp, by simp⟩
    · by_cases h2 : w > (n : Int)
      · simp only [decide_eq_false h1, decide_eq_true h2, cond_true, cond_false]; exact .inl ⟨by decide, by simp, by simp⟩
      · by_cases h3 : u ≥ w
        · simp only [decide_eq_false h1, decide_eq_false h2, decide_eq_true h3, cond_true, cond_false]; exact .inl ⟨by decide, by simp, by simp⟩
        · simp only [decide_eq_false h1, decide_eq_false h2, decide_eq_false h3, cond_false]
          have hr := checked hn (by omega) (eq_of_beq hz)
          obtain ⟨e1, e2⟩ := span_eq hr h1 h2 h3
          obtain ⟨a, rfl⟩ : ∃ a : Nat, u = a := ⟨u.toNat, by omega⟩
          obtain ⟨b, rfl⟩ : ∃ b : Nat, w = b := ⟨w.toNat, by omega⟩
          obtain ⟨f1, f2⟩ := r17_eq hr (u := a) (w := b) (by omega) (by omega)
          exact .inr ⟨a, b, rfl, rfl, by omega, by omega, hr, by simp, by rw [e1, f1], by rw [e2, f2]⟩

theorem sLo_le (h : ROk n g j1 j2 k p) {u : Nat} : ∀ c, u + c ≤ n → sumB (fun i => (g i).lo) u c ≤ sumB (fun i => (g i).hi) u c := by
  intro c
  induction c with
  | zero => intro _; simp [sumB]
  | succ c ih =>
    intro hc
    have h1 := ih (by omega)
    have h2 := h.l2 (u + c) (by omega)
    simp only [sumB]
    omega

theorem sums_add (h : ROk n g j1 j2 k p) {a b c : Nat} (hab : a < b) (hbc : b < c) (hc : c ≤ n) :
    jn n a c = jn n a b + jn n b c ∧ sLo g a c = sLo g a b + sLo g b c ∧ sHi g a c = sHi g a b + sHi g b c := by
  refine ⟨?_, ?_, ?_⟩
  · unfold jn
    rw [if_neg (show b ≠ n by omega)]
    split <;> omega
  · unfold sLo
    have := sumB_add (fun i => (g i).lo) a (b - a) (c - b)
    rw [show b - a + (c - b) = c - a by omega, show a + (b - a) = b by omega] at this
    exact this
  · unfold sHi
    have := sumB_add (fun i => (g i).hi) a (b - a) (c - b)
    rw [show b - a + (c - b) = c - a by omega, show a + (b - a) = b by omega] at this
    exact this

/-- What a span's two ends are bound by. -/
theorem span_bd (h : ROk n g j1 j2 k p) {u w : Nat} (hu : u < w) (hw : w ≤ n) :
    0 ≤ jn n u w * j1 + sLo g u w ∧ jn n u w * j1 + sLo g u w ≤ jn n u w * j2 + sHi g u w ∧ jn n u w * j2 + sHi g u w ≤ 1000000000 := by
  have hn := h.le
  have hg : ∀ i, u ≤ i → i < w → 0 ≤ (g i).lo ∧ (g i).lo ≤ 1000000 ∧ 0 ≤ (g i).hi ∧ (g i).hi ≤ 1000000 := fun i _ hi => by
    have := h.l1 i (by omega); have := h.l2 i (by omega); have := h.l3 i (by omega); omega
  have q1 := jn_bd2 h hu hw h.ja (by have := h.jb; have := h.jc; omega)
  have q2 := jn_bd2 h hu hw (j := j2) (by have := h.ja; have := h.jb; omega) h.jc
  have b1 := sumB_bd (f := fun i => (g i).lo) (u := u) (b := 1000000) (w - u) fun i a b => ⟨(hg i a (by omega)).1, (hg i a (by omega)).2.1⟩
  have b2 := sumB_bd (f := fun i => (g i).hi) (u := u) (b := 1000000) (w - u) fun i a b => ⟨(hg i a (by omega)).2.2.1, (hg i a (by omega)).2.2.2⟩
  have s1 : sLo g u w = sumB (fun i => (g i).lo) u (w - u) := rfl
  have s2 : sHi g u w = sumB (fun i => (g i).hi) u (w - u) := rfl
  have s3 := sLo_le h (u := u) (w - u) (by omega)
  have s4 := Int.mul_le_mul_of_nonneg_left h.jb q1.1
  omega

theorem r10_true (hn : n ≤ 9223372036854775807) (u v w : Int) : r10.v n g j1 j2 k p u v w = true := by
  unfold r10.v
  simp only [hid_eq]
  cases h12 : r12.v n k with
  | false => rfl
  | true =>
    simp only [cond_true]
    have hk := (bd12 h12).2
    rcases r13_cases (g := g) (j1 := j1) (j2 := j2) (p := p) hn hk u v with ⟨a1, a2, a3⟩ | ⟨a, b, rfl, rfl, hab, hb, hr, a1, a2, a3⟩
    · have : (r13.v2 n g j1 j2 k p u v == 0) = false := by simpa using a1
      simp [this, a2, a3]
    · rcases r13_cases (g := g) (j1 := j1) (j2 := j2) (p := p) hn hk (b : Int) w with ⟨b1, b2, b3⟩ | ⟨b', c, e, rfl, hbc, hc, _, b1, b2, b3⟩
      · have : (r13.v2 n g j1 j2 k p b w == 0) = false := by simpa using b1
        simp [this, a1]
      · obtain rfl : b' = b := by omega
        rcases r13_cases (g := g) (j1 := j1) (j2 := j2) (p := p) hn hk (a : Int) (c : Int) with ⟨c1, c2, c3⟩ | ⟨a', c', e1, e2, hac, hc', _, c1, c2, c3⟩
        · exfalso
          apply c1
          unfold r13.v2
          have hz : (r16.v n g j1 j2 k p == 0) = true := by
            cases hz : (r16.v n g j1 j2 k p == 0) with
            | true => rfl
            | false => unfold r13.v2 at a1; rw [hz] at a1; simp only [cond_false] at a1; simp [a1] at hz
          simp only [hz, cond_true, decide_eq_false (show ¬ (a : Int) < 0 by omega), decide_eq_false (show ¬ (c : Int) > (n : Int) by omega), decide_eq_false (show ¬ (a : Int) ≥ (c : Int) by omega), cond_false]
        · obtain rfl : a' = a := by omega
          obtain rfl : c' = c := by omega
          obtain ⟨s1, s2, s3⟩ := sums_add hr hab hbc hc
          have d1 := span_bd hr hab (by omega)
          have d2 := span_bd hr hbc hc
          have d3 := span_bd hr hac hc
          rw [a1, b1, c1, a2, a3, b2, b3, c2, c3]
          rw [i64_small (by omega), i64_small (by omega)]
          have t1 : jn n a' c' * j1 + sLo g a' c' = jn n a' b' * j1 + sLo g a' b' + (jn n b' c' * j1 + sLo g b' c') := by rw [s1, s2, Int.add_mul]; omega
          have t2 : jn n a' c' * j2 + sHi g a' c' = jn n a' b' * j2 + sHi g a' b' + (jn n b' c' * j2 + sHi g b' c') := by rw [s1, s3, Int.add_mul]; omega
          rw [← t1, ← t2]
          simp [d3.2.1]
end Go.Proofs.Ytjdakdjgkpfjkaa
