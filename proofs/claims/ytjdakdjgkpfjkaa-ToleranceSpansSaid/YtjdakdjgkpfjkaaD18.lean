/- The law of spans, in plain words. Conditions: none. -/
import Derived.Test.YtjdakdjgkpfjkaaD16
open Go
namespace Go.Proofs.Ytjdakdjgkpfjkaa
set_option linter.unusedVariables false
set_option linter.unusedSimpArgs false
variable {n : Nat} {g : Nat → PD} {j1 j2 : Int} {k : Nat} {p : Nat → PD}

theorem L17_run (u w : Nat) (hw : w ≤ 512) (hu : u ≤ w) (a0 b0 : Int) (ha : 0 ≤ a0 ∧ a0 ≤ 1000000) (hb : 0 ≤ b0 ∧ b0 ≤ 1000000) (hg : ∀ i, u ≤ i → i < w → 0 ≤ (g i).lo ∧ (g i).lo ≤ 1000000 ∧ 0 ≤ (g i).hi ∧ (g i).hi ≤ 1000000) :
    ∀ m c, c ≤ w - u → w - u - c < m → L17a.N g w m ((u + c : Nat) : Int) (a0 + sumB (fun i => (g i).lo) u c) (b0 + sumB (fun i => (g i).hi) u c) = .e0 (a0 + sumB (fun i => (g i).lo) u (w - u)) (b0 + sumB (fun i => (g i).hi) u (w - u)) := by
  intro m
  induction m with
  | zero => intro c _ h; omega
  | succ m ih =>
    intro c hc hm
    simp only [L17a.N, Int.toNat_natCast]
    by_cases h : c < w - u
    · rw [decide_eq_true (show ((u + c : Nat) : Int) < (w : Int) by omega), wrap_succ (n := w) (by omega) (show u + c < w by omega)]
      simp only [cond_true]
      have b1 := sumB_bd (f := fun i => (g i).lo) (u := u) (b := 1000000) c fun i a b => ⟨(hg i a (by omega)).1, (hg i a (by omega)).2.1⟩
      have b2 := sumB_bd (f := fun i => (g i).hi) (u := u) (b := 1000000) c fun i a b => ⟨(hg i a (by omega)).2.2.1, (hg i a (by omega)).2.2.2⟩
      have b3 := hg (u + c) (by omega) (by omega)
      rw [i64_small (by omega), i64_small (by omega)]
      have := ih (c + 1) h (by omega)
      simp only [sumB, ← Int.add_assoc] at this
      exact this
    · obtain rfl : c = w - u := by omega
      rw [decide_eq_false (by omega)]
      rfl

theorem jn_bd2 (h : ROk n g j1 j2 k p) {u w : Nat} (hu : u < w) (hw : w ≤ n) {j : Int} (h0 : 0 ≤ j) (h1 : j ≤ 1000) : 0 ≤ jn n u w ∧ jn n u w ≤ 512 ∧ 0 ≤ jn n u w * j ∧ jn n u w * j ≤ 512000 := by
  have hn := h.le
  have a : 0 ≤ jn n u w ∧ jn n u w ≤ 512 := by unfold jn; split <;> omega
  have b := Int.mul_nonneg a.1 h0
  have c := Int.mul_le_mul a.2 h1 h0 (by omega)
  omega

theorem r17_eq (h : ROk n g j1 j2 k p) {u w : Nat} (hu : u < w) (hw : w ≤ n) :
    r17.v0 n g j1 j2 u w = jn n u w * j1 + sLo g u w ∧ r17.v1 n g j1 j2 u w = jn n u w * j2 + sHi g u w := by
  have hn := h.le
  have hg : ∀ i, u ≤ i → i < w → 0 ≤ (g i).lo ∧ (g i).lo ≤ 1000000 ∧ 0 ≤ (g i).hi ∧ (g i).hi ≤ 1000000 := fun i _ hi => by
    have := h.l1 i (by omega); have := h.l2 i (by omega); have := h.l3 i (by omega); omega
  have q1 := jn_bd2 h hu hw h.ja (by have := h.jb; have := h.jc; omega)
  have q2 := jn_bd2 h hu hw (j := j2) (by have := h.ja; have := h.jb; omega) h.jc
  have run := L17_run (g := g) u w (by omega) (by omega) (jn n u w * j1) (jn n u w * j2) (by omega) (by omega) hg (w - u + 1) 0 (by omega) (by omega)
  have run' : L17a.run g w u (jn n u w * j1) (jn n u w * j2) = .e0 (jn n u w * j1 + sLo g u w) (jn n u w * j2 + sHi g u w) := by
    unfold L17a.run sLo sHi
    rw [show ((w : Int) - (u : Int)).toNat = w - u by omega]
    simpa [sumB] using run
  unfold r17.v0 r17.v1
  cases hq : ((w : Int) == (n : Int)) with
  | true =>
    have hq' : w = n := by have := eq_of_beq hq; omega
    have e : IntKind.i64.wrap (IntKind.i64.wrap ((w : Int) - u) - 1) = jn n u w := by
      rw [i64_small (x := (w : Int) - u) (by omega), i64_small (by omega)]; unfold jn; rw [if_pos hq']
    simp only [cond_true, e]
    rw [i64_small (x := jn n u w * j1) (by omega), i64_small (x := jn n u w * j2) (by omega), run']
    exact ⟨rfl, rfl⟩
  | false =>
    have hq' : w ≠ n := fun e => by subst e; simp at hq
    have e : IntKind.i64.wrap ((w : Int) - u) = jn n u w := by
      rw [i64_small (by omega)]; unfold jn; rw [if_neg hq']; omega
    simp only [cond_false, e]
    rw [i64_small (x := jn n u w * j1) (by omega), i64_small (x := jn n u w * j2) (by omega), run']
    exact ⟨rfl, rfl⟩

theorem span_eq (h : ROk n g j1 j2 k p) {u w : Int} (h0 : ¬ u < 0) (h1 : ¬ w > (n : Int)) (h2 : ¬ u ≥ w) :
    IntKind.i64.wrap (r33.v0 n g u w + IntKind.i64.wrap (r33.v2 n g u w * j1)) = r17.v0 n g j1 j2 u w ∧
    IntKind.i64.wrap (r33.v1 n g u w + IntKind.i64.wrap (r33.v2 n g u w * j2)) = r17.v1 n g j1 j2 u w := by
  obtain ⟨u, rfl⟩ : ∃ u' : Nat, u = u' := ⟨u.toNat, by omega⟩
  obtain ⟨w, rfl⟩ : ∃ w' : Nat, w = w' := ⟨w.toNat, by omega⟩
  have hu : u < w := by omega
  have hw : w ≤ n := by omega
  obtain ⟨e1, e2, e3⟩ := r33_eq h (u := u) (w := w) (by omega) hw
  obtain ⟨f1, f2⟩ := r17_eq h hu hw
  have hn := h.le
  have hg : ∀ i, u ≤ i → i < w → 0 ≤ (g i).lo ∧ (g i).lo ≤ 1000000 ∧ 0 ≤ (g i).hi ∧ (g i).hi ≤ 1000000 := fun i _ hi => by
    have := h.l1 i (by omega); have := h.l2 i (by omega); have := h.l3 i (by omega); omega
  have q1 := jn_bd2 h hu hw h.ja (by have := h.jb; have := h.jc; omega)
  have q2 := jn_bd2 h hu hw (j := j2) (by have := h.ja; have := h.jb; omega) h.jc
  have b1 := sumB_bd (f := fun i => (g i).lo) (u := u) (b := 1000000) (w - u) fun i a b => ⟨(hg i a (by omega)).1, (hg i a (by omega)).2.1⟩
  have b2 := sumB_bd (f := fun i => (g i).hi) (u := u) (b := 1000000) (w - u) fun i a b => ⟨(hg i a (by omega)).2.2.1, (hg i a (by omega)).2.2.2⟩
  rw [e1, e2, e3, f1, f2]
  have s1 : sLo g u w = sumB (fun i => (g i).lo) u (w - u) := rfl
  have s2 : sHi g u w = sumB (fun i => (g i).hi) u (w - u) := rfl
  rw [i64_small (x := jn n u w * j1) (by omega), i64_small (x := jn n u w * j2) (by omega), i64_small (by omega), i64_small (by omega)]
  omega

theorem r3_true (hn : n ≤ 9223372036854775807) (u w : Int) : r3.v n g j1 j2 k p u w = true := by
  have core : k ≤ 30 → r15.v n g j1 j2 k p = r16.v n g j1 j2 k p ∧ (r16.v n g j1 j2 k p ≠ 0 → r13.v0 n g j1 j2 k p u w = 0 ∧ r13.v1 n g j1 j2 k p u w = 0 ∧ r13.v2 n g j1 j2 k p u w = r16.v n g j1 j2 k p) ∧
      (r16.v n g j1 j2 k p = 0 → ((u < 0 ∨ w > (n : Int) ∨ u ≥ w) → r13.v0 n g j1 j2 k p u w = 0 ∧ r13.v1 n g j1 j2 k p u w = 0 ∧ r13.v2 n g j1 j2 k p u w = 6) ∧
        ((¬ u < 0 ∧ ¬ w > (n : Int) ∧ ¬ u ≥ w) → r13.v0 n g j1 j2 k p u w = r17.v0 n g j1 j2 u w ∧ r13.v1 n g j1 j2 k p u w = r17.v1 n g j1 j2 u w ∧ r13.v2 n g j1 j2 k p u w = 0)) := by
    intro hk
    refine ⟨check_same hn (by omega), fun hz => ?_, fun hz => ⟨fun hb => ?_, fun hb => ?_⟩⟩
    · unfold r13.v0 r13.v1 r13.v2
      have hb : (r16.v n g j1 j2 k p == 0) = false := by simpa using hz
      simp only [hb, cond_false]
      exact ⟨trivial, trivial, trivial⟩
    · unfold r13.v0 r13.v1 r13.v2
      by_cases h1 : u < 0
      · simp [hz, h1]
      · by_cases h2 : w > (n : Int)
        · simp [hz, h1, h2]
        · have h3 : u ≥ w := by rcases hb with q | q | q <;> first | exact (h1 q).elim | exact (h2 q).elim | exact q
          simp only [hz, decide_eq_false h1, decide_eq_false h2, decide_eq_true h3, beq_self_eq_true, cond_true, cond_false]
          exact ⟨trivial, trivial, trivial⟩
    · obtain ⟨a, b⟩ := span_eq (checked hn (by omega) hz) hb.1 hb.2.1 hb.2.2
      unfold r13.v0 r13.v1 r13.v2
      simp only [hz, decide_eq_false hb.1, decide_eq_false hb.2.1, decide_eq_false hb.2.2, beq_self_eq_true, cond_true, cond_false]
      exact ⟨a, b, trivial⟩
  unfold r3.v
  have fin : k ≤ 30 → ∀ X : Bool, X = (bif r16.v n g j1 j2 k p == r15.v n g j1 j2 k p then (bif r15.v n g j1 j2 k p == 0 then (bif decide (u < 0) then (bif r13.v2 n g j1 j2 k p u w == 6 then r13.v0 n g j1 j2 k p u w == 0 && (fun (q : Bool) => r13.v1 n g j1 j2 k p u w == 0 && q) true else false) else (bif decide (w > (↑n : Int)) then (bif r13.v2 n g j1 j2 k p u w == 6 then r13.v0 n g j1 j2 k p u w == 0 && (fun (q : Bool) => r13.v1 n g j1 j2 k p u w == 0 && q) true else false) else (bif decide (u ≥ w) then (bif r13.v2 n g j1 j2 k p u w == 6 then r13.v0 n g j1 j2 k p u w == 0 && (fun (q : Bool) => r13.v1 n g j1 j2 k p u w == 0 && q) true else false) else (bif r13.v2 n g j1 j2 k p u w == 0 then r13.v0 n g j1 j2 k p u w == r17.v0 n g j1 j2 u w && (fun (q : Bool) => r13.v1 n g j1 j2 k p u w == r17.v1 n g j1 j2 u w && q) true else false)))) else (bif r13.v2 n g j1 j2 k p u w == r15.v n g j1 j2 k p then r13.v0 n g j1 j2 k p u w == 0 && (fun (q : Bool) => r13.v1 n g j1 j2 k p u w == 0 && q) true else false)) else false) → X = true := by
    intro hk X hX
    obtain ⟨c1, c2, c3⟩ := core hk
    rw [hX, c1]
    simp only [beq_self_eq_true, cond_true]
    cases hz : (r16.v n g j1 j2 k p == 0) with
    | false =>
      obtain ⟨d1, d2, d3⟩ := c2 (by simpa using hz)
      simp [d1, d2, d3]
    | true =>
      obtain ⟨c4, c5⟩ := c3 (by simpa using hz)
      simp only [cond_true]
      by_cases h1 : u < 0
      · obtain ⟨d1, d2, d3⟩ := c4 (.inl h1)
        simp [h1, d1, d2, d3]
      · by_cases h2 : w > (n : Int)
        · obtain ⟨d1, d2, d3⟩ := c4 (.inr (.inl h2))
          simp [h1, h2, d1, d2, d3]
        · by_cases h3 : u ≥ w
          · obtain ⟨d1, d2, d3⟩ := c4 (.inr (.inr h3))
            simp only [decide_eq_false h1, decide_eq_false h2, decide_eq_true h3, cond_true, cond_false, d1, d2, d3, beq_self_eq_true, Bool.and_true]
          · obtain ⟨d1, d2, d3⟩ := c5 ⟨h1, h2, h3⟩
            simp only [decide_eq_false h1, decide_eq_false h2, decide_eq_false h3, cond_true, cond_false, d1, d2, d3, beq_self_eq_true, Bool.and_true]
  cases h12 : r12.v n k with
  | true => exact fin (bd12 h12).2 _ rfl
  | false =>
    simp only [cond_false]
    by_cases h1 : (n : Int) ≤ 512
    · rw [decide_eq_true h1]; rfl
    · rw [decide_eq_false h1]
      simp only [cond_false]
      by_cases h2 : (k : Int) > 30
      · rw [decide_eq_true h2]; rfl
      · rw [decide_eq_false h2]
        exact fin (by omega) _ rfl
end Go.Proofs.Ytjdakdjgkpfjkaa
