/- Spans of a valid run, in plain words. Conditions: none. -/
import Derived.Test.YtjdakdjgkpfjkaaD13
open Go
namespace Go.Proofs.Ytjdakdjgkpfjkaa
set_option linter.unusedVariables false
set_option linter.unusedSimpArgs false
variable {n : Nat} {g : Nat → PD} {j1 j2 : Int} {k : Nat} {p : Nat → PD}

theorem L17_run (u w : Nat) (hw : w ≤ 512) (hu : u ≤ w) (a0 b0 : Int) (ha : 0 ≤ a0 ∧ a0 ≤ 1000000) (hb : 0 ≤ b0 ∧ b0 ≤ 1000000) (hg : ∀ i, u ≤ i → i < w → 0 ≤ (g i).lo ∧ (g i).lo ≤ 1000000 ∧ 0 ≤ (g i).hi ∧ (g i).hi ≤ 1000000) :
    ∀ m c, c ≤ w - u → w - u - c < m → L17a.N g w m ((u + c : Nat) : Int) (a0 + sumB (fun i => (g i).lo) u c) (b0 + sumB (fun i => (g i).hi) u c) = .e0 (a0 + sumB (fun i => (g i).lo) u (w - u)) (b0 + sumB (fun i => (g i).hi) u (w - u)) := by
  intro m
  induction m with
  | zero => intro c _ h; omega
  | succ m ih =>
    intro c hc hm
    simp only [L17a.N, Int.toNat_natCast]
    by_cases h : c < w - u
    · rw [decide_eq_true (show ((u + c : Nat) : Int) < (w : Int) by omega), wrap_succ (n := w) (by omega) (show u + c < w by omega)]
      simp only [cond_true]
      have b1 := sumB_bd (f := fun i => (g i).lo) (u := u) (b := 1000000) c fun i a b => ⟨(hg i a (by omega)).1, (hg i a (by omega)).2.1⟩
      have b2 := sumB_bd (f := fun i => (g i).hi) (u := u) (b := 1000000) c fun i a b => ⟨(hg i a (by omega)).2.2.1, (hg i a (by omega)).2.2.2⟩
      have b3 := hg (u + c) (by omega) (by omega)
      rw [i64_small (by omega), i64_small (by omega)]
      have := ih (c + 1) h (by omega)
      simp only [sumB, ← Int.add_assoc] at this
      exact this
    · obtain rfl : c = w - u := by omega
      rw [decide_eq_false (by omega)]
      rfl

theorem jn_bd2 (h : ROk n g j1 j2 k p) {u w : Nat} (hu : u < w) (hw : w ≤ n) {j : Int} (h0 : 0 ≤ j) (h1 : j ≤ 1000) : 0 ≤ jn n u w ∧ jn n u w ≤ 512 ∧ 0 ≤ jn n u w * j ∧ jn n u w * j ≤ 512000 := by
  have hn := h.le
  have a : 0 ≤ jn n u w ∧ jn n u w ≤ 512 := by unfold jn; split <;> omega
  have b := Int.mul_nonneg a.1 h0
  have c := Int.mul_le_mul a.2 h1 h0 (by omega)
  omega

theorem r17_eq (h : ROk n g j1 j2 k p) {u w : Nat} (hu : u < w) (hw : w ≤ n) :
    r17.v0 n g j1 j2 u w = jn n u w * j1 + sLo g u w ∧ r17.v1 n g j1 j2 u w = jn n u w * j2 + sHi g u w := by
  have hn := h.le
  have hg : ∀ i, u ≤ i → i < w → 0 ≤ (g i).lo ∧ (g i).lo ≤ 1000000 ∧ 0 ≤ (g i).hi ∧ (g i).hi ≤ 1000000 := fun i _ hi => by
    have := h.l1 i (by omega); have := h.l2 i (by omega); have := h.l3 i (by omega); omega
  have q1 := jn_bd2 h hu hw h.ja (by have := h.jb; have := h.jc; omega)
  have q2 := jn_bd2 h hu hw (j := j2) (by have := h.ja; have := h.jb; omega) h.jc
  have run := L17_run (g := g) u w (by omega) (by omega) (jn n u w * j1) (jn n u w * j2) (by omega) (by omega) hg (w - u + 1) 0 (by omega) (by omega)
  have run' : L17a.run g w u (jn n u w * j1) (jn n u w * j2) = .e0 (jn n u w * j1 + sLo g u w) (jn n u w * j2 + sHi g u w) := by
    unfold L17a.run sLo sHi
    rw [show ((w : Int) - (u : Int)).toNat = w - u by omega]
    simpa [sumB] using run
  unfold r17.v0 r17.v1
  cases hq : ((w : Int) == (n : Int)) with
  | true =>
    have hq' : w = n := by have := eq_of_beq hq; omega
    have e : IntKind.i64.wrap (IntKind.i64.wrap ((w : Int) - u) - 1) = jn n u w := by
      rw [i64_small (x := (w : Int) - u) (by omega), i64_small (by omega)]; unfold jn; rw [if_pos hq']
    simp only [cond_true, e]
    rw [i64_small (x := jn n u w * j1) (by omega), i64_small (x := jn n u w * j2) (by omega), run']
    exact ⟨rfl, rfl⟩
  | false =>
    have hq' : w ≠ n := fun e => by subst e; simp at hq
    have e : IntKind.i64.wrap ((w : Int) - u) = jn n u w := by
      rw [i64_small (by omega)]; unfold jn; rw [if_neg hq']; omega
    simp only [cond_false, e]
    rw [i64_small (x := jn n u w * j1) (by omega), i64_small (x := jn n u w * j2) (by omega), run']
    exact ⟨rfl, rfl⟩

theorem span_eq (h : ROk n g j1 j2 k p) {u w : Int} (h0 : ¬ u < 0) (h1 : ¬ w > (n : Int)) (h2 : ¬ u ≥ w) :
    IntKind.i64.wrap (r33.v0 n g u w + IntKind.i64.wrap (r33.v2 n g u w * j1)) = r17.v0 n g j1 j2 u w ∧
    IntKind.i64.wrap (r33.v1 n g u w + IntKind.i64.wrap (r33.v2 n g u w * j2)) = r17.v1 n g j1 j2 u w := by
  obtain ⟨u, rfl⟩ : ∃ u' : Nat, u = u' := ⟨u.toNat, by omega⟩
  obtain ⟨w, rfl⟩ : ∃ w' : Nat, w = w' := ⟨w.toNat, by omega⟩
  have hu : u < w := by omega
  have hw : w ≤ n := by omega
  obtain ⟨e1, e2, e3⟩ := r33_eq h (u := u) (w := w) (by omega) hw
  obtain ⟨f1, f2⟩ := r17_eq h hu hw
  have hn := h.le
  have hg : ∀ i, u ≤ i → i < w → 0 ≤ (g i).lo ∧ (g i).lo ≤ 1000000 ∧ 0 ≤ (g i).hi ∧ (g i).hi ≤ 1000000 := fun i _ hi => by
    have := h.l1 i (by omega); have := h.l2 i (by omega); have := h.l3 i (by omega); omega
  have q1 := jn_bd2 h hu hw h.ja (by have := h.jb; have := h.jc; omega)
  have q2 := jn_bd2 h hu hw (j := j2) (by have := h.ja; have := h.jb; omega) h.jc
  have b1 := sumB_bd (f := fun i => (g i).lo) (u := u) (b := 1000000) (w - u) fun i a b => ⟨(hg i a (by omega)).1, (hg i a (by omega)).2.1⟩
  have b2 := sumB_bd (f := fun i => (g i).hi) (u := u) (b := 1000000) (w - u) fun i a b => ⟨(hg i a (by omega)).2.2.1, (hg i a (by omega)).2.2.2⟩
  rw [e1, e2, e3, f1, f2]
  have s1 : sLo g u w = sumB (fun i => (g i).lo) u (w - u) := rfl
  have s2 : sHi g u w = sumB (fun i => (g i).hi) u (w - u) := rfl
  rw [i64_small (x := jn n u w * j1) (by omega), i64_small (x := jn n u w * j2) (by omega), i64_small (by omega), i64_small (by omega)]
  omega

end Go.Proofs.Ytjdakdjgkpfjkaa
