/- Plain laws: searches in stands. Conditions: none. -/
import Derived.Test.YtgmppoappaolkaaD13

open Go
namespace Go.Proofs.Ytgmppoappaolkaa
variable {n : Nat} {g : Nat → SD}

theorem L79a_run (hn : n ≤ 9223372036854775807) : L79a.run n g 0 = srch (fun i => r62.v (g i)) (fun i => .e0 i) .e1 0 n := by
  have := search_eq (n := n) (fun i => r62.v (g i)) (fun i => L79a.O.e0 i) .e1 (N := L79a.N n g) (fun k i h => by
    simp only [L79a.N, wrap_succ hn h, Int.toNat_natCast]; rw [decide_eq_true (by omega)]; rfl) (fun k => by simp [L79a.N]) (n + 1) 0 (Nat.zero_le _) (by omega)
  simpa [L79a.run, L79a.mu] using this
theorem L79b_run (hn : n ≤ 9223372036854775807) : L79b.run n g 0 = srch (fun i => r64.v (g i)) (fun i => .e0 i) .e1 0 n := by
  have := search_eq (n := n) (fun i => r64.v (g i)) (fun i => L79b.O.e0 i) .e1 (N := L79b.N n g) (fun k i h => by
    simp only [L79b.N, wrap_succ hn h, Int.toNat_natCast]; rw [decide_eq_true (by omega)]; rfl) (fun k => by simp [L79b.N]) (n + 1) 0 (Nat.zero_le _) (by omega)
  simpa [L79b.run, L79b.mu] using this
theorem L79c_run (hn : n ≤ 9223372036854775807) : L79c.run n g 0 = srch (fun i => r65.v (g i)) (fun i => .e0 i) .e1 0 n := by
  have := search_eq (n := n) (fun i => r65.v (g i)) (fun i => L79c.O.e0 i) .e1 (N := L79c.N n g) (fun k i h => by
    simp only [L79c.N, wrap_succ hn h, Int.toNat_natCast]; rw [decide_eq_true (by omega)]; rfl) (fun k => by simp [L79c.N]) (n + 1) 0 (Nat.zero_le _) (by omega)
  simpa [L79c.run, L79c.mu] using this

theorem r61a_any (hn : n ≤ 9223372036854775807) : r61a.v n g = anyN n fun i => r62.v (g i) := by
  unfold r61a.v r73a.v r79a.v
  rw [L79a_run hn]
  rcases srch_cases (fun i => r62.v (g i)) (fun i => L79a.O.e0 i) .e1 n 0 with ⟨h1, h2⟩ | ⟨j, h1, h2, h3, h4, h5⟩
  · rw [h2, anyN_false.2 fun i hi => h1 i (Nat.zero_le _) (by omega)]; rfl
  · rw [h5, anyN_true.2 ⟨j, by omega, h3⟩]; simp
theorem r61b_any (hn : n ≤ 9223372036854775807) : r61b.v n g = anyN n fun i => r64.v (g i) := by
  unfold r61b.v r73b.v r79b.v
  rw [L79b_run hn]
  rcases srch_cases (fun i => r64.v (g i)) (fun i => L79b.O.e0 i) .e1 n 0 with ⟨h1, h2⟩ | ⟨j, h1, h2, h3, h4, h5⟩
  · rw [h2, anyN_false.2 fun i hi => h1 i (Nat.zero_le _) (by omega)]; rfl
  · rw [h5, anyN_true.2 ⟨j, by omega, h3⟩]; simp
theorem r61c_any (hn : n ≤ 9223372036854775807) : r61c.v n g = anyN n fun i => r65.v (g i) := by
  unfold r61c.v r73c.v r79c.v
  rw [L79c_run hn]
  rcases srch_cases (fun i => r65.v (g i)) (fun i => L79c.O.e0 i) .e1 n 0 with ⟨h1, h2⟩ | ⟨j, h1, h2, h3, h4, h5⟩
  · rw [h2, anyN_false.2 fun i hi => h1 i (Nat.zero_le _) (by omega)]; rfl
  · rw [h5, anyN_true.2 ⟨j, by omega, h3⟩]; simp

theorem r64_false {s : SD} (h : r64.v s = false) : 1 ≤ s.nr ∧ s.nr ≤ 16 ∧ s.nl = s.nr := by
  unfold r64.v at h
  cases h1 : decide ((s.nr : Int) < 1) <;> cases h2 : decide ((s.nr : Int) > 16) <;> simp [h1, h2] at h
  have := of_decide_eq_false h1
  have := of_decide_eq_false h2
  omega

theorem r61c' (n : Nat) (g : Nat → SD) (hn : n ≤ 9223372036854775807) (hb : r61b.v n g = false) (h : AHeap) : Ret Try.prog 61 ([sts n g, AV.fn 65 []]) h (AV.bool (r61c.v n g)) h := by
  refine r61c n g hn (fun i hi => ?_) h
  rw [r61b_any hn] at hb
  exact (r64_false (anyN_false.1 hb i hi)).2.2
end Go.Proofs.Ytgmppoappaolkaa
