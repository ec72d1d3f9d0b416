/- Plain laws: capacities. Conditions: none. -/
import Derived.Test.YtgmppoappaolkaaD17
open Go
namespace Go.Proofs.Ytgmppoappaolkaa
variable {s : SD} {a b c d e f : Int}

theorem L68_run : L68.run s a b c d e f 0 = srch (fun i => r69.v s a b c d e f (s.r i)) (fun i => L68.O.e0 i) .e1 0 s.nr := by
  have := search_eq (n := s.nr) (fun i => r69.v s a b c d e f (s.r i)) (fun i => L68.O.e0 i) .e1 (N := L68.N s a b c d e f) (fun k i h => by
    simp only [L68.N, wrap_succ s.hnr h, Int.toNat_natCast]; rw [decide_eq_true (by omega)]; rfl) (fun k => by simp [L68.N]) (s.nr + 1) 0 (Nat.zero_le _) (by omega)
  simpa [L68.run, L68.mu] using this

theorem r68_cases : ((∀ i, i < s.nr → r69.v s a b c d e f (s.r i) = false) ∧ r68.v s a b c d e f = -1) ∨ ∃ i, i < s.nr ∧ r69.v s a b c d e f (s.r i) = true ∧ (∀ j, j < i → r69.v s a b c d e f (s.r j) = false) ∧ r68.v s a b c d e f = i := by
  unfold r68.v
  rw [L68_run]
  rcases srch_cases (fun i => r69.v s a b c d e f (s.r i)) (fun i => L68.O.e0 i) .e1 s.nr 0 with ⟨h1, h2⟩ | ⟨j, h1, h2, h3, h4, h5⟩
  · exact .inl ⟨fun i hi => h1 i (Nat.zero_le _) (by omega), by rw [h2]⟩
  · exact .inr ⟨j, by omega, h3, fun l hl => h4 l (Nat.zero_le _) hl, by rw [h5]⟩

theorem r68_lt (h : ¬ r68.v s a b c d e f < 0) (hl : s.nl = s.nr) : 0 ≤ r68.v s a b c d e f ∧ r68.v s a b c d e f < (s.nl : Int) := by
  rcases r68_cases (s := s) (a := a) (b := b) (c := c) (d := d) (e := e) (f := f) with ⟨_, h2⟩ | ⟨i, h1, _, _, h2⟩
  · rw [h2] at h; omega
  · rw [h2, hl]; omega

theorem r44_any {n : Nat} {g : Nat → SD} (hn : n ≤ 9223372036854775807) : r44.v n g = r43.v n g := by
  rw [r43_any hn]
  unfold r44.v
  rw [L44a_run hn, L44b_run hn, L44c_run hn]
  cases anyN n (fun i => r62.v (g i)) <;> cases anyN n (fun i => r64.v (g i)) <;> cases anyN n (fun i => r65.v (g i)) <;> rfl
theorem ok24 (h : (r24.v s == 0) = true) : s.nl = s.nr := by
  unfold r24.v at h
  rw [r44_any (by decide)] at h
  exact ok43' h
end Go.Proofs.Ytgmppoappaolkaa
