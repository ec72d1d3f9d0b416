/- The law of Closes and Failing, in plain words. Conditions: none. -/
import Derived.Test.YtjdakdjgkpfjkaaD20
open Go
namespace Go.Proofs.Ytjdakdjgkpfjkaa
set_option linter.unusedVariables false
set_option linter.unusedSimpArgs false
variable {n : Nat} {g : Nat → PD} {j1 j2 : Int} {k : Nat} {p : Nat → PD}

theorem L21_self (n : Nat) (f : Nat → Int) (hn : n ≤ 9223372036854775807) : ∀ m c, c ≤ n → n - c < m → L21a.N n f f m (c : Int) = .e1 := by
  intro m
  induction m with
  | zero => intro c _ h; omega
  | succ m ih =>
    intro c hc hm
    simp only [L21a.N, beq_self_eq_true, cond_true]
    by_cases h : c < n
    · rw [decide_eq_true (show (c : Int) < (n : Int) by omega), wrap_succ hn h]
      exact ih (c + 1) h (by omega)
    · rw [decide_eq_false (by omega)]
      rfl
theorem r21_self (l : List Int) (h : l.length ≤ 9223372036854775807) : r21.v l.length (fun i => l.getD i 0) l.length (fun i => l.getD i 0) = true := by
  unfold r21.v L21a.run
  have e := L21_self l.length (fun i => l.getD i 0) h (l.length + 1) 0 (Nat.zero_le _) (by omega)
  have e' : L21a.N l.length (fun i => l.getD i 0) (fun i => l.getD i 0) ((((l.length : Int) - 0).toNat) + 1) 0 = .e1 := by
    rw [show (((l.length : Int) - 0).toNat) + 1 = l.length + 1 by omega]; exact e
  rw [e']
  simp

theorem r4_true (hn : n ≤ 9223372036854775807) : r4.v n g j1 j2 k p = true := by
  unfold r4.v
  cases h12 : r12.v n k with
  | false => rfl
  | true =>
    simp only [cond_true]
    have hk := (bd12 h12).2
    rw [check_same hn (by omega)]
    cases hz : (r16.v n g j1 j2 k p == 0) with
    | false =>
      have e1 : r18.v1 n g j1 j2 k p = r16.v n g j1 j2 k p := by unfold r18.v1; rw [hz]; rfl
      have e2 : r18.v0 n g j1 j2 k p = false := by unfold r18.v0; rw [hz]; rfl
      have e3 : r19.v0 n g j1 j2 k p = 0 := by unfold r19.v0; rw [hz]; rfl
      have e4 : r19.v1 n g j1 j2 k p = [] := by unfold r19.v1; rw [hz]; rfl
      have e5 : r19.v2 n g j1 j2 k p = r16.v n g j1 j2 k p := by unfold r19.v2; rw [hz]; rfl
      simp [e1, e2, e3, e4, e5]
    | true =>
      have hz' : r16.v n g j1 j2 k p = 0 := eq_of_beq hz
      have hr := checked hn (by omega) hz'
      have e1 : r18.v1 n g j1 j2 k p = 0 := by unfold r18.v1; rw [hz]; rfl
      have e2 : r18.v0 n g j1 j2 k p = decide (r41.v0 n g j1 j2 k p < 0) := by unfold r18.v0; rw [hz]; rfl
      simp only [e1, beq_self_eq_true, cond_true]
      rcases r20_cases hr hk with ⟨a1, a2, a3⟩ | ⟨i, a1, a2, a3, a4, a5⟩
      · have f1 : r41.v0 n g j1 j2 k p = -1 := by
          rcases r41_cases hr hk with ⟨_, b2, _⟩ | ⟨i, b1, b2, _⟩
          · exact b2
          · have := a1 i b1; rw [this.1, this.2] at b2; cases b2
        rcases r19_cases hr hk hz' with ⟨_, b2, b3, b4⟩ | ⟨i, b1, b2, _⟩
        · simp [e2, f1, a2, b2, b3, b4]
        · have := a1 i b1; rw [this.1, this.2] at b2; cases b2
      · have same : ∀ i', (long n g j1 p i' || short n g j2 p i') = true → (∀ l, l < i' → long n g j1 p l = false ∧ short n g j2 p l = false) → i' = i := fun i' h1 h2 => by
          rcases Nat.lt_trichotomy i' i with q | q | q
          · have := a3 i' q; rw [this.1, this.2] at h1; cases h1
          · exact q
          · have := h2 i q; rw [this.1, this.2] at a2; cases a2
        have f1 : r41.v0 n g j1 j2 k p = i := by
          rcases r41_cases hr hk with ⟨b1, _⟩ | ⟨i', b1, b2, b3, b4, _⟩
          · have := b1 i a1; rw [this.1, this.2] at a2; cases a2
          · rw [b4, same i' b2 b3]
        rcases r19_cases hr hk hz' with ⟨b1, _⟩ | ⟨i', b1, b2, b3, b4, b5, b6⟩
        · have := b1 i a1; rw [this.1, this.2] at a2; cases a2
        · obtain rfl := same i' b2 b3
          have hl : (outL (long n g j1 p i') g (pa p i') (pb p i')).length ≤ 9223372036854775807 := by
            rw [outL_length]; have := pab hr.pl b1; have := hr.le; omega
          rw [e2, f1, a4, a5, b4, b5, b6]
          rw [r21_self _ hl]
          simp [show ¬ ((i' : Int) < 0) by omega]
end Go.Proofs.Ytjdakdjgkpfjkaa
