/- Small laws on strings and bytes. Conditions: none. -/
import Derived.Test.YtjdakdjgkpfjkaaA24
namespace Go.Proofs.Ytjdakdjgkpfjkaa
set_option linter.unusedVariables false
set_option linter.unusedSimpArgs false

/-- not -/
abbrev bnot (b : Bool) : Bool := Bool.not b

theorem sbyte_bd (s : ByteArray) (i : Nat) : 0 ≤ sbyte s i ∧ sbyte s i ≤ 255 := by
  unfold sbyte
  have := (s.data.getD i 0).toNat_lt
  omega

theorem str_eq {s t : ByteArray} (h : (s.toList == t.toList) = true) : s = t := by
  have h := eq_of_beq h
  rw [ByteArray.toList_eq, ByteArray.toList_eq] at h
  exact Go.WideShapes.bytes_inj h

theorem str_ne {s t : ByteArray} (h : (s.toList == t.toList) = false) : s ≠ t := by
  intro e
  subst e
  simp at h

theorem str_pos {s : ByteArray} (h : (s.toList == (ByteArray.mk #[]).toList) = false) : 0 < s.size := by
  rcases Nat.eq_zero_or_pos s.size with e | e
  · refine absurd ?_ (str_ne h)
    obtain ⟨⟨l⟩⟩ := s
    cases l with
    | nil => rfl
    | cons a l => simp [ByteArray.size] at e
  · exact e

theorem str_beq (s t : ByteArray) : (s.toList == t.toList) = decide (s = t) := by
  by_cases h : s = t
  · subst h; simp
  · rw [decide_eq_false h]
    cases hb : (s.toList == t.toList) with
    | false => rfl
    | true => exact absurd (str_eq hb) h

end Go.Proofs.Ytjdakdjgkpfjkaa
