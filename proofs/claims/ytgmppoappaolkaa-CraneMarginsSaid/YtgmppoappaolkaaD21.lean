/- Plain laws: stands that are checked. Conditions: none. -/
import Derived.Test.YtgmppoappaolkaaD20
open Go
namespace Go.Proofs.Ytgmppoappaolkaa

theorem ok20z {n : Nat} {g : Nat → SD} (h : (r20.v n g == 0) = true) : r43.v n g = 0 := by
  have h := eq_of_beq h
  unfold r20.v at h
  obtain ⟨_, h⟩ := bif_else h (by decide)
  cases hz : r43.v n g == 0 with
  | true => exact eq_of_beq hz
  | false => rw [hz] at h; exact h
theorem ok20 {n : Nat} {g : Nat → SD} (hn : n ≤ 9223372036854775807) (h : (r20.v n g == 0) = true) : ∀ i, i < n → (g i).nl = (g i).nr :=
  fun i hi => (ok43s hn (ok20z h) i hi).nl
theorem ok21 {n : Nat} {g : Nat → SD} (hn : n ≤ 9223372036854775807) (h : (r21.v n g == 0) = true) : ∀ i, i < n → (g i).nl = (g i).nr := by
  rw [← check_eq hn] at h
  exact ok20 hn h
end Go.Proofs.Ytgmppoappaolkaa
