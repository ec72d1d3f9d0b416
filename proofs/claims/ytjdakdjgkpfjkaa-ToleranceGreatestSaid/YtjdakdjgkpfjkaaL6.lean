/- ToleranceGreatest: whatever the input, the law hands back true. Conditions: none. -/
import Derived.Test.YtjdakdjgkpfjkaaL0
import Derived.Test.YtjdakdjgkpfjkaaD26
open Go
namespace Go.Proofs.Ytjdakdjgkpfjkaa
open Go.ChangeShapes Go.WideShapes Go.ChangeAt Go.RowKit

set_option maxRecDepth 100000 in
theorem law6 (xs : List AV) (h : FitsA Try.prog 5 [43, 24, 25] xs) : Ret Try.prog 6 xs [] (.bool true) [] := by
  obtain ⟨x0, x1, x2, rfl, h0, h1, h2⟩ := fitsA3 h
  obtain ⟨m0, f0, hm0, hr0, i0⟩ := arg_ints_in h0
  obtain ⟨j1, j2, rfl⟩ := arg_pair h1
  obtain ⟨k, p, hk, i2⟩ := arg_prs h2
  have := r6 m0 f0 j1 j2 k p []
  rw [r6_true hr0] at this
  exact this.imp (.cons i0 (.cons (.refl _) (.cons i2 .nil)))

set_option maxRecDepth 100000 in
theorem toleranceGreatest_lifted (os : Os) (started : os.Started) (H : Type) (enc : TypeId × Value → H) :
    ReturnsInHanded {} Try.checked os 6 .any (Rows.toleranceGreatestSpec.pre6 enc Try.prog Try.f6 Rows.toleranceGreatestRow.domain false) (Rows.toleranceGreatestSpec.post enc Try.prog Try.f6 false true false false) :=
  lifted (C := Try.checked) 5 own started (by kernel_rfl) Try.func6
    (ChangeSpec.witness6 (enc := enc) (C := Try.checked) false ⟨#[], #[.slice none 0 0, .agg #[.int .i64 0, .int .i64 0], .slice none 0 0], []⟩ 8 (by kernel_rfl) (by kernel_rfl) (by kernel_rfl) (by kernel_rfl))
    rfl (fun ds hd => by
      match ds, hd with
      | [_, _, _], _ => rfl) (rt := 4) (by kernel_rfl) (by kernel_rfl) laidOut (by kernel_rfl) law6

theorem toleranceGreatest_holds : Rows.ToleranceGreatestSaid :=
  OpenClaim.holds_of_wide 6 Try.f6 rfl rfl rfl rfl rfl rfl rfl ⟨rfl, rfl, rfl, rfl, rfl⟩ rfl rfl rfl rfl rfl (by kernel_rfl) Try.func6 (by kernel_rfl)
    (of_decide_eq_true (by kernel_rfl)) (by unfold Func.isWrapper; first | (rw [if_pos (by decide +kernel)]; kernel_rfl) | (rw [if_neg (by decide +kernel)]; exact ⟨rfl, rfl⟩))
    (fun os started H enc _ => toleranceGreatest_lifted os started H enc)
#print axioms toleranceGreatest_holds
end Go.Proofs.Ytjdakdjgkpfjkaa
