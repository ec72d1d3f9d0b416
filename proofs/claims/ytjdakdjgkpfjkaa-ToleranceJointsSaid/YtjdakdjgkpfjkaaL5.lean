/- ToleranceJoints: whatever the input, the law hands back true. Conditions: none. -/
import Derived.Test.YtjdakdjgkpfjkaaL0
import Derived.Test.YtjdakdjgkpfjkaaD31
open Go
namespace Go.Proofs.Ytjdakdjgkpfjkaa
open Go.ChangeShapes Go.WideShapes Go.ChangeAt Go.RowKit

set_option maxRecDepth 100000 in
theorem law5 (xs : List AV) (h : FitsA Try.prog 5 [27, 43, 43] xs) : Ret Try.prog 5 xs [] (.bool true) [] := by
  obtain ⟨x0, x1, x2, rfl, h0, h1, h2⟩ := fitsA3 h
  obtain ⟨n, g, j1, j2, k, p, hn, hk, i0⟩ := arg_run h0
  obtain ⟨m1, f1, hm1, i1⟩ := arg_ints h1
  obtain ⟨m2, f2, hm2, i2⟩ := arg_ints h2
  have := r5 n g hn j1 j2 k p m1 f1 hm1 m2 f2 hm2 []
  rw [r5_true hn hm1 hm2] at this
  exact this.imp (.cons i0 (.cons i1 (.cons i2 .nil)))

set_option maxRecDepth 100000 in
theorem toleranceJoints_lifted (os : Os) (started : os.Started) (H : Type) (enc : TypeId × Value → H) :
    ReturnsInHanded {} Try.checked os 5 .any (Rows.toleranceJointsSpec.pre6 enc Try.prog Try.f5 Rows.toleranceJointsRow.domain false) (Rows.toleranceJointsSpec.post enc Try.prog Try.f5 false true false false) :=
  lifted (C := Try.checked) 5 own started (by kernel_rfl) Try.func5
    (ChangeSpec.witness6 (enc := enc) (C := Try.checked) false ⟨#[], #[.agg #[.slice none 0 0, .int .i64 0, .int .i64 0, .slice none 0 0], .slice none 0 0, .slice none 0 0], []⟩ 8 (by kernel_rfl) (by kernel_rfl) (by kernel_rfl) (by kernel_rfl))
    rfl (fun ds hd => by
      match ds, hd with
      | [_, _, _], _ => rfl) (rt := 4) (by kernel_rfl) (by kernel_rfl) laidOut (by kernel_rfl) law5

theorem toleranceJoints_holds : Rows.ToleranceJointsSaid :=
  OpenClaim.holds_of_wide 5 Try.f5 rfl rfl rfl rfl rfl rfl rfl ⟨rfl, rfl, rfl, rfl, rfl⟩ rfl rfl rfl rfl rfl (by kernel_rfl) Try.func5 (by kernel_rfl)
    (of_decide_eq_true (by kernel_rfl)) (by unfold Func.isWrapper; first | (rw [if_pos (by decide +kernel)]; kernel_rfl) | (rw [if_neg (by decide +kernel)]; exact ⟨rfl, rfl⟩))
    (fun os started H enc _ => toleranceJoints_lifted os started H enc)
#print axioms toleranceJoints_holds
end Go.Proofs.Ytjdakdjgkpfjkaa
