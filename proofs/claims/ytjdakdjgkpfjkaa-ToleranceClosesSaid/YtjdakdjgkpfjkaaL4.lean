/- ToleranceCloses: whatever the input, the law hands back true. Conditions: none. -/
import Derived.Test.YtjdakdjgkpfjkaaL0
import Derived.Test.YtjdakdjgkpfjkaaD25
open Go
namespace Go.Proofs.Ytjdakdjgkpfjkaa
open Go.ChangeShapes Go.WideShapes Go.ChangeAt Go.RowKit

set_option maxRecDepth 100000 in
theorem law4 (xs : List AV) (h : FitsA Try.prog 5 [27] xs) : Ret Try.prog 4 xs [] (.bool true) [] := by
  obtain ⟨x0, rfl, h0⟩ := fitsA1 h
  obtain ⟨n, g, j1, j2, k, p, hn, hk, i0⟩ := arg_run h0
  have := r4 n g hn j1 j2 k p []
  rw [r4_true hn] at this
  exact this.imp (.cons i0 .nil)

set_option maxRecDepth 100000 in
theorem toleranceCloses_lifted (os : Os) (started : os.Started) (H : Type) (enc : TypeId × Value → H) :
    ReturnsInHanded {} Try.checked os 4 .any (Rows.toleranceClosesSpec.pre6 enc Try.prog Try.f4 Rows.toleranceClosesRow.domain false) (Rows.toleranceClosesSpec.post enc Try.prog Try.f4 false true false false) :=
  lifted (C := Try.checked) 5 own started (by kernel_rfl) Try.func4
    (ChangeSpec.witness6 (enc := enc) (C := Try.checked) false ⟨#[], #[.agg #[.slice none 0 0, .int .i64 0, .int .i64 0, .slice none 0 0]], []⟩ 8 (by kernel_rfl) (by kernel_rfl) (by kernel_rfl) (by kernel_rfl))
    rfl (fun ds hd => by
      match ds, hd with
      | [_], _ => rfl) (rt := 4) (by kernel_rfl) (by kernel_rfl) laidOut (by kernel_rfl) law4

theorem toleranceCloses_holds : Rows.ToleranceClosesSaid :=
  OpenClaim.holds_of_wide 4 Try.f4 rfl rfl rfl rfl rfl rfl rfl ⟨rfl, rfl, rfl, rfl, rfl⟩ rfl rfl rfl rfl rfl (by kernel_rfl) Try.func4 (by kernel_rfl)
    (of_decide_eq_true (by kernel_rfl)) (by unfold Func.isWrapper; first | (rw [if_pos (by decide +kernel)]; kernel_rfl) | (rw [if_neg (by decide +kernel)]; exact ⟨rfl, rfl⟩))
    (fun os started H enc _ => toleranceCloses_lifted os started H enc)
#print axioms toleranceCloses_holds
end Go.Proofs.Ytjdakdjgkpfjkaa
