/- ToleranceNarrow: whatever the input, the law hands back true. Conditions: none. -/
import Derived.Test.YtjdakdjgkpfjkaaL0
import Derived.Test.YtjdakdjgkpfjkaaD38
open Go
namespace Go.Proofs.Ytjdakdjgkpfjkaa
open Go.ChangeShapes Go.WideShapes Go.ChangeAt Go.RowKit

set_option maxRecDepth 100000 in
theorem law8 (xs : List AV) (h : FitsA Try.prog 5 [27, 43] xs) : Ret Try.prog 8 xs [] (.bool true) [] := by
  obtain ⟨x0, x1, rfl, h0, h1⟩ := fitsA2 h
  obtain ⟨n, g, j1, j2, k, p, hn, hk, i0⟩ := arg_run h0
  obtain ⟨m1, f1, hm1, i1⟩ := arg_ints h1
  have := r8 n g hn j1 j2 k p m1 f1 hm1 []
  rw [r8_true hn] at this
  exact this.imp (.cons i0 (.cons i1 .nil))

set_option maxRecDepth 100000 in
theorem toleranceNarrow_lifted (os : Os) (started : os.Started) (H : Type) (enc : TypeId × Value → H) :
    ReturnsInHanded {} Try.checked os 8 .any (Rows.toleranceNarrowSpec.pre6 enc Try.prog Try.f8 Rows.toleranceNarrowRow.domain false) (Rows.toleranceNarrowSpec.post enc Try.prog Try.f8 false true false false) :=
  lifted (C := Try.checked) 5 own started (by kernel_rfl) Try.func8
    (ChangeSpec.witness6 (enc := enc) (C := Try.checked) false ⟨#[], #[.agg #[.slice none 0 0, .int .i64 0, .int .i64 0, .slice none 0 0], .slice none 0 0], []⟩ 8 (by kernel_rfl) (by kernel_rfl) (by kernel_rfl) (by kernel_rfl))
    rfl (fun ds hd => by
      match ds, hd with
      | [_, _], _ => rfl) (rt := 4) (by kernel_rfl) (by kernel_rfl) laidOut (by kernel_rfl) law8

theorem toleranceNarrow_holds : Rows.ToleranceNarrowSaid :=
  OpenClaim.holds_of_wide 8 Try.f8 rfl rfl rfl rfl rfl rfl rfl ⟨rfl, rfl, rfl, rfl, rfl⟩ rfl rfl rfl rfl rfl (by kernel_rfl) Try.func8 (by kernel_rfl)
    (of_decide_eq_true (by kernel_rfl)) (by unfold Func.isWrapper; first | (rw [if_pos (by decide +kernel)]; kernel_rfl) | (rw [if_neg (by decide +kernel)]; exact ⟨rfl, rfl⟩))
    (fun os started H enc _ => toleranceNarrow_lifted os started H enc)
#print axioms toleranceNarrow_holds
end Go.Proofs.Ytjdakdjgkpfjkaa
