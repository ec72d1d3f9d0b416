/- ToleranceAdds: whatever the input, the law hands back true. Conditions: none. -/
import Derived.Test.YtjdakdjgkpfjkaaL0
import Derived.Test.YtjdakdjgkpfjkaaD24
open Go
namespace Go.Proofs.Ytjdakdjgkpfjkaa
open Go.ChangeShapes Go.WideShapes Go.ChangeAt Go.RowKit

set_option maxRecDepth 100000 in
theorem law10 (xs : List AV) (h : FitsA Try.prog 5 [27, 3, 3, 3] xs) : Ret Try.prog 10 xs [] (.bool true) [] := by
  obtain ⟨x0, x1, x2, x3, rfl, h0, h1, h2, h3⟩ := fitsA4 h
  obtain ⟨n, g, j1, j2, k, p, hn, hk, i0⟩ := arg_run h0
  obtain ⟨u1, rfl⟩ := arg_int h1
  obtain ⟨u2, rfl⟩ := arg_int h2
  obtain ⟨u3, rfl⟩ := arg_int h3
  have := r10 n g hn j1 j2 k p u1 u2 u3 []
  rw [r10_true hn u1 u2 u3] at this
  exact this.imp (.cons i0 (.cons (.refl _) (.cons (.refl _) (.cons (.refl _) .nil))))

set_option maxRecDepth 100000 in
theorem toleranceAdds_lifted (os : Os) (started : os.Started) (H : Type) (enc : TypeId × Value → H) :
    ReturnsInHanded {} Try.checked os 10 .any (Rows.toleranceAddsSpec.pre6 enc Try.prog Try.f10 Rows.toleranceAddsRow.domain false) (Rows.toleranceAddsSpec.post enc Try.prog Try.f10 false true false false) :=
  lifted (C := Try.checked) 5 own started (by kernel_rfl) Try.func10
    (ChangeSpec.witness6 (enc := enc) (C := Try.checked) false ⟨#[], #[.agg #[.slice none 0 0, .int .i64 0, .int .i64 0, .slice none 0 0], .int .i64 0, .int .i64 0, .int .i64 0], []⟩ 8 (by kernel_rfl) (by kernel_rfl) (by kernel_rfl) (by kernel_rfl))
    rfl (fun ds hd => by
      match ds, hd with
      | [_, _, _, _], _ => rfl) (rt := 4) (by kernel_rfl) (by kernel_rfl) laidOut (by kernel_rfl) law10

theorem toleranceAdds_holds : Rows.ToleranceAddsSaid :=
  OpenClaim.holds_of_wide 10 Try.f10 rfl rfl rfl rfl rfl rfl rfl ⟨rfl, rfl, rfl, rfl, rfl⟩ rfl rfl rfl rfl rfl (by kernel_rfl) Try.func10 (by kernel_rfl)
    (of_decide_eq_true (by kernel_rfl)) (by unfold Func.isWrapper; first | (rw [if_pos (by decide +kernel)]; kernel_rfl) | (rw [if_neg (by decide +kernel)]; exact ⟨rfl, rfl⟩))
    (fun os started H enc _ => toleranceAdds_lifted os started H enc)
#print axioms toleranceAdds_holds
end Go.Proofs.Ytjdakdjgkpfjkaa
