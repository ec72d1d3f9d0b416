/- CraneMargins: whatever the input, the law hands back true. Conditions: none. -/
import Derived.Test.YtgmppoappaolkaaL0
import Derived.Test.YtgmppoappaolkaaD25
open Go
namespace Go.Proofs.Ytgmppoappaolkaa
open Go.ChangeShapes Go.WideShapes Go.ChangeAt Go.RowKit

set_option maxRecDepth 100000 in
theorem law10 (xs : List AV) (h : FitsA Try.prog 5 [39, 25, 3] xs) : Ret Try.prog 10 xs [] (.bool true) [] := by
  obtain ⟨x0, x1, x2, rfl, h0, h1, h2⟩ := fitsA3 h
  obtain ⟨n, g, hn, i0⟩ := arg_stands h0
  obtain ⟨a1, a2, a3, a4, a5, a6, rfl⟩ := arg_box h1
  obtain ⟨m2, rfl⟩ := arg_int h2
  have := r10 n g hn a1 a2 a3 a4 a5 a6 m2 []
  rw [r10_true hn] at this
  exact this.imp (.cons i0 (.cons (.refl _) (.cons (.refl _) .nil)))

set_option maxRecDepth 100000 in
theorem craneMargins_lifted (os : Os) (started : os.Started) (H : Type) (enc : TypeId × Value → H) :
    ReturnsInHanded {} Try.checked os 10 .any (Rows.craneMarginsSpec.pre6 enc Try.prog Try.f10 Rows.craneMarginsRow.domain false) (Rows.craneMarginsSpec.post enc Try.prog Try.f10 false true false false) :=
  lifted (C := Try.checked) 5 own started (by kernel_rfl) Try.func10
    (ChangeSpec.witness6 (enc := enc) (C := Try.checked) false ⟨#[], #[.slice none 0 0, .agg #[.int .i64 0, .int .i64 0, .int .i64 0, .int .i64 0, .int .i64 0, .int .i64 0], .int .i64 0], []⟩ 8 (by kernel_rfl) (by kernel_rfl) (by kernel_rfl) (by kernel_rfl))
    rfl (fun ds hd => by
      match ds, hd with
      | [_, _, _], _ => rfl) (rt := 4) (by kernel_rfl) (by kernel_rfl) laidOut (by kernel_rfl) law10

theorem craneMargins_holds : Rows.CraneMarginsSaid :=
  OpenClaim.holds_of_wide 10 Try.f10 rfl rfl rfl rfl rfl rfl rfl ⟨rfl, rfl, rfl, rfl, rfl⟩ rfl rfl rfl rfl rfl (by kernel_rfl) Try.func10 (by kernel_rfl)
    (of_decide_eq_true (by kernel_rfl)) (by unfold Func.isWrapper; first | (rw [if_pos (by decide +kernel)]; kernel_rfl) | (rw [if_neg (by decide +kernel)]; exact ⟨rfl, rfl⟩))
    (fun os started H enc _ => craneMargins_lifted os started H enc)
#print axioms craneMargins_holds
end Go.Proofs.Ytgmppoappaolkaa
