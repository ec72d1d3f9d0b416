/- CraneShrinks: whatever the input, the law hands back true. Conditions: none. -/
import Derived.Test.YtgmppoappaolkaaL0
import Derived.Test.YtgmppoappaolkaaD23
open Go
namespace Go.Proofs.Ytgmppoappaolkaa
open Go.ChangeShapes Go.WideShapes Go.ChangeAt Go.RowKit

set_option maxRecDepth 100000 in
theorem law7 (xs : List AV) (h : FitsA Try.prog 5 [43, 25, 23, 3] xs) : Ret Try.prog 7 xs [] (.bool true) [] := by
  obtain ⟨x0, x1, x2, x3, rfl, h0, h1, h2, h3⟩ := fitsA4 h
  obtain ⟨s, i0⟩ := arg_stand h0
  obtain ⟨a1, a2, a3, a4, a5, a6, rfl⟩ := arg_box h1
  obtain ⟨u, v, w, rfl⟩ := arg_vec h2
  obtain ⟨m3, rfl⟩ := arg_int h3
  have := r7 s a1 a2 a3 a4 a5 a6 u v w m3 []
  rw [r7_true] at this
  exact this.imp (.cons i0 (.cons (.refl _) (.cons (.refl _) (.cons (.refl _) .nil))))

set_option maxRecDepth 100000 in
theorem craneShrinks_lifted (os : Os) (started : os.Started) (H : Type) (enc : TypeId × Value → H) :
    ReturnsInHanded {} Try.checked os 7 .any (Rows.craneShrinksSpec.pre6 enc Try.prog Try.f7 Rows.craneShrinksRow.domain false) (Rows.craneShrinksSpec.post enc Try.prog Try.f7 false true false false) :=
  lifted (C := Try.checked) 5 own started (by kernel_rfl) Try.func7
    (ChangeSpec.witness6 (enc := enc) (C := Try.checked) false ⟨#[], #[.agg #[.string ByteArray.empty, .int .i64 0, .int .i64 0, .slice none 0 0, .slice none 0 0], .agg #[.int .i64 0, .int .i64 0, .int .i64 0, .int .i64 0, .int .i64 0, .int .i64 0], .agg #[.int .i64 0, .int .i64 0, .int .i64 0], .int .i64 0], []⟩ 8 (by kernel_rfl) (by kernel_rfl) (by kernel_rfl) (by kernel_rfl))
    rfl (fun ds hd => by
      match ds, hd with
      | [_, _, _, _], _ => rfl) (rt := 4) (by kernel_rfl) (by kernel_rfl) laidOut (by kernel_rfl) law7

theorem craneShrinks_holds : Rows.CraneShrinksSaid :=
  OpenClaim.holds_of_wide 7 Try.f7 rfl rfl rfl rfl rfl rfl rfl ⟨rfl, rfl, rfl, rfl, rfl⟩ rfl rfl rfl rfl rfl (by kernel_rfl) Try.func7 (by kernel_rfl)
    (of_decide_eq_true (by kernel_rfl)) (by unfold Func.isWrapper; first | (rw [if_pos (by decide +kernel)]; kernel_rfl) | (rw [if_neg (by decide +kernel)]; exact ⟨rfl, rfl⟩))
    (fun os started H enc _ => craneShrinks_lifted os started H enc)
#print axioms craneShrinks_holds
end Go.Proofs.Ytgmppoappaolkaa
