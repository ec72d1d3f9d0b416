/- CraneStands: whatever the input, the law hands back true. Conditions: none. -/
import Derived.Test.YtgmppoappaolkaaL0
import Derived.Test.YtgmppoappaolkaaD20
open Go
namespace Go.Proofs.Ytgmppoappaolkaa
open Go.ChangeShapes Go.WideShapes Go.ChangeAt Go.RowKit

set_option maxRecDepth 100000 in
theorem law4 (xs : List AV) (h : FitsA Try.prog 5 [39, 43, 25, 3] xs) : Ret Try.prog 4 xs [] (.bool true) [] := by
  obtain ⟨x0, x1, x2, x3, rfl, h0, h1, h2, h3⟩ := fitsA4 h
  obtain ⟨n, g, hn, i0⟩ := arg_stands h0
  obtain ⟨s, i1⟩ := arg_stand h1
  obtain ⟨a1, a2, a3, a4, a5, a6, rfl⟩ := arg_box h2
  obtain ⟨m, rfl⟩ := arg_int h3
  have := r4 n g hn s a1 a2 a3 a4 a5 a6 m []
  rw [r4_true hn] at this
  exact this.imp (.cons i0 (.cons i1 (.cons (.refl _) (.cons (.refl _) .nil))))

set_option maxRecDepth 100000 in
theorem stands_lifted (os : Os) (started : os.Started) (H : Type) (enc : TypeId × Value → H) :
    ReturnsInHanded {} Try.checked os 4 .any (Rows.craneStandsSpec.pre6 enc Try.prog Try.f4 Rows.craneStandsRow.domain false) (Rows.craneStandsSpec.post enc Try.prog Try.f4 false true false false) :=
  lifted (C := Try.checked) 5 own started (by kernel_rfl) Try.func4
    (ChangeSpec.witness6 (enc := enc) (C := Try.checked) false ⟨#[], #[.slice none 0 0, .agg #[.string ByteArray.empty, .int .i64 0, .int .i64 0, .slice none 0 0, .slice none 0 0], .agg #[.int .i64 0, .int .i64 0, .int .i64 0, .int .i64 0, .int .i64 0, .int .i64 0], .int .i64 0], []⟩ 8 (by kernel_rfl) (by kernel_rfl) (by kernel_rfl) (by kernel_rfl))
    rfl (fun ds hd => by
      match ds, hd with
      | [_, _, _, _], _ => rfl) (rt := 4) (by kernel_rfl) (by kernel_rfl) laidOut (by kernel_rfl) law4

theorem craneStands_holds : Rows.CraneStandsSaid :=
  OpenClaim.holds_of_wide 4 Try.f4 rfl rfl rfl rfl rfl rfl rfl ⟨rfl, rfl, rfl, rfl, rfl⟩ rfl rfl rfl rfl rfl (by kernel_rfl) Try.func4 (by kernel_rfl)
    (of_decide_eq_true (by kernel_rfl)) (by unfold Func.isWrapper; first | (rw [if_pos (by decide +kernel)]; kernel_rfl) | (rw [if_neg (by decide +kernel)]; exact ⟨rfl, rfl⟩))
    (fun os started H enc _ => stands_lifted os started H enc)
#print axioms craneStands_holds
end Go.Proofs.Ytgmppoappaolkaa
