/- CraneMasses: whatever the input, the law hands back true. Conditions: none. -/
import Derived.Test.YtgmppoappaolkaaRows
import Derived.Test.YtgmppoappaolkaaA24
import Derived.Test.YtgmppoappaolkaaD8
open Go
namespace Go.Proofs.Ytgmppoappaolkaa
open Go.ChangeShapes Go.WideShapes Go.ChangeAt Go.RowKit
theorem own : ownKnob Try.prog.godebug = none := by kernel_rfl
theorem laidOut : laidOutB Try.prog = true := by kernel_rfl

theorem lf_box {P : Program} {cs : List AV} (h : LfFits P [.int .i64, .int .i64, .int .i64, .int .i64, .int .i64, .int .i64] cs) : ∃ a1 a2 a3 a4 a5 a6, AV.agg cs = bx a1 a2 a3 a4 a5 a6 := by
  obtain ⟨a1, _, rfl, _, a2, _, rfl, _, a3, _, rfl, _, a4, _, rfl, _, a5, _, rfl, _, a6, _, rfl, _, rfl⟩ := h
  exact ⟨a1, a2, a3, a4, a5, a6, rfl⟩
theorem lf_pt {P : Program} {cs : List AV} (h : LfFits P [.int .i64, .int .i64] cs) : ∃ x y, AV.agg cs = pt x y := by
  obtain ⟨a1, _, rfl, _, a2, _, rfl, _, rfl⟩ := h
  exact ⟨a1, a2, rfl⟩
theorem lf_int {P : Program} {a : AV} (h : LfFits P [.int .i64] [a]) : ∃ n, a = .int .i64 n := by
  obtain ⟨n, _, e, _, rfl⟩ := h
  cases e
  exact ⟨n, rfl⟩
set_option maxRecDepth 100000 in
theorem arg_box {a : AV} (h : FitsV Try.prog 5 25 a) : ∃ a1 a2 a3 a4 a5 a6, a = bx a1 a2 a3 a4 a5 a6 := by
  obtain ⟨cs, e, h⟩ := fitsV_struct (by kernel_rfl) (by kernel_rfl : flat Try.prog 5 25 = some [.int .i64, .int .i64, .int .i64, .int .i64, .int .i64, .int .i64]) h
  rw [e]
  exact lf_box h
set_option maxRecDepth 100000 in
theorem arg_pt {a : AV} (h : FitsV Try.prog 5 27 a) : ∃ x y, a = pt x y := by
  obtain ⟨cs, e, h⟩ := fitsV_struct (by kernel_rfl) (by kernel_rfl : flat Try.prog 5 27 = some [.int .i64, .int .i64]) h
  rw [e]
  exact lf_pt h
set_option maxRecDepth 100000 in
theorem arg_int {a : AV} (h : FitsV Try.prog 5 3 a) : ∃ n, a = .int .i64 n :=
  lf_int (fitsV_one (by kernel_rfl) (by kernel_rfl : flat Try.prog 5 3 = some [.int .i64]) h)

set_option maxRecDepth 100000 in
theorem law3 (xs : List AV) (h : FitsA Try.prog 5 [25, 3, 27] xs) : Ret Try.prog 3 xs [] (.bool true) [] := by
  obtain ⟨a, b, c, rfl, h1, h2, h3⟩ := fitsA3 h
  obtain ⟨a1, a2, a3, a4, a5, a6, rfl⟩ := arg_box h1
  obtain ⟨n, rfl⟩ := arg_int h2
  obtain ⟨x, y, rfl⟩ := arg_pt h3
  have := r3 a1 a2 a3 a4 a5 a6 n x y []
  rw [r3_true] at this
  exact this

set_option maxRecDepth 100000 in
theorem masses_lifted (os : Os) (started : os.Started) (H : Type) (enc : TypeId × Value → H) :
    ReturnsInHanded {} Try.checked os 3 .any (Rows.craneMassesSpec.pre6 enc Try.prog Try.f3 Rows.craneMassesRow.domain false) (Rows.craneMassesSpec.post enc Try.prog Try.f3 false true false false) :=
  lifted (C := Try.checked) 5 own started (by kernel_rfl) Try.func3
    (ChangeSpec.witness6 (enc := enc) (C := Try.checked) false ⟨#[], #[.agg #[.int .i64 0, .int .i64 0, .int .i64 0, .int .i64 0, .int .i64 0, .int .i64 0], .int .i64 0, .agg #[.int .i64 0, .int .i64 0]], []⟩ 8 (by kernel_rfl) (by kernel_rfl) (by kernel_rfl) (by kernel_rfl))
    rfl (fun ds hd => by
      match ds, hd with
      | [_, _, _], _ => rfl) (rt := 4) (by kernel_rfl) (by kernel_rfl) laidOut (by kernel_rfl) law3

theorem craneMasses_holds : Rows.CraneMassesSaid :=
  OpenClaim.holds_of_wide 3 Try.f3 rfl rfl rfl rfl rfl rfl rfl ⟨rfl, rfl, rfl, rfl, rfl⟩ rfl rfl rfl rfl rfl (by kernel_rfl) Try.func3 (by kernel_rfl)
    (of_decide_eq_true (by kernel_rfl)) (by unfold Func.isWrapper; first | (rw [if_pos (by decide +kernel)]; kernel_rfl) | (rw [if_neg (by decide +kernel)]; exact ⟨rfl, rfl⟩))
    (fun os started H enc _ => masses_lifted os started H enc)
#print axioms craneMasses_holds
end Go.Proofs.Ytgmppoappaolkaa
