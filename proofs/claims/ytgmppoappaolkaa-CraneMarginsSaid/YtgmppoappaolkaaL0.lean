/- The inputs of the crane's laws. Conditions: none. -/
import Derived.Test.YtgmppoappaolkaaRows
import Derived.Test.YtgmppoappaolkaaA29
import Derived.Test.YtgmppoappaolkaaD12
open Go
namespace Go.Proofs.Ytgmppoappaolkaa
open Go.ChangeShapes Go.WideShapes Go.ChangeAt Go.RowKit
theorem own : ownKnob Try.prog.godebug = none := by kernel_rfl
theorem laidOut : laidOutB Try.prog = true := by kernel_rfl

theorem lf_box {P : Program} {cs : List AV} (h : LfFits P [.int .i64, .int .i64, .int .i64, .int .i64, .int .i64, .int .i64] cs) : ∃ a1 a2 a3 a4 a5 a6, AV.agg cs = bx a1 a2 a3 a4 a5 a6 := by
  obtain ⟨a1, _, rfl, _, a2, _, rfl, _, a3, _, rfl, _, a4, _, rfl, _, a5, _, rfl, _, a6, _, rfl, _, rfl⟩ := h
  exact ⟨a1, a2, a3, a4, a5, a6, rfl⟩
theorem lf_vc {P : Program} {cs : List AV} (h : LfFits P [.int .i64, .int .i64, .int .i64] cs) : ∃ a1 a2 a3, AV.agg cs = vc a1 a2 a3 := by
  obtain ⟨a1, _, rfl, _, a2, _, rfl, _, a3, _, rfl, _, rfl⟩ := h
  exact ⟨a1, a2, a3, rfl⟩
theorem lf_pt {P : Program} {cs : List AV} (h : LfFits P [.int .i64, .int .i64] cs) : ∃ x y, AV.agg cs = pt x y := by
  obtain ⟨a1, _, rfl, _, a2, _, rfl, _, rfl⟩ := h
  exact ⟨a1, a2, rfl⟩
theorem lf_int {P : Program} {a : AV} (h : LfFits P [.int .i64] [a]) : ∃ n, a = .int .i64 n := by
  obtain ⟨n, _, e, _, rfl⟩ := h
  cases e
  exact ⟨n, rfl⟩
theorem lf_stand {P : Program} {k e1 e2 : Nat} {cs : List AV} (f1 : flat P k e1 = some [.int .i64]) (f2 : flat P k e2 = some [.int .i64]) (h : LfFits P [.str, .int .i64, .int .i64, .sl k e1 1, .sl k e2 1] cs) : ∃ s : SD, ImpL cs s.av.cells := by
  obtain ⟨nm, _, rfl, h1, x, _, rfl, _, y, _, rfl, _, nr, r, _, rfl, h2, h3, nl, l, _, rfl, h4, h5, rfl⟩ := h
  obtain ⟨r', hr⟩ := imp_ints f1 h3
  obtain ⟨l', hl⟩ := imp_ints f2 h5
  exact ⟨⟨nm, x, y, nr, r', nl, l', le_max h1, le_max h2, le_max h4⟩, .cons (.refl _) (.cons (.refl _) (.cons (.refl _) (.cons hr (.cons hl .nil))))⟩

set_option maxRecDepth 100000 in
theorem arg_box {a : AV} (h : FitsV Try.prog 5 25 a) : ∃ a1 a2 a3 a4 a5 a6, a = bx a1 a2 a3 a4 a5 a6 := by
  obtain ⟨cs, e, h⟩ := fitsV_struct (by kernel_rfl) (by kernel_rfl : flat Try.prog 5 25 = some [.int .i64, .int .i64, .int .i64, .int .i64, .int .i64, .int .i64]) h
  rw [e]
  exact lf_box h
set_option maxRecDepth 100000 in
theorem arg_pt {a : AV} (h : FitsV Try.prog 5 27 a) : ∃ x y, a = pt x y := by
  obtain ⟨cs, e, h⟩ := fitsV_struct (by kernel_rfl) (by kernel_rfl : flat Try.prog 5 27 = some [.int .i64, .int .i64]) h
  rw [e]
  exact lf_pt h
set_option maxRecDepth 100000 in
theorem arg_vec {a : AV} (h : FitsV Try.prog 5 23 a) : ∃ u v w, a = vc u v w := by
  obtain ⟨cs, e, h⟩ := fitsV_struct (by kernel_rfl) (by kernel_rfl : flat Try.prog 5 23 = some [.int .i64, .int .i64, .int .i64]) h
  rw [e]
  exact lf_vc h
set_option maxRecDepth 100000 in
theorem arg_int {a : AV} (h : FitsV Try.prog 5 3 a) : ∃ n, a = .int .i64 n :=
  lf_int (fitsV_one (by kernel_rfl) (by kernel_rfl : flat Try.prog 5 3 = some [.int .i64]) h)
set_option maxRecDepth 100000 in
theorem flat40 : flat Try.prog 3 3 = some [.int .i64] := by kernel_rfl
set_option maxRecDepth 100000 in
theorem flat41 : flat Try.prog 3 2 = some [.int .i64] := by kernel_rfl
set_option maxRecDepth 100000 in
theorem flat40' : flat Try.prog 2 3 = some [.int .i64] := by kernel_rfl
set_option maxRecDepth 100000 in
theorem flat41' : flat Try.prog 2 2 = some [.int .i64] := by kernel_rfl
set_option maxRecDepth 100000 in
theorem arg_stand {a : AV} (h : FitsV Try.prog 5 43 a) : ∃ s : SD, Imp a s.av := by
  obtain ⟨cs, e, h⟩ := fitsV_struct (by kernel_rfl) (by kernel_rfl : flat Try.prog 5 43 = some [.str, .int .i64, .int .i64, .sl 3 3 1, .sl 3 2 1]) h
  rw [e]
  obtain ⟨s, hs⟩ := lf_stand flat40 flat41 h
  exact ⟨s, .agg hs⟩
set_option maxRecDepth 100000 in
theorem flat43 : flat Try.prog 4 43 = some [.str, .int .i64, .int .i64, .sl 2 3 1, .sl 2 2 1] := by kernel_rfl
theorem lf_sl {P : Program} {k e sz : Nat} {a : AV} (h : LfFits P [.sl k e sz] [a]) : ∃ n f, a = .sl sz n f ∧ n ≤ maxLen ∧ ∀ i, i < n → Fits P k e (f i).cells := by
  obtain ⟨n, f, _, e, h1, h2, rfl⟩ := h
  cases e
  exact ⟨n, f, rfl, h1, h2⟩
set_option maxRecDepth 100000 in
theorem arg_stands {a : AV} (h : FitsV Try.prog 5 39 a) : ∃ (n : Nat) (g : Nat → SD), n ≤ 9223372036854775807 ∧ Imp a (sts n g) := by
  obtain ⟨n, f, e, h1, h2⟩ := lf_sl (fitsV_one (by kernel_rfl) (by kernel_rfl : flat Try.prog 5 39 = some [.sl 4 43 5]) h)
  obtain ⟨g, hg⟩ := imp_structs (D := SD) SD.av (sz := 5) flat43 (fun cs hc => lf_stand flat40' flat41' hc) h2
  rw [e]
  exact ⟨n, g, le_max h1, hg⟩
end Go.Proofs.Ytgmppoappaolkaa
