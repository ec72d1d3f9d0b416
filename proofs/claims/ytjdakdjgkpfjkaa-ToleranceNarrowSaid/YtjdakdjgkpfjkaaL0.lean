/- The inputs of the tolerance's laws. Conditions: none. -/
import Derived.Test.YtjdakdjgkpfjkaaRows
import Derived.Test.YtjdakdjgkpfjkaaD13
import Derived.Test.YtjdakdjgkpfjkaaD9
open Go
namespace Go.Proofs.Ytjdakdjgkpfjkaa
open Go.ChangeShapes Go.WideShapes Go.ChangeAt Go.RowKit
theorem own : ownKnob Try.prog.godebug = none := by kernel_rfl
theorem laidOut : laidOutB Try.prog = true := by kernel_rfl

theorem lf_pair {P : Program} {cs : List AV} (h : LfFits P [.int .i64, .int .i64] cs) : ∃ d : PD, ImpL cs d.av.cells := by
  obtain ⟨a1, _, rfl, _, a2, _, rfl, _, rfl⟩ := h
  exact ⟨⟨a1, a2⟩, .refl _⟩
theorem lf_int {P : Program} {a : AV} (h : LfFits P [.int .i64] [a]) : ∃ n, a = .int .i64 n := by
  obtain ⟨n, _, e, _, rfl⟩ := h
  cases e
  exact ⟨n, rfl⟩
theorem lf_sl {P : Program} {k e sz : Nat} {a : AV} (h : LfFits P [.sl k e sz] [a]) : ∃ n f, a = .sl sz n f ∧ n ≤ maxLen ∧ ∀ i, i < n → Fits P k e (f i).cells := by
  obtain ⟨n, f, _, e, h1, h2, rfl⟩ := h
  cases e
  exact ⟨n, f, rfl, h1, h2⟩
set_option maxRecDepth 100000 in
theorem arg_int {a : AV} (h : FitsV Try.prog 5 3 a) : ∃ n, a = .int .i64 n :=
  lf_int (fitsV_one (by kernel_rfl) (by kernel_rfl : flat Try.prog 5 3 = some [.int .i64]) h)
set_option maxRecDepth 100000 in
theorem arg_pair {a : AV} (h : FitsV Try.prog 5 24 a) : ∃ x y, a = AV.agg [.int .i64 x, .int .i64 y] := by
  obtain ⟨cs, e, h⟩ := fitsV_struct (by kernel_rfl) (by kernel_rfl : flat Try.prog 5 24 = some [.int .i64, .int .i64]) h
  obtain ⟨a1, _, rfl, _, a2, _, rfl, _, rfl⟩ := h
  exact ⟨a1, a2, e⟩
set_option maxRecDepth 100000 in
theorem flat4_3 : flat Try.prog 4 3 = some [.int .i64] := by kernel_rfl
set_option maxRecDepth 100000 in
theorem flat3_24 : flat Try.prog 3 24 = some [.int .i64, .int .i64] := by kernel_rfl
set_option maxRecDepth 100000 in
theorem flat3_63 : flat Try.prog 3 63 = some [.int .i64, .int .i64] := by kernel_rfl
set_option maxRecDepth 100000 in
theorem flat4_63 : flat Try.prog 4 63 = some [.int .i64, .int .i64] := by kernel_rfl
set_option maxRecDepth 100000 in
theorem arg_ints {a : AV} (h : FitsV Try.prog 5 43 a) : ∃ (m : Nat) (f : Nat → Int), m ≤ 9223372036854775807 ∧ Imp a (ivs m f) := by
  obtain ⟨n, f, e, h1, h2⟩ := lf_sl (fitsV_one (by kernel_rfl) (by kernel_rfl : flat Try.prog 5 43 = some [.sl 4 3 1]) h)
  obtain ⟨r, hr⟩ := imp_ints flat4_3 h2
  rw [e]
  exact ⟨n, r, le_max h1, hr⟩
set_option maxRecDepth 100000 in
theorem arg_prs {a : AV} (h : FitsV Try.prog 5 25 a) : ∃ (m : Nat) (f : Nat → PD), m ≤ 9223372036854775807 ∧ Imp a (prs m f) := by
  obtain ⟨n, f, e, h1, h2⟩ := lf_sl (fitsV_one (by kernel_rfl) (by kernel_rfl : flat Try.prog 5 25 = some [.sl 4 63 2]) h)
  obtain ⟨g, hg⟩ := imp_structs (D := PD) PD.av (sz := 2) flat4_63 (fun cs hc => lf_pair hc) h2
  rw [e]
  exact ⟨n, g, le_max h1, hg⟩
set_option maxRecDepth 100000 in
theorem arg_run {a : AV} (h : FitsV Try.prog 5 27 a) : ∃ (n : Nat) (g : Nat → PD) (j1 j2 : Int) (k : Nat) (p : Nat → PD), n ≤ 9223372036854775807 ∧ k ≤ 9223372036854775807 ∧ Imp a (rn n g j1 j2 k p) := by
  obtain ⟨cs, e, h⟩ := fitsV_struct (by kernel_rfl) (by kernel_rfl : flat Try.prog 5 27 = some [.sl 3 24 2, .int .i64, .int .i64, .sl 3 63 2]) h
  obtain ⟨n, f, _, rfl, h1, h2, j1, _, rfl, _, j2, _, rfl, _, k, q, _, rfl, h3, h4, rfl⟩ := h
  obtain ⟨g, hg⟩ := imp_structs (D := PD) PD.av (sz := 2) flat3_24 (fun cs hc => lf_pair hc) h2
  obtain ⟨p, hp⟩ := imp_structs (D := PD) PD.av (sz := 2) flat3_63 (fun cs hc => lf_pair hc) h4
  rw [e]
  exact ⟨n, g, j1, j2, k, p, le_max h1, le_max h3, .agg (.cons hg (.cons (.refl _) (.cons (.refl _) (.cons hp .nil))))⟩
set_option maxRecDepth 100000 in
theorem arg_ints_in {a : AV} (h : FitsV Try.prog 5 43 a) : ∃ (m : Nat) (f : Nat → Int), m ≤ 9223372036854775807 ∧ (∀ i, i < m → -9223372036854775808 ≤ f i ∧ f i ≤ 9223372036854775807) ∧ Imp a (ivs m f) := by
  obtain ⟨n, f, e, h1, h2⟩ := lf_sl (fitsV_one (by kernel_rfl) (by kernel_rfl : flat Try.prog 5 43 = some [.sl 4 3 1]) h)
  have each : ∀ i, ∃ r : Int, i < n → (f i).cells = [.int .i64 r] ∧ (-9223372036854775808 ≤ r ∧ r ≤ 9223372036854775807) := fun i => by
    by_cases hi : i < n
    · obtain ⟨r, _, e1, hw, e2⟩ := flat_fits _ _ _ _ flat4_3 (h2 i hi)
      subst e2
      refine ⟨r, fun _ => ⟨e1, ?_⟩⟩
      simp only [Lit.wf, Bool.and_eq_true, decide_eq_true_eq] at hw
      exact ⟨hw.1, hw.2⟩
    · exact ⟨0, fun h => absurd h hi⟩
  obtain ⟨r, hr⟩ := Classical.axiomOfChoice each
  rw [e]
  exact ⟨n, r, le_max h1, fun i hi => (hr i hi).2, .sl fun i hi => by rw [(hr i hi).1]; exact .refl _⟩
end Go.Proofs.Ytjdakdjgkpfjkaa
