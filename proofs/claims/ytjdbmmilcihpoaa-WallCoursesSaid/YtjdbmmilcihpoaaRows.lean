/-
  No cell of these rows narrows 'for every input' (looked for: loops, veiled, ifaces, maps, wideKeys, modest, calm, conditions, laid).
  DERIVED. THE GIVEN ROWS OF THIS SEAT. 6 by the template 'for every input the law returns true; each argument reads behind the call as it read before'; 0 by the template 'total and deterministic' (their statements: YtjdbmmilcihpoaaTotals.lean).
  GIVEN WITH THE SEED: the statements are not yours to turn. If you find one false, say at which input.
  Laid BY PROGRAM, IN A SANDBOX (cutbox-rows.mjs): the forced cells as the released guide's own fill.sh prints them over the translation 930ecc652b90a8d2… (all of the seat's roots in one cut). By AI agents, Wed Nov 11 2026. No macro, syntax, notation, axiom, sorry.
-/
import Derived.Test.YtjdbmmilcihpoaaChecked
import GoSem.Claim
import GoSem.ClaimJoined
import GoSem.ClaimMapViews
import Derived.JoinedTies
import Derived.KernelRfl
namespace Go.Proofs.Ytjdbmmilcihpoaa
/- THE CELL 'sum', in the pinned program and in every row, IS THE sha256 OF THE DUMP (.gsa) THAT YtjdbmmilcihpoaaProg.lean LOADS. Nothing in Lean hashes anything: it is a label: what it is worth is what the hold of that sum in a sandbox is worth. -/
noncomputable def Try.pinned : Pinned := { name := "ytjdbmmilcihpoaa", sum := "930ecc652b90a8d2db521f56e6d1824ee24254ce21d91ebe2e858a5853892ffa", checked := Try.checked }
namespace Rows
def none {H : Type} : Left H := { results := [], args := [] }

/-- 'gangsawlaw41.WallLayouts': WHATEVER THE INPUT: true; the input reads as it did. -/
def wallLayoutsSpec : ChangeSpec := { name := "wallLayouts", fn := fun _ => fun
  | [d1, d2, d3, d4, d5, d6] => { results := [.lit (.bool true)], args := [d1, d2, d3, d4, d5, d6] }
  | _ => none }
def wallLayoutsRow : OpenClaim := { program := "ytjdbmmilcihpoaa", sum := "930ecc652b90a8d2db521f56e6d1824ee24254ce21d91ebe2e858a5853892ffa", func := "gangsaw/gangsawlaw41.WallLayouts", spec := "wallLayouts", unfollowed := true, recurses := true, apart := false }
def WallLayoutsSaid : Prop := wallLayoutsRow.holds Try.pinned (OpenSpec.ofChange wallLayoutsSpec)

/-- ITS FALSE NEIGHBOUR: 'it returns false'. Refute it at one input. -/
def wallLayoutsWrong : ChangeSpec := { name := "wallLayouts", fn := fun _ => fun
  | [d1, d2, d3, d4, d5, d6] => { results := [.lit (.bool false)], args := [d1, d2, d3, d4, d5, d6] }
  | _ => none }
def WallLayoutsWrongFalsely : Prop := wallLayoutsRow.holds Try.pinned (OpenSpec.ofChange wallLayoutsWrong)

/-- 'gangsawlaw41.WallLeast': WHATEVER THE INPUT: true; the input reads as it did. -/
def wallLeastSpec : ChangeSpec := { name := "wallLeast", fn := fun _ => fun
  | [d1, d2, d3, d4, d5, d6] => { results := [.lit (.bool true)], args := [d1, d2, d3, d4, d5, d6] }
  | _ => none }
def wallLeastRow : OpenClaim := { program := "ytjdbmmilcihpoaa", sum := "930ecc652b90a8d2db521f56e6d1824ee24254ce21d91ebe2e858a5853892ffa", func := "gangsaw/gangsawlaw41.WallLeast", spec := "wallLeast", unfollowed := true, recurses := true, apart := false }
def WallLeastSaid : Prop := wallLeastRow.holds Try.pinned (OpenSpec.ofChange wallLeastSpec)

/-- ITS FALSE NEIGHBOUR: 'it returns false'. Refute it at one input. -/
def wallLeastWrong : ChangeSpec := { name := "wallLeast", fn := fun _ => fun
  | [d1, d2, d3, d4, d5, d6] => { results := [.lit (.bool false)], args := [d1, d2, d3, d4, d5, d6] }
  | _ => none }
def WallLeastWrongFalsely : Prop := wallLeastRow.holds Try.pinned (OpenSpec.ofChange wallLeastWrong)

/-- 'gangsawlaw41.WallBroken': WHATEVER THE INPUT: true; the input reads as it did. -/
def wallBrokenSpec : ChangeSpec := { name := "wallBroken", fn := fun _ => fun
  | [d] => { results := [.lit (.bool true)], args := [d] }
  | _ => none }
def wallBrokenRow : OpenClaim := { program := "ytjdbmmilcihpoaa", sum := "930ecc652b90a8d2db521f56e6d1824ee24254ce21d91ebe2e858a5853892ffa", func := "gangsaw/gangsawlaw41.WallBroken", spec := "wallBroken", unfollowed := true, recurses := true, apart := false }
def WallBrokenSaid : Prop := wallBrokenRow.holds Try.pinned (OpenSpec.ofChange wallBrokenSpec)

/-- ITS FALSE NEIGHBOUR: 'it returns false'. Refute it at one input. -/
def wallBrokenWrong : ChangeSpec := { name := "wallBroken", fn := fun _ => fun
  | [d] => { results := [.lit (.bool false)], args := [d] }
  | _ => none }
def WallBrokenWrongFalsely : Prop := wallBrokenRow.holds Try.pinned (OpenSpec.ofChange wallBrokenWrong)

/-- 'gangsawlaw41.WallBonds': WHATEVER THE INPUT: true; the input reads as it did. -/
def wallBondsSpec : ChangeSpec := { name := "wallBonds", fn := fun _ => fun
  | [d1, d2, d3, d4, d5] => { results := [.lit (.bool true)], args := [d1, d2, d3, d4, d5] }
  | _ => none }
def wallBondsRow : OpenClaim := { program := "ytjdbmmilcihpoaa", sum := "930ecc652b90a8d2db521f56e6d1824ee24254ce21d91ebe2e858a5853892ffa", func := "gangsaw/gangsawlaw41.WallBonds", spec := "wallBonds", unfollowed := true, recurses := true, apart := false }
def WallBondsSaid : Prop := wallBondsRow.holds Try.pinned (OpenSpec.ofChange wallBondsSpec)

/-- ITS FALSE NEIGHBOUR: 'it returns false'. Refute it at one input. -/
def wallBondsWrong : ChangeSpec := { name := "wallBonds", fn := fun _ => fun
  | [d1, d2, d3, d4, d5] => { results := [.lit (.bool false)], args := [d1, d2, d3, d4, d5] }
  | _ => none }
def WallBondsWrongFalsely : Prop := wallBondsRow.holds Try.pinned (OpenSpec.ofChange wallBondsWrong)

/-- 'gangsawlaw41.WallCourses': WHATEVER THE INPUT: true; the input reads as it did. -/
def wallCoursesSpec : ChangeSpec := { name := "wallCourses", fn := fun _ => fun
  | [d1, d2, d3] => { results := [.lit (.bool true)], args := [d1, d2, d3] }
  | _ => none }
def wallCoursesRow : OpenClaim := { program := "ytjdbmmilcihpoaa", sum := "930ecc652b90a8d2db521f56e6d1824ee24254ce21d91ebe2e858a5853892ffa", func := "gangsaw/gangsawlaw41.WallCourses", spec := "wallCourses", unfollowed := true, recurses := true, apart := false }
def WallCoursesSaid : Prop := wallCoursesRow.holds Try.pinned (OpenSpec.ofChange wallCoursesSpec)

/-- ITS FALSE NEIGHBOUR: 'it returns false'. Refute it at one input. -/
def wallCoursesWrong : ChangeSpec := { name := "wallCourses", fn := fun _ => fun
  | [d1, d2, d3] => { results := [.lit (.bool false)], args := [d1, d2, d3] }
  | _ => none }
def WallCoursesWrongFalsely : Prop := wallCoursesRow.holds Try.pinned (OpenSpec.ofChange wallCoursesWrong)

/-- 'gangsawlaw41.WallChecks': WHATEVER THE INPUT: true; the input reads as it did. -/
def wallChecksSpec : ChangeSpec := { name := "wallChecks", fn := fun _ => fun
  | [d] => { results := [.lit (.bool true)], args := [d] }
  | _ => none }
def wallChecksRow : OpenClaim := { program := "ytjdbmmilcihpoaa", sum := "930ecc652b90a8d2db521f56e6d1824ee24254ce21d91ebe2e858a5853892ffa", func := "gangsaw/gangsawlaw41.WallChecks", spec := "wallChecks", unfollowed := true, recurses := true, apart := false }
def WallChecksSaid : Prop := wallChecksRow.holds Try.pinned (OpenSpec.ofChange wallChecksSpec)

/-- ITS FALSE NEIGHBOUR: 'it returns false'. Refute it at one input. -/
def wallChecksWrong : ChangeSpec := { name := "wallChecks", fn := fun _ => fun
  | [d] => { results := [.lit (.bool false)], args := [d] }
  | _ => none }
def WallChecksWrongFalsely : Prop := wallChecksRow.holds Try.pinned (OpenSpec.ofChange wallChecksWrong)

/- THE SECOND FORM. 'bulk': how many values and letters a reading holds, each counted each time it is reached (what is shared counts as often as it is met; a slice's spare places count too). A statement '..UptoSaid' is the law's where the arguments, and the package variables that the reading takes, are together of bulk at most 1048576: NARROWER than '..Said'. Prove '..Said' where nothing that the law and all that it calls make is longer than what came in: it says more and counts as full. Else prove '..UptoSaid'. A law counts once. -/
mutual
def uptoBulk {H : Type} : DataW H → Nat
  | .lit (.string bytes) => bytes.length + 1
  | .lit _ => 1
  | .nil => 1
  | .ptr d => uptoBulk d + 1
  | .slice elems spare => uptoBulkAll elems + uptoBulkAll spare + 1
  | .agg parts => uptoBulkAll parts + 1
  | .iface _ d => uptoBulk d + 1
  | .map entries => uptoBulkEntries entries + 1
  | .held _ => 1
def uptoBulkAll {H : Type} : List (DataW H) → Nat
  | [] => 0
  | d :: r => uptoBulk d + uptoBulkAll r
def uptoBulkEntries {H : Type} : List (Lit × DataW H) → Nat
  | [] => 0
  | x :: r => uptoBulkEntry x + uptoBulkEntries r
def uptoBulkEntry {H : Type} : Lit × DataW H → Nat
  | (.string bytes, d) => bytes.length + uptoBulk d + 1
  | (_, d) => uptoBulk d + 1
 end
def uptoSmall : (H : Type) → List (DataW H) → Bool := fun _ ds => decide (uptoBulkAll ds ≤ 1048576)
def OpenSpec.upto (s : _root_.Go.ChangeSpec) : _root_.Go.OpenSpec := { _root_.Go.OpenSpec.ofChange s with cond := some uptoSmall }

/-- 'gangsawlaw41.WallLayouts', WHERE WHAT IT READS IS OF BULK AT MOST 1048576: true; the input reads as it did. -/
def wallLayoutsUptoRow : OpenClaim := { program := "ytjdbmmilcihpoaa", sum := "930ecc652b90a8d2db521f56e6d1824ee24254ce21d91ebe2e858a5853892ffa", func := "gangsaw/gangsawlaw41.WallLayouts", spec := "wallLayouts", unfollowed := true, recurses := true, apart := false, narrowed := true }
def WallLayoutsUptoSaid : Prop := wallLayoutsUptoRow.holds Try.pinned (OpenSpec.upto wallLayoutsSpec)

/-- 'gangsawlaw41.WallLeast', WHERE WHAT IT READS IS OF BULK AT MOST 1048576: true; the input reads as it did. -/
def wallLeastUptoRow : OpenClaim := { program := "ytjdbmmilcihpoaa", sum := "930ecc652b90a8d2db521f56e6d1824ee24254ce21d91ebe2e858a5853892ffa", func := "gangsaw/gangsawlaw41.WallLeast", spec := "wallLeast", unfollowed := true, recurses := true, apart := false, narrowed := true }
def WallLeastUptoSaid : Prop := wallLeastUptoRow.holds Try.pinned (OpenSpec.upto wallLeastSpec)

/-- 'gangsawlaw41.WallBroken', WHERE WHAT IT READS IS OF BULK AT MOST 1048576: true; the input reads as it did. -/
def wallBrokenUptoRow : OpenClaim := { program := "ytjdbmmilcihpoaa", sum := "930ecc652b90a8d2db521f56e6d1824ee24254ce21d91ebe2e858a5853892ffa", func := "gangsaw/gangsawlaw41.WallBroken", spec := "wallBroken", unfollowed := true, recurses := true, apart := false, narrowed := true }
def WallBrokenUptoSaid : Prop := wallBrokenUptoRow.holds Try.pinned (OpenSpec.upto wallBrokenSpec)

/-- 'gangsawlaw41.WallBonds', WHERE WHAT IT READS IS OF BULK AT MOST 1048576: true; the input reads as it did. -/
def wallBondsUptoRow : OpenClaim := { program := "ytjdbmmilcihpoaa", sum := "930ecc652b90a8d2db521f56e6d1824ee24254ce21d91ebe2e858a5853892ffa", func := "gangsaw/gangsawlaw41.WallBonds", spec := "wallBonds", unfollowed := true, recurses := true, apart := false, narrowed := true }
def WallBondsUptoSaid : Prop := wallBondsUptoRow.holds Try.pinned (OpenSpec.upto wallBondsSpec)

/-- 'gangsawlaw41.WallCourses', WHERE WHAT IT READS IS OF BULK AT MOST 1048576: true; the input reads as it did. -/
def wallCoursesUptoRow : OpenClaim := { program := "ytjdbmmilcihpoaa", sum := "930ecc652b90a8d2db521f56e6d1824ee24254ce21d91ebe2e858a5853892ffa", func := "gangsaw/gangsawlaw41.WallCourses", spec := "wallCourses", unfollowed := true, recurses := true, apart := false, narrowed := true }
def WallCoursesUptoSaid : Prop := wallCoursesUptoRow.holds Try.pinned (OpenSpec.upto wallCoursesSpec)

/-- 'gangsawlaw41.WallChecks', WHERE WHAT IT READS IS OF BULK AT MOST 1048576: true; the input reads as it did. -/
def wallChecksUptoRow : OpenClaim := { program := "ytjdbmmilcihpoaa", sum := "930ecc652b90a8d2db521f56e6d1824ee24254ce21d91ebe2e858a5853892ffa", func := "gangsaw/gangsawlaw41.WallChecks", spec := "wallChecks", unfollowed := true, recurses := true, apart := false, narrowed := true }
def WallChecksUptoSaid : Prop := wallChecksUptoRow.holds Try.pinned (OpenSpec.upto wallChecksSpec)

end Rows
end Go.Proofs.Ytjdbmmilcihpoaa
