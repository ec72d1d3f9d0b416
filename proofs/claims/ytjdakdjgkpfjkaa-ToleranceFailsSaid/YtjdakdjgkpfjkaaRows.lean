/-
  No cell of these rows narrows 'for every input' (looked for: loops, veiled, ifaces, maps, wideKeys, modest, calm, conditions, laid).
  DERIVED. THE GIVEN ROWS OF THIS SEAT. 8 by the template 'for every input the law returns true; each argument reads behind the call as it read before'; 0 by the template 'total and deterministic' (their statements: YtjdakdjgkpfjkaaTotals.lean).
  GIVEN WITH THE SEED: the statements are not yours to turn. If you find one false, say at which input.
  Laid BY PROGRAM, IN A SANDBOX (cutbox-rows.mjs): the forced cells as the released guide's own fill.sh prints them over the translation 95fdcd2e511ae3ff… (all of the seat's roots in one cut). By AI agents, Wed Nov 11 2026. No macro, syntax, notation, axiom, sorry.
-/
import Derived.Test.YtjdakdjgkpfjkaaChecked
import GoSem.Claim
import GoSem.ClaimJoined
import GoSem.ClaimMapViews
import Derived.JoinedTies
import Derived.KernelRfl
namespace Go.Proofs.Ytjdakdjgkpfjkaa
/- THE CELL 'sum', in the pinned program and in every row, IS THE sha256 OF THE DUMP (.gsa) THAT YtjdakdjgkpfjkaaProg.lean LOADS. Nothing in Lean hashes anything: it is a label: what it is worth is what the hold of that sum in a sandbox is worth. -/
noncomputable def Try.pinned : Pinned := { name := "ytjdakdjgkpfjkaa", sum := "95fdcd2e511ae3ffd2e9916bb07882686883a4ebe0e8f46cc1b7e7ea982d15ff", checked := Try.checked }
namespace Rows
def none {H : Type} : Left H := { results := [], args := [] }

/-- 'gangsawlaw43.ToleranceSpans': WHATEVER THE INPUT: true; the input reads as it did. -/
def toleranceSpansSpec : ChangeSpec := { name := "toleranceSpans", fn := fun _ => fun
  | [d1, d2, d3] => { results := [.lit (.bool true)], args := [d1, d2, d3] }
  | _ => none }
def toleranceSpansRow : OpenClaim := { program := "ytjdakdjgkpfjkaa", sum := "95fdcd2e511ae3ffd2e9916bb07882686883a4ebe0e8f46cc1b7e7ea982d15ff", func := "gangsaw/gangsawlaw43.ToleranceSpans", spec := "toleranceSpans", unfollowed := true, recurses := true, apart := false }
def ToleranceSpansSaid : Prop := toleranceSpansRow.holds Try.pinned (OpenSpec.ofChange toleranceSpansSpec)

/-- ITS FALSE NEIGHBOUR: 'it returns false'. Refute it at one input. -/
def toleranceSpansWrong : ChangeSpec := { name := "toleranceSpans", fn := fun _ => fun
  | [d1, d2, d3] => { results := [.lit (.bool false)], args := [d1, d2, d3] }
  | _ => none }
def ToleranceSpansWrongFalsely : Prop := toleranceSpansRow.holds Try.pinned (OpenSpec.ofChange toleranceSpansWrong)

/-- 'gangsawlaw43.ToleranceCloses': WHATEVER THE INPUT: true; the input reads as it did. -/
def toleranceClosesSpec : ChangeSpec := { name := "toleranceCloses", fn := fun _ => fun
  | [d] => { results := [.lit (.bool true)], args := [d] }
  | _ => none }
def toleranceClosesRow : OpenClaim := { program := "ytjdakdjgkpfjkaa", sum := "95fdcd2e511ae3ffd2e9916bb07882686883a4ebe0e8f46cc1b7e7ea982d15ff", func := "gangsaw/gangsawlaw43.ToleranceCloses", spec := "toleranceCloses", unfollowed := true, recurses := true, apart := false }
def ToleranceClosesSaid : Prop := toleranceClosesRow.holds Try.pinned (OpenSpec.ofChange toleranceClosesSpec)

/-- ITS FALSE NEIGHBOUR: 'it returns false'. Refute it at one input. -/
def toleranceClosesWrong : ChangeSpec := { name := "toleranceCloses", fn := fun _ => fun
  | [d] => { results := [.lit (.bool false)], args := [d] }
  | _ => none }
def ToleranceClosesWrongFalsely : Prop := toleranceClosesRow.holds Try.pinned (OpenSpec.ofChange toleranceClosesWrong)

/-- 'gangsawlaw43.ToleranceJoints': WHATEVER THE INPUT: true; the input reads as it did. -/
def toleranceJointsSpec : ChangeSpec := { name := "toleranceJoints", fn := fun _ => fun
  | [d1, d2, d3] => { results := [.lit (.bool true)], args := [d1, d2, d3] }
  | _ => none }
def toleranceJointsRow : OpenClaim := { program := "ytjdakdjgkpfjkaa", sum := "95fdcd2e511ae3ffd2e9916bb07882686883a4ebe0e8f46cc1b7e7ea982d15ff", func := "gangsaw/gangsawlaw43.ToleranceJoints", spec := "toleranceJoints", unfollowed := true, recurses := true, apart := false }
def ToleranceJointsSaid : Prop := toleranceJointsRow.holds Try.pinned (OpenSpec.ofChange toleranceJointsSpec)

/-- ITS FALSE NEIGHBOUR: 'it returns false'. Refute it at one input. -/
def toleranceJointsWrong : ChangeSpec := { name := "toleranceJoints", fn := fun _ => fun
  | [d1, d2, d3] => { results := [.lit (.bool false)], args := [d1, d2, d3] }
  | _ => none }
def ToleranceJointsWrongFalsely : Prop := toleranceJointsRow.holds Try.pinned (OpenSpec.ofChange toleranceJointsWrong)

/-- 'gangsawlaw43.ToleranceGreatest': WHATEVER THE INPUT: true; the input reads as it did. -/
def toleranceGreatestSpec : ChangeSpec := { name := "toleranceGreatest", fn := fun _ => fun
  | [d1, d2, d3] => { results := [.lit (.bool true)], args := [d1, d2, d3] }
  | _ => none }
def toleranceGreatestRow : OpenClaim := { program := "ytjdakdjgkpfjkaa", sum := "95fdcd2e511ae3ffd2e9916bb07882686883a4ebe0e8f46cc1b7e7ea982d15ff", func := "gangsaw/gangsawlaw43.ToleranceGreatest", spec := "toleranceGreatest", unfollowed := true, recurses := true, apart := false }
def ToleranceGreatestSaid : Prop := toleranceGreatestRow.holds Try.pinned (OpenSpec.ofChange toleranceGreatestSpec)

/-- ITS FALSE NEIGHBOUR: 'it returns false'. Refute it at one input. -/
def toleranceGreatestWrong : ChangeSpec := { name := "toleranceGreatest", fn := fun _ => fun
  | [d1, d2, d3] => { results := [.lit (.bool false)], args := [d1, d2, d3] }
  | _ => none }
def ToleranceGreatestWrongFalsely : Prop := toleranceGreatestRow.holds Try.pinned (OpenSpec.ofChange toleranceGreatestWrong)

/-- 'gangsawlaw43.ToleranceAlways': WHATEVER THE INPUT: true; the input reads as it did. -/
def toleranceAlwaysSpec : ChangeSpec := { name := "toleranceAlways", fn := fun _ => fun
  | [d1, d2] => { results := [.lit (.bool true)], args := [d1, d2] }
  | _ => none }
def toleranceAlwaysRow : OpenClaim := { program := "ytjdakdjgkpfjkaa", sum := "95fdcd2e511ae3ffd2e9916bb07882686883a4ebe0e8f46cc1b7e7ea982d15ff", func := "gangsaw/gangsawlaw43.ToleranceAlways", spec := "toleranceAlways", unfollowed := true, recurses := true, apart := false }
def ToleranceAlwaysSaid : Prop := toleranceAlwaysRow.holds Try.pinned (OpenSpec.ofChange toleranceAlwaysSpec)

/-- ITS FALSE NEIGHBOUR: 'it returns false'. Refute it at one input. -/
def toleranceAlwaysWrong : ChangeSpec := { name := "toleranceAlways", fn := fun _ => fun
  | [d1, d2] => { results := [.lit (.bool false)], args := [d1, d2] }
  | _ => none }
def ToleranceAlwaysWrongFalsely : Prop := toleranceAlwaysRow.holds Try.pinned (OpenSpec.ofChange toleranceAlwaysWrong)

/-- 'gangsawlaw43.ToleranceNarrow': WHATEVER THE INPUT: true; the input reads as it did. -/
def toleranceNarrowSpec : ChangeSpec := { name := "toleranceNarrow", fn := fun _ => fun
  | [d1, d2] => { results := [.lit (.bool true)], args := [d1, d2] }
  | _ => none }
def toleranceNarrowRow : OpenClaim := { program := "ytjdakdjgkpfjkaa", sum := "95fdcd2e511ae3ffd2e9916bb07882686883a4ebe0e8f46cc1b7e7ea982d15ff", func := "gangsaw/gangsawlaw43.ToleranceNarrow", spec := "toleranceNarrow", unfollowed := true, recurses := true, apart := false }
def ToleranceNarrowSaid : Prop := toleranceNarrowRow.holds Try.pinned (OpenSpec.ofChange toleranceNarrowSpec)

/-- ITS FALSE NEIGHBOUR: 'it returns false'. Refute it at one input. -/
def toleranceNarrowWrong : ChangeSpec := { name := "toleranceNarrow", fn := fun _ => fun
  | [d1, d2] => { results := [.lit (.bool false)], args := [d1, d2] }
  | _ => none }
def ToleranceNarrowWrongFalsely : Prop := toleranceNarrowRow.holds Try.pinned (OpenSpec.ofChange toleranceNarrowWrong)

/-- 'gangsawlaw43.ToleranceFails': WHATEVER THE INPUT: true; the input reads as it did. -/
def toleranceFailsSpec : ChangeSpec := { name := "toleranceFails", fn := fun _ => fun
  | [d1, d2] => { results := [.lit (.bool true)], args := [d1, d2] }
  | _ => none }
def toleranceFailsRow : OpenClaim := { program := "ytjdakdjgkpfjkaa", sum := "95fdcd2e511ae3ffd2e9916bb07882686883a4ebe0e8f46cc1b7e7ea982d15ff", func := "gangsaw/gangsawlaw43.ToleranceFails", spec := "toleranceFails", unfollowed := true, recurses := true, apart := false }
def ToleranceFailsSaid : Prop := toleranceFailsRow.holds Try.pinned (OpenSpec.ofChange toleranceFailsSpec)

/-- ITS FALSE NEIGHBOUR: 'it returns false'. Refute it at one input. -/
def toleranceFailsWrong : ChangeSpec := { name := "toleranceFails", fn := fun _ => fun
  | [d1, d2] => { results := [.lit (.bool false)], args := [d1, d2] }
  | _ => none }
def ToleranceFailsWrongFalsely : Prop := toleranceFailsRow.holds Try.pinned (OpenSpec.ofChange toleranceFailsWrong)

/-- 'gangsawlaw43.ToleranceAdds': WHATEVER THE INPUT: true; the input reads as it did. -/
def toleranceAddsSpec : ChangeSpec := { name := "toleranceAdds", fn := fun _ => fun
  | [d1, d2, d3, d4] => { results := [.lit (.bool true)], args := [d1, d2, d3, d4] }
  | _ => none }
def toleranceAddsRow : OpenClaim := { program := "ytjdakdjgkpfjkaa", sum := "95fdcd2e511ae3ffd2e9916bb07882686883a4ebe0e8f46cc1b7e7ea982d15ff", func := "gangsaw/gangsawlaw43.ToleranceAdds", spec := "toleranceAdds", unfollowed := true, recurses := true, apart := false }
def ToleranceAddsSaid : Prop := toleranceAddsRow.holds Try.pinned (OpenSpec.ofChange toleranceAddsSpec)

/-- ITS FALSE NEIGHBOUR: 'it returns false'. Refute it at one input. -/
def toleranceAddsWrong : ChangeSpec := { name := "toleranceAdds", fn := fun _ => fun
  | [d1, d2, d3, d4] => { results := [.lit (.bool false)], args := [d1, d2, d3, d4] }
  | _ => none }
def ToleranceAddsWrongFalsely : Prop := toleranceAddsRow.holds Try.pinned (OpenSpec.ofChange toleranceAddsWrong)

/- THE SECOND FORM. 'bulk': how many values and letters a reading holds, each counted each time it is reached (what is shared counts as often as it is met; a slice's spare places count too). A statement '..UptoSaid' is the law's where the arguments, and the package variables that the reading takes, are together of bulk at most 1048576: NARROWER than '..Said'. Prove '..Said' where nothing that the law and all that it calls make is longer than what came in: it says more and counts as full. Else prove '..UptoSaid'. A law counts once. -/
mutual
def uptoBulk {H : Type} : DataW H → Nat
  | .lit (.string bytes) => bytes.length + 1
  | .lit _ => 1
  | .nil => 1
  | .ptr d => uptoBulk d + 1
  | .slice elems spare => uptoBulkAll elems + uptoBulkAll spare + 1
  | .agg parts => uptoBulkAll parts + 1
  | .iface _ d => uptoBulk d + 1
  | .map entries => uptoBulkEntries entries + 1
  | .held _ => 1
def uptoBulkAll {H : Type} : List (DataW H) → Nat
  | [] => 0
  | d :: r => uptoBulk d + uptoBulkAll r
def uptoBulkEntries {H : Type} : List (Lit × DataW H) → Nat
  | [] => 0
  | x :: r => uptoBulkEntry x + uptoBulkEntries r
def uptoBulkEntry {H : Type} : Lit × DataW H → Nat
  | (.string bytes, d) => bytes.length + uptoBulk d + 1
  | (_, d) => uptoBulk d + 1
 end
def uptoSmall : (H : Type) → List (DataW H) → Bool := fun _ ds => decide (uptoBulkAll ds ≤ 1048576)
def OpenSpec.upto (s : _root_.Go.ChangeSpec) : _root_.Go.OpenSpec := { _root_.Go.OpenSpec.ofChange s with cond := some uptoSmall }

/-- 'gangsawlaw43.ToleranceSpans', WHERE WHAT IT READS IS OF BULK AT MOST 1048576: true; the input reads as it did. -/
def toleranceSpansUptoRow : OpenClaim := { program := "ytjdakdjgkpfjkaa", sum := "95fdcd2e511ae3ffd2e9916bb07882686883a4ebe0e8f46cc1b7e7ea982d15ff", func := "gangsaw/gangsawlaw43.ToleranceSpans", spec := "toleranceSpans", unfollowed := true, recurses := true, apart := false, narrowed := true }
def ToleranceSpansUptoSaid : Prop := toleranceSpansUptoRow.holds Try.pinned (OpenSpec.upto toleranceSpansSpec)

/-- 'gangsawlaw43.ToleranceCloses', WHERE WHAT IT READS IS OF BULK AT MOST 1048576: true; the input reads as it did. -/
def toleranceClosesUptoRow : OpenClaim := { program := "ytjdakdjgkpfjkaa", sum := "95fdcd2e511ae3ffd2e9916bb07882686883a4ebe0e8f46cc1b7e7ea982d15ff", func := "gangsaw/gangsawlaw43.ToleranceCloses", spec := "toleranceCloses", unfollowed := true, recurses := true, apart := false, narrowed := true }
def ToleranceClosesUptoSaid : Prop := toleranceClosesUptoRow.holds Try.pinned (OpenSpec.upto toleranceClosesSpec)

/-- 'gangsawlaw43.ToleranceJoints', WHERE WHAT IT READS IS OF BULK AT MOST 1048576: true; the input reads as it did. -/
def toleranceJointsUptoRow : OpenClaim := { program := "ytjdakdjgkpfjkaa", sum := "95fdcd2e511ae3ffd2e9916bb07882686883a4ebe0e8f46cc1b7e7ea982d15ff", func := "gangsaw/gangsawlaw43.ToleranceJoints", spec := "toleranceJoints", unfollowed := true, recurses := true, apart := false, narrowed := true }
def ToleranceJointsUptoSaid : Prop := toleranceJointsUptoRow.holds Try.pinned (OpenSpec.upto toleranceJointsSpec)

/-- 'gangsawlaw43.ToleranceGreatest', WHERE WHAT IT READS IS OF BULK AT MOST 1048576: true; the input reads as it did. -/
def toleranceGreatestUptoRow : OpenClaim := { program := "ytjdakdjgkpfjkaa", sum := "95fdcd2e511ae3ffd2e9916bb07882686883a4ebe0e8f46cc1b7e7ea982d15ff", func := "gangsaw/gangsawlaw43.ToleranceGreatest", spec := "toleranceGreatest", unfollowed := true, recurses := true, apart := false, narrowed := true }
def ToleranceGreatestUptoSaid : Prop := toleranceGreatestUptoRow.holds Try.pinned (OpenSpec.upto toleranceGreatestSpec)

/-- 'gangsawlaw43.ToleranceAlways', WHERE WHAT IT READS IS OF BULK AT MOST 1048576: true; the input reads as it did. -/
def toleranceAlwaysUptoRow : OpenClaim := { program := "ytjdakdjgkpfjkaa", sum := "95fdcd2e511ae3ffd2e9916bb07882686883a4ebe0e8f46cc1b7e7ea982d15ff", func := "gangsaw/gangsawlaw43.ToleranceAlways", spec := "toleranceAlways", unfollowed := true, recurses := true, apart := false, narrowed := true }
def ToleranceAlwaysUptoSaid : Prop := toleranceAlwaysUptoRow.holds Try.pinned (OpenSpec.upto toleranceAlwaysSpec)

/-- 'gangsawlaw43.ToleranceNarrow', WHERE WHAT IT READS IS OF BULK AT MOST 1048576: true; the input reads as it did. -/
def toleranceNarrowUptoRow : OpenClaim := { program := "ytjdakdjgkpfjkaa", sum := "95fdcd2e511ae3ffd2e9916bb07882686883a4ebe0e8f46cc1b7e7ea982d15ff", func := "gangsaw/gangsawlaw43.ToleranceNarrow", spec := "toleranceNarrow", unfollowed := true, recurses := true, apart := false, narrowed := true }
def ToleranceNarrowUptoSaid : Prop := toleranceNarrowUptoRow.holds Try.pinned (OpenSpec.upto toleranceNarrowSpec)

/-- 'gangsawlaw43.ToleranceFails', WHERE WHAT IT READS IS OF BULK AT MOST 1048576: true; the input reads as it did. -/
def toleranceFailsUptoRow : OpenClaim := { program := "ytjdakdjgkpfjkaa", sum := "95fdcd2e511ae3ffd2e9916bb07882686883a4ebe0e8f46cc1b7e7ea982d15ff", func := "gangsaw/gangsawlaw43.ToleranceFails", spec := "toleranceFails", unfollowed := true, recurses := true, apart := false, narrowed := true }
def ToleranceFailsUptoSaid : Prop := toleranceFailsUptoRow.holds Try.pinned (OpenSpec.upto toleranceFailsSpec)

/-- 'gangsawlaw43.ToleranceAdds', WHERE WHAT IT READS IS OF BULK AT MOST 1048576: true; the input reads as it did. -/
def toleranceAddsUptoRow : OpenClaim := { program := "ytjdakdjgkpfjkaa", sum := "95fdcd2e511ae3ffd2e9916bb07882686883a4ebe0e8f46cc1b7e7ea982d15ff", func := "gangsaw/gangsawlaw43.ToleranceAdds", spec := "toleranceAdds", unfollowed := true, recurses := true, apart := false, narrowed := true }
def ToleranceAddsUptoSaid : Prop := toleranceAddsUptoRow.holds Try.pinned (OpenSpec.upto toleranceAddsSpec)

end Rows
end Go.Proofs.Ytjdakdjgkpfjkaa
