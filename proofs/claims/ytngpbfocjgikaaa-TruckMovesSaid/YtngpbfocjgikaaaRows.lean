/-
  No cell of these rows narrows 'for every input' (looked for: loops, veiled, ifaces, maps, wideKeys, modest, calm, conditions, laid).
  DERIVED. THE GIVEN ROWS OF THIS SEAT. 7 by the template 'for every input the law returns true; each argument reads behind the call as it read before'; 0 by the template 'total and deterministic' (their statements: YtngpbfocjgikaaaTotals.lean).
  GIVEN WITH THE SEED: the statements are not yours to turn. If you find one false, say at which input.
  Laid BY PROGRAM, IN A SANDBOX (cutbox-rows.mjs): the forced cells as the released guide's own fill.sh prints them over the translation 9cc10d950c69d4a8… (all of the seat's roots in one cut). By AI agents, Wed Nov 11 2026. No macro, syntax, notation, axiom, sorry.
-/
import Derived.Test.YtngpbfocjgikaaaChecked
import GoSem.Claim
import GoSem.ClaimJoined
import GoSem.ClaimMapViews
import Derived.JoinedTies
import Derived.KernelRfl
namespace Go.Proofs.Ytngpbfocjgikaaa
/- THE CELL 'sum', in the pinned program and in every row, IS THE sha256 OF THE DUMP (.gsa) THAT YtngpbfocjgikaaaProg.lean LOADS. Nothing in Lean hashes anything: it is a label: what it is worth is what the hold of that sum in a sandbox is worth. -/
noncomputable def Try.pinned : Pinned := { name := "ytngpbfocjgikaaa", sum := "9cc10d950c69d4a8d317e671710b6e89636cd1eaab57ae731b5b49fd23fcf82b", checked := Try.checked }
namespace Rows
def none {H : Type} : Left H := { results := [], args := [] }

/-- 'gangsawlaw53.TruckFits': WHATEVER THE INPUT: true; the input reads as it did. -/
def truckFitsSpec : ChangeSpec := { name := "truckFits", fn := fun _ => fun
  | [d1, d2, d3, d4, d5] => { results := [.lit (.bool true)], args := [d1, d2, d3, d4, d5] }
  | _ => none }
def truckFitsRow : OpenClaim := { program := "ytngpbfocjgikaaa", sum := "9cc10d950c69d4a8d317e671710b6e89636cd1eaab57ae731b5b49fd23fcf82b", func := "gangsaw/gangsawlaw53.TruckFits", spec := "truckFits", unfollowed := true, recurses := true, apart := false }
def TruckFitsSaid : Prop := truckFitsRow.holds Try.pinned (OpenSpec.ofChange truckFitsSpec)

/-- ITS FALSE NEIGHBOUR: 'it returns false'. Refute it at one input. -/
def truckFitsWrong : ChangeSpec := { name := "truckFits", fn := fun _ => fun
  | [d1, d2, d3, d4, d5] => { results := [.lit (.bool false)], args := [d1, d2, d3, d4, d5] }
  | _ => none }
def TruckFitsWrongFalsely : Prop := truckFitsRow.holds Try.pinned (OpenSpec.ofChange truckFitsWrong)

/-- 'gangsawlaw53.TruckChecks': WHATEVER THE INPUT: true; the input reads as it did. -/
def truckChecksSpec : ChangeSpec := { name := "truckChecks", fn := fun _ => fun
  | [d1, d2] => { results := [.lit (.bool true)], args := [d1, d2] }
  | _ => none }
def truckChecksRow : OpenClaim := { program := "ytngpbfocjgikaaa", sum := "9cc10d950c69d4a8d317e671710b6e89636cd1eaab57ae731b5b49fd23fcf82b", func := "gangsaw/gangsawlaw53.TruckChecks", spec := "truckChecks", unfollowed := true, recurses := true, apart := false }
def TruckChecksSaid : Prop := truckChecksRow.holds Try.pinned (OpenSpec.ofChange truckChecksSpec)

/-- ITS FALSE NEIGHBOUR: 'it returns false'. Refute it at one input. -/
def truckChecksWrong : ChangeSpec := { name := "truckChecks", fn := fun _ => fun
  | [d1, d2] => { results := [.lit (.bool false)], args := [d1, d2] }
  | _ => none }
def TruckChecksWrongFalsely : Prop := truckChecksRow.holds Try.pinned (OpenSpec.ofChange truckChecksWrong)

/-- 'gangsawlaw53.TruckRanges': WHATEVER THE INPUT: true; the input reads as it did. -/
def truckRangesSpec : ChangeSpec := { name := "truckRanges", fn := fun _ => fun
  | [d1, d2, d3, d4] => { results := [.lit (.bool true)], args := [d1, d2, d3, d4] }
  | _ => none }
def truckRangesRow : OpenClaim := { program := "ytngpbfocjgikaaa", sum := "9cc10d950c69d4a8d317e671710b6e89636cd1eaab57ae731b5b49fd23fcf82b", func := "gangsaw/gangsawlaw53.TruckRanges", spec := "truckRanges", inPlace := ["math/bits.Add64", "math/bits.Sub64"], unfollowed := true, recurses := true, apart := false }
def TruckRangesSaid : Prop := truckRangesRow.holds Try.pinned (OpenSpec.ofChange truckRangesSpec)

/-- ITS FALSE NEIGHBOUR: 'it returns false'. Refute it at one input. -/
def truckRangesWrong : ChangeSpec := { name := "truckRanges", fn := fun _ => fun
  | [d1, d2, d3, d4] => { results := [.lit (.bool false)], args := [d1, d2, d3, d4] }
  | _ => none }
def TruckRangesWrongFalsely : Prop := truckRangesRow.holds Try.pinned (OpenSpec.ofChange truckRangesWrong)

/-- 'gangsawlaw53.TruckCenters': WHATEVER THE INPUT: true; the input reads as it did. -/
def truckCentersSpec : ChangeSpec := { name := "truckCenters", fn := fun _ => fun
  | [d] => { results := [.lit (.bool true)], args := [d] }
  | _ => none }
def truckCentersRow : OpenClaim := { program := "ytngpbfocjgikaaa", sum := "9cc10d950c69d4a8d317e671710b6e89636cd1eaab57ae731b5b49fd23fcf82b", func := "gangsaw/gangsawlaw53.TruckCenters", spec := "truckCenters", inPlace := ["math/bits.Add64", "math/bits.Sub64"], unfollowed := true, recurses := true, apart := false }
def TruckCentersSaid : Prop := truckCentersRow.holds Try.pinned (OpenSpec.ofChange truckCentersSpec)

/-- ITS FALSE NEIGHBOUR: 'it returns false'. Refute it at one input. -/
def truckCentersWrong : ChangeSpec := { name := "truckCenters", fn := fun _ => fun
  | [d] => { results := [.lit (.bool false)], args := [d] }
  | _ => none }
def TruckCentersWrongFalsely : Prop := truckCentersRow.holds Try.pinned (OpenSpec.ofChange truckCentersWrong)

/-- 'gangsawlaw53.TruckAxles': WHATEVER THE INPUT: true; the input reads as it did. -/
def truckAxlesSpec : ChangeSpec := { name := "truckAxles", fn := fun _ => fun
  | [d1, d2] => { results := [.lit (.bool true)], args := [d1, d2] }
  | _ => none }
def truckAxlesRow : OpenClaim := { program := "ytngpbfocjgikaaa", sum := "9cc10d950c69d4a8d317e671710b6e89636cd1eaab57ae731b5b49fd23fcf82b", func := "gangsaw/gangsawlaw53.TruckAxles", spec := "truckAxles", inPlace := ["math/bits.Add64", "math/bits.Sub64"], unfollowed := true, recurses := true, apart := false }
def TruckAxlesSaid : Prop := truckAxlesRow.holds Try.pinned (OpenSpec.ofChange truckAxlesSpec)

/-- ITS FALSE NEIGHBOUR: 'it returns false'. Refute it at one input. -/
def truckAxlesWrong : ChangeSpec := { name := "truckAxles", fn := fun _ => fun
  | [d1, d2] => { results := [.lit (.bool false)], args := [d1, d2] }
  | _ => none }
def TruckAxlesWrongFalsely : Prop := truckAxlesRow.holds Try.pinned (OpenSpec.ofChange truckAxlesWrong)

/-- 'gangsawlaw53.TruckMoves': WHATEVER THE INPUT: true; the input reads as it did. -/
def truckMovesSpec : ChangeSpec := { name := "truckMoves", fn := fun _ => fun
  | [d1, d2, d3, d4] => { results := [.lit (.bool true)], args := [d1, d2, d3, d4] }
  | _ => none }
def truckMovesRow : OpenClaim := { program := "ytngpbfocjgikaaa", sum := "9cc10d950c69d4a8d317e671710b6e89636cd1eaab57ae731b5b49fd23fcf82b", func := "gangsaw/gangsawlaw53.TruckMoves", spec := "truckMoves", inPlace := ["math/bits.Add64", "math/bits.Sub64"], unfollowed := true, recurses := true, named := ["math/bits.divideError", "math/bits.overflowError"], apart := false }
def TruckMovesSaid : Prop := truckMovesRow.holds Try.pinned (OpenSpec.ofChange truckMovesSpec)

/-- ITS FALSE NEIGHBOUR: 'it returns false'. Refute it at one input. -/
def truckMovesWrong : ChangeSpec := { name := "truckMoves", fn := fun _ => fun
  | [d1, d2, d3, d4] => { results := [.lit (.bool false)], args := [d1, d2, d3, d4] }
  | _ => none }
def TruckMovesWrongFalsely : Prop := truckMovesRow.holds Try.pinned (OpenSpec.ofChange truckMovesWrong)

/-- 'gangsawlaw53.TruckBalance': WHATEVER THE INPUT: true; the input reads as it did. -/
def truckBalanceSpec : ChangeSpec := { name := "truckBalance", fn := fun _ => fun
  | [d1, d2, d3] => { results := [.lit (.bool true)], args := [d1, d2, d3] }
  | _ => none }
def truckBalanceRow : OpenClaim := { program := "ytngpbfocjgikaaa", sum := "9cc10d950c69d4a8d317e671710b6e89636cd1eaab57ae731b5b49fd23fcf82b", func := "gangsaw/gangsawlaw53.TruckBalance", spec := "truckBalance", inPlace := ["math/bits.Add64", "math/bits.Sub64"], unfollowed := true, recurses := true, named := ["math/bits.divideError", "math/bits.overflowError"], apart := false }
def TruckBalanceSaid : Prop := truckBalanceRow.holds Try.pinned (OpenSpec.ofChange truckBalanceSpec)

/-- ITS FALSE NEIGHBOUR: 'it returns false'. Refute it at one input. -/
def truckBalanceWrong : ChangeSpec := { name := "truckBalance", fn := fun _ => fun
  | [d1, d2, d3] => { results := [.lit (.bool false)], args := [d1, d2, d3] }
  | _ => none }
def TruckBalanceWrongFalsely : Prop := truckBalanceRow.holds Try.pinned (OpenSpec.ofChange truckBalanceWrong)

/- THE SECOND FORM. 'bulk': how many values and letters a reading holds, each counted each time it is reached (what is shared counts as often as it is met; a slice's spare places count too). A statement '..UptoSaid' is the law's where the arguments, and the package variables that the reading takes, are together of bulk at most 1048576: NARROWER than '..Said'. Prove '..Said' where nothing that the law and all that it calls make is longer than what came in: it says more and counts as full. Else prove '..UptoSaid'. A law counts once. -/
mutual
def uptoBulk {H : Type} : DataW H → Nat
  | .lit (.string bytes) => bytes.length + 1
  | .lit _ => 1
  | .nil => 1
  | .ptr d => uptoBulk d + 1
  | .slice elems spare => uptoBulkAll elems + uptoBulkAll spare + 1
  | .agg parts => uptoBulkAll parts + 1
  | .iface _ d => uptoBulk d + 1
  | .map entries => uptoBulkEntries entries + 1
  | .held _ => 1
def uptoBulkAll {H : Type} : List (DataW H) → Nat
  | [] => 0
  | d :: r => uptoBulk d + uptoBulkAll r
def uptoBulkEntries {H : Type} : List (Lit × DataW H) → Nat
  | [] => 0
  | x :: r => uptoBulkEntry x + uptoBulkEntries r
def uptoBulkEntry {H : Type} : Lit × DataW H → Nat
  | (.string bytes, d) => bytes.length + uptoBulk d + 1
  | (_, d) => uptoBulk d + 1
 end
def uptoSmall : (H : Type) → List (DataW H) → Bool := fun _ ds => decide (uptoBulkAll ds ≤ 1048576)
def OpenSpec.upto (s : _root_.Go.ChangeSpec) : _root_.Go.OpenSpec := { _root_.Go.OpenSpec.ofChange s with cond := some uptoSmall }

/-- 'gangsawlaw53.TruckFits', WHERE WHAT IT READS IS OF BULK AT MOST 1048576: true; the input reads as it did. -/
def truckFitsUptoRow : OpenClaim := { program := "ytngpbfocjgikaaa", sum := "9cc10d950c69d4a8d317e671710b6e89636cd1eaab57ae731b5b49fd23fcf82b", func := "gangsaw/gangsawlaw53.TruckFits", spec := "truckFits", unfollowed := true, recurses := true, apart := false, narrowed := true }
def TruckFitsUptoSaid : Prop := truckFitsUptoRow.holds Try.pinned (OpenSpec.upto truckFitsSpec)

/-- 'gangsawlaw53.TruckChecks', WHERE WHAT IT READS IS OF BULK AT MOST 1048576: true; the input reads as it did. -/
def truckChecksUptoRow : OpenClaim := { program := "ytngpbfocjgikaaa", sum := "9cc10d950c69d4a8d317e671710b6e89636cd1eaab57ae731b5b49fd23fcf82b", func := "gangsaw/gangsawlaw53.TruckChecks", spec := "truckChecks", unfollowed := true, recurses := true, apart := false, narrowed := true }
def TruckChecksUptoSaid : Prop := truckChecksUptoRow.holds Try.pinned (OpenSpec.upto truckChecksSpec)

/-- 'gangsawlaw53.TruckRanges', WHERE WHAT IT READS IS OF BULK AT MOST 1048576: true; the input reads as it did. -/
def truckRangesUptoRow : OpenClaim := { program := "ytngpbfocjgikaaa", sum := "9cc10d950c69d4a8d317e671710b6e89636cd1eaab57ae731b5b49fd23fcf82b", func := "gangsaw/gangsawlaw53.TruckRanges", spec := "truckRanges", inPlace := ["math/bits.Add64", "math/bits.Sub64"], unfollowed := true, recurses := true, apart := false, narrowed := true }
def TruckRangesUptoSaid : Prop := truckRangesUptoRow.holds Try.pinned (OpenSpec.upto truckRangesSpec)

/-- 'gangsawlaw53.TruckCenters', WHERE WHAT IT READS IS OF BULK AT MOST 1048576: true; the input reads as it did. -/
def truckCentersUptoRow : OpenClaim := { program := "ytngpbfocjgikaaa", sum := "9cc10d950c69d4a8d317e671710b6e89636cd1eaab57ae731b5b49fd23fcf82b", func := "gangsaw/gangsawlaw53.TruckCenters", spec := "truckCenters", inPlace := ["math/bits.Add64", "math/bits.Sub64"], unfollowed := true, recurses := true, apart := false, narrowed := true }
def TruckCentersUptoSaid : Prop := truckCentersUptoRow.holds Try.pinned (OpenSpec.upto truckCentersSpec)

/-- 'gangsawlaw53.TruckAxles', WHERE WHAT IT READS IS OF BULK AT MOST 1048576: true; the input reads as it did. -/
def truckAxlesUptoRow : OpenClaim := { program := "ytngpbfocjgikaaa", sum := "9cc10d950c69d4a8d317e671710b6e89636cd1eaab57ae731b5b49fd23fcf82b", func := "gangsaw/gangsawlaw53.TruckAxles", spec := "truckAxles", inPlace := ["math/bits.Add64", "math/bits.Sub64"], unfollowed := true, recurses := true, apart := false, narrowed := true }
def TruckAxlesUptoSaid : Prop := truckAxlesUptoRow.holds Try.pinned (OpenSpec.upto truckAxlesSpec)

/-- 'gangsawlaw53.TruckMoves', WHERE WHAT IT READS IS OF BULK AT MOST 1048576: true; the input reads as it did. -/
def truckMovesUptoRow : OpenClaim := { program := "ytngpbfocjgikaaa", sum := "9cc10d950c69d4a8d317e671710b6e89636cd1eaab57ae731b5b49fd23fcf82b", func := "gangsaw/gangsawlaw53.TruckMoves", spec := "truckMoves", inPlace := ["math/bits.Add64", "math/bits.Sub64"], unfollowed := true, recurses := true, named := ["math/bits.divideError", "math/bits.overflowError"], apart := false, narrowed := true }
def TruckMovesUptoSaid : Prop := truckMovesUptoRow.holds Try.pinned (OpenSpec.upto truckMovesSpec)

/-- 'gangsawlaw53.TruckBalance', WHERE WHAT IT READS IS OF BULK AT MOST 1048576: true; the input reads as it did. -/
def truckBalanceUptoRow : OpenClaim := { program := "ytngpbfocjgikaaa", sum := "9cc10d950c69d4a8d317e671710b6e89636cd1eaab57ae731b5b49fd23fcf82b", func := "gangsaw/gangsawlaw53.TruckBalance", spec := "truckBalance", inPlace := ["math/bits.Add64", "math/bits.Sub64"], unfollowed := true, recurses := true, named := ["math/bits.divideError", "math/bits.overflowError"], apart := false, narrowed := true }
def TruckBalanceUptoSaid : Prop := truckBalanceUptoRow.holds Try.pinned (OpenSpec.upto truckBalanceSpec)

end Rows
end Go.Proofs.Ytngpbfocjgikaaa
