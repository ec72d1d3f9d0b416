/-
  No cell of these rows narrows 'for every input' (looked for: loops, veiled, ifaces, maps, wideKeys, modest, calm, conditions, laid).
  DERIVED. THE GIVEN ROWS OF THIS SEAT. 8 by the template 'for every input the law returns true; each argument reads behind the call as it read before'; 0 by the template 'total and deterministic' (their statements: YtgmppoappaolkaaTotals.lean).
  GIVEN WITH THE SEED: the statements are not yours to turn. If you find one false, say at which input.
  Laid BY PROGRAM, IN A SANDBOX (cutbox-rows.mjs): the forced cells as the released guide's own fill.sh prints them over the translation e2599ad8f93996cc… (all of the seat's roots in one cut). By AI agents, Wed Nov 11 2026. No macro, syntax, notation, axiom, sorry.
-/
import Derived.Test.YtgmppoappaolkaaChecked
import GoSem.Claim
import GoSem.ClaimJoined
import GoSem.ClaimMapViews
import Derived.JoinedTies
import Derived.KernelRfl
namespace Go.Proofs.Ytgmppoappaolkaa
/- THE CELL 'sum', in the pinned program and in every row, IS THE sha256 OF THE DUMP (.gsa) THAT YtgmppoappaolkaaProg.lean LOADS. Nothing in Lean hashes anything: it is a label: what it is worth is what the hold of that sum in a sandbox is worth. -/
noncomputable def Try.pinned : Pinned := { name := "ytgmppoappaolkaa", sum := "e2599ad8f93996cca745a9894dc8206f6a1b70065c40b320cd3cb20a0cfb3d64", checked := Try.checked }
namespace Rows
def none {H : Type} : Left H := { results := [], args := [] }

/-- 'gangsawlaw19.CraneMasses': WHATEVER THE INPUT: true; the input reads as it did. -/
def craneMassesSpec : ChangeSpec := { name := "craneMasses", fn := fun _ => fun
  | [d1, d2, d3] => { results := [.lit (.bool true)], args := [d1, d2, d3] }
  | _ => none }
def craneMassesRow : OpenClaim := { program := "ytgmppoappaolkaa", sum := "e2599ad8f93996cca745a9894dc8206f6a1b70065c40b320cd3cb20a0cfb3d64", func := "gangsaw/gangsawlaw19.CraneMasses", spec := "craneMasses", unfollowed := true, recurses := true, named := ["math/bits.divideError", "math/bits.overflowError"], apart := false }
def CraneMassesSaid : Prop := craneMassesRow.holds Try.pinned (OpenSpec.ofChange craneMassesSpec)

/-- ITS FALSE NEIGHBOUR: 'it returns false'. Refute it at one input. -/
def craneMassesWrong : ChangeSpec := { name := "craneMasses", fn := fun _ => fun
  | [d1, d2, d3] => { results := [.lit (.bool false)], args := [d1, d2, d3] }
  | _ => none }
def CraneMassesWrongFalsely : Prop := craneMassesRow.holds Try.pinned (OpenSpec.ofChange craneMassesWrong)

/-- 'gangsawlaw19.CraneStands': WHATEVER THE INPUT: true; the input reads as it did. -/
def craneStandsSpec : ChangeSpec := { name := "craneStands", fn := fun _ => fun
  | [d1, d2, d3, d4] => { results := [.lit (.bool true)], args := [d1, d2, d3, d4] }
  | _ => none }
def craneStandsRow : OpenClaim := { program := "ytgmppoappaolkaa", sum := "e2599ad8f93996cca745a9894dc8206f6a1b70065c40b320cd3cb20a0cfb3d64", func := "gangsaw/gangsawlaw19.CraneStands", spec := "craneStands", unfollowed := true, recurses := true, named := ["math/bits.divideError", "math/bits.overflowError"], apart := false }
def CraneStandsSaid : Prop := craneStandsRow.holds Try.pinned (OpenSpec.ofChange craneStandsSpec)

/-- ITS FALSE NEIGHBOUR: 'it returns false'. Refute it at one input. -/
def craneStandsWrong : ChangeSpec := { name := "craneStands", fn := fun _ => fun
  | [d1, d2, d3, d4] => { results := [.lit (.bool false)], args := [d1, d2, d3, d4] }
  | _ => none }
def CraneStandsWrongFalsely : Prop := craneStandsRow.holds Try.pinned (OpenSpec.ofChange craneStandsWrong)

/-- 'gangsawlaw19.CraneCovers': WHATEVER THE INPUT: true; the input reads as it did. -/
def craneCoversSpec : ChangeSpec := { name := "craneCovers", fn := fun _ => fun
  | [d1, d2, d3] => { results := [.lit (.bool true)], args := [d1, d2, d3] }
  | _ => none }
def craneCoversRow : OpenClaim := { program := "ytgmppoappaolkaa", sum := "e2599ad8f93996cca745a9894dc8206f6a1b70065c40b320cd3cb20a0cfb3d64", func := "gangsaw/gangsawlaw19.CraneCovers", spec := "craneCovers", unfollowed := true, recurses := true, named := ["math/bits.divideError", "math/bits.overflowError"], apart := false }
def CraneCoversSaid : Prop := craneCoversRow.holds Try.pinned (OpenSpec.ofChange craneCoversSpec)

/-- ITS FALSE NEIGHBOUR: 'it returns false'. Refute it at one input. -/
def craneCoversWrong : ChangeSpec := { name := "craneCovers", fn := fun _ => fun
  | [d1, d2, d3] => { results := [.lit (.bool false)], args := [d1, d2, d3] }
  | _ => none }
def CraneCoversWrongFalsely : Prop := craneCoversRow.holds Try.pinned (OpenSpec.ofChange craneCoversWrong)

/-- 'gangsawlaw19.CraneHalves': WHATEVER THE INPUT: true; the input reads as it did. -/
def craneHalvesSpec : ChangeSpec := { name := "craneHalves", fn := fun _ => fun
  | [d1, d2, d3] => { results := [.lit (.bool true)], args := [d1, d2, d3] }
  | _ => none }
def craneHalvesRow : OpenClaim := { program := "ytgmppoappaolkaa", sum := "e2599ad8f93996cca745a9894dc8206f6a1b70065c40b320cd3cb20a0cfb3d64", func := "gangsaw/gangsawlaw19.CraneHalves", spec := "craneHalves", unfollowed := true, recurses := true, named := ["math/bits.divideError", "math/bits.overflowError"], apart := false }
def CraneHalvesSaid : Prop := craneHalvesRow.holds Try.pinned (OpenSpec.ofChange craneHalvesSpec)

/-- ITS FALSE NEIGHBOUR: 'it returns false'. Refute it at one input. -/
def craneHalvesWrong : ChangeSpec := { name := "craneHalves", fn := fun _ => fun
  | [d1, d2, d3] => { results := [.lit (.bool false)], args := [d1, d2, d3] }
  | _ => none }
def CraneHalvesWrongFalsely : Prop := craneHalvesRow.holds Try.pinned (OpenSpec.ofChange craneHalvesWrong)

/-- 'gangsawlaw19.CraneShrinks': WHATEVER THE INPUT: true; the input reads as it did. -/
def craneShrinksSpec : ChangeSpec := { name := "craneShrinks", fn := fun _ => fun
  | [d1, d2, d3, d4] => { results := [.lit (.bool true)], args := [d1, d2, d3, d4] }
  | _ => none }
def craneShrinksRow : OpenClaim := { program := "ytgmppoappaolkaa", sum := "e2599ad8f93996cca745a9894dc8206f6a1b70065c40b320cd3cb20a0cfb3d64", func := "gangsaw/gangsawlaw19.CraneShrinks", spec := "craneShrinks", unfollowed := true, recurses := true, named := ["math/bits.divideError", "math/bits.overflowError"], apart := false }
def CraneShrinksSaid : Prop := craneShrinksRow.holds Try.pinned (OpenSpec.ofChange craneShrinksSpec)

/-- ITS FALSE NEIGHBOUR: 'it returns false'. Refute it at one input. -/
def craneShrinksWrong : ChangeSpec := { name := "craneShrinks", fn := fun _ => fun
  | [d1, d2, d3, d4] => { results := [.lit (.bool false)], args := [d1, d2, d3, d4] }
  | _ => none }
def CraneShrinksWrongFalsely : Prop := craneShrinksRow.holds Try.pinned (OpenSpec.ofChange craneShrinksWrong)

/-- 'gangsawlaw19.CraneSuffices': WHATEVER THE INPUT: true; the input reads as it did. -/
def craneSufficesSpec : ChangeSpec := { name := "craneSuffices", fn := fun _ => fun
  | [d1, d2, d3] => { results := [.lit (.bool true)], args := [d1, d2, d3] }
  | _ => none }
def craneSufficesRow : OpenClaim := { program := "ytgmppoappaolkaa", sum := "e2599ad8f93996cca745a9894dc8206f6a1b70065c40b320cd3cb20a0cfb3d64", func := "gangsaw/gangsawlaw19.CraneSuffices", spec := "craneSuffices", unfollowed := true, recurses := true, named := ["math/bits.divideError", "math/bits.overflowError"], apart := false }
def CraneSufficesSaid : Prop := craneSufficesRow.holds Try.pinned (OpenSpec.ofChange craneSufficesSpec)

/-- ITS FALSE NEIGHBOUR: 'it returns false'. Refute it at one input. -/
def craneSufficesWrong : ChangeSpec := { name := "craneSuffices", fn := fun _ => fun
  | [d1, d2, d3] => { results := [.lit (.bool false)], args := [d1, d2, d3] }
  | _ => none }
def CraneSufficesWrongFalsely : Prop := craneSufficesRow.holds Try.pinned (OpenSpec.ofChange craneSufficesWrong)

/-- 'gangsawlaw19.CraneChoices': WHATEVER THE INPUT: true; the input reads as it did. -/
def craneChoicesSpec : ChangeSpec := { name := "craneChoices", fn := fun _ => fun
  | [d1, d2, d3] => { results := [.lit (.bool true)], args := [d1, d2, d3] }
  | _ => none }
def craneChoicesRow : OpenClaim := { program := "ytgmppoappaolkaa", sum := "e2599ad8f93996cca745a9894dc8206f6a1b70065c40b320cd3cb20a0cfb3d64", func := "gangsaw/gangsawlaw19.CraneChoices", spec := "craneChoices", unfollowed := true, recurses := true, named := ["math/bits.divideError", "math/bits.overflowError"], apart := false }
def CraneChoicesSaid : Prop := craneChoicesRow.holds Try.pinned (OpenSpec.ofChange craneChoicesSpec)

/-- ITS FALSE NEIGHBOUR: 'it returns false'. Refute it at one input. -/
def craneChoicesWrong : ChangeSpec := { name := "craneChoices", fn := fun _ => fun
  | [d1, d2, d3] => { results := [.lit (.bool false)], args := [d1, d2, d3] }
  | _ => none }
def CraneChoicesWrongFalsely : Prop := craneChoicesRow.holds Try.pinned (OpenSpec.ofChange craneChoicesWrong)

/-- 'gangsawlaw19.CraneMargins': WHATEVER THE INPUT: true; the input reads as it did. -/
def craneMarginsSpec : ChangeSpec := { name := "craneMargins", fn := fun _ => fun
  | [d1, d2, d3] => { results := [.lit (.bool true)], args := [d1, d2, d3] }
  | _ => none }
def craneMarginsRow : OpenClaim := { program := "ytgmppoappaolkaa", sum := "e2599ad8f93996cca745a9894dc8206f6a1b70065c40b320cd3cb20a0cfb3d64", func := "gangsaw/gangsawlaw19.CraneMargins", spec := "craneMargins", unfollowed := true, recurses := true, named := ["math/bits.divideError", "math/bits.overflowError"], apart := false }
def CraneMarginsSaid : Prop := craneMarginsRow.holds Try.pinned (OpenSpec.ofChange craneMarginsSpec)

/-- ITS FALSE NEIGHBOUR: 'it returns false'. Refute it at one input. -/
def craneMarginsWrong : ChangeSpec := { name := "craneMargins", fn := fun _ => fun
  | [d1, d2, d3] => { results := [.lit (.bool false)], args := [d1, d2, d3] }
  | _ => none }
def CraneMarginsWrongFalsely : Prop := craneMarginsRow.holds Try.pinned (OpenSpec.ofChange craneMarginsWrong)

/- THE SECOND FORM. 'bulk': how many values and letters a reading holds, each counted each time it is reached (what is shared counts as often as it is met; a slice's spare places count too). A statement '..UptoSaid' is the law's where the arguments, and the package variables that the reading takes, are together of bulk at most 1048576: NARROWER than '..Said'. Prove '..Said' where nothing that the law and all that it calls make is longer than what came in: it says more and counts as full. Else prove '..UptoSaid'. A law counts once. -/
mutual
def uptoBulk {H : Type} : DataW H → Nat
  | .lit (.string bytes) => bytes.length + 1
  | .lit _ => 1
  | .nil => 1
  | .ptr d => uptoBulk d + 1
  | .slice elems spare => uptoBulkAll elems + uptoBulkAll spare + 1
  | .agg parts => uptoBulkAll parts + 1
  | .iface _ d => uptoBulk d + 1
  | .map entries => uptoBulkEntries entries + 1
  | .held _ => 1
def uptoBulkAll {H : Type} : List (DataW H) → Nat
  | [] => 0
  | d :: r => uptoBulk d + uptoBulkAll r
def uptoBulkEntries {H : Type} : List (Lit × DataW H) → Nat
  | [] => 0
  | x :: r => uptoBulkEntry x + uptoBulkEntries r
def uptoBulkEntry {H : Type} : Lit × DataW H → Nat
  | (.string bytes, d) => bytes.length + uptoBulk d + 1
  | (_, d) => uptoBulk d + 1
 end
def uptoSmall : (H : Type) → List (DataW H) → Bool := fun _ ds => decide (uptoBulkAll ds ≤ 1048576)
def OpenSpec.upto (s : _root_.Go.ChangeSpec) : _root_.Go.OpenSpec := { _root_.Go.OpenSpec.ofChange s with cond := some uptoSmall }

/-- 'gangsawlaw19.CraneMasses', WHERE WHAT IT READS IS OF BULK AT MOST 1048576: true; the input reads as it did. -/
def craneMassesUptoRow : OpenClaim := { program := "ytgmppoappaolkaa", sum := "e2599ad8f93996cca745a9894dc8206f6a1b70065c40b320cd3cb20a0cfb3d64", func := "gangsaw/gangsawlaw19.CraneMasses", spec := "craneMasses", unfollowed := true, recurses := true, named := ["math/bits.divideError", "math/bits.overflowError"], apart := false, narrowed := true }
def CraneMassesUptoSaid : Prop := craneMassesUptoRow.holds Try.pinned (OpenSpec.upto craneMassesSpec)

/-- 'gangsawlaw19.CraneStands', WHERE WHAT IT READS IS OF BULK AT MOST 1048576: true; the input reads as it did. -/
def craneStandsUptoRow : OpenClaim := { program := "ytgmppoappaolkaa", sum := "e2599ad8f93996cca745a9894dc8206f6a1b70065c40b320cd3cb20a0cfb3d64", func := "gangsaw/gangsawlaw19.CraneStands", spec := "craneStands", unfollowed := true, recurses := true, named := ["math/bits.divideError", "math/bits.overflowError"], apart := false, narrowed := true }
def CraneStandsUptoSaid : Prop := craneStandsUptoRow.holds Try.pinned (OpenSpec.upto craneStandsSpec)

/-- 'gangsawlaw19.CraneCovers', WHERE WHAT IT READS IS OF BULK AT MOST 1048576: true; the input reads as it did. -/
def craneCoversUptoRow : OpenClaim := { program := "ytgmppoappaolkaa", sum := "e2599ad8f93996cca745a9894dc8206f6a1b70065c40b320cd3cb20a0cfb3d64", func := "gangsaw/gangsawlaw19.CraneCovers", spec := "craneCovers", unfollowed := true, recurses := true, named := ["math/bits.divideError", "math/bits.overflowError"], apart := false, narrowed := true }
def CraneCoversUptoSaid : Prop := craneCoversUptoRow.holds Try.pinned (OpenSpec.upto craneCoversSpec)

/-- 'gangsawlaw19.CraneHalves', WHERE WHAT IT READS IS OF BULK AT MOST 1048576: true; the input reads as it did. -/
def craneHalvesUptoRow : OpenClaim := { program := "ytgmppoappaolkaa", sum := "e2599ad8f93996cca745a9894dc8206f6a1b70065c40b320cd3cb20a0cfb3d64", func := "gangsaw/gangsawlaw19.CraneHalves", spec := "craneHalves", unfollowed := true, recurses := true, named := ["math/bits.divideError", "math/bits.overflowError"], apart := false, narrowed := true }
def CraneHalvesUptoSaid : Prop := craneHalvesUptoRow.holds Try.pinned (OpenSpec.upto craneHalvesSpec)

/-- 'gangsawlaw19.CraneShrinks', WHERE WHAT IT READS IS OF BULK AT MOST 1048576: true; the input reads as it did. -/
def craneShrinksUptoRow : OpenClaim := { program := "ytgmppoappaolkaa", sum := "e2599ad8f93996cca745a9894dc8206f6a1b70065c40b320cd3cb20a0cfb3d64", func := "gangsaw/gangsawlaw19.CraneShrinks", spec := "craneShrinks", unfollowed := true, recurses := true, named := ["math/bits.divideError", "math/bits.overflowError"], apart := false, narrowed := true }
def CraneShrinksUptoSaid : Prop := craneShrinksUptoRow.holds Try.pinned (OpenSpec.upto craneShrinksSpec)

/-- 'gangsawlaw19.CraneSuffices', WHERE WHAT IT READS IS OF BULK AT MOST 1048576: true; the input reads as it did. -/
def craneSufficesUptoRow : OpenClaim := { program := "ytgmppoappaolkaa", sum := "e2599ad8f93996cca745a9894dc8206f6a1b70065c40b320cd3cb20a0cfb3d64", func := "gangsaw/gangsawlaw19.CraneSuffices", spec := "craneSuffices", unfollowed := true, recurses := true, named := ["math/bits.divideError", "math/bits.overflowError"], apart := false, narrowed := true }
def CraneSufficesUptoSaid : Prop := craneSufficesUptoRow.holds Try.pinned (OpenSpec.upto craneSufficesSpec)

/-- 'gangsawlaw19.CraneChoices', WHERE WHAT IT READS IS OF BULK AT MOST 1048576: true; the input reads as it did. -/
def craneChoicesUptoRow : OpenClaim := { program := "ytgmppoappaolkaa", sum := "e2599ad8f93996cca745a9894dc8206f6a1b70065c40b320cd3cb20a0cfb3d64", func := "gangsaw/gangsawlaw19.CraneChoices", spec := "craneChoices", unfollowed := true, recurses := true, named := ["math/bits.divideError", "math/bits.overflowError"], apart := false, narrowed := true }
def CraneChoicesUptoSaid : Prop := craneChoicesUptoRow.holds Try.pinned (OpenSpec.upto craneChoicesSpec)

/-- 'gangsawlaw19.CraneMargins', WHERE WHAT IT READS IS OF BULK AT MOST 1048576: true; the input reads as it did. -/
def craneMarginsUptoRow : OpenClaim := { program := "ytgmppoappaolkaa", sum := "e2599ad8f93996cca745a9894dc8206f6a1b70065c40b320cd3cb20a0cfb3d64", func := "gangsaw/gangsawlaw19.CraneMargins", spec := "craneMargins", unfollowed := true, recurses := true, named := ["math/bits.divideError", "math/bits.overflowError"], apart := false, narrowed := true }
def CraneMarginsUptoSaid : Prop := craneMarginsUptoRow.holds Try.pinned (OpenSpec.upto craneMarginsSpec)

end Rows
end Go.Proofs.Ytgmppoappaolkaa
