/-
  No cell of these rows narrows 'for every input' (looked for: loops, veiled, ifaces, maps, wideKeys, modest, calm, conditions, laid).
  DERIVED. THE GIVEN ROWS OF THIS SEAT. 12 by the template 'for every input the law returns true; each argument reads behind the call as it read before'; 0 by the template 'total and deterministic' (their statements: YteopelpnpdbbcaaTotals.lean).
  GIVEN WITH THE SEED: the statements are not yours to turn. If you find one false, say at which input.
  Laid BY PROGRAM, IN A SANDBOX (cutbox-rows.mjs): the forced cells as the released guide's own fill.sh prints them over the translation 911ff0cb0ef5b18b… (all of the seat's roots in one cut). By AI agents, Wed Nov 11 2026. No macro, syntax, notation, axiom, sorry.
-/
import Derived.Test.YteopelpnpdbbcaaChecked
import GoSem.Claim
import GoSem.ClaimJoined
import GoSem.ClaimMapViews
import Derived.JoinedTies
import Derived.KernelRfl
namespace Go.Proofs.Yteopelpnpdbbcaa
/- THE CELL 'sum', in the pinned program and in every row, IS THE sha256 OF THE DUMP (.gsa) THAT YteopelpnpdbbcaaProg.lean LOADS. Nothing in Lean hashes anything: it is a label: what it is worth is what the hold of that sum in a sandbox is worth. -/
noncomputable def Try.pinned : Pinned := { name := "yteopelpnpdbbcaa", sum := "911ff0cb0ef5b18b52d28556ebb71853e4b3bb7388e4d7c3289d924d78ebbe29", checked := Try.checked }
namespace Rows
def none {H : Type} : Left H := { results := [], args := [] }

/-- 'semigrouplaw19.CongrSyntactic': WHATEVER THE INPUT: true; the input reads as it did. -/
def congrSyntacticSpec : ChangeSpec := { name := "congrSyntactic", fn := fun _ => fun
  | [d1, d2] => { results := [.lit (.bool true)], args := [d1, d2] }
  | _ => none }
def congrSyntacticRow : OpenClaim := { program := "yteopelpnpdbbcaa", sum := "911ff0cb0ef5b18b52d28556ebb71853e4b3bb7388e4d7c3289d924d78ebbe29", func := "semigroup/semigrouplaw19.CongrSyntactic", spec := "congrSyntactic", unfollowed := true, recurses := true, plainKeys := false, apart := false }
def CongrSyntacticSaid : Prop := congrSyntacticRow.holds Try.pinned (OpenSpec.ofChange congrSyntacticSpec)

/-- ITS FALSE NEIGHBOUR: 'it returns false'. Refute it at one input. -/
def congrSyntacticWrong : ChangeSpec := { name := "congrSyntactic", fn := fun _ => fun
  | [d1, d2] => { results := [.lit (.bool false)], args := [d1, d2] }
  | _ => none }
def CongrSyntacticWrongFalsely : Prop := congrSyntacticRow.holds Try.pinned (OpenSpec.ofChange congrSyntacticWrong)

/-- 'semigrouplaw19.CongrQuotients': WHATEVER THE INPUT: true; the input reads as it did. -/
def congrQuotientsSpec : ChangeSpec := { name := "congrQuotients", fn := fun _ => fun
  | [d1, d2] => { results := [.lit (.bool true)], args := [d1, d2] }
  | _ => none }
def congrQuotientsRow : OpenClaim := { program := "yteopelpnpdbbcaa", sum := "911ff0cb0ef5b18b52d28556ebb71853e4b3bb7388e4d7c3289d924d78ebbe29", func := "semigroup/semigrouplaw19.CongrQuotients", spec := "congrQuotients", unfollowed := true, recurses := true, plainKeys := false, apart := false }
def CongrQuotientsSaid : Prop := congrQuotientsRow.holds Try.pinned (OpenSpec.ofChange congrQuotientsSpec)

/-- ITS FALSE NEIGHBOUR: 'it returns false'. Refute it at one input. -/
def congrQuotientsWrong : ChangeSpec := { name := "congrQuotients", fn := fun _ => fun
  | [d1, d2] => { results := [.lit (.bool false)], args := [d1, d2] }
  | _ => none }
def CongrQuotientsWrongFalsely : Prop := congrQuotientsRow.holds Try.pinned (OpenSpec.ofChange congrQuotientsWrong)

/-- 'semigrouplaw19.CongrGenerates': WHATEVER THE INPUT: true; the input reads as it did. -/
def congrGeneratesSpec : ChangeSpec := { name := "congrGenerates", fn := fun _ => fun
  | [d1, d2, d3] => { results := [.lit (.bool true)], args := [d1, d2, d3] }
  | _ => none }
def congrGeneratesRow : OpenClaim := { program := "yteopelpnpdbbcaa", sum := "911ff0cb0ef5b18b52d28556ebb71853e4b3bb7388e4d7c3289d924d78ebbe29", func := "semigroup/semigrouplaw19.CongrGenerates", spec := "congrGenerates", unfollowed := true, recurses := true, plainKeys := false, apart := false }
def CongrGeneratesSaid : Prop := congrGeneratesRow.holds Try.pinned (OpenSpec.ofChange congrGeneratesSpec)

/-- ITS FALSE NEIGHBOUR: 'it returns false'. Refute it at one input. -/
def congrGeneratesWrong : ChangeSpec := { name := "congrGenerates", fn := fun _ => fun
  | [d1, d2, d3] => { results := [.lit (.bool false)], args := [d1, d2, d3] }
  | _ => none }
def CongrGeneratesWrongFalsely : Prop := congrGeneratesRow.holds Try.pinned (OpenSpec.ofChange congrGeneratesWrong)

/-- 'semigrouplaw19.CongrSpecial': WHATEVER THE INPUT: true; the input reads as it did. -/
def congrSpecialSpec : ChangeSpec := { name := "congrSpecial", fn := fun _ => fun
  | [d1, d2] => { results := [.lit (.bool true)], args := [d1, d2] }
  | _ => none }
def congrSpecialRow : OpenClaim := { program := "yteopelpnpdbbcaa", sum := "911ff0cb0ef5b18b52d28556ebb71853e4b3bb7388e4d7c3289d924d78ebbe29", func := "semigroup/semigrouplaw19.CongrSpecial", spec := "congrSpecial", unfollowed := true, recurses := true, plainKeys := false, apart := false }
def CongrSpecialSaid : Prop := congrSpecialRow.holds Try.pinned (OpenSpec.ofChange congrSpecialSpec)

/-- ITS FALSE NEIGHBOUR: 'it returns false'. Refute it at one input. -/
def congrSpecialWrong : ChangeSpec := { name := "congrSpecial", fn := fun _ => fun
  | [d1, d2] => { results := [.lit (.bool false)], args := [d1, d2] }
  | _ => none }
def CongrSpecialWrongFalsely : Prop := congrSpecialRow.holds Try.pinned (OpenSpec.ofChange congrSpecialWrong)

/-- 'semigrouplaw19.CongrSides': WHATEVER THE INPUT: true; the input reads as it did. -/
def congrSidesSpec : ChangeSpec := { name := "congrSides", fn := fun _ => fun
  | [d1, d2, d3] => { results := [.lit (.bool true)], args := [d1, d2, d3] }
  | _ => none }
def congrSidesRow : OpenClaim := { program := "yteopelpnpdbbcaa", sum := "911ff0cb0ef5b18b52d28556ebb71853e4b3bb7388e4d7c3289d924d78ebbe29", func := "semigroup/semigrouplaw19.CongrSides", spec := "congrSides", unfollowed := true, recurses := true, plainKeys := false, apart := false }
def CongrSidesSaid : Prop := congrSidesRow.holds Try.pinned (OpenSpec.ofChange congrSidesSpec)

/-- ITS FALSE NEIGHBOUR: 'it returns false'. Refute it at one input. -/
def congrSidesWrong : ChangeSpec := { name := "congrSides", fn := fun _ => fun
  | [d1, d2, d3] => { results := [.lit (.bool false)], args := [d1, d2, d3] }
  | _ => none }
def CongrSidesWrongFalsely : Prop := congrSidesRow.holds Try.pinned (OpenSpec.ofChange congrSidesWrong)

/-- 'semigrouplaw19.CongrLeast': WHATEVER THE INPUT: true; the input reads as it did. -/
def congrLeastSpec : ChangeSpec := { name := "congrLeast", fn := fun _ => fun
  | [d1, d2, d3, d4] => { results := [.lit (.bool true)], args := [d1, d2, d3, d4] }
  | _ => none }
def congrLeastRow : OpenClaim := { program := "yteopelpnpdbbcaa", sum := "911ff0cb0ef5b18b52d28556ebb71853e4b3bb7388e4d7c3289d924d78ebbe29", func := "semigroup/semigrouplaw19.CongrLeast", spec := "congrLeast", unfollowed := true, recurses := true, plainKeys := false, apart := false }
def CongrLeastSaid : Prop := congrLeastRow.holds Try.pinned (OpenSpec.ofChange congrLeastSpec)

/-- ITS FALSE NEIGHBOUR: 'it returns false'. Refute it at one input. -/
def congrLeastWrong : ChangeSpec := { name := "congrLeast", fn := fun _ => fun
  | [d1, d2, d3, d4] => { results := [.lit (.bool false)], args := [d1, d2, d3, d4] }
  | _ => none }
def CongrLeastWrongFalsely : Prop := congrLeastRow.holds Try.pinned (OpenSpec.ofChange congrLeastWrong)

/-- 'semigrouplaw19.CongrLattice': WHATEVER THE INPUT: true; the input reads as it did. -/
def congrLatticeSpec : ChangeSpec := { name := "congrLattice", fn := fun _ => fun
  | [d1, d2, d3, d4] => { results := [.lit (.bool true)], args := [d1, d2, d3, d4] }
  | _ => none }
def congrLatticeRow : OpenClaim := { program := "yteopelpnpdbbcaa", sum := "911ff0cb0ef5b18b52d28556ebb71853e4b3bb7388e4d7c3289d924d78ebbe29", func := "semigroup/semigrouplaw19.CongrLattice", spec := "congrLattice", unfollowed := true, recurses := true, plainKeys := false, apart := false }
def CongrLatticeSaid : Prop := congrLatticeRow.holds Try.pinned (OpenSpec.ofChange congrLatticeSpec)

/-- ITS FALSE NEIGHBOUR: 'it returns false'. Refute it at one input. -/
def congrLatticeWrong : ChangeSpec := { name := "congrLattice", fn := fun _ => fun
  | [d1, d2, d3, d4] => { results := [.lit (.bool false)], args := [d1, d2, d3, d4] }
  | _ => none }
def CongrLatticeWrongFalsely : Prop := congrLatticeRow.holds Try.pinned (OpenSpec.ofChange congrLatticeWrong)

/-- 'semigrouplaw19.CongrGreatest': WHATEVER THE INPUT: true; the input reads as it did. -/
def congrGreatestSpec : ChangeSpec := { name := "congrGreatest", fn := fun _ => fun
  | [d1, d2, d3] => { results := [.lit (.bool true)], args := [d1, d2, d3] }
  | _ => none }
def congrGreatestRow : OpenClaim := { program := "yteopelpnpdbbcaa", sum := "911ff0cb0ef5b18b52d28556ebb71853e4b3bb7388e4d7c3289d924d78ebbe29", func := "semigroup/semigrouplaw19.CongrGreatest", spec := "congrGreatest", unfollowed := true, recurses := true, plainKeys := false, apart := false }
def CongrGreatestSaid : Prop := congrGreatestRow.holds Try.pinned (OpenSpec.ofChange congrGreatestSpec)

/-- ITS FALSE NEIGHBOUR: 'it returns false'. Refute it at one input. -/
def congrGreatestWrong : ChangeSpec := { name := "congrGreatest", fn := fun _ => fun
  | [d1, d2, d3] => { results := [.lit (.bool false)], args := [d1, d2, d3] }
  | _ => none }
def CongrGreatestWrongFalsely : Prop := congrGreatestRow.holds Try.pinned (OpenSpec.ofChange congrGreatestWrong)

/-- 'semigrouplaw19.CongrApart': WHATEVER THE INPUT: true; the input reads as it did. -/
def congrApartSpec : ChangeSpec := { name := "congrApart", fn := fun _ => fun
  | [d1, d2] => { results := [.lit (.bool true)], args := [d1, d2] }
  | _ => none }
def congrApartRow : OpenClaim := { program := "yteopelpnpdbbcaa", sum := "911ff0cb0ef5b18b52d28556ebb71853e4b3bb7388e4d7c3289d924d78ebbe29", func := "semigroup/semigrouplaw19.CongrApart", spec := "congrApart", unfollowed := true, recurses := true, plainKeys := false, apart := false }
def CongrApartSaid : Prop := congrApartRow.holds Try.pinned (OpenSpec.ofChange congrApartSpec)

/-- ITS FALSE NEIGHBOUR: 'it returns false'. Refute it at one input. -/
def congrApartWrong : ChangeSpec := { name := "congrApart", fn := fun _ => fun
  | [d1, d2] => { results := [.lit (.bool false)], args := [d1, d2] }
  | _ => none }
def CongrApartWrongFalsely : Prop := congrApartRow.holds Try.pinned (OpenSpec.ofChange congrApartWrong)

/-- 'semigrouplaw19.CongrIdeals': WHATEVER THE INPUT: true; the input reads as it did. -/
def congrIdealsSpec : ChangeSpec := { name := "congrIdeals", fn := fun _ => fun
  | [d1, d2, d3] => { results := [.lit (.bool true)], args := [d1, d2, d3] }
  | _ => none }
def congrIdealsRow : OpenClaim := { program := "yteopelpnpdbbcaa", sum := "911ff0cb0ef5b18b52d28556ebb71853e4b3bb7388e4d7c3289d924d78ebbe29", func := "semigroup/semigrouplaw19.CongrIdeals", spec := "congrIdeals", unfollowed := true, recurses := true, plainKeys := false, apart := false }
def CongrIdealsSaid : Prop := congrIdealsRow.holds Try.pinned (OpenSpec.ofChange congrIdealsSpec)

/-- ITS FALSE NEIGHBOUR: 'it returns false'. Refute it at one input. -/
def congrIdealsWrong : ChangeSpec := { name := "congrIdeals", fn := fun _ => fun
  | [d1, d2, d3] => { results := [.lit (.bool false)], args := [d1, d2, d3] }
  | _ => none }
def CongrIdealsWrongFalsely : Prop := congrIdealsRow.holds Try.pinned (OpenSpec.ofChange congrIdealsWrong)

/-- 'semigrouplaw19.CongrLists': WHATEVER THE INPUT: true; the input reads as it did. -/
def congrListsSpec : ChangeSpec := { name := "congrLists", fn := fun _ => fun
  | [d] => { results := [.lit (.bool true)], args := [d] }
  | _ => none }
def congrListsRow : OpenClaim := { program := "yteopelpnpdbbcaa", sum := "911ff0cb0ef5b18b52d28556ebb71853e4b3bb7388e4d7c3289d924d78ebbe29", func := "semigroup/semigrouplaw19.CongrLists", spec := "congrLists", unfollowed := true, recurses := true, plainKeys := false, apart := false }
def CongrListsSaid : Prop := congrListsRow.holds Try.pinned (OpenSpec.ofChange congrListsSpec)

/-- ITS FALSE NEIGHBOUR: 'it returns false'. Refute it at one input. -/
def congrListsWrong : ChangeSpec := { name := "congrLists", fn := fun _ => fun
  | [d] => { results := [.lit (.bool false)], args := [d] }
  | _ => none }
def CongrListsWrongFalsely : Prop := congrListsRow.holds Try.pinned (OpenSpec.ofChange congrListsWrong)

/-- 'semigrouplaw19.CongrAtoms': WHATEVER THE INPUT: true; the input reads as it did. -/
def congrAtomsSpec : ChangeSpec := { name := "congrAtoms", fn := fun _ => fun
  | [d1, d2, d3] => { results := [.lit (.bool true)], args := [d1, d2, d3] }
  | _ => none }
def congrAtomsRow : OpenClaim := { program := "yteopelpnpdbbcaa", sum := "911ff0cb0ef5b18b52d28556ebb71853e4b3bb7388e4d7c3289d924d78ebbe29", func := "semigroup/semigrouplaw19.CongrAtoms", spec := "congrAtoms", unfollowed := true, recurses := true, plainKeys := false, apart := false }
def CongrAtomsSaid : Prop := congrAtomsRow.holds Try.pinned (OpenSpec.ofChange congrAtomsSpec)

/-- ITS FALSE NEIGHBOUR: 'it returns false'. Refute it at one input. -/
def congrAtomsWrong : ChangeSpec := { name := "congrAtoms", fn := fun _ => fun
  | [d1, d2, d3] => { results := [.lit (.bool false)], args := [d1, d2, d3] }
  | _ => none }
def CongrAtomsWrongFalsely : Prop := congrAtomsRow.holds Try.pinned (OpenSpec.ofChange congrAtomsWrong)

/- THE SECOND FORM. 'bulk': how many values and letters a reading holds, each counted each time it is reached (what is shared counts as often as it is met; a slice's spare places count too). A statement '..UptoSaid' is the law's where the arguments, and the package variables that the reading takes, are together of bulk at most 1048576: NARROWER than '..Said'. Prove '..Said' where nothing that the law and all that it calls make is longer than what came in: it says more and counts as full. Else prove '..UptoSaid'. A law counts once. -/
mutual
def uptoBulk {H : Type} : DataW H → Nat
  | .lit (.string bytes) => bytes.length + 1
  | .lit _ => 1
  | .nil => 1
  | .ptr d => uptoBulk d + 1
  | .slice elems spare => uptoBulkAll elems + uptoBulkAll spare + 1
  | .agg parts => uptoBulkAll parts + 1
  | .iface _ d => uptoBulk d + 1
  | .map entries => uptoBulkEntries entries + 1
  | .held _ => 1
def uptoBulkAll {H : Type} : List (DataW H) → Nat
  | [] => 0
  | d :: r => uptoBulk d + uptoBulkAll r
def uptoBulkEntries {H : Type} : List (Lit × DataW H) → Nat
  | [] => 0
  | x :: r => uptoBulkEntry x + uptoBulkEntries r
def uptoBulkEntry {H : Type} : Lit × DataW H → Nat
  | (.string bytes, d) => bytes.length + uptoBulk d + 1
  | (_, d) => uptoBulk d + 1
 end
def uptoSmall : (H : Type) → List (DataW H) → Bool := fun _ ds => decide (uptoBulkAll ds ≤ 1048576)
def OpenSpec.upto (s : _root_.Go.ChangeSpec) : _root_.Go.OpenSpec := { _root_.Go.OpenSpec.ofChange s with cond := some uptoSmall }

/-- 'semigrouplaw19.CongrSyntactic', WHERE WHAT IT READS IS OF BULK AT MOST 1048576: true; the input reads as it did. -/
def congrSyntacticUptoRow : OpenClaim := { program := "yteopelpnpdbbcaa", sum := "911ff0cb0ef5b18b52d28556ebb71853e4b3bb7388e4d7c3289d924d78ebbe29", func := "semigroup/semigrouplaw19.CongrSyntactic", spec := "congrSyntactic", unfollowed := true, recurses := true, plainKeys := false, apart := false, narrowed := true }
def CongrSyntacticUptoSaid : Prop := congrSyntacticUptoRow.holds Try.pinned (OpenSpec.upto congrSyntacticSpec)

/-- 'semigrouplaw19.CongrQuotients', WHERE WHAT IT READS IS OF BULK AT MOST 1048576: true; the input reads as it did. -/
def congrQuotientsUptoRow : OpenClaim := { program := "yteopelpnpdbbcaa", sum := "911ff0cb0ef5b18b52d28556ebb71853e4b3bb7388e4d7c3289d924d78ebbe29", func := "semigroup/semigrouplaw19.CongrQuotients", spec := "congrQuotients", unfollowed := true, recurses := true, plainKeys := false, apart := false, narrowed := true }
def CongrQuotientsUptoSaid : Prop := congrQuotientsUptoRow.holds Try.pinned (OpenSpec.upto congrQuotientsSpec)

/-- 'semigrouplaw19.CongrGenerates', WHERE WHAT IT READS IS OF BULK AT MOST 1048576: true; the input reads as it did. -/
def congrGeneratesUptoRow : OpenClaim := { program := "yteopelpnpdbbcaa", sum := "911ff0cb0ef5b18b52d28556ebb71853e4b3bb7388e4d7c3289d924d78ebbe29", func := "semigroup/semigrouplaw19.CongrGenerates", spec := "congrGenerates", unfollowed := true, recurses := true, plainKeys := false, apart := false, narrowed := true }
def CongrGeneratesUptoSaid : Prop := congrGeneratesUptoRow.holds Try.pinned (OpenSpec.upto congrGeneratesSpec)

/-- 'semigrouplaw19.CongrSpecial', WHERE WHAT IT READS IS OF BULK AT MOST 1048576: true; the input reads as it did. -/
def congrSpecialUptoRow : OpenClaim := { program := "yteopelpnpdbbcaa", sum := "911ff0cb0ef5b18b52d28556ebb71853e4b3bb7388e4d7c3289d924d78ebbe29", func := "semigroup/semigrouplaw19.CongrSpecial", spec := "congrSpecial", unfollowed := true, recurses := true, plainKeys := false, apart := false, narrowed := true }
def CongrSpecialUptoSaid : Prop := congrSpecialUptoRow.holds Try.pinned (OpenSpec.upto congrSpecialSpec)

/-- 'semigrouplaw19.CongrSides', WHERE WHAT IT READS IS OF BULK AT MOST 1048576: true; the input reads as it did. -/
def congrSidesUptoRow : OpenClaim := { program := "yteopelpnpdbbcaa", sum := "911ff0cb0ef5b18b52d28556ebb71853e4b3bb7388e4d7c3289d924d78ebbe29", func := "semigroup/semigrouplaw19.CongrSides", spec := "congrSides", unfollowed := true, recurses := true, plainKeys := false, apart := false, narrowed := true }
def CongrSidesUptoSaid : Prop := congrSidesUptoRow.holds Try.pinned (OpenSpec.upto congrSidesSpec)

/-- 'semigrouplaw19.CongrLeast', WHERE WHAT IT READS IS OF BULK AT MOST 1048576: true; the input reads as it did. -/
def congrLeastUptoRow : OpenClaim := { program := "yteopelpnpdbbcaa", sum := "911ff0cb0ef5b18b52d28556ebb71853e4b3bb7388e4d7c3289d924d78ebbe29", func := "semigroup/semigrouplaw19.CongrLeast", spec := "congrLeast", unfollowed := true, recurses := true, plainKeys := false, apart := false, narrowed := true }
def CongrLeastUptoSaid : Prop := congrLeastUptoRow.holds Try.pinned (OpenSpec.upto congrLeastSpec)

/-- 'semigrouplaw19.CongrLattice', WHERE WHAT IT READS IS OF BULK AT MOST 1048576: true; the input reads as it did. -/
def congrLatticeUptoRow : OpenClaim := { program := "yteopelpnpdbbcaa", sum := "911ff0cb0ef5b18b52d28556ebb71853e4b3bb7388e4d7c3289d924d78ebbe29", func := "semigroup/semigrouplaw19.CongrLattice", spec := "congrLattice", unfollowed := true, recurses := true, plainKeys := false, apart := false, narrowed := true }
def CongrLatticeUptoSaid : Prop := congrLatticeUptoRow.holds Try.pinned (OpenSpec.upto congrLatticeSpec)

/-- 'semigrouplaw19.CongrGreatest', WHERE WHAT IT READS IS OF BULK AT MOST 1048576: true; the input reads as it did. -/
def congrGreatestUptoRow : OpenClaim := { program := "yteopelpnpdbbcaa", sum := "911ff0cb0ef5b18b52d28556ebb71853e4b3bb7388e4d7c3289d924d78ebbe29", func := "semigroup/semigrouplaw19.CongrGreatest", spec := "congrGreatest", unfollowed := true, recurses := true, plainKeys := false, apart := false, narrowed := true }
def CongrGreatestUptoSaid : Prop := congrGreatestUptoRow.holds Try.pinned (OpenSpec.upto congrGreatestSpec)

/-- 'semigrouplaw19.CongrApart', WHERE WHAT IT READS IS OF BULK AT MOST 1048576: true; the input reads as it did. -/
def congrApartUptoRow : OpenClaim := { program := "yteopelpnpdbbcaa", sum := "911ff0cb0ef5b18b52d28556ebb71853e4b3bb7388e4d7c3289d924d78ebbe29", func := "semigroup/semigrouplaw19.CongrApart", spec := "congrApart", unfollowed := true, recurses := true, plainKeys := false, apart := false, narrowed := true }
def CongrApartUptoSaid : Prop := congrApartUptoRow.holds Try.pinned (OpenSpec.upto congrApartSpec)

/-- 'semigrouplaw19.CongrIdeals', WHERE WHAT IT READS IS OF BULK AT MOST 1048576: true; the input reads as it did. -/
def congrIdealsUptoRow : OpenClaim := { program := "yteopelpnpdbbcaa", sum := "911ff0cb0ef5b18b52d28556ebb71853e4b3bb7388e4d7c3289d924d78ebbe29", func := "semigroup/semigrouplaw19.CongrIdeals", spec := "congrIdeals", unfollowed := true, recurses := true, plainKeys := false, apart := false, narrowed := true }
def CongrIdealsUptoSaid : Prop := congrIdealsUptoRow.holds Try.pinned (OpenSpec.upto congrIdealsSpec)

/-- 'semigrouplaw19.CongrLists', WHERE WHAT IT READS IS OF BULK AT MOST 1048576: true; the input reads as it did. -/
def congrListsUptoRow : OpenClaim := { program := "yteopelpnpdbbcaa", sum := "911ff0cb0ef5b18b52d28556ebb71853e4b3bb7388e4d7c3289d924d78ebbe29", func := "semigroup/semigrouplaw19.CongrLists", spec := "congrLists", unfollowed := true, recurses := true, plainKeys := false, apart := false, narrowed := true }
def CongrListsUptoSaid : Prop := congrListsUptoRow.holds Try.pinned (OpenSpec.upto congrListsSpec)

/-- 'semigrouplaw19.CongrAtoms', WHERE WHAT IT READS IS OF BULK AT MOST 1048576: true; the input reads as it did. -/
def congrAtomsUptoRow : OpenClaim := { program := "yteopelpnpdbbcaa", sum := "911ff0cb0ef5b18b52d28556ebb71853e4b3bb7388e4d7c3289d924d78ebbe29", func := "semigroup/semigrouplaw19.CongrAtoms", spec := "congrAtoms", unfollowed := true, recurses := true, plainKeys := false, apart := false, narrowed := true }
def CongrAtomsUptoSaid : Prop := congrAtomsUptoRow.holds Try.pinned (OpenSpec.upto congrAtomsSpec)

end Rows
end Go.Proofs.Yteopelpnpdbbcaa
