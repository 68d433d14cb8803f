/-
  No cell of these rows narrows 'for every input' (looked for: loops, veiled, ifaces, maps, wideKeys, modest, calm, conditions, laid).
  DERIVED. THE GIVEN ROWS OF THIS SEAT. 7 by the template 'for every input the law returns true; each argument reads behind the call as it read before'; 0 by the template 'total and deterministic' (their statements: YtkbhgnbnnbengaaTotals.lean).
  GIVEN WITH THE SEED: the statements are not yours to turn. If you find one false, say at which input.
  Laid BY PROGRAM, IN A SANDBOX (cutbox-rows.mjs): the forced cells as the released guide's own fill.sh prints them over the translation e76c02f424273998… (all of the seat's roots in one cut). By AI agents, Wed Nov 11 2026. No macro, syntax, notation, axiom, sorry.
-/
import Derived.Test.YtkbhgnbnnbengaaChecked
import GoSem.Claim
import GoSem.ClaimJoined
import GoSem.ClaimMapViews
import Derived.JoinedTies
import Derived.KernelRfl
namespace Go.Proofs.Ytkbhgnbnnbengaa
/- THE CELL 'sum', in the pinned program and in every row, IS THE sha256 OF THE DUMP (.gsa) THAT YtkbhgnbnnbengaaProg.lean LOADS. Nothing in Lean hashes anything: it is a label: what it is worth is what the hold of that sum in a sandbox is worth. -/
noncomputable def Try.pinned : Pinned := { name := "ytkbhgnbnnbengaa", sum := "e76c02f42427399894c1de0e216b5ea2bfd5d9728993e373f7695f4e0805ac03", checked := Try.checked }
namespace Rows
def none {H : Type} : Left H := { results := [], args := [] }

/-- 'semigrouplaw22.SubdirectIrreducible': WHATEVER THE INPUT: true; the input reads as it did. -/
def subdirectIrreducibleSpec : ChangeSpec := { name := "subdirectIrreducible", fn := fun _ => fun
  | [d] => { results := [.lit (.bool true)], args := [d] }
  | _ => none }
def subdirectIrreducibleRow : OpenClaim := { program := "ytkbhgnbnnbengaa", sum := "e76c02f42427399894c1de0e216b5ea2bfd5d9728993e373f7695f4e0805ac03", func := "semigroup/semigrouplaw22.SubdirectIrreducible", spec := "subdirectIrreducible", unfollowed := true, recurses := true, plainKeys := false, apart := false }
def SubdirectIrreducibleSaid : Prop := subdirectIrreducibleRow.holds Try.pinned (OpenSpec.ofChange subdirectIrreducibleSpec)

/-- ITS FALSE NEIGHBOUR: 'it returns false'. Refute it at one input. -/
def subdirectIrreducibleWrong : ChangeSpec := { name := "subdirectIrreducible", fn := fun _ => fun
  | [d] => { results := [.lit (.bool false)], args := [d] }
  | _ => none }
def SubdirectIrreducibleWrongFalsely : Prop := subdirectIrreducibleRow.holds Try.pinned (OpenSpec.ofChange subdirectIrreducibleWrong)

/-- 'semigrouplaw22.SubdirectChecks': WHATEVER THE INPUT: true; the input reads as it did. -/
def subdirectChecksSpec : ChangeSpec := { name := "subdirectChecks", fn := fun _ => fun
  | [d1, d2] => { results := [.lit (.bool true)], args := [d1, d2] }
  | _ => none }
def subdirectChecksRow : OpenClaim := { program := "ytkbhgnbnnbengaa", sum := "e76c02f42427399894c1de0e216b5ea2bfd5d9728993e373f7695f4e0805ac03", func := "semigroup/semigrouplaw22.SubdirectChecks", spec := "subdirectChecks", unfollowed := true, recurses := true, plainKeys := false, apart := false }
def SubdirectChecksSaid : Prop := subdirectChecksRow.holds Try.pinned (OpenSpec.ofChange subdirectChecksSpec)

/-- ITS FALSE NEIGHBOUR: 'it returns false'. Refute it at one input. -/
def subdirectChecksWrong : ChangeSpec := { name := "subdirectChecks", fn := fun _ => fun
  | [d1, d2] => { results := [.lit (.bool false)], args := [d1, d2] }
  | _ => none }
def SubdirectChecksWrongFalsely : Prop := subdirectChecksRow.holds Try.pinned (OpenSpec.ofChange subdirectChecksWrong)

/-- 'semigrouplaw22.SubdirectDecomposes': WHATEVER THE INPUT: true; the input reads as it did. -/
def subdirectDecomposesSpec : ChangeSpec := { name := "subdirectDecomposes", fn := fun _ => fun
  | [d] => { results := [.lit (.bool true)], args := [d] }
  | _ => none }
def subdirectDecomposesRow : OpenClaim := { program := "ytkbhgnbnnbengaa", sum := "e76c02f42427399894c1de0e216b5ea2bfd5d9728993e373f7695f4e0805ac03", func := "semigroup/semigrouplaw22.SubdirectDecomposes", spec := "subdirectDecomposes", unfollowed := true, recurses := true, plainKeys := false, apart := false }
def SubdirectDecomposesSaid : Prop := subdirectDecomposesRow.holds Try.pinned (OpenSpec.ofChange subdirectDecomposesSpec)

/-- ITS FALSE NEIGHBOUR: 'it returns false'. Refute it at one input. -/
def subdirectDecomposesWrong : ChangeSpec := { name := "subdirectDecomposes", fn := fun _ => fun
  | [d] => { results := [.lit (.bool false)], args := [d] }
  | _ => none }
def SubdirectDecomposesWrongFalsely : Prop := subdirectDecomposesRow.holds Try.pinned (OpenSpec.ofChange subdirectDecomposesWrong)

/-- 'semigrouplaw22.SubdirectTurned': WHATEVER THE INPUT: true; the input reads as it did. -/
def subdirectTurnedSpec : ChangeSpec := { name := "subdirectTurned", fn := fun _ => fun
  | [d1, d2, d3, d4] => { results := [.lit (.bool true)], args := [d1, d2, d3, d4] }
  | _ => none }
def subdirectTurnedRow : OpenClaim := { program := "ytkbhgnbnnbengaa", sum := "e76c02f42427399894c1de0e216b5ea2bfd5d9728993e373f7695f4e0805ac03", func := "semigroup/semigrouplaw22.SubdirectTurned", spec := "subdirectTurned", unfollowed := true, recurses := true, plainKeys := false, apart := false }
def SubdirectTurnedSaid : Prop := subdirectTurnedRow.holds Try.pinned (OpenSpec.ofChange subdirectTurnedSpec)

/-- ITS FALSE NEIGHBOUR: 'it returns false'. Refute it at one input. -/
def subdirectTurnedWrong : ChangeSpec := { name := "subdirectTurned", fn := fun _ => fun
  | [d1, d2, d3, d4] => { results := [.lit (.bool false)], args := [d1, d2, d3, d4] }
  | _ => none }
def SubdirectTurnedWrongFalsely : Prop := subdirectTurnedRow.holds Try.pinned (OpenSpec.ofChange subdirectTurnedWrong)

/-- 'semigrouplaw22.SubdirectProducts': WHATEVER THE INPUT: true; the input reads as it did. -/
def subdirectProductsSpec : ChangeSpec := { name := "subdirectProducts", fn := fun _ => fun
  | [d1, d2] => { results := [.lit (.bool true)], args := [d1, d2] }
  | _ => none }
def subdirectProductsRow : OpenClaim := { program := "ytkbhgnbnnbengaa", sum := "e76c02f42427399894c1de0e216b5ea2bfd5d9728993e373f7695f4e0805ac03", func := "semigroup/semigrouplaw22.SubdirectProducts", spec := "subdirectProducts", unfollowed := true, recurses := true, plainKeys := false, apart := false }
def SubdirectProductsSaid : Prop := subdirectProductsRow.holds Try.pinned (OpenSpec.ofChange subdirectProductsSpec)

/-- ITS FALSE NEIGHBOUR: 'it returns false'. Refute it at one input. -/
def subdirectProductsWrong : ChangeSpec := { name := "subdirectProducts", fn := fun _ => fun
  | [d1, d2] => { results := [.lit (.bool false)], args := [d1, d2] }
  | _ => none }
def SubdirectProductsWrongFalsely : Prop := subdirectProductsRow.holds Try.pinned (OpenSpec.ofChange subdirectProductsWrong)

/-- 'semigrouplaw22.SubdirectEmbeds': WHATEVER THE INPUT: true; the input reads as it did. -/
def subdirectEmbedsSpec : ChangeSpec := { name := "subdirectEmbeds", fn := fun _ => fun
  | [d1, d2] => { results := [.lit (.bool true)], args := [d1, d2] }
  | _ => none }
def subdirectEmbedsRow : OpenClaim := { program := "ytkbhgnbnnbengaa", sum := "e76c02f42427399894c1de0e216b5ea2bfd5d9728993e373f7695f4e0805ac03", func := "semigroup/semigrouplaw22.SubdirectEmbeds", spec := "subdirectEmbeds", unfollowed := true, recurses := true, plainKeys := false, apart := false }
def SubdirectEmbedsSaid : Prop := subdirectEmbedsRow.holds Try.pinned (OpenSpec.ofChange subdirectEmbedsSpec)

/-- ITS FALSE NEIGHBOUR: 'it returns false'. Refute it at one input. -/
def subdirectEmbedsWrong : ChangeSpec := { name := "subdirectEmbeds", fn := fun _ => fun
  | [d1, d2] => { results := [.lit (.bool false)], args := [d1, d2] }
  | _ => none }
def SubdirectEmbedsWrongFalsely : Prop := subdirectEmbedsRow.holds Try.pinned (OpenSpec.ofChange subdirectEmbedsWrong)

/-- 'semigrouplaw22.SubdirectPrime': WHATEVER THE INPUT: true; the input reads as it did. -/
def subdirectPrimeSpec : ChangeSpec := { name := "subdirectPrime", fn := fun _ => fun
  | [d1, d2, d3] => { results := [.lit (.bool true)], args := [d1, d2, d3] }
  | _ => none }
def subdirectPrimeRow : OpenClaim := { program := "ytkbhgnbnnbengaa", sum := "e76c02f42427399894c1de0e216b5ea2bfd5d9728993e373f7695f4e0805ac03", func := "semigroup/semigrouplaw22.SubdirectPrime", spec := "subdirectPrime", unfollowed := true, recurses := true, plainKeys := false, apart := false }
def SubdirectPrimeSaid : Prop := subdirectPrimeRow.holds Try.pinned (OpenSpec.ofChange subdirectPrimeSpec)

/-- ITS FALSE NEIGHBOUR: 'it returns false'. Refute it at one input. -/
def subdirectPrimeWrong : ChangeSpec := { name := "subdirectPrime", fn := fun _ => fun
  | [d1, d2, d3] => { results := [.lit (.bool false)], args := [d1, d2, d3] }
  | _ => none }
def SubdirectPrimeWrongFalsely : Prop := subdirectPrimeRow.holds Try.pinned (OpenSpec.ofChange subdirectPrimeWrong)

/- THE SECOND FORM. 'bulk': how many values and letters a reading holds, each counted each time it is reached (what is shared counts as often as it is met; a slice's spare places count too). A statement '..UptoSaid' is the law's where the arguments, and the package variables that the reading takes, are together of bulk at most 1048576: NARROWER than '..Said'. Prove '..Said' where nothing that the law and all that it calls make is longer than what came in: it says more and counts as full. Else prove '..UptoSaid'. A law counts once. -/
mutual
def uptoBulk {H : Type} : DataW H → Nat
  | .lit (.string bytes) => bytes.length + 1
  | .lit _ => 1
  | .nil => 1
  | .ptr d => uptoBulk d + 1
  | .slice elems spare => uptoBulkAll elems + uptoBulkAll spare + 1
  | .agg parts => uptoBulkAll parts + 1
  | .iface _ d => uptoBulk d + 1
  | .map entries => uptoBulkEntries entries + 1
  | .held _ => 1
def uptoBulkAll {H : Type} : List (DataW H) → Nat
  | [] => 0
  | d :: r => uptoBulk d + uptoBulkAll r
def uptoBulkEntries {H : Type} : List (Lit × DataW H) → Nat
  | [] => 0
  | x :: r => uptoBulkEntry x + uptoBulkEntries r
def uptoBulkEntry {H : Type} : Lit × DataW H → Nat
  | (.string bytes, d) => bytes.length + uptoBulk d + 1
  | (_, d) => uptoBulk d + 1
 end
def uptoSmall : (H : Type) → List (DataW H) → Bool := fun _ ds => decide (uptoBulkAll ds ≤ 1048576)
def OpenSpec.upto (s : _root_.Go.ChangeSpec) : _root_.Go.OpenSpec := { _root_.Go.OpenSpec.ofChange s with cond := some uptoSmall }

/-- 'semigrouplaw22.SubdirectIrreducible', WHERE WHAT IT READS IS OF BULK AT MOST 1048576: true; the input reads as it did. -/
def subdirectIrreducibleUptoRow : OpenClaim := { program := "ytkbhgnbnnbengaa", sum := "e76c02f42427399894c1de0e216b5ea2bfd5d9728993e373f7695f4e0805ac03", func := "semigroup/semigrouplaw22.SubdirectIrreducible", spec := "subdirectIrreducible", unfollowed := true, recurses := true, plainKeys := false, apart := false, narrowed := true }
def SubdirectIrreducibleUptoSaid : Prop := subdirectIrreducibleUptoRow.holds Try.pinned (OpenSpec.upto subdirectIrreducibleSpec)

/-- 'semigrouplaw22.SubdirectChecks', WHERE WHAT IT READS IS OF BULK AT MOST 1048576: true; the input reads as it did. -/
def subdirectChecksUptoRow : OpenClaim := { program := "ytkbhgnbnnbengaa", sum := "e76c02f42427399894c1de0e216b5ea2bfd5d9728993e373f7695f4e0805ac03", func := "semigroup/semigrouplaw22.SubdirectChecks", spec := "subdirectChecks", unfollowed := true, recurses := true, plainKeys := false, apart := false, narrowed := true }
def SubdirectChecksUptoSaid : Prop := subdirectChecksUptoRow.holds Try.pinned (OpenSpec.upto subdirectChecksSpec)

/-- 'semigrouplaw22.SubdirectDecomposes', WHERE WHAT IT READS IS OF BULK AT MOST 1048576: true; the input reads as it did. -/
def subdirectDecomposesUptoRow : OpenClaim := { program := "ytkbhgnbnnbengaa", sum := "e76c02f42427399894c1de0e216b5ea2bfd5d9728993e373f7695f4e0805ac03", func := "semigroup/semigrouplaw22.SubdirectDecomposes", spec := "subdirectDecomposes", unfollowed := true, recurses := true, plainKeys := false, apart := false, narrowed := true }
def SubdirectDecomposesUptoSaid : Prop := subdirectDecomposesUptoRow.holds Try.pinned (OpenSpec.upto subdirectDecomposesSpec)

/-- 'semigrouplaw22.SubdirectTurned', WHERE WHAT IT READS IS OF BULK AT MOST 1048576: true; the input reads as it did. -/
def subdirectTurnedUptoRow : OpenClaim := { program := "ytkbhgnbnnbengaa", sum := "e76c02f42427399894c1de0e216b5ea2bfd5d9728993e373f7695f4e0805ac03", func := "semigroup/semigrouplaw22.SubdirectTurned", spec := "subdirectTurned", unfollowed := true, recurses := true, plainKeys := false, apart := false, narrowed := true }
def SubdirectTurnedUptoSaid : Prop := subdirectTurnedUptoRow.holds Try.pinned (OpenSpec.upto subdirectTurnedSpec)

/-- 'semigrouplaw22.SubdirectProducts', WHERE WHAT IT READS IS OF BULK AT MOST 1048576: true; the input reads as it did. -/
def subdirectProductsUptoRow : OpenClaim := { program := "ytkbhgnbnnbengaa", sum := "e76c02f42427399894c1de0e216b5ea2bfd5d9728993e373f7695f4e0805ac03", func := "semigroup/semigrouplaw22.SubdirectProducts", spec := "subdirectProducts", unfollowed := true, recurses := true, plainKeys := false, apart := false, narrowed := true }
def SubdirectProductsUptoSaid : Prop := subdirectProductsUptoRow.holds Try.pinned (OpenSpec.upto subdirectProductsSpec)

/-- 'semigrouplaw22.SubdirectEmbeds', WHERE WHAT IT READS IS OF BULK AT MOST 1048576: true; the input reads as it did. -/
def subdirectEmbedsUptoRow : OpenClaim := { program := "ytkbhgnbnnbengaa", sum := "e76c02f42427399894c1de0e216b5ea2bfd5d9728993e373f7695f4e0805ac03", func := "semigroup/semigrouplaw22.SubdirectEmbeds", spec := "subdirectEmbeds", unfollowed := true, recurses := true, plainKeys := false, apart := false, narrowed := true }
def SubdirectEmbedsUptoSaid : Prop := subdirectEmbedsUptoRow.holds Try.pinned (OpenSpec.upto subdirectEmbedsSpec)

/-- 'semigrouplaw22.SubdirectPrime', WHERE WHAT IT READS IS OF BULK AT MOST 1048576: true; the input reads as it did. -/
def subdirectPrimeUptoRow : OpenClaim := { program := "ytkbhgnbnnbengaa", sum := "e76c02f42427399894c1de0e216b5ea2bfd5d9728993e373f7695f4e0805ac03", func := "semigroup/semigrouplaw22.SubdirectPrime", spec := "subdirectPrime", unfollowed := true, recurses := true, plainKeys := false, apart := false, narrowed := true }
def SubdirectPrimeUptoSaid : Prop := subdirectPrimeUptoRow.holds Try.pinned (OpenSpec.upto subdirectPrimeSpec)

end Rows
end Go.Proofs.Ytkbhgnbnnbengaa
