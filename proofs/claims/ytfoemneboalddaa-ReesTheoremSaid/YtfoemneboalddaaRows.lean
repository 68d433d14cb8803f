/-
  No cell of these rows narrows 'for every input' (looked for: loops, veiled, ifaces, maps, wideKeys, modest, calm, conditions, laid).
  DERIVED. THE GIVEN ROWS OF THIS SEAT. 3 by the template 'for every input the law returns true; each argument reads behind the call as it read before'; 0 by the template 'total and deterministic' (their statements: YtfoemneboalddaaTotals.lean).
  GIVEN WITH THE SEED: the statements are not yours to turn. If you find one false, say at which input.
  Laid BY PROGRAM, IN A SANDBOX (cutbox-rows.mjs): the forced cells as the released guide's own fill.sh prints them over the translation 3624ebef8cb8e56e… (all of the seat's roots in one cut). By AI agents, Wed Nov 11 2026. No macro, syntax, notation, axiom, sorry.
-/
import Derived.Test.YtfoemneboalddaaChecked
import GoSem.Claim
import GoSem.ClaimJoined
import GoSem.ClaimMapViews
import Derived.JoinedTies
import Derived.KernelRfl
namespace Go.Proofs.Ytfoemneboalddaa
/- THE CELL 'sum', in the pinned program and in every row, IS THE sha256 OF THE DUMP (.gsa) THAT YtfoemneboalddaaProg.lean LOADS. Nothing in Lean hashes anything: it is a label: what it is worth is what the hold of that sum in a sandbox is worth. -/
noncomputable def Try.pinned : Pinned := { name := "ytfoemneboalddaa", sum := "3624ebef8cb8e56ed182feee66921b9751aeffb566f03faa86cbc7ab95733927", checked := Try.checked }
namespace Rows
def none {H : Type} : Left H := { results := [], args := [] }

/-- 'semigrouplaw17.ReesCoordinates': WHATEVER THE INPUT: true; the input reads as it did. -/
def reesCoordinatesSpec : ChangeSpec := { name := "reesCoordinates", fn := fun _ => fun
  | [d1, d2] => { results := [.lit (.bool true)], args := [d1, d2] }
  | _ => none }
def reesCoordinatesRow : OpenClaim := { program := "ytfoemneboalddaa", sum := "3624ebef8cb8e56ed182feee66921b9751aeffb566f03faa86cbc7ab95733927", func := "semigroup/semigrouplaw17.ReesCoordinates", spec := "reesCoordinates", unfollowed := true, recurses := true, plainKeys := false, apart := false }
def ReesCoordinatesSaid : Prop := reesCoordinatesRow.holds Try.pinned (OpenSpec.ofChange reesCoordinatesSpec)

/-- ITS FALSE NEIGHBOUR: 'it returns false'. Refute it at one input. -/
def reesCoordinatesWrong : ChangeSpec := { name := "reesCoordinates", fn := fun _ => fun
  | [d1, d2] => { results := [.lit (.bool false)], args := [d1, d2] }
  | _ => none }
def ReesCoordinatesWrongFalsely : Prop := reesCoordinatesRow.holds Try.pinned (OpenSpec.ofChange reesCoordinatesWrong)

/-- 'semigrouplaw17.ReesTurned': WHATEVER THE INPUT: true; the input reads as it did. -/
def reesTurnedSpec : ChangeSpec := { name := "reesTurned", fn := fun _ => fun
  | [d1, d2, d3, d4, d5] => { results := [.lit (.bool true)], args := [d1, d2, d3, d4, d5] }
  | _ => none }
def reesTurnedRow : OpenClaim := { program := "ytfoemneboalddaa", sum := "3624ebef8cb8e56ed182feee66921b9751aeffb566f03faa86cbc7ab95733927", func := "semigroup/semigrouplaw17.ReesTurned", spec := "reesTurned", unfollowed := true, recurses := true, plainKeys := false, apart := false }
def ReesTurnedSaid : Prop := reesTurnedRow.holds Try.pinned (OpenSpec.ofChange reesTurnedSpec)

/-- ITS FALSE NEIGHBOUR: 'it returns false'. Refute it at one input. -/
def reesTurnedWrong : ChangeSpec := { name := "reesTurned", fn := fun _ => fun
  | [d1, d2, d3, d4, d5] => { results := [.lit (.bool false)], args := [d1, d2, d3, d4, d5] }
  | _ => none }
def ReesTurnedWrongFalsely : Prop := reesTurnedRow.holds Try.pinned (OpenSpec.ofChange reesTurnedWrong)

/-- 'semigrouplaw17.ReesTheorem': WHATEVER THE INPUT: true; the input reads as it did. -/
def reesTheoremSpec : ChangeSpec := { name := "reesTheorem", fn := fun _ => fun
  | [d] => { results := [.lit (.bool true)], args := [d] }
  | _ => none }
def reesTheoremRow : OpenClaim := { program := "ytfoemneboalddaa", sum := "3624ebef8cb8e56ed182feee66921b9751aeffb566f03faa86cbc7ab95733927", func := "semigroup/semigrouplaw17.ReesTheorem", spec := "reesTheorem", unfollowed := true, recurses := true, plainKeys := false, apart := false }
def ReesTheoremSaid : Prop := reesTheoremRow.holds Try.pinned (OpenSpec.ofChange reesTheoremSpec)

/-- ITS FALSE NEIGHBOUR: 'it returns false'. Refute it at one input. -/
def reesTheoremWrong : ChangeSpec := { name := "reesTheorem", fn := fun _ => fun
  | [d] => { results := [.lit (.bool false)], args := [d] }
  | _ => none }
def ReesTheoremWrongFalsely : Prop := reesTheoremRow.holds Try.pinned (OpenSpec.ofChange reesTheoremWrong)

/- THE SECOND FORM. 'bulk': how many values and letters a reading holds, each counted each time it is reached (what is shared counts as often as it is met; a slice's spare places count too). A statement '..UptoSaid' is the law's where the arguments, and the package variables that the reading takes, are together of bulk at most 1048576: NARROWER than '..Said'. Prove '..Said' where nothing that the law and all that it calls make is longer than what came in: it says more and counts as full. Else prove '..UptoSaid'. A law counts once. -/
mutual
def uptoBulk {H : Type} : DataW H → Nat
  | .lit (.string bytes) => bytes.length + 1
  | .lit _ => 1
  | .nil => 1
  | .ptr d => uptoBulk d + 1
  | .slice elems spare => uptoBulkAll elems + uptoBulkAll spare + 1
  | .agg parts => uptoBulkAll parts + 1
  | .iface _ d => uptoBulk d + 1
  | .map entries => uptoBulkEntries entries + 1
  | .held _ => 1
def uptoBulkAll {H : Type} : List (DataW H) → Nat
  | [] => 0
  | d :: r => uptoBulk d + uptoBulkAll r
def uptoBulkEntries {H : Type} : List (Lit × DataW H) → Nat
  | [] => 0
  | x :: r => uptoBulkEntry x + uptoBulkEntries r
def uptoBulkEntry {H : Type} : Lit × DataW H → Nat
  | (.string bytes, d) => bytes.length + uptoBulk d + 1
  | (_, d) => uptoBulk d + 1
 end
def uptoSmall : (H : Type) → List (DataW H) → Bool := fun _ ds => decide (uptoBulkAll ds ≤ 1048576)
def OpenSpec.upto (s : _root_.Go.ChangeSpec) : _root_.Go.OpenSpec := { _root_.Go.OpenSpec.ofChange s with cond := some uptoSmall }

/-- 'semigrouplaw17.ReesCoordinates', WHERE WHAT IT READS IS OF BULK AT MOST 1048576: true; the input reads as it did. -/
def reesCoordinatesUptoRow : OpenClaim := { program := "ytfoemneboalddaa", sum := "3624ebef8cb8e56ed182feee66921b9751aeffb566f03faa86cbc7ab95733927", func := "semigroup/semigrouplaw17.ReesCoordinates", spec := "reesCoordinates", unfollowed := true, recurses := true, plainKeys := false, apart := false, narrowed := true }
def ReesCoordinatesUptoSaid : Prop := reesCoordinatesUptoRow.holds Try.pinned (OpenSpec.upto reesCoordinatesSpec)

/-- 'semigrouplaw17.ReesTurned', WHERE WHAT IT READS IS OF BULK AT MOST 1048576: true; the input reads as it did. -/
def reesTurnedUptoRow : OpenClaim := { program := "ytfoemneboalddaa", sum := "3624ebef8cb8e56ed182feee66921b9751aeffb566f03faa86cbc7ab95733927", func := "semigroup/semigrouplaw17.ReesTurned", spec := "reesTurned", unfollowed := true, recurses := true, plainKeys := false, apart := false, narrowed := true }
def ReesTurnedUptoSaid : Prop := reesTurnedUptoRow.holds Try.pinned (OpenSpec.upto reesTurnedSpec)

/-- 'semigrouplaw17.ReesTheorem', WHERE WHAT IT READS IS OF BULK AT MOST 1048576: true; the input reads as it did. -/
def reesTheoremUptoRow : OpenClaim := { program := "ytfoemneboalddaa", sum := "3624ebef8cb8e56ed182feee66921b9751aeffb566f03faa86cbc7ab95733927", func := "semigroup/semigrouplaw17.ReesTheorem", spec := "reesTheorem", unfollowed := true, recurses := true, plainKeys := false, apart := false, narrowed := true }
def ReesTheoremUptoSaid : Prop := reesTheoremUptoRow.holds Try.pinned (OpenSpec.upto reesTheoremSpec)

end Rows
end Go.Proofs.Ytfoemneboalddaa
