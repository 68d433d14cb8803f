/-
  No cell of these rows narrows 'for every input' (looked for: loops, veiled, ifaces, maps, wideKeys, modest, calm, conditions, laid).
  DERIVED. THE GIVEN ROWS OF THIS SEAT. 3 by the template 'for every input the law returns true; each argument reads behind the call as it read before'; 0 by the template 'total and deterministic' (their statements: YtpanlghofeebhaaTotals.lean).
  GIVEN WITH THE SEED: the statements are not yours to turn. If you find one false, say at which input.
  Laid BY PROGRAM, IN A SANDBOX (cutbox-rows.mjs): the forced cells as the released guide's own fill.sh prints them over the translation 2f1f804fca93ec5d… (all of the seat's roots in one cut). By AI agents, Wed Nov 11 2026. No macro, syntax, notation, axiom, sorry.
-/
import Derived.Test.YtpanlghofeebhaaChecked
import GoSem.Claim
import GoSem.ClaimJoined
import GoSem.ClaimMapViews
import Derived.JoinedTies
import Derived.KernelRfl
namespace Go.Proofs.Ytpanlghofeebhaa
/- THE CELL 'sum', in the pinned program and in every row, IS THE sha256 OF THE DUMP (.gsa) THAT YtpanlghofeebhaaProg.lean LOADS. Nothing in Lean hashes anything: it is a label: what it is worth is what the hold of that sum in a sandbox is worth. -/
noncomputable def Try.pinned : Pinned := { name := "ytpanlghofeebhaa", sum := "2f1f804fca93ec5d57f127378d8a1ea35a2b8a100adf1cc52b162f66d8052570", checked := Try.checked }
namespace Rows
def none {H : Type} : Left H := { results := [], args := [] }

/-- 'semigrouplaw17.ReesTurned': WHATEVER THE INPUT: true; the input reads as it did. -/
def reesTurnedSpec : ChangeSpec := { name := "reesTurned", fn := fun _ => fun
  | [d1, d2, d3, d4, d5] => { results := [.lit (.bool true)], args := [d1, d2, d3, d4, d5] }
  | _ => none }
def reesTurnedRow : OpenClaim := { program := "ytpanlghofeebhaa", sum := "2f1f804fca93ec5d57f127378d8a1ea35a2b8a100adf1cc52b162f66d8052570", func := "semigroup/semigrouplaw17.ReesTurned", spec := "reesTurned", unfollowed := true, recurses := true, plainKeys := false, apart := false }
def ReesTurnedSaid : Prop := reesTurnedRow.holds Try.pinned (OpenSpec.ofChange reesTurnedSpec)

/-- ITS FALSE NEIGHBOUR: 'it returns false'. Refute it at one input. -/
def reesTurnedWrong : ChangeSpec := { name := "reesTurned", fn := fun _ => fun
  | [d1, d2, d3, d4, d5] => { results := [.lit (.bool false)], args := [d1, d2, d3, d4, d5] }
  | _ => none }
def ReesTurnedWrongFalsely : Prop := reesTurnedRow.holds Try.pinned (OpenSpec.ofChange reesTurnedWrong)

/-- 'semigrouplaw19.CongrLattice': WHATEVER THE INPUT: true; the input reads as it did. -/
def congrLatticeSpec : ChangeSpec := { name := "congrLattice", fn := fun _ => fun
  | [d1, d2, d3, d4] => { results := [.lit (.bool true)], args := [d1, d2, d3, d4] }
  | _ => none }
def congrLatticeRow : OpenClaim := { program := "ytpanlghofeebhaa", sum := "2f1f804fca93ec5d57f127378d8a1ea35a2b8a100adf1cc52b162f66d8052570", func := "semigroup/semigrouplaw19.CongrLattice", spec := "congrLattice", unfollowed := true, recurses := true, plainKeys := false, apart := false }
def CongrLatticeSaid : Prop := congrLatticeRow.holds Try.pinned (OpenSpec.ofChange congrLatticeSpec)

/-- ITS FALSE NEIGHBOUR: 'it returns false'. Refute it at one input. -/
def congrLatticeWrong : ChangeSpec := { name := "congrLattice", fn := fun _ => fun
  | [d1, d2, d3, d4] => { results := [.lit (.bool false)], args := [d1, d2, d3, d4] }
  | _ => none }
def CongrLatticeWrongFalsely : Prop := congrLatticeRow.holds Try.pinned (OpenSpec.ofChange congrLatticeWrong)

/-- 'semigrouplaw19.CongrLists': WHATEVER THE INPUT: true; the input reads as it did. -/
def congrListsSpec : ChangeSpec := { name := "congrLists", fn := fun _ => fun
  | [d] => { results := [.lit (.bool true)], args := [d] }
  | _ => none }
def congrListsRow : OpenClaim := { program := "ytpanlghofeebhaa", sum := "2f1f804fca93ec5d57f127378d8a1ea35a2b8a100adf1cc52b162f66d8052570", func := "semigroup/semigrouplaw19.CongrLists", spec := "congrLists", unfollowed := true, recurses := true, plainKeys := false, apart := false }
def CongrListsSaid : Prop := congrListsRow.holds Try.pinned (OpenSpec.ofChange congrListsSpec)

/-- ITS FALSE NEIGHBOUR: 'it returns false'. Refute it at one input. -/
def congrListsWrong : ChangeSpec := { name := "congrLists", fn := fun _ => fun
  | [d] => { results := [.lit (.bool false)], args := [d] }
  | _ => none }
def CongrListsWrongFalsely : Prop := congrListsRow.holds Try.pinned (OpenSpec.ofChange congrListsWrong)

/- THE SECOND FORM. 'bulk': how many values and letters a reading holds, each counted each time it is reached (what is shared counts as often as it is met; a slice's spare places count too). A statement '..UptoSaid' is the law's where the arguments, and the package variables that the reading takes, are together of bulk at most 1048576: NARROWER than '..Said'. Prove '..Said' where nothing that the law and all that it calls make is longer than what came in: it says more and counts as full. Else prove '..UptoSaid'. A law counts once. -/
mutual
def uptoBulk {H : Type} : DataW H → Nat
  | .lit (.string bytes) => bytes.length + 1
  | .lit _ => 1
  | .nil => 1
  | .ptr d => uptoBulk d + 1
  | .slice elems spare => uptoBulkAll elems + uptoBulkAll spare + 1
  | .agg parts => uptoBulkAll parts + 1
  | .iface _ d => uptoBulk d + 1
  | .map entries => uptoBulkEntries entries + 1
  | .held _ => 1
def uptoBulkAll {H : Type} : List (DataW H) → Nat
  | [] => 0
  | d :: r => uptoBulk d + uptoBulkAll r
def uptoBulkEntries {H : Type} : List (Lit × DataW H) → Nat
  | [] => 0
  | x :: r => uptoBulkEntry x + uptoBulkEntries r
def uptoBulkEntry {H : Type} : Lit × DataW H → Nat
  | (.string bytes, d) => bytes.length + uptoBulk d + 1
  | (_, d) => uptoBulk d + 1
 end
def uptoSmall : (H : Type) → List (DataW H) → Bool := fun _ ds => decide (uptoBulkAll ds ≤ 1048576)
def OpenSpec.upto (s : _root_.Go.ChangeSpec) : _root_.Go.OpenSpec := { _root_.Go.OpenSpec.ofChange s with cond := some uptoSmall }

/-- 'semigrouplaw17.ReesTurned', WHERE WHAT IT READS IS OF BULK AT MOST 1048576: true; the input reads as it did. -/
def reesTurnedUptoRow : OpenClaim := { program := "ytpanlghofeebhaa", sum := "2f1f804fca93ec5d57f127378d8a1ea35a2b8a100adf1cc52b162f66d8052570", func := "semigroup/semigrouplaw17.ReesTurned", spec := "reesTurned", unfollowed := true, recurses := true, plainKeys := false, apart := false, narrowed := true }
def ReesTurnedUptoSaid : Prop := reesTurnedUptoRow.holds Try.pinned (OpenSpec.upto reesTurnedSpec)

/-- 'semigrouplaw19.CongrLattice', WHERE WHAT IT READS IS OF BULK AT MOST 1048576: true; the input reads as it did. -/
def congrLatticeUptoRow : OpenClaim := { program := "ytpanlghofeebhaa", sum := "2f1f804fca93ec5d57f127378d8a1ea35a2b8a100adf1cc52b162f66d8052570", func := "semigroup/semigrouplaw19.CongrLattice", spec := "congrLattice", unfollowed := true, recurses := true, plainKeys := false, apart := false, narrowed := true }
def CongrLatticeUptoSaid : Prop := congrLatticeUptoRow.holds Try.pinned (OpenSpec.upto congrLatticeSpec)

/-- 'semigrouplaw19.CongrLists', WHERE WHAT IT READS IS OF BULK AT MOST 1048576: true; the input reads as it did. -/
def congrListsUptoRow : OpenClaim := { program := "ytpanlghofeebhaa", sum := "2f1f804fca93ec5d57f127378d8a1ea35a2b8a100adf1cc52b162f66d8052570", func := "semigroup/semigrouplaw19.CongrLists", spec := "congrLists", unfollowed := true, recurses := true, plainKeys := false, apart := false, narrowed := true }
def CongrListsUptoSaid : Prop := congrListsUptoRow.holds Try.pinned (OpenSpec.upto congrListsSpec)

end Rows
end Go.Proofs.Ytpanlghofeebhaa
