/-
  No cell of these rows narrows 'for every input' (looked for: loops, veiled, ifaces, maps, wideKeys, modest, calm, conditions, laid).
  DERIVED. THE GIVEN ROWS OF THIS SEAT. 9 by the template 'for every input the law returns true; each argument reads behind the call as it read before'; 0 by the template 'total and deterministic' (their statements: YtdmfhcppdpcceaaTotals.lean).
  GIVEN WITH THE SEED: the statements are not yours to turn. If you find one false, say at which input.
  Laid BY PROGRAM, IN A SANDBOX (cutbox-rows.mjs): the forced cells as the released guide's own fill.sh prints them over the translation 70cbd05ad7a7c0e8… (all of the seat's roots in one cut). By AI agents, Wed Nov 11 2026. No macro, syntax, notation, axiom, sorry.
-/
import Derived.Test.YtdmfhcppdpcceaaChecked
import GoSem.Claim
import GoSem.ClaimJoined
import GoSem.ClaimMapViews
import Derived.JoinedTies
import Derived.KernelRfl
namespace Go.Proofs.Ytdmfhcppdpcceaa
/- THE CELL 'sum', in the pinned program and in every row, IS THE sha256 OF THE DUMP (.gsa) THAT YtdmfhcppdpcceaaProg.lean LOADS. Nothing in Lean hashes anything: it is a label: what it is worth is what the hold of that sum in a sandbox is worth. -/
noncomputable def Try.pinned : Pinned := { name := "ytdmfhcppdpcceaa", sum := "70cbd05ad7a7c0e85347c0c68e278df7a0f9a9e41f34f6abce2e321db555ccf9", checked := Try.checked }
namespace Rows
def none {H : Type} : Left H := { results := [], args := [] }

/-- 'semigrouplaw18.IdealLists': WHATEVER THE INPUT: true; the input reads as it did. -/
def idealListsSpec : ChangeSpec := { name := "idealLists", fn := fun _ => fun
  | [d] => { results := [.lit (.bool true)], args := [d] }
  | _ => none }
def idealListsRow : OpenClaim := { program := "ytdmfhcppdpcceaa", sum := "70cbd05ad7a7c0e85347c0c68e278df7a0f9a9e41f34f6abce2e321db555ccf9", func := "semigroup/semigrouplaw18.IdealLists", spec := "idealLists", unfollowed := true, recurses := true, plainKeys := false, apart := false }
def IdealListsSaid : Prop := idealListsRow.holds Try.pinned (OpenSpec.ofChange idealListsSpec)

/-- ITS FALSE NEIGHBOUR: 'it returns false'. Refute it at one input. -/
def idealListsWrong : ChangeSpec := { name := "idealLists", fn := fun _ => fun
  | [d] => { results := [.lit (.bool false)], args := [d] }
  | _ => none }
def IdealListsWrongFalsely : Prop := idealListsRow.holds Try.pinned (OpenSpec.ofChange idealListsWrong)

/-- 'semigrouplaw18.IdealRecognizes': WHATEVER THE INPUT: true; the input reads as it did. -/
def idealRecognizesSpec : ChangeSpec := { name := "idealRecognizes", fn := fun _ => fun
  | [d1, d2] => { results := [.lit (.bool true)], args := [d1, d2] }
  | _ => none }
def idealRecognizesRow : OpenClaim := { program := "ytdmfhcppdpcceaa", sum := "70cbd05ad7a7c0e85347c0c68e278df7a0f9a9e41f34f6abce2e321db555ccf9", func := "semigroup/semigrouplaw18.IdealRecognizes", spec := "idealRecognizes", unfollowed := true, recurses := true, plainKeys := false, apart := false }
def IdealRecognizesSaid : Prop := idealRecognizesRow.holds Try.pinned (OpenSpec.ofChange idealRecognizesSpec)

/-- ITS FALSE NEIGHBOUR: 'it returns false'. Refute it at one input. -/
def idealRecognizesWrong : ChangeSpec := { name := "idealRecognizes", fn := fun _ => fun
  | [d1, d2] => { results := [.lit (.bool false)], args := [d1, d2] }
  | _ => none }
def IdealRecognizesWrongFalsely : Prop := idealRecognizesRow.holds Try.pinned (OpenSpec.ofChange idealRecognizesWrong)

/-- 'semigrouplaw18.IdealLattice': WHATEVER THE INPUT: true; the input reads as it did. -/
def idealLatticeSpec : ChangeSpec := { name := "idealLattice", fn := fun _ => fun
  | [d1, d2, d3, d4] => { results := [.lit (.bool true)], args := [d1, d2, d3, d4] }
  | _ => none }
def idealLatticeRow : OpenClaim := { program := "ytdmfhcppdpcceaa", sum := "70cbd05ad7a7c0e85347c0c68e278df7a0f9a9e41f34f6abce2e321db555ccf9", func := "semigroup/semigrouplaw18.IdealLattice", spec := "idealLattice", unfollowed := true, recurses := true, plainKeys := false, apart := false }
def IdealLatticeSaid : Prop := idealLatticeRow.holds Try.pinned (OpenSpec.ofChange idealLatticeSpec)

/-- ITS FALSE NEIGHBOUR: 'it returns false'. Refute it at one input. -/
def idealLatticeWrong : ChangeSpec := { name := "idealLattice", fn := fun _ => fun
  | [d1, d2, d3, d4] => { results := [.lit (.bool false)], args := [d1, d2, d3, d4] }
  | _ => none }
def IdealLatticeWrongFalsely : Prop := idealLatticeRow.holds Try.pinned (OpenSpec.ofChange idealLatticeWrong)

/-- 'semigrouplaw18.IdealGenerates': WHATEVER THE INPUT: true; the input reads as it did. -/
def idealGeneratesSpec : ChangeSpec := { name := "idealGenerates", fn := fun _ => fun
  | [d1, d2] => { results := [.lit (.bool true)], args := [d1, d2] }
  | _ => none }
def idealGeneratesRow : OpenClaim := { program := "ytdmfhcppdpcceaa", sum := "70cbd05ad7a7c0e85347c0c68e278df7a0f9a9e41f34f6abce2e321db555ccf9", func := "semigroup/semigrouplaw18.IdealGenerates", spec := "idealGenerates", unfollowed := true, recurses := true, plainKeys := false, apart := false }
def IdealGeneratesSaid : Prop := idealGeneratesRow.holds Try.pinned (OpenSpec.ofChange idealGeneratesSpec)

/-- ITS FALSE NEIGHBOUR: 'it returns false'. Refute it at one input. -/
def idealGeneratesWrong : ChangeSpec := { name := "idealGenerates", fn := fun _ => fun
  | [d1, d2] => { results := [.lit (.bool false)], args := [d1, d2] }
  | _ => none }
def IdealGeneratesWrongFalsely : Prop := idealGeneratesRow.holds Try.pinned (OpenSpec.ofChange idealGeneratesWrong)

/-- 'semigrouplaw18.IdealQuotients': WHATEVER THE INPUT: true; the input reads as it did. -/
def idealQuotientsSpec : ChangeSpec := { name := "idealQuotients", fn := fun _ => fun
  | [d1, d2] => { results := [.lit (.bool true)], args := [d1, d2] }
  | _ => none }
def idealQuotientsRow : OpenClaim := { program := "ytdmfhcppdpcceaa", sum := "70cbd05ad7a7c0e85347c0c68e278df7a0f9a9e41f34f6abce2e321db555ccf9", func := "semigroup/semigrouplaw18.IdealQuotients", spec := "idealQuotients", unfollowed := true, recurses := true, plainKeys := false, apart := false }
def IdealQuotientsSaid : Prop := idealQuotientsRow.holds Try.pinned (OpenSpec.ofChange idealQuotientsSpec)

/-- ITS FALSE NEIGHBOUR: 'it returns false'. Refute it at one input. -/
def idealQuotientsWrong : ChangeSpec := { name := "idealQuotients", fn := fun _ => fun
  | [d1, d2] => { results := [.lit (.bool false)], args := [d1, d2] }
  | _ => none }
def IdealQuotientsWrongFalsely : Prop := idealQuotientsRow.holds Try.pinned (OpenSpec.ofChange idealQuotientsWrong)

/-- 'semigrouplaw18.IdealKernel': WHATEVER THE INPUT: true; the input reads as it did. -/
def idealKernelSpec : ChangeSpec := { name := "idealKernel", fn := fun _ => fun
  | [d] => { results := [.lit (.bool true)], args := [d] }
  | _ => none }
def idealKernelRow : OpenClaim := { program := "ytdmfhcppdpcceaa", sum := "70cbd05ad7a7c0e85347c0c68e278df7a0f9a9e41f34f6abce2e321db555ccf9", func := "semigroup/semigrouplaw18.IdealKernel", spec := "idealKernel", unfollowed := true, recurses := true, plainKeys := false, apart := false }
def IdealKernelSaid : Prop := idealKernelRow.holds Try.pinned (OpenSpec.ofChange idealKernelSpec)

/-- ITS FALSE NEIGHBOUR: 'it returns false'. Refute it at one input. -/
def idealKernelWrong : ChangeSpec := { name := "idealKernel", fn := fun _ => fun
  | [d] => { results := [.lit (.bool false)], args := [d] }
  | _ => none }
def IdealKernelWrongFalsely : Prop := idealKernelRow.holds Try.pinned (OpenSpec.ofChange idealKernelWrong)

/-- 'semigrouplaw18.IdealCollapses': WHATEVER THE INPUT: true; the input reads as it did. -/
def idealCollapsesSpec : ChangeSpec := { name := "idealCollapses", fn := fun _ => fun
  | [d1, d2] => { results := [.lit (.bool true)], args := [d1, d2] }
  | _ => none }
def idealCollapsesRow : OpenClaim := { program := "ytdmfhcppdpcceaa", sum := "70cbd05ad7a7c0e85347c0c68e278df7a0f9a9e41f34f6abce2e321db555ccf9", func := "semigroup/semigrouplaw18.IdealCollapses", spec := "idealCollapses", unfollowed := true, recurses := true, plainKeys := false, apart := false }
def IdealCollapsesSaid : Prop := idealCollapsesRow.holds Try.pinned (OpenSpec.ofChange idealCollapsesSpec)

/-- ITS FALSE NEIGHBOUR: 'it returns false'. Refute it at one input. -/
def idealCollapsesWrong : ChangeSpec := { name := "idealCollapses", fn := fun _ => fun
  | [d1, d2] => { results := [.lit (.bool false)], args := [d1, d2] }
  | _ => none }
def IdealCollapsesWrongFalsely : Prop := idealCollapsesRow.holds Try.pinned (OpenSpec.ofChange idealCollapsesWrong)

/-- 'semigrouplaw18.IdealSeries': WHATEVER THE INPUT: true; the input reads as it did. -/
def idealSeriesSpec : ChangeSpec := { name := "idealSeries", fn := fun _ => fun
  | [d] => { results := [.lit (.bool true)], args := [d] }
  | _ => none }
def idealSeriesRow : OpenClaim := { program := "ytdmfhcppdpcceaa", sum := "70cbd05ad7a7c0e85347c0c68e278df7a0f9a9e41f34f6abce2e321db555ccf9", func := "semigroup/semigrouplaw18.IdealSeries", spec := "idealSeries", unfollowed := true, recurses := true, plainKeys := false, apart := false }
def IdealSeriesSaid : Prop := idealSeriesRow.holds Try.pinned (OpenSpec.ofChange idealSeriesSpec)

/-- ITS FALSE NEIGHBOUR: 'it returns false'. Refute it at one input. -/
def idealSeriesWrong : ChangeSpec := { name := "idealSeries", fn := fun _ => fun
  | [d] => { results := [.lit (.bool false)], args := [d] }
  | _ => none }
def IdealSeriesWrongFalsely : Prop := idealSeriesRow.holds Try.pinned (OpenSpec.ofChange idealSeriesWrong)

/-- 'semigrouplaw18.IdealClimbs': WHATEVER THE INPUT: true; the input reads as it did. -/
def idealClimbsSpec : ChangeSpec := { name := "idealClimbs", fn := fun _ => fun
  | [d] => { results := [.lit (.bool true)], args := [d] }
  | _ => none }
def idealClimbsRow : OpenClaim := { program := "ytdmfhcppdpcceaa", sum := "70cbd05ad7a7c0e85347c0c68e278df7a0f9a9e41f34f6abce2e321db555ccf9", func := "semigroup/semigrouplaw18.IdealClimbs", spec := "idealClimbs", unfollowed := true, recurses := true, plainKeys := false, apart := false }
def IdealClimbsSaid : Prop := idealClimbsRow.holds Try.pinned (OpenSpec.ofChange idealClimbsSpec)

/-- ITS FALSE NEIGHBOUR: 'it returns false'. Refute it at one input. -/
def idealClimbsWrong : ChangeSpec := { name := "idealClimbs", fn := fun _ => fun
  | [d] => { results := [.lit (.bool false)], args := [d] }
  | _ => none }
def IdealClimbsWrongFalsely : Prop := idealClimbsRow.holds Try.pinned (OpenSpec.ofChange idealClimbsWrong)

/- THE SECOND FORM. 'bulk': how many values and letters a reading holds, each counted each time it is reached (what is shared counts as often as it is met; a slice's spare places count too). A statement '..UptoSaid' is the law's where the arguments, and the package variables that the reading takes, are together of bulk at most 1048576: NARROWER than '..Said'. Prove '..Said' where nothing that the law and all that it calls make is longer than what came in: it says more and counts as full. Else prove '..UptoSaid'. A law counts once. -/
mutual
def uptoBulk {H : Type} : DataW H → Nat
  | .lit (.string bytes) => bytes.length + 1
  | .lit _ => 1
  | .nil => 1
  | .ptr d => uptoBulk d + 1
  | .slice elems spare => uptoBulkAll elems + uptoBulkAll spare + 1
  | .agg parts => uptoBulkAll parts + 1
  | .iface _ d => uptoBulk d + 1
  | .map entries => uptoBulkEntries entries + 1
  | .held _ => 1
def uptoBulkAll {H : Type} : List (DataW H) → Nat
  | [] => 0
  | d :: r => uptoBulk d + uptoBulkAll r
def uptoBulkEntries {H : Type} : List (Lit × DataW H) → Nat
  | [] => 0
  | x :: r => uptoBulkEntry x + uptoBulkEntries r
def uptoBulkEntry {H : Type} : Lit × DataW H → Nat
  | (.string bytes, d) => bytes.length + uptoBulk d + 1
  | (_, d) => uptoBulk d + 1
 end
def uptoSmall : (H : Type) → List (DataW H) → Bool := fun _ ds => decide (uptoBulkAll ds ≤ 1048576)
def OpenSpec.upto (s : _root_.Go.ChangeSpec) : _root_.Go.OpenSpec := { _root_.Go.OpenSpec.ofChange s with cond := some uptoSmall }

/-- 'semigrouplaw18.IdealLists', WHERE WHAT IT READS IS OF BULK AT MOST 1048576: true; the input reads as it did. -/
def idealListsUptoRow : OpenClaim := { program := "ytdmfhcppdpcceaa", sum := "70cbd05ad7a7c0e85347c0c68e278df7a0f9a9e41f34f6abce2e321db555ccf9", func := "semigroup/semigrouplaw18.IdealLists", spec := "idealLists", unfollowed := true, recurses := true, plainKeys := false, apart := false, narrowed := true }
def IdealListsUptoSaid : Prop := idealListsUptoRow.holds Try.pinned (OpenSpec.upto idealListsSpec)

/-- 'semigrouplaw18.IdealRecognizes', WHERE WHAT IT READS IS OF BULK AT MOST 1048576: true; the input reads as it did. -/
def idealRecognizesUptoRow : OpenClaim := { program := "ytdmfhcppdpcceaa", sum := "70cbd05ad7a7c0e85347c0c68e278df7a0f9a9e41f34f6abce2e321db555ccf9", func := "semigroup/semigrouplaw18.IdealRecognizes", spec := "idealRecognizes", unfollowed := true, recurses := true, plainKeys := false, apart := false, narrowed := true }
def IdealRecognizesUptoSaid : Prop := idealRecognizesUptoRow.holds Try.pinned (OpenSpec.upto idealRecognizesSpec)

/-- 'semigrouplaw18.IdealLattice', WHERE WHAT IT READS IS OF BULK AT MOST 1048576: true; the input reads as it did. -/
def idealLatticeUptoRow : OpenClaim := { program := "ytdmfhcppdpcceaa", sum := "70cbd05ad7a7c0e85347c0c68e278df7a0f9a9e41f34f6abce2e321db555ccf9", func := "semigroup/semigrouplaw18.IdealLattice", spec := "idealLattice", unfollowed := true, recurses := true, plainKeys := false, apart := false, narrowed := true }
def IdealLatticeUptoSaid : Prop := idealLatticeUptoRow.holds Try.pinned (OpenSpec.upto idealLatticeSpec)

/-- 'semigrouplaw18.IdealGenerates', WHERE WHAT IT READS IS OF BULK AT MOST 1048576: true; the input reads as it did. -/
def idealGeneratesUptoRow : OpenClaim := { program := "ytdmfhcppdpcceaa", sum := "70cbd05ad7a7c0e85347c0c68e278df7a0f9a9e41f34f6abce2e321db555ccf9", func := "semigroup/semigrouplaw18.IdealGenerates", spec := "idealGenerates", unfollowed := true, recurses := true, plainKeys := false, apart := false, narrowed := true }
def IdealGeneratesUptoSaid : Prop := idealGeneratesUptoRow.holds Try.pinned (OpenSpec.upto idealGeneratesSpec)

/-- 'semigrouplaw18.IdealQuotients', WHERE WHAT IT READS IS OF BULK AT MOST 1048576: true; the input reads as it did. -/
def idealQuotientsUptoRow : OpenClaim := { program := "ytdmfhcppdpcceaa", sum := "70cbd05ad7a7c0e85347c0c68e278df7a0f9a9e41f34f6abce2e321db555ccf9", func := "semigroup/semigrouplaw18.IdealQuotients", spec := "idealQuotients", unfollowed := true, recurses := true, plainKeys := false, apart := false, narrowed := true }
def IdealQuotientsUptoSaid : Prop := idealQuotientsUptoRow.holds Try.pinned (OpenSpec.upto idealQuotientsSpec)

/-- 'semigrouplaw18.IdealKernel', WHERE WHAT IT READS IS OF BULK AT MOST 1048576: true; the input reads as it did. -/
def idealKernelUptoRow : OpenClaim := { program := "ytdmfhcppdpcceaa", sum := "70cbd05ad7a7c0e85347c0c68e278df7a0f9a9e41f34f6abce2e321db555ccf9", func := "semigroup/semigrouplaw18.IdealKernel", spec := "idealKernel", unfollowed := true, recurses := true, plainKeys := false, apart := false, narrowed := true }
def IdealKernelUptoSaid : Prop := idealKernelUptoRow.holds Try.pinned (OpenSpec.upto idealKernelSpec)

/-- 'semigrouplaw18.IdealCollapses', WHERE WHAT IT READS IS OF BULK AT MOST 1048576: true; the input reads as it did. -/
def idealCollapsesUptoRow : OpenClaim := { program := "ytdmfhcppdpcceaa", sum := "70cbd05ad7a7c0e85347c0c68e278df7a0f9a9e41f34f6abce2e321db555ccf9", func := "semigroup/semigrouplaw18.IdealCollapses", spec := "idealCollapses", unfollowed := true, recurses := true, plainKeys := false, apart := false, narrowed := true }
def IdealCollapsesUptoSaid : Prop := idealCollapsesUptoRow.holds Try.pinned (OpenSpec.upto idealCollapsesSpec)

/-- 'semigrouplaw18.IdealSeries', WHERE WHAT IT READS IS OF BULK AT MOST 1048576: true; the input reads as it did. -/
def idealSeriesUptoRow : OpenClaim := { program := "ytdmfhcppdpcceaa", sum := "70cbd05ad7a7c0e85347c0c68e278df7a0f9a9e41f34f6abce2e321db555ccf9", func := "semigroup/semigrouplaw18.IdealSeries", spec := "idealSeries", unfollowed := true, recurses := true, plainKeys := false, apart := false, narrowed := true }
def IdealSeriesUptoSaid : Prop := idealSeriesUptoRow.holds Try.pinned (OpenSpec.upto idealSeriesSpec)

/-- 'semigrouplaw18.IdealClimbs', WHERE WHAT IT READS IS OF BULK AT MOST 1048576: true; the input reads as it did. -/
def idealClimbsUptoRow : OpenClaim := { program := "ytdmfhcppdpcceaa", sum := "70cbd05ad7a7c0e85347c0c68e278df7a0f9a9e41f34f6abce2e321db555ccf9", func := "semigroup/semigrouplaw18.IdealClimbs", spec := "idealClimbs", unfollowed := true, recurses := true, plainKeys := false, apart := false, narrowed := true }
def IdealClimbsUptoSaid : Prop := idealClimbsUptoRow.holds Try.pinned (OpenSpec.upto idealClimbsSpec)

end Rows
end Go.Proofs.Ytdmfhcppdpcceaa
