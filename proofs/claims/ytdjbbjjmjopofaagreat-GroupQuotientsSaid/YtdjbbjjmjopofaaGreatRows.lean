/-
  No cell of these rows narrows 'for every input' (looked for: loops, veiled, ifaces, maps, wideKeys, modest, calm, conditions, laid).
  DERIVED. THE GIVEN ROWS OF THIS SEAT. 12 by the template 'for every input the law returns true; each argument reads behind the call as it read before'; 0 by the template 'total and deterministic' (their statements: YtdjbbjjmjopofaaGreatTotals.lean).
  GIVEN WITH THE SEED: the statements are not yours to turn. If you find one false, say at which input.
  Laid BY PROGRAM, IN A SANDBOX (cutbox-rows.mjs): the forced cells as the released guide's own fill.sh prints them over the translation 327b9c49412fd9af… (all of the seat's roots in one cut). By AI agents, Wed Nov 11 2026. No macro, syntax, notation, axiom, sorry.
-/
import Derived.Test.YtdjbbjjmjopofaaGreatChecked
import GoSem.Claim
import GoSem.ClaimJoined
import GoSem.ClaimMapViews
import Derived.JoinedTies
import Derived.KernelRfl
namespace Go.Proofs.YtdjbbjjmjopofaaGreat
/- THE CELL 'sum', in the pinned program and in every row, IS THE sha256 OF THE DUMP (.gsa) THAT YtdjbbjjmjopofaaGreatProg.lean LOADS. Nothing in Lean hashes anything: it is a label: what it is worth is what the hold of that sum in a sandbox is worth. -/
noncomputable def Tryz.pinned : Pinned := { name := "ytdjbbjjmjopofaagreat", sum := "327b9c49412fd9afa3dc87388e1a279f0be28092befef3e02f4442ef6b76618b", checked := Tryz.checked }
namespace Rows
def none {H : Type} : Left H := { results := [], args := [] }

/-- 'semigrouplaw16.GroupElements': WHATEVER THE INPUT: true; the input reads as it did. -/
def groupElementsSpec : ChangeSpec := { name := "groupElements", fn := fun _ => fun
  | [d1, d2] => { results := [.lit (.bool true)], args := [d1, d2] }
  | _ => none }
def groupElementsRow : OpenClaim := { program := "ytdjbbjjmjopofaagreat", sum := "327b9c49412fd9afa3dc87388e1a279f0be28092befef3e02f4442ef6b76618b", func := "semigroup/semigrouplaw16.GroupElements", spec := "groupElements", unfollowed := true, recurses := true, plainKeys := false, apart := false }
def GroupElementsSaid : Prop := groupElementsRow.holds Tryz.pinned (OpenSpec.ofChange groupElementsSpec)

/-- ITS FALSE NEIGHBOUR: 'it returns false'. Refute it at one input. -/
def groupElementsWrong : ChangeSpec := { name := "groupElements", fn := fun _ => fun
  | [d1, d2] => { results := [.lit (.bool false)], args := [d1, d2] }
  | _ => none }
def GroupElementsWrongFalsely : Prop := groupElementsRow.holds Tryz.pinned (OpenSpec.ofChange groupElementsWrong)

/-- 'semigrouplaw16.GroupSolves': WHATEVER THE INPUT: true; the input reads as it did. -/
def groupSolvesSpec : ChangeSpec := { name := "groupSolves", fn := fun _ => fun
  | [d] => { results := [.lit (.bool true)], args := [d] }
  | _ => none }
def groupSolvesRow : OpenClaim := { program := "ytdjbbjjmjopofaagreat", sum := "327b9c49412fd9afa3dc87388e1a279f0be28092befef3e02f4442ef6b76618b", func := "semigroup/semigrouplaw16.GroupSolves", spec := "groupSolves", unfollowed := true, recurses := true, plainKeys := false, apart := false }
def GroupSolvesSaid : Prop := groupSolvesRow.holds Tryz.pinned (OpenSpec.ofChange groupSolvesSpec)

/-- ITS FALSE NEIGHBOUR: 'it returns false'. Refute it at one input. -/
def groupSolvesWrong : ChangeSpec := { name := "groupSolves", fn := fun _ => fun
  | [d] => { results := [.lit (.bool false)], args := [d] }
  | _ => none }
def GroupSolvesWrongFalsely : Prop := groupSolvesRow.holds Tryz.pinned (OpenSpec.ofChange groupSolvesWrong)

/-- 'semigrouplaw16.GroupClosures': WHATEVER THE INPUT: true; the input reads as it did. -/
def groupClosuresSpec : ChangeSpec := { name := "groupClosures", fn := fun _ => fun
  | [d1, d2] => { results := [.lit (.bool true)], args := [d1, d2] }
  | _ => none }
def groupClosuresRow : OpenClaim := { program := "ytdjbbjjmjopofaagreat", sum := "327b9c49412fd9afa3dc87388e1a279f0be28092befef3e02f4442ef6b76618b", func := "semigroup/semigrouplaw16.GroupClosures", spec := "groupClosures", unfollowed := true, recurses := true, plainKeys := false, apart := false }
def GroupClosuresSaid : Prop := groupClosuresRow.holds Tryz.pinned (OpenSpec.ofChange groupClosuresSpec)

/-- ITS FALSE NEIGHBOUR: 'it returns false'. Refute it at one input. -/
def groupClosuresWrong : ChangeSpec := { name := "groupClosures", fn := fun _ => fun
  | [d1, d2] => { results := [.lit (.bool false)], args := [d1, d2] }
  | _ => none }
def GroupClosuresWrongFalsely : Prop := groupClosuresRow.holds Tryz.pinned (OpenSpec.ofChange groupClosuresWrong)

/-- 'semigrouplaw16.GroupSubgroups': WHATEVER THE INPUT: true; the input reads as it did. -/
def groupSubgroupsSpec : ChangeSpec := { name := "groupSubgroups", fn := fun _ => fun
  | [d1, d2] => { results := [.lit (.bool true)], args := [d1, d2] }
  | _ => none }
def groupSubgroupsRow : OpenClaim := { program := "ytdjbbjjmjopofaagreat", sum := "327b9c49412fd9afa3dc87388e1a279f0be28092befef3e02f4442ef6b76618b", func := "semigroup/semigrouplaw16.GroupSubgroups", spec := "groupSubgroups", unfollowed := true, recurses := true, plainKeys := false, apart := false }
def GroupSubgroupsSaid : Prop := groupSubgroupsRow.holds Tryz.pinned (OpenSpec.ofChange groupSubgroupsSpec)

/-- ITS FALSE NEIGHBOUR: 'it returns false'. Refute it at one input. -/
def groupSubgroupsWrong : ChangeSpec := { name := "groupSubgroups", fn := fun _ => fun
  | [d1, d2] => { results := [.lit (.bool false)], args := [d1, d2] }
  | _ => none }
def GroupSubgroupsWrongFalsely : Prop := groupSubgroupsRow.holds Tryz.pinned (OpenSpec.ofChange groupSubgroupsWrong)

/-- 'semigrouplaw16.GroupNormals': WHATEVER THE INPUT: true; the input reads as it did. -/
def groupNormalsSpec : ChangeSpec := { name := "groupNormals", fn := fun _ => fun
  | [d] => { results := [.lit (.bool true)], args := [d] }
  | _ => none }
def groupNormalsRow : OpenClaim := { program := "ytdjbbjjmjopofaagreat", sum := "327b9c49412fd9afa3dc87388e1a279f0be28092befef3e02f4442ef6b76618b", func := "semigroup/semigrouplaw16.GroupNormals", spec := "groupNormals", unfollowed := true, recurses := true, plainKeys := false, apart := false }
def GroupNormalsSaid : Prop := groupNormalsRow.holds Tryz.pinned (OpenSpec.ofChange groupNormalsSpec)

/-- ITS FALSE NEIGHBOUR: 'it returns false'. Refute it at one input. -/
def groupNormalsWrong : ChangeSpec := { name := "groupNormals", fn := fun _ => fun
  | [d] => { results := [.lit (.bool false)], args := [d] }
  | _ => none }
def GroupNormalsWrongFalsely : Prop := groupNormalsRow.holds Tryz.pinned (OpenSpec.ofChange groupNormalsWrong)

/-- 'semigrouplaw16.GroupSeries': WHATEVER THE INPUT: true; the input reads as it did. -/
def groupSeriesSpec : ChangeSpec := { name := "groupSeries", fn := fun _ => fun
  | [d1, d2] => { results := [.lit (.bool true)], args := [d1, d2] }
  | _ => none }
def groupSeriesRow : OpenClaim := { program := "ytdjbbjjmjopofaagreat", sum := "327b9c49412fd9afa3dc87388e1a279f0be28092befef3e02f4442ef6b76618b", func := "semigroup/semigrouplaw16.GroupSeries", spec := "groupSeries", unfollowed := true, recurses := true, plainKeys := false, apart := false }
def GroupSeriesSaid : Prop := groupSeriesRow.holds Tryz.pinned (OpenSpec.ofChange groupSeriesSpec)

/-- ITS FALSE NEIGHBOUR: 'it returns false'. Refute it at one input. -/
def groupSeriesWrong : ChangeSpec := { name := "groupSeries", fn := fun _ => fun
  | [d1, d2] => { results := [.lit (.bool false)], args := [d1, d2] }
  | _ => none }
def GroupSeriesWrongFalsely : Prop := groupSeriesRow.holds Tryz.pinned (OpenSpec.ofChange groupSeriesWrong)

/-- 'semigrouplaw16.GroupHoelder': WHATEVER THE INPUT: true; the input reads as it did. -/
def groupHoelderSpec : ChangeSpec := { name := "groupHoelder", fn := fun _ => fun
  | [d1, d2] => { results := [.lit (.bool true)], args := [d1, d2] }
  | _ => none }
def groupHoelderRow : OpenClaim := { program := "ytdjbbjjmjopofaagreat", sum := "327b9c49412fd9afa3dc87388e1a279f0be28092befef3e02f4442ef6b76618b", func := "semigroup/semigrouplaw16.GroupHoelder", spec := "groupHoelder", unfollowed := true, recurses := true, plainKeys := false, apart := false }
def GroupHoelderSaid : Prop := groupHoelderRow.holds Tryz.pinned (OpenSpec.ofChange groupHoelderSpec)

/-- ITS FALSE NEIGHBOUR: 'it returns false'. Refute it at one input. -/
def groupHoelderWrong : ChangeSpec := { name := "groupHoelder", fn := fun _ => fun
  | [d1, d2] => { results := [.lit (.bool false)], args := [d1, d2] }
  | _ => none }
def GroupHoelderWrongFalsely : Prop := groupHoelderRow.holds Tryz.pinned (OpenSpec.ofChange groupHoelderWrong)

/-- 'semigrouplaw16.GroupActs': WHATEVER THE INPUT: true; the input reads as it did. -/
def groupActsSpec : ChangeSpec := { name := "groupActs", fn := fun _ => fun
  | [d1, d2, d3, d4] => { results := [.lit (.bool true)], args := [d1, d2, d3, d4] }
  | _ => none }
def groupActsRow : OpenClaim := { program := "ytdjbbjjmjopofaagreat", sum := "327b9c49412fd9afa3dc87388e1a279f0be28092befef3e02f4442ef6b76618b", func := "semigroup/semigrouplaw16.GroupActs", spec := "groupActs", unfollowed := true, recurses := true, plainKeys := false, apart := false }
def GroupActsSaid : Prop := groupActsRow.holds Tryz.pinned (OpenSpec.ofChange groupActsSpec)

/-- ITS FALSE NEIGHBOUR: 'it returns false'. Refute it at one input. -/
def groupActsWrong : ChangeSpec := { name := "groupActs", fn := fun _ => fun
  | [d1, d2, d3, d4] => { results := [.lit (.bool false)], args := [d1, d2, d3, d4] }
  | _ => none }
def GroupActsWrongFalsely : Prop := groupActsRow.holds Tryz.pinned (OpenSpec.ofChange groupActsWrong)

/-- 'semigrouplaw16.GroupQuotients': WHATEVER THE INPUT: true; the input reads as it did. -/
def groupQuotientsSpec : ChangeSpec := { name := "groupQuotients", fn := fun _ => fun
  | [d1, d2] => { results := [.lit (.bool true)], args := [d1, d2] }
  | _ => none }
def groupQuotientsRow : OpenClaim := { program := "ytdjbbjjmjopofaagreat", sum := "327b9c49412fd9afa3dc87388e1a279f0be28092befef3e02f4442ef6b76618b", func := "semigroup/semigrouplaw16.GroupQuotients", spec := "groupQuotients", unfollowed := true, recurses := true, plainKeys := false, apart := false }
def GroupQuotientsSaid : Prop := groupQuotientsRow.holds Tryz.pinned (OpenSpec.ofChange groupQuotientsSpec)

/-- ITS FALSE NEIGHBOUR: 'it returns false'. Refute it at one input. -/
def groupQuotientsWrong : ChangeSpec := { name := "groupQuotients", fn := fun _ => fun
  | [d1, d2] => { results := [.lit (.bool false)], args := [d1, d2] }
  | _ => none }
def GroupQuotientsWrongFalsely : Prop := groupQuotientsRow.holds Tryz.pinned (OpenSpec.ofChange groupQuotientsWrong)

/-- 'semigrouplaw16.GroupLists': WHATEVER THE INPUT: true; the input reads as it did. -/
def groupListsSpec : ChangeSpec := { name := "groupLists", fn := fun _ => fun
  | [d1, d2] => { results := [.lit (.bool true)], args := [d1, d2] }
  | _ => none }
def groupListsRow : OpenClaim := { program := "ytdjbbjjmjopofaagreat", sum := "327b9c49412fd9afa3dc87388e1a279f0be28092befef3e02f4442ef6b76618b", func := "semigroup/semigrouplaw16.GroupLists", spec := "groupLists", unfollowed := true, recurses := true, plainKeys := false, apart := false }
def GroupListsSaid : Prop := groupListsRow.holds Tryz.pinned (OpenSpec.ofChange groupListsSpec)

/-- ITS FALSE NEIGHBOUR: 'it returns false'. Refute it at one input. -/
def groupListsWrong : ChangeSpec := { name := "groupLists", fn := fun _ => fun
  | [d1, d2] => { results := [.lit (.bool false)], args := [d1, d2] }
  | _ => none }
def GroupListsWrongFalsely : Prop := groupListsRow.holds Tryz.pinned (OpenSpec.ofChange groupListsWrong)

/-- 'semigrouplaw16.GroupLagrange': WHATEVER THE INPUT: true; the input reads as it did. -/
def groupLagrangeSpec : ChangeSpec := { name := "groupLagrange", fn := fun _ => fun
  | [d1, d2, d3] => { results := [.lit (.bool true)], args := [d1, d2, d3] }
  | _ => none }
def groupLagrangeRow : OpenClaim := { program := "ytdjbbjjmjopofaagreat", sum := "327b9c49412fd9afa3dc87388e1a279f0be28092befef3e02f4442ef6b76618b", func := "semigroup/semigrouplaw16.GroupLagrange", spec := "groupLagrange", unfollowed := true, recurses := true, plainKeys := false, apart := false }
def GroupLagrangeSaid : Prop := groupLagrangeRow.holds Tryz.pinned (OpenSpec.ofChange groupLagrangeSpec)

/-- ITS FALSE NEIGHBOUR: 'it returns false'. Refute it at one input. -/
def groupLagrangeWrong : ChangeSpec := { name := "groupLagrange", fn := fun _ => fun
  | [d1, d2, d3] => { results := [.lit (.bool false)], args := [d1, d2, d3] }
  | _ => none }
def GroupLagrangeWrongFalsely : Prop := groupLagrangeRow.holds Tryz.pinned (OpenSpec.ofChange groupLagrangeWrong)

/-- 'semigrouplaw16.GroupDerives': WHATEVER THE INPUT: true; the input reads as it did. -/
def groupDerivesSpec : ChangeSpec := { name := "groupDerives", fn := fun _ => fun
  | [d] => { results := [.lit (.bool true)], args := [d] }
  | _ => none }
def groupDerivesRow : OpenClaim := { program := "ytdjbbjjmjopofaagreat", sum := "327b9c49412fd9afa3dc87388e1a279f0be28092befef3e02f4442ef6b76618b", func := "semigroup/semigrouplaw16.GroupDerives", spec := "groupDerives", unfollowed := true, recurses := true, plainKeys := false, apart := false }
def GroupDerivesSaid : Prop := groupDerivesRow.holds Tryz.pinned (OpenSpec.ofChange groupDerivesSpec)

/-- ITS FALSE NEIGHBOUR: 'it returns false'. Refute it at one input. -/
def groupDerivesWrong : ChangeSpec := { name := "groupDerives", fn := fun _ => fun
  | [d] => { results := [.lit (.bool false)], args := [d] }
  | _ => none }
def GroupDerivesWrongFalsely : Prop := groupDerivesRow.holds Tryz.pinned (OpenSpec.ofChange groupDerivesWrong)

/- THE SECOND FORM. 'bulk': how many values and letters a reading holds, each counted each time it is reached (what is shared counts as often as it is met; a slice's spare places count too). A statement '..UptoSaid' is the law's where the arguments, and the package variables that the reading takes, are together of bulk at most 1048576: NARROWER than '..Said'. Prove '..Said' where nothing that the law and all that it calls make is longer than what came in: it says more and counts as full. Else prove '..UptoSaid'. A law counts once. -/
mutual
def uptoBulk {H : Type} : DataW H → Nat
  | .lit (.string bytes) => bytes.length + 1
  | .lit _ => 1
  | .nil => 1
  | .ptr d => uptoBulk d + 1
  | .slice elems spare => uptoBulkAll elems + uptoBulkAll spare + 1
  | .agg parts => uptoBulkAll parts + 1
  | .iface _ d => uptoBulk d + 1
  | .map entries => uptoBulkEntries entries + 1
  | .held _ => 1
def uptoBulkAll {H : Type} : List (DataW H) → Nat
  | [] => 0
  | d :: r => uptoBulk d + uptoBulkAll r
def uptoBulkEntries {H : Type} : List (Lit × DataW H) → Nat
  | [] => 0
  | x :: r => uptoBulkEntry x + uptoBulkEntries r
def uptoBulkEntry {H : Type} : Lit × DataW H → Nat
  | (.string bytes, d) => bytes.length + uptoBulk d + 1
  | (_, d) => uptoBulk d + 1
 end
def uptoSmall : (H : Type) → List (DataW H) → Bool := fun _ ds => decide (uptoBulkAll ds ≤ 1048576)
def OpenSpec.upto (s : _root_.Go.ChangeSpec) : _root_.Go.OpenSpec := { _root_.Go.OpenSpec.ofChange s with cond := some uptoSmall }

/-- 'semigrouplaw16.GroupElements', WHERE WHAT IT READS IS OF BULK AT MOST 1048576: true; the input reads as it did. -/
def groupElementsUptoRow : OpenClaim := { program := "ytdjbbjjmjopofaagreat", sum := "327b9c49412fd9afa3dc87388e1a279f0be28092befef3e02f4442ef6b76618b", func := "semigroup/semigrouplaw16.GroupElements", spec := "groupElements", unfollowed := true, recurses := true, plainKeys := false, apart := false, narrowed := true }
def GroupElementsUptoSaid : Prop := groupElementsUptoRow.holds Tryz.pinned (OpenSpec.upto groupElementsSpec)

/-- 'semigrouplaw16.GroupSolves', WHERE WHAT IT READS IS OF BULK AT MOST 1048576: true; the input reads as it did. -/
def groupSolvesUptoRow : OpenClaim := { program := "ytdjbbjjmjopofaagreat", sum := "327b9c49412fd9afa3dc87388e1a279f0be28092befef3e02f4442ef6b76618b", func := "semigroup/semigrouplaw16.GroupSolves", spec := "groupSolves", unfollowed := true, recurses := true, plainKeys := false, apart := false, narrowed := true }
def GroupSolvesUptoSaid : Prop := groupSolvesUptoRow.holds Tryz.pinned (OpenSpec.upto groupSolvesSpec)

/-- 'semigrouplaw16.GroupClosures', WHERE WHAT IT READS IS OF BULK AT MOST 1048576: true; the input reads as it did. -/
def groupClosuresUptoRow : OpenClaim := { program := "ytdjbbjjmjopofaagreat", sum := "327b9c49412fd9afa3dc87388e1a279f0be28092befef3e02f4442ef6b76618b", func := "semigroup/semigrouplaw16.GroupClosures", spec := "groupClosures", unfollowed := true, recurses := true, plainKeys := false, apart := false, narrowed := true }
def GroupClosuresUptoSaid : Prop := groupClosuresUptoRow.holds Tryz.pinned (OpenSpec.upto groupClosuresSpec)

/-- 'semigrouplaw16.GroupSubgroups', WHERE WHAT IT READS IS OF BULK AT MOST 1048576: true; the input reads as it did. -/
def groupSubgroupsUptoRow : OpenClaim := { program := "ytdjbbjjmjopofaagreat", sum := "327b9c49412fd9afa3dc87388e1a279f0be28092befef3e02f4442ef6b76618b", func := "semigroup/semigrouplaw16.GroupSubgroups", spec := "groupSubgroups", unfollowed := true, recurses := true, plainKeys := false, apart := false, narrowed := true }
def GroupSubgroupsUptoSaid : Prop := groupSubgroupsUptoRow.holds Tryz.pinned (OpenSpec.upto groupSubgroupsSpec)

/-- 'semigrouplaw16.GroupNormals', WHERE WHAT IT READS IS OF BULK AT MOST 1048576: true; the input reads as it did. -/
def groupNormalsUptoRow : OpenClaim := { program := "ytdjbbjjmjopofaagreat", sum := "327b9c49412fd9afa3dc87388e1a279f0be28092befef3e02f4442ef6b76618b", func := "semigroup/semigrouplaw16.GroupNormals", spec := "groupNormals", unfollowed := true, recurses := true, plainKeys := false, apart := false, narrowed := true }
def GroupNormalsUptoSaid : Prop := groupNormalsUptoRow.holds Tryz.pinned (OpenSpec.upto groupNormalsSpec)

/-- 'semigrouplaw16.GroupSeries', WHERE WHAT IT READS IS OF BULK AT MOST 1048576: true; the input reads as it did. -/
def groupSeriesUptoRow : OpenClaim := { program := "ytdjbbjjmjopofaagreat", sum := "327b9c49412fd9afa3dc87388e1a279f0be28092befef3e02f4442ef6b76618b", func := "semigroup/semigrouplaw16.GroupSeries", spec := "groupSeries", unfollowed := true, recurses := true, plainKeys := false, apart := false, narrowed := true }
def GroupSeriesUptoSaid : Prop := groupSeriesUptoRow.holds Tryz.pinned (OpenSpec.upto groupSeriesSpec)

/-- 'semigrouplaw16.GroupHoelder', WHERE WHAT IT READS IS OF BULK AT MOST 1048576: true; the input reads as it did. -/
def groupHoelderUptoRow : OpenClaim := { program := "ytdjbbjjmjopofaagreat", sum := "327b9c49412fd9afa3dc87388e1a279f0be28092befef3e02f4442ef6b76618b", func := "semigroup/semigrouplaw16.GroupHoelder", spec := "groupHoelder", unfollowed := true, recurses := true, plainKeys := false, apart := false, narrowed := true }
def GroupHoelderUptoSaid : Prop := groupHoelderUptoRow.holds Tryz.pinned (OpenSpec.upto groupHoelderSpec)

/-- 'semigrouplaw16.GroupActs', WHERE WHAT IT READS IS OF BULK AT MOST 1048576: true; the input reads as it did. -/
def groupActsUptoRow : OpenClaim := { program := "ytdjbbjjmjopofaagreat", sum := "327b9c49412fd9afa3dc87388e1a279f0be28092befef3e02f4442ef6b76618b", func := "semigroup/semigrouplaw16.GroupActs", spec := "groupActs", unfollowed := true, recurses := true, plainKeys := false, apart := false, narrowed := true }
def GroupActsUptoSaid : Prop := groupActsUptoRow.holds Tryz.pinned (OpenSpec.upto groupActsSpec)

/-- 'semigrouplaw16.GroupQuotients', WHERE WHAT IT READS IS OF BULK AT MOST 1048576: true; the input reads as it did. -/
def groupQuotientsUptoRow : OpenClaim := { program := "ytdjbbjjmjopofaagreat", sum := "327b9c49412fd9afa3dc87388e1a279f0be28092befef3e02f4442ef6b76618b", func := "semigroup/semigrouplaw16.GroupQuotients", spec := "groupQuotients", unfollowed := true, recurses := true, plainKeys := false, apart := false, narrowed := true }
def GroupQuotientsUptoSaid : Prop := groupQuotientsUptoRow.holds Tryz.pinned (OpenSpec.upto groupQuotientsSpec)

/-- 'semigrouplaw16.GroupLists', WHERE WHAT IT READS IS OF BULK AT MOST 1048576: true; the input reads as it did. -/
def groupListsUptoRow : OpenClaim := { program := "ytdjbbjjmjopofaagreat", sum := "327b9c49412fd9afa3dc87388e1a279f0be28092befef3e02f4442ef6b76618b", func := "semigroup/semigrouplaw16.GroupLists", spec := "groupLists", unfollowed := true, recurses := true, plainKeys := false, apart := false, narrowed := true }
def GroupListsUptoSaid : Prop := groupListsUptoRow.holds Tryz.pinned (OpenSpec.upto groupListsSpec)

/-- 'semigrouplaw16.GroupLagrange', WHERE WHAT IT READS IS OF BULK AT MOST 1048576: true; the input reads as it did. -/
def groupLagrangeUptoRow : OpenClaim := { program := "ytdjbbjjmjopofaagreat", sum := "327b9c49412fd9afa3dc87388e1a279f0be28092befef3e02f4442ef6b76618b", func := "semigroup/semigrouplaw16.GroupLagrange", spec := "groupLagrange", unfollowed := true, recurses := true, plainKeys := false, apart := false, narrowed := true }
def GroupLagrangeUptoSaid : Prop := groupLagrangeUptoRow.holds Tryz.pinned (OpenSpec.upto groupLagrangeSpec)

/-- 'semigrouplaw16.GroupDerives', WHERE WHAT IT READS IS OF BULK AT MOST 1048576: true; the input reads as it did. -/
def groupDerivesUptoRow : OpenClaim := { program := "ytdjbbjjmjopofaagreat", sum := "327b9c49412fd9afa3dc87388e1a279f0be28092befef3e02f4442ef6b76618b", func := "semigroup/semigrouplaw16.GroupDerives", spec := "groupDerives", unfollowed := true, recurses := true, plainKeys := false, apart := false, narrowed := true }
def GroupDerivesUptoSaid : Prop := groupDerivesUptoRow.holds Tryz.pinned (OpenSpec.upto groupDerivesSpec)

end Rows
end Go.Proofs.YtdjbbjjmjopofaaGreat
