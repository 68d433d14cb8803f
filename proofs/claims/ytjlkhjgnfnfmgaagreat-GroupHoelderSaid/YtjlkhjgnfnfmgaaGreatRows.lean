/-
  No cell of these rows narrows 'for every input' (looked for: loops, veiled, ifaces, maps, wideKeys, modest, calm, conditions, laid).
  DERIVED. THE GIVEN ROWS OF THIS SEAT. 6 by the template 'for every input the law returns true; each argument reads behind the call as it read before'; 0 by the template 'total and deterministic' (their statements: YtjlkhjgnfnfmgaaGreatTotals.lean).
  GIVEN WITH THE SEED: the statements are not yours to turn. If you find one false, say at which input.
  Laid BY PROGRAM, IN A SANDBOX (cutbox-rows.mjs): the forced cells as the released guide's own fill.sh prints them over the translation 63a1023044ffb9fd… (all of the seat's roots in one cut). By AI agents, Wed Nov 11 2026. No macro, syntax, notation, axiom, sorry.
-/
import Derived.Test.YtjlkhjgnfnfmgaaGreatChecked
import GoSem.Claim
import GoSem.ClaimJoined
import GoSem.ClaimMapViews
import Derived.JoinedTies
import Derived.KernelRfl
namespace Go.Proofs.YtjlkhjgnfnfmgaaGreat
/- THE CELL 'sum', in the pinned program and in every row, IS THE sha256 OF THE DUMP (.gsa) THAT YtjlkhjgnfnfmgaaGreatProg.lean LOADS. Nothing in Lean hashes anything: it is a label: what it is worth is what the hold of that sum in a sandbox is worth. -/
noncomputable def Tryz.pinned : Pinned := { name := "ytjlkhjgnfnfmgaagreat", sum := "63a1023044ffb9fd5d41c03f973f585b80ac2d3f35b47380a2be9497738e0c8d", checked := Tryz.checked }
namespace Rows
def none {H : Type} : Left H := { results := [], args := [] }

/-- 'semigrouplaw16.GroupGenerates': WHATEVER THE INPUT: true; the input reads as it did. -/
def groupGeneratesSpec : ChangeSpec := { name := "groupGenerates", fn := fun _ => fun
  | [d] => { results := [.lit (.bool true)], args := [d] }
  | _ => none }
def groupGeneratesRow : OpenClaim := { program := "ytjlkhjgnfnfmgaagreat", sum := "63a1023044ffb9fd5d41c03f973f585b80ac2d3f35b47380a2be9497738e0c8d", func := "semigroup/semigrouplaw16.GroupGenerates", spec := "groupGenerates", unfollowed := true, recurses := true, plainKeys := false, apart := false }
def GroupGeneratesSaid : Prop := groupGeneratesRow.holds Tryz.pinned (OpenSpec.ofChange groupGeneratesSpec)

/-- ITS FALSE NEIGHBOUR: 'it returns false'. Refute it at one input. -/
def groupGeneratesWrong : ChangeSpec := { name := "groupGenerates", fn := fun _ => fun
  | [d] => { results := [.lit (.bool false)], args := [d] }
  | _ => none }
def GroupGeneratesWrongFalsely : Prop := groupGeneratesRow.holds Tryz.pinned (OpenSpec.ofChange groupGeneratesWrong)

/-- 'semigrouplaw16.GroupMoves': WHATEVER THE INPUT: true; the input reads as it did. -/
def groupMovesSpec : ChangeSpec := { name := "groupMoves", fn := fun _ => fun
  | [d1, d2, d3] => { results := [.lit (.bool true)], args := [d1, d2, d3] }
  | _ => none }
def groupMovesRow : OpenClaim := { program := "ytjlkhjgnfnfmgaagreat", sum := "63a1023044ffb9fd5d41c03f973f585b80ac2d3f35b47380a2be9497738e0c8d", func := "semigroup/semigrouplaw16.GroupMoves", spec := "groupMoves", unfollowed := true, recurses := true, plainKeys := false, apart := false }
def GroupMovesSaid : Prop := groupMovesRow.holds Tryz.pinned (OpenSpec.ofChange groupMovesSpec)

/-- ITS FALSE NEIGHBOUR: 'it returns false'. Refute it at one input. -/
def groupMovesWrong : ChangeSpec := { name := "groupMoves", fn := fun _ => fun
  | [d1, d2, d3] => { results := [.lit (.bool false)], args := [d1, d2, d3] }
  | _ => none }
def GroupMovesWrongFalsely : Prop := groupMovesRow.holds Tryz.pinned (OpenSpec.ofChange groupMovesWrong)

/-- 'semigrouplaw16.GroupSeries': WHATEVER THE INPUT: true; the input reads as it did. -/
def groupSeriesSpec : ChangeSpec := { name := "groupSeries", fn := fun _ => fun
  | [d1, d2] => { results := [.lit (.bool true)], args := [d1, d2] }
  | _ => none }
def groupSeriesRow : OpenClaim := { program := "ytjlkhjgnfnfmgaagreat", sum := "63a1023044ffb9fd5d41c03f973f585b80ac2d3f35b47380a2be9497738e0c8d", func := "semigroup/semigrouplaw16.GroupSeries", spec := "groupSeries", unfollowed := true, recurses := true, plainKeys := false, apart := false }
def GroupSeriesSaid : Prop := groupSeriesRow.holds Tryz.pinned (OpenSpec.ofChange groupSeriesSpec)

/-- ITS FALSE NEIGHBOUR: 'it returns false'. Refute it at one input. -/
def groupSeriesWrong : ChangeSpec := { name := "groupSeries", fn := fun _ => fun
  | [d1, d2] => { results := [.lit (.bool false)], args := [d1, d2] }
  | _ => none }
def GroupSeriesWrongFalsely : Prop := groupSeriesRow.holds Tryz.pinned (OpenSpec.ofChange groupSeriesWrong)

/-- 'semigrouplaw16.GroupHoelder': WHATEVER THE INPUT: true; the input reads as it did. -/
def groupHoelderSpec : ChangeSpec := { name := "groupHoelder", fn := fun _ => fun
  | [d1, d2] => { results := [.lit (.bool true)], args := [d1, d2] }
  | _ => none }
def groupHoelderRow : OpenClaim := { program := "ytjlkhjgnfnfmgaagreat", sum := "63a1023044ffb9fd5d41c03f973f585b80ac2d3f35b47380a2be9497738e0c8d", func := "semigroup/semigrouplaw16.GroupHoelder", spec := "groupHoelder", unfollowed := true, recurses := true, plainKeys := false, apart := false }
def GroupHoelderSaid : Prop := groupHoelderRow.holds Tryz.pinned (OpenSpec.ofChange groupHoelderSpec)

/-- ITS FALSE NEIGHBOUR: 'it returns false'. Refute it at one input. -/
def groupHoelderWrong : ChangeSpec := { name := "groupHoelder", fn := fun _ => fun
  | [d1, d2] => { results := [.lit (.bool false)], args := [d1, d2] }
  | _ => none }
def GroupHoelderWrongFalsely : Prop := groupHoelderRow.holds Tryz.pinned (OpenSpec.ofChange groupHoelderWrong)

/-- 'semigrouplaw16.GroupActs': WHATEVER THE INPUT: true; the input reads as it did. -/
def groupActsSpec : ChangeSpec := { name := "groupActs", fn := fun _ => fun
  | [d1, d2, d3, d4] => { results := [.lit (.bool true)], args := [d1, d2, d3, d4] }
  | _ => none }
def groupActsRow : OpenClaim := { program := "ytjlkhjgnfnfmgaagreat", sum := "63a1023044ffb9fd5d41c03f973f585b80ac2d3f35b47380a2be9497738e0c8d", func := "semigroup/semigrouplaw16.GroupActs", spec := "groupActs", unfollowed := true, recurses := true, plainKeys := false, apart := false }
def GroupActsSaid : Prop := groupActsRow.holds Tryz.pinned (OpenSpec.ofChange groupActsSpec)

/-- ITS FALSE NEIGHBOUR: 'it returns false'. Refute it at one input. -/
def groupActsWrong : ChangeSpec := { name := "groupActs", fn := fun _ => fun
  | [d1, d2, d3, d4] => { results := [.lit (.bool false)], args := [d1, d2, d3, d4] }
  | _ => none }
def GroupActsWrongFalsely : Prop := groupActsRow.holds Tryz.pinned (OpenSpec.ofChange groupActsWrong)

/-- 'semigrouplaw16.GroupDerives': WHATEVER THE INPUT: true; the input reads as it did. -/
def groupDerivesSpec : ChangeSpec := { name := "groupDerives", fn := fun _ => fun
  | [d] => { results := [.lit (.bool true)], args := [d] }
  | _ => none }
def groupDerivesRow : OpenClaim := { program := "ytjlkhjgnfnfmgaagreat", sum := "63a1023044ffb9fd5d41c03f973f585b80ac2d3f35b47380a2be9497738e0c8d", func := "semigroup/semigrouplaw16.GroupDerives", spec := "groupDerives", unfollowed := true, recurses := true, plainKeys := false, apart := false }
def GroupDerivesSaid : Prop := groupDerivesRow.holds Tryz.pinned (OpenSpec.ofChange groupDerivesSpec)

/-- ITS FALSE NEIGHBOUR: 'it returns false'. Refute it at one input. -/
def groupDerivesWrong : ChangeSpec := { name := "groupDerives", fn := fun _ => fun
  | [d] => { results := [.lit (.bool false)], args := [d] }
  | _ => none }
def GroupDerivesWrongFalsely : Prop := groupDerivesRow.holds Tryz.pinned (OpenSpec.ofChange groupDerivesWrong)

/- THE SECOND FORM. 'bulk': how many values and letters a reading holds, each counted each time it is reached (what is shared counts as often as it is met; a slice's spare places count too). A statement '..UptoSaid' is the law's where the arguments, and the package variables that the reading takes, are together of bulk at most 1048576: NARROWER than '..Said'. Prove '..Said' where nothing that the law and all that it calls make is longer than what came in: it says more and counts as full. Else prove '..UptoSaid'. A law counts once. -/
mutual
def uptoBulk {H : Type} : DataW H → Nat
  | .lit (.string bytes) => bytes.length + 1
  | .lit _ => 1
  | .nil => 1
  | .ptr d => uptoBulk d + 1
  | .slice elems spare => uptoBulkAll elems + uptoBulkAll spare + 1
  | .agg parts => uptoBulkAll parts + 1
  | .iface _ d => uptoBulk d + 1
  | .map entries => uptoBulkEntries entries + 1
  | .held _ => 1
def uptoBulkAll {H : Type} : List (DataW H) → Nat
  | [] => 0
  | d :: r => uptoBulk d + uptoBulkAll r
def uptoBulkEntries {H : Type} : List (Lit × DataW H) → Nat
  | [] => 0
  | x :: r => uptoBulkEntry x + uptoBulkEntries r
def uptoBulkEntry {H : Type} : Lit × DataW H → Nat
  | (.string bytes, d) => bytes.length + uptoBulk d + 1
  | (_, d) => uptoBulk d + 1
 end
def uptoSmall : (H : Type) → List (DataW H) → Bool := fun _ ds => decide (uptoBulkAll ds ≤ 1048576)
def OpenSpec.upto (s : _root_.Go.ChangeSpec) : _root_.Go.OpenSpec := { _root_.Go.OpenSpec.ofChange s with cond := some uptoSmall }

/-- 'semigrouplaw16.GroupGenerates', WHERE WHAT IT READS IS OF BULK AT MOST 1048576: true; the input reads as it did. -/
def groupGeneratesUptoRow : OpenClaim := { program := "ytjlkhjgnfnfmgaagreat", sum := "63a1023044ffb9fd5d41c03f973f585b80ac2d3f35b47380a2be9497738e0c8d", func := "semigroup/semigrouplaw16.GroupGenerates", spec := "groupGenerates", unfollowed := true, recurses := true, plainKeys := false, apart := false, narrowed := true }
def GroupGeneratesUptoSaid : Prop := groupGeneratesUptoRow.holds Tryz.pinned (OpenSpec.upto groupGeneratesSpec)

/-- 'semigrouplaw16.GroupMoves', WHERE WHAT IT READS IS OF BULK AT MOST 1048576: true; the input reads as it did. -/
def groupMovesUptoRow : OpenClaim := { program := "ytjlkhjgnfnfmgaagreat", sum := "63a1023044ffb9fd5d41c03f973f585b80ac2d3f35b47380a2be9497738e0c8d", func := "semigroup/semigrouplaw16.GroupMoves", spec := "groupMoves", unfollowed := true, recurses := true, plainKeys := false, apart := false, narrowed := true }
def GroupMovesUptoSaid : Prop := groupMovesUptoRow.holds Tryz.pinned (OpenSpec.upto groupMovesSpec)

/-- 'semigrouplaw16.GroupSeries', WHERE WHAT IT READS IS OF BULK AT MOST 1048576: true; the input reads as it did. -/
def groupSeriesUptoRow : OpenClaim := { program := "ytjlkhjgnfnfmgaagreat", sum := "63a1023044ffb9fd5d41c03f973f585b80ac2d3f35b47380a2be9497738e0c8d", func := "semigroup/semigrouplaw16.GroupSeries", spec := "groupSeries", unfollowed := true, recurses := true, plainKeys := false, apart := false, narrowed := true }
def GroupSeriesUptoSaid : Prop := groupSeriesUptoRow.holds Tryz.pinned (OpenSpec.upto groupSeriesSpec)

/-- 'semigrouplaw16.GroupHoelder', WHERE WHAT IT READS IS OF BULK AT MOST 1048576: true; the input reads as it did. -/
def groupHoelderUptoRow : OpenClaim := { program := "ytjlkhjgnfnfmgaagreat", sum := "63a1023044ffb9fd5d41c03f973f585b80ac2d3f35b47380a2be9497738e0c8d", func := "semigroup/semigrouplaw16.GroupHoelder", spec := "groupHoelder", unfollowed := true, recurses := true, plainKeys := false, apart := false, narrowed := true }
def GroupHoelderUptoSaid : Prop := groupHoelderUptoRow.holds Tryz.pinned (OpenSpec.upto groupHoelderSpec)

/-- 'semigrouplaw16.GroupActs', WHERE WHAT IT READS IS OF BULK AT MOST 1048576: true; the input reads as it did. -/
def groupActsUptoRow : OpenClaim := { program := "ytjlkhjgnfnfmgaagreat", sum := "63a1023044ffb9fd5d41c03f973f585b80ac2d3f35b47380a2be9497738e0c8d", func := "semigroup/semigrouplaw16.GroupActs", spec := "groupActs", unfollowed := true, recurses := true, plainKeys := false, apart := false, narrowed := true }
def GroupActsUptoSaid : Prop := groupActsUptoRow.holds Tryz.pinned (OpenSpec.upto groupActsSpec)

/-- 'semigrouplaw16.GroupDerives', WHERE WHAT IT READS IS OF BULK AT MOST 1048576: true; the input reads as it did. -/
def groupDerivesUptoRow : OpenClaim := { program := "ytjlkhjgnfnfmgaagreat", sum := "63a1023044ffb9fd5d41c03f973f585b80ac2d3f35b47380a2be9497738e0c8d", func := "semigroup/semigrouplaw16.GroupDerives", spec := "groupDerives", unfollowed := true, recurses := true, plainKeys := false, apart := false, narrowed := true }
def GroupDerivesUptoSaid : Prop := groupDerivesUptoRow.holds Tryz.pinned (OpenSpec.upto groupDerivesSpec)

end Rows
end Go.Proofs.YtjlkhjgnfnfmgaaGreat
