/-
  DERIVED. GIVEN WITH THE SEED: THE CARDS: each row of YtgailjhnfghkgaaGreatDoorRows.lean that lists a variable, with what it lists TIED to the program's text (the seventh form; the later family's looks); each row that meets fmt, with fmt's text TOLD by the authors' own Lean function (tested against real Go, not proved from fmt's source: count such statements apart). THE CARD IS WHAT COUNTS. Prove the row's statement (the work); the ties are given (YtgailjhnfghkgaaGreatDoorTie.lean); close each card by the builder's one call (the guide's Derived/Test/ToyasCard.lean, 'card_holds'). Laid BY PROGRAM, IN A SANDBOX (cutbox-door.mjs). By AI agents, Wed Nov 11 2026. No macro, syntax, notation, axiom, sorry.
-/
import Derived.Test.YtgailjhnfghkgaaGreatDoorRows
import GoSem.ClaimSeven
namespace Go.Proofs.YtgailjhnfghkgaaGreatDoor
namespace Rows

/-- THE TIED CARD OF 'semigrouptop.TopIrreducible'. -/
def topIrreducibleCard : Claim7 := { stood := { row := topIrreducibleRow, standIns := [], harness := (true, "495ccb2383b44ab6e286826447cddc557e3ba0bfa7411243a0d56f2d801e440d"), looks := false }, kinds := [], alts := [], laidByText := true, laidKinds := [.data], laidTests := true, laidLooks := .later }
def TopIrreducibleCardSaid : Prop := Claim7.holds Tryz.pinned (.plain (OpenSpec.ofChange topIrreducibleSpec)) topIrreducibleCard

/-- THE TIED CARD OF 'semigrouptop.TopComponents'. -/
def topComponentsCard : Claim7 := { stood := { row := topComponentsRow, standIns := [], harness := (true, "495ccb2383b44ab6e286826447cddc557e3ba0bfa7411243a0d56f2d801e440d"), looks := false }, kinds := [], alts := [], laidByText := true, laidKinds := [.data], laidTests := true, laidLooks := .later }
def TopComponentsCardSaid : Prop := Claim7.holds Tryz.pinned (.plain (OpenSpec.ofChange topComponentsSpec)) topComponentsCard

/-- THE SECOND FORM's CARD OF 'semigrouptop.TopIrreducible'. -/
def topIrreducibleUptoCard : Claim7 := { stood := { row := topIrreducibleUptoRow, standIns := [], harness := (true, "495ccb2383b44ab6e286826447cddc557e3ba0bfa7411243a0d56f2d801e440d"), looks := false }, kinds := [], alts := [], laidByText := true, laidKinds := [.data], laidTests := true, laidLooks := .later }
def TopIrreducibleUptoCardSaid : Prop := Claim7.holds Tryz.pinned (.plain (OpenSpec.upto topIrreducibleSpec)) topIrreducibleUptoCard

/-- THE SECOND FORM's CARD OF 'semigrouptop.TopComponents'. -/
def topComponentsUptoCard : Claim7 := { stood := { row := topComponentsUptoRow, standIns := [], harness := (true, "495ccb2383b44ab6e286826447cddc557e3ba0bfa7411243a0d56f2d801e440d"), looks := false }, kinds := [], alts := [], laidByText := true, laidKinds := [.data], laidTests := true, laidLooks := .later }
def TopComponentsUptoCardSaid : Prop := Claim7.holds Tryz.pinned (.plain (OpenSpec.upto topComponentsSpec)) topComponentsUptoCard
end Rows
end Go.Proofs.YtgailjhnfghkgaaGreatDoor
