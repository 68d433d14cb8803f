/-
  DERIVED. GIVEN WITH THE SEED: THE CARDS: each row of YtjabhmhhhlcopaaGreatDoorRows.lean that lists a variable, with what it lists TIED to the program's text (the seventh form; the later family's looks); each row that meets fmt, with fmt's text TOLD by the authors' own Lean function (tested against real Go, not proved from fmt's source: count such statements apart). THE CARD IS WHAT COUNTS. Prove the row's statement (the work); the ties are given (YtjabhmhhhlcopaaGreatDoorTie.lean); close each card by the builder's one call (the guide's Derived/Test/ToyasCard.lean, 'card_holds'). Laid BY PROGRAM, IN A SANDBOX (cutbox-door.mjs). By AI agents, Wed Nov 11 2026. No macro, syntax, notation, axiom, sorry.
-/
import Derived.Test.YtjabhmhhhlcopaaGreatDoorRows
import GoSem.ClaimSeven
namespace Go.Proofs.YtjabhmhhhlcopaaGreatDoor
namespace Rows

/-- THE TIED CARD OF 'semigrouptop.TopFactors'. -/
def topFactorsCard : Claim7 := { stood := { row := topFactorsRow, standIns := [], harness := (true, "ffa5288af218da91373601e7dd38f517de78d59d3c68942e18bb9307c26e3388"), looks := false }, kinds := [], alts := [], laidByText := true, laidKinds := [.data], laidTests := true, laidLooks := .later }
def TopFactorsCardSaid : Prop := Claim7.holds Tryz.pinned (.plain (OpenSpec.ofChange topFactorsSpec)) topFactorsCard

/-- THE TIED CARD OF 'semigrouptop.TopIdempotents'. -/
def topIdempotentsCard : Claim7 := { stood := { row := topIdempotentsRow, standIns := [], harness := (true, "ffa5288af218da91373601e7dd38f517de78d59d3c68942e18bb9307c26e3388"), looks := false }, kinds := [], alts := [], laidByText := true, laidKinds := [.data], laidTests := true, laidLooks := .later }
def TopIdempotentsCardSaid : Prop := Claim7.holds Tryz.pinned (.plain (OpenSpec.ofChange topIdempotentsSpec)) topIdempotentsCard

/-- THE TIED CARD OF 'semigrouptop.TopUnits'. -/
def topUnitsCard : Claim7 := { stood := { row := topUnitsRow, standIns := [], harness := (true, "ffa5288af218da91373601e7dd38f517de78d59d3c68942e18bb9307c26e3388"), looks := false }, kinds := [], alts := [], laidByText := true, laidKinds := [.data], laidTests := true, laidLooks := .later }
def TopUnitsCardSaid : Prop := Claim7.holds Tryz.pinned (.plain (OpenSpec.ofChange topUnitsSpec)) topUnitsCard

/-- THE TIED CARD OF 'semigrouptop.TopKernel'. -/
def topKernelCard : Claim7 := { stood := { row := topKernelRow, standIns := [], harness := (true, "ffa5288af218da91373601e7dd38f517de78d59d3c68942e18bb9307c26e3388"), looks := false }, kinds := [], alts := [], laidByText := true, laidKinds := [.data], laidTests := true, laidLooks := .later }
def TopKernelCardSaid : Prop := Claim7.holds Tryz.pinned (.plain (OpenSpec.ofChange topKernelSpec)) topKernelCard

/-- THE TIED CARD OF 'semigrouptop.TopIrreducible'. -/
def topIrreducibleCard : Claim7 := { stood := { row := topIrreducibleRow, standIns := [], harness := (true, "ffa5288af218da91373601e7dd38f517de78d59d3c68942e18bb9307c26e3388"), looks := false }, kinds := [], alts := [], laidByText := true, laidKinds := [.data], laidTests := true, laidLooks := .later }
def TopIrreducibleCardSaid : Prop := Claim7.holds Tryz.pinned (.plain (OpenSpec.ofChange topIrreducibleSpec)) topIrreducibleCard

/-- THE TIED CARD OF 'semigrouptop.TopComponents'. -/
def topComponentsCard : Claim7 := { stood := { row := topComponentsRow, standIns := [], harness := (true, "ffa5288af218da91373601e7dd38f517de78d59d3c68942e18bb9307c26e3388"), looks := false }, kinds := [], alts := [], laidByText := true, laidKinds := [.data], laidTests := true, laidLooks := .later }
def TopComponentsCardSaid : Prop := Claim7.holds Tryz.pinned (.plain (OpenSpec.ofChange topComponentsSpec)) topComponentsCard

/-- THE SECOND FORM's CARD OF 'semigrouptop.TopFactors'. -/
def topFactorsUptoCard : Claim7 := { stood := { row := topFactorsUptoRow, standIns := [], harness := (true, "ffa5288af218da91373601e7dd38f517de78d59d3c68942e18bb9307c26e3388"), looks := false }, kinds := [], alts := [], laidByText := true, laidKinds := [.data], laidTests := true, laidLooks := .later }
def TopFactorsUptoCardSaid : Prop := Claim7.holds Tryz.pinned (.plain (OpenSpec.upto topFactorsSpec)) topFactorsUptoCard

/-- THE SECOND FORM's CARD OF 'semigrouptop.TopIdempotents'. -/
def topIdempotentsUptoCard : Claim7 := { stood := { row := topIdempotentsUptoRow, standIns := [], harness := (true, "ffa5288af218da91373601e7dd38f517de78d59d3c68942e18bb9307c26e3388"), looks := false }, kinds := [], alts := [], laidByText := true, laidKinds := [.data], laidTests := true, laidLooks := .later }
def TopIdempotentsUptoCardSaid : Prop := Claim7.holds Tryz.pinned (.plain (OpenSpec.upto topIdempotentsSpec)) topIdempotentsUptoCard

/-- THE SECOND FORM's CARD OF 'semigrouptop.TopUnits'. -/
def topUnitsUptoCard : Claim7 := { stood := { row := topUnitsUptoRow, standIns := [], harness := (true, "ffa5288af218da91373601e7dd38f517de78d59d3c68942e18bb9307c26e3388"), looks := false }, kinds := [], alts := [], laidByText := true, laidKinds := [.data], laidTests := true, laidLooks := .later }
def TopUnitsUptoCardSaid : Prop := Claim7.holds Tryz.pinned (.plain (OpenSpec.upto topUnitsSpec)) topUnitsUptoCard

/-- THE SECOND FORM's CARD OF 'semigrouptop.TopKernel'. -/
def topKernelUptoCard : Claim7 := { stood := { row := topKernelUptoRow, standIns := [], harness := (true, "ffa5288af218da91373601e7dd38f517de78d59d3c68942e18bb9307c26e3388"), looks := false }, kinds := [], alts := [], laidByText := true, laidKinds := [.data], laidTests := true, laidLooks := .later }
def TopKernelUptoCardSaid : Prop := Claim7.holds Tryz.pinned (.plain (OpenSpec.upto topKernelSpec)) topKernelUptoCard

/-- THE SECOND FORM's CARD OF 'semigrouptop.TopIrreducible'. -/
def topIrreducibleUptoCard : Claim7 := { stood := { row := topIrreducibleUptoRow, standIns := [], harness := (true, "ffa5288af218da91373601e7dd38f517de78d59d3c68942e18bb9307c26e3388"), looks := false }, kinds := [], alts := [], laidByText := true, laidKinds := [.data], laidTests := true, laidLooks := .later }
def TopIrreducibleUptoCardSaid : Prop := Claim7.holds Tryz.pinned (.plain (OpenSpec.upto topIrreducibleSpec)) topIrreducibleUptoCard

/-- THE SECOND FORM's CARD OF 'semigrouptop.TopComponents'. -/
def topComponentsUptoCard : Claim7 := { stood := { row := topComponentsUptoRow, standIns := [], harness := (true, "ffa5288af218da91373601e7dd38f517de78d59d3c68942e18bb9307c26e3388"), looks := false }, kinds := [], alts := [], laidByText := true, laidKinds := [.data], laidTests := true, laidLooks := .later }
def TopComponentsUptoCardSaid : Prop := Claim7.holds Tryz.pinned (.plain (OpenSpec.upto topComponentsSpec)) topComponentsUptoCard
end Rows
end Go.Proofs.YtjabhmhhhlcopaaGreatDoor
