import Derived.Test.YtjabhmhhhlcopaaGreatDoorCards
import Derived.Test.YtjabhmhhhlcopaaGreatDoorAmQAll2
import Derived.WalkKit
import Derived.ProofKit
import Derived.LaidMore
import Derived.LaidOnce
import Derived.Lib.LaidTab
import Derived.Stop.Joined
namespace Go.Proofs.YtjabhmhhhlcopaaGreatDoor
open Go Go.AM Go.ChangeShapes Go.WideShapes Go.ChangeAt Go.RowKit
abbrev laidL {H:Type}:List (String × DataW H):=[("math/bits.deBruijn64tab",Rows.laid_math_bits_deBruijn64tab)]
theorem door_met (os:Os) (args:Array Value):laidMetH Tryz.prog laidL ((World.doorLaid Tryz.prog 14 os).forCall (fun _ _=>0) ⟨#[],args,[]⟩).memory:=
  laidMetH_of_parts3 (fuel:=8) (laidMet_of_run' 8 (by kernel_rfl) (by kernel_rfl)) (by kernel_rfl) (by kernel_rfl)
theorem gTz:Tryz.prog.globalNamed "math/bits.deBruijn64tab"=some 0:=by kernel_rfl
theorem lw_laid {W:World} (h:laidMetH Tryz.prog laidL W):lwP W:=by
  rw [MakeChecks.laidMetH_plain _ _ _ (by kernel_rfl)] at h
  have hT:Lib.TabIs Tryz.prog W "math/bits.deBruijn64tab" .u8 (List.map Int.ofNat Lib.deBruijn64tab):=Lib.tabIs_of_head (rest:=[]) gTz (show (Tryz.prog.globals[0]?).map (·.type)=some 289 by kernel_rfl) Tryz.underlying289 Tryz.underlying5 (by kernel_rfl) (by kernel_rfl) h
  intro j hj
  have:=hT.cell gTz j (by rw [List.length_map];exact hj)
  rw [this,List.getD_eq_getElem?_getD,List.getElem?_map,List.getD_eq_getElem?_getD,List.getElem?_eq_getElem hj]
  rfl
abbrev laidSum:String:= "ffa5288af218da91373601e7dd38f517de78d59d3c68942e18bb9307c26e3388"
end Go.Proofs.YtjabhmhhhlcopaaGreatDoor
