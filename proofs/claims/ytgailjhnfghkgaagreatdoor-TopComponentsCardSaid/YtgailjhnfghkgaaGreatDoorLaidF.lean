import Derived.Test.YtgailjhnfghkgaaGreatDoorCards
import Derived.Test.YtgailjhnfghkgaaGreatDoorAmQAll2
import Derived.WalkKit
import Derived.ProofKit
import Derived.LaidMore
import Derived.LaidOnce
import Derived.Lib.LaidTab
import Derived.Stop.Joined
namespace Go.Proofs.YtgailjhnfghkgaaGreatDoor
open Go Go.AM Go.ChangeShapes Go.WideShapes Go.ChangeAt Go.RowKit
abbrev Dt{H:Type}:List (String × DataW H):=[("math/bits.deBruijn64tab",Rows.laid_math_bits_deBruijn64tab)]
theorem MY(os:Os)(args:Array Value):laidMetH Tryz.prog Dt ((World.doorLaid Tryz.prog 14 os).forCall (λ_ _=>0) ⟨#[],args,[]⟩).memory:=
 laidMetH_of_parts3 (fuel:=8) (laidMet_of_run' 8 (by kernel_rfl) (by kernel_rfl)) (by kernel_rfl) (by kernel_rfl)
theorem gTz:Tryz.prog.globalNamed "math/bits.deBruijn64tab"=some 0:=by kernel_rfl
theorem QZ{W:World}(h:laidMetH Tryz.prog Dt W):AQ W:=by
 rw [MakeChecks.laidMetH_plain _ _ _ (by kernel_rfl)]at h;have hT:Lib.TabIs Tryz.prog W "math/bits.deBruijn64tab" .u8 (List.map Int.ofNat Lib.deBruijn64tab):=Lib.tabIs_of_head (rest:=[]) gTz (show(Tryz.prog.globals[0]?).map (·.type)=some 213 by kernel_rfl) Tryz.underlying213 Tryz.underlying5 (by kernel_rfl) (by kernel_rfl) h;intro j hj;have:=hT.cell gTz j (by rw [ajS];exact hj);rw [this,aka,ajR,aka,ajP hj]
 rfl
end Go.Proofs.YtgailjhnfghkgaaGreatDoor
