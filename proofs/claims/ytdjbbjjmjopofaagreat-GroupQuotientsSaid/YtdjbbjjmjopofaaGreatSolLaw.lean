/- Plain: the derived series; greatest normal subgroups of a subgroup; simple groups. -/
import Derived.Test.YtdjbbjjmjopofaaGreatNrmLaw
namespace Go.Proofs.YtdjbbjjmjopofaaGreat

section
variable {t : List (List Int)}
theorem ClL.cj {w : List Int} (hw : ClL t w) (h : Grp t) {a b : Nat} (ha : setI w a = true) (hb : setI w b = true) : setI w (cjN t a b) = true := by
  have la := hw.lt ha
  have lb := hw.lt hb
  exact hw.cl _ _ (h.toSh.ent la lb).2 (h.ninv la).1 (hw.cl _ _ la lb ha hb) (hw.inv h ha)
theorem ClL.cm {w : List Int} (hw : ClL t w) (h : Grp t) {a b : Nat} (ha : setI w a = true) (hb : setI w b = true) : setI w (cmN t a b) = true := by
  have la := hw.lt ha
  have lb := hw.lt hb
  exact hw.cl _ _ (cjN_lt h la lb) (h.ninv lb).1 (hw.cj h ha hb) (hw.inv h hb)
/-! ### Greatest normal subgroups -/
end
end Go.Proofs.YtdjbbjjmjopofaaGreat
