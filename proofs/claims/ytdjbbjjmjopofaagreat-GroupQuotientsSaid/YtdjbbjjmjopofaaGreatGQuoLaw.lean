/- Plain: the quotient of a group by a normal subgroup is a group; when it is commutative. -/
import Derived.Test.YtdjbbjjmjopofaaGreatQuoLaw
import Derived.Test.YtdjbbjjmjopofaaGreatNrmLaw
import Derived.Test.YtdjbbjjmjopofaaGreatLagLaw2
import Derived.Test.YtdjbbjjmjopofaaGreatSolLaw
namespace Go.Proofs.YtdjbbjjmjopofaaGreat
open Go Go.AM

section
variable {t : List (List Int)} {l : List Int}
/-- The cosets of a normal subgroup are a congruence. -/
theorem nrm_cg (h : Grp t) (hl : ClL t l) (hn : NrmIn t (allI t) l) : Cg t (cosL t l) 0 := fun x y s hx hy hs e => by
  have hS := h.toSh
  have ix := (h.ninv hx).1
  have is := (h.ninv hs).1
  have e := (cosL_iff hl h hx hy).1 e
  have exy := (hS.ent ix hy).2
  refine ⟨fun _ => (cosL_iff hl h (hS.ent hs hx).2 (hS.ent hs hy).2).2 ?_, fun _ => (cosL_iff hl h (hS.ent hx hs).2 (hS.ent hy hs).2).2 ?_⟩
  · unfold cosE at e ⊢
    rw [inv_mul h hs hx, assoc3 h.assoc ix is (hS.ent hs hy).2, inv_mul_cancel h hs hy]
    exact e
  · have e2 : setI l (en t (invN t x) y) = true := e
    have hm := setI_iff.1 e2
    have hc := hn _ (mem_disI.2 (show 0 ≤ (invN t s : Int) ∧ (invN t s : Int) < (t.length : Int) by omega)) _ hm
    unfold cjN at hc
    simp only [Int.toNat_natCast] at hc
    rw [inv_inv h hs] at hc
    unfold cosE
    rw [inv_mul h hx hs, assoc3 h.assoc is ix (hS.ent hy hs).2, ← assoc3 h.assoc ix hy hs, ← assoc3 h.assoc is exy hs]
    exact hc
/-- A quotient of a group is a group. -/
theorem quo_grp {p : List Int} (h : Grp t) (hl : p.length = t.length) (hp : canon p = p) (hg : Cg t p 0) : Grp (quoL t p) := by
  have hS := h.toSh
  have ho := h.one
  have k1 := cls_lt hp (x := oneN t) (by omega)
  refine ⟨quo_semi h.toSemi hl hp hg, (p.getD (oneN t) 0).toNat, by rw [quoL_len]; exact k1.2.1, fun c hc => ?_, fun c hc => ?_⟩
  · rw [quoL_len] at hc
    obtain ⟨x, hx, rfl⟩ := cls_rep hl hp hc
    rw [quo_en_hom hS hl hp hg ho.1 hx, quo_en_hom hS hl hp hg hx ho.1, (ho.2.1 x hx).1, (ho.2.1 x hx).2]
    exact ⟨rfl, rfl⟩
  · rw [quoL_len] at hc
    obtain ⟨x, hx, rfl⟩ := cls_rep hl hp hc
    have hi := h.ninv hx
    have k2 := cls_lt hp (x := invN t x) (by omega)
    refine ⟨(p.getD (invN t x) 0).toNat, by rw [quoL_len]; exact k2.2.1, ?_, ?_⟩
    · rw [quo_en_hom hS hl hp hg hx hi.1, hi.2.1]
    · rw [quo_en_hom hS hl hp hg hi.1 hx, hi.2.2]
end
end Go.Proofs.YtdjbbjjmjopofaaGreat
