import Derived.Test.YtjlkhjgnfnfmgaaGreatLagLaw2
import Derived.Test.YtjlkhjgnfnfmgaaGreatRefNrm
import Derived.Test.YtjlkhjgnfnfmgaaGreatSgp4
import Derived.Test.YtjlkhjgnfnfmgaaGreatSgpLaw
import Derived.Test.YtjlkhjgnfnfmgaaGreatMult
import Derived.Test.YtjlkhjgnfnfmgaaGreatPart
import Derived.Test.YtjlkhjgnfnfmgaaGreatAmRet
import Derived.Test.YtjlkhjgnfnfmgaaGreatIn
section
/- Plain: the quotient of a group by a normal subgroup is a group; when it is commutative. -/
namespace Go.Proofs.YtjlkhjgnfnfmgaaGreat
open Go Go.AM
section
variable {t : List (List Int)} {l : List Int}
theorem nrm_cg (h : Grp t) (hl : ClL t l) (hn : NrmIn t (allI t) l) : Cg t (cosL t l) 0 := fun x y s hx hy hs e => by
  have hS := h.toSh
  have ix := (h.ninv hx).1
  have is := (h.ninv hs).1
  have e := (cosL_iff hl h hx hy).1 e
  have exy := (hS.ent ix hy).2
  refine ⟨fun _ => (cosL_iff hl h (hS.ent hs hx).2 (hS.ent hs hy).2).2 ?_, fun _ => (cosL_iff hl h (hS.ent hx hs).2 (hS.ent hy hs).2).2 ?_⟩
  · unfold cosE at e ⊢
    rw [inv_mul h hs hx, assoc3 h.assoc ix is (hS.ent hs hy).2, inv_mul_cancel h hs hy]
    exact e
  · have e2 : setI l (en t (invN t x) y) = true := e
    have hm := setI_iff.1 e2
    have hc := hn _ (mem_disI.2 (show 0 ≤ (invN t s : Int) ∧ (invN t s : Int) < (t.length : Int) by omega)) _ hm
    unfold cjN at hc
    simp only [Int.toNat_natCast] at hc
    rw [inv_inv h hs] at hc
    unfold cosE
    rw [inv_mul h hx hs, assoc3 h.assoc is ix (hS.ent hy hs).2, ← assoc3 h.assoc ix hy hs, ← assoc3 h.assoc is exy hs]
    exact hc
theorem quo_grp {p : List Int} (h : Grp t) (hl : p.length = t.length) (hp : canon p = p) (hg : Cg t p 0) : Grp (quoL t p) := by
  have hS := h.toSh
  have ho := h.one
  have k1 := cls_lt hp (x := oneN t) (by omega)
  refine ⟨quo_semi h.toSemi hl hp hg, (p.getD (oneN t) 0).toNat, by rw [quoL_len]; exact k1.2.1, fun c hc => ?_, fun c hc => ?_⟩
  · rw [quoL_len] at hc
    obtain ⟨x, hx, rfl⟩ := cls_rep hl hp hc
    rw [quo_en_hom hS hl hp hg ho.1 hx, quo_en_hom hS hl hp hg hx ho.1, (ho.2.1 x hx).1, (ho.2.1 x hx).2]
    exact ⟨rfl, rfl⟩
  · rw [quoL_len] at hc
    obtain ⟨x, hx, rfl⟩ := cls_rep hl hp hc
    have hi := h.ninv hx
    have k2 := cls_lt hp (x := invN t x) (by omega)
    refine ⟨(p.getD (invN t x) 0).toNat, by rw [quoL_len]; exact k2.2.1, ?_, ?_⟩
    · rw [quo_en_hom hS hl hp hg hx hi.1, hi.2.1]
    · rw [quo_en_hom hS hl hp hg hi.1 hx, hi.2.2]
def Comm (t : List (List Int)) : Prop := ∀ x y, x < t.length → y < t.length → en t x y = en t y x
theorem quo_comm (h : Grp t) (hl : ClL t l) (hn : NrmIn t (allI t) l) : Comm (quoL t (cosL t l)) ↔ ∀ x y, x < t.length → y < t.length → setI l (cmN t x y) = true := by
  have hS := h.toSh
  have hpl := cosL_len t l
  have hp := cosL_canon t l
  have hg := nrm_cg h hl hn
  have key : ∀ x y, x < t.length → y < t.length → ((cosL t l).getD (en t x y) 0 = (cosL t l).getD (en t y x) 0 ↔ setI l (cmN t (invN t y) (invN t x)) = true) := fun x y hx hy => by
    have ix := (h.ninv hx).1
    have iy := (h.ninv hy).1
    rw [cosL_iff hl h (hS.ent hx hy).2 (hS.ent hy hx).2]
    unfold cosE cmN cjN
    rw [inv_mul h hx hy, inv_inv h hx, inv_inv h hy, assoc3 h.assoc (hS.ent iy ix).2 hy hx]
  constructor
  · intro hc x y hx hy
    have ix := (h.ninv hx).1
    have iy := (h.ninv hy).1
    have k1 := cls_lt hp (x := invN t y) (by omega)
    have k2 := cls_lt hp (x := invN t x) (by omega)
    have e := hc _ _ (by rw [quoL_len]; exact k1.2.1) (by rw [quoL_len]; exact k2.2.1)
    rw [quo_en_hom hS hpl hp hg iy ix, quo_en_hom hS hpl hp hg ix iy] at e
    have k3 := cls_lt hp (x := en t (invN t x) (invN t y)) (by rw [hpl]; exact (hS.ent ix iy).2)
    have k4 := cls_lt hp (x := en t (invN t y) (invN t x)) (by rw [hpl]; exact (hS.ent iy ix).2)
    have := (key (invN t y) (invN t x) iy ix).1 (by omega)
    rwa [inv_inv h hx, inv_inv h hy] at this
  · intro hc c d hcl hdl
    rw [quoL_len] at hcl hdl
    obtain ⟨x, hx, rfl⟩ := cls_rep hpl hp hcl
    obtain ⟨y, hy, rfl⟩ := cls_rep hpl hp hdl
    rw [quo_en_hom hS hpl hp hg hx hy, quo_en_hom hS hpl hp hg hy hx, (key x y hx hy).2 (hc _ _ (h.ninv hy).1 (h.ninv hx).1)]
theorem der_in_iff (h : Grp t) (hl : ClL t l) : (∀ x y, x < t.length → y < t.length → setI l (cmN t x y) = true) ↔ ∀ x ∈ genL t (cmL t (allI t)), x ∈ l := by
  constructor
  · intro hc x hx
    have hin : inT t (cmL t (allI t)) := fun y hy => by
      obtain ⟨a, ha, b, hb, rfl⟩ := mem_cmL.1 hy
      have ha := mem_disI.1 ha
      have hb := mem_disI.1 hb
      have := cmN_lt h (x := a.toNat) (y := b.toNat) (by omega) (by omega)
      omega
    have h0 : 0 < (cmL t (allI t)).length := by
      have ho := h.one
      have : (((cmN t (oneN t) (oneN t)) : Nat) : Int) ∈ cmL t (allI t) := mem_cmL.2 ⟨(oneN t : Int), mem_disI.2 (by omega), (oneN t : Int), mem_disI.2 (by omega), by simp⟩
      exact List.length_pos_of_mem this
    have hcl := genL_cl h.toSh hin h0
    have hx0 := hcl.ins x hx
    have : setI l x.toNat = true := hl.has (m := cmL t (allI t)) (fun y hy => by
      obtain ⟨a, ha, b, hb, rfl⟩ := mem_cmL.1 hy
      have ha := mem_disI.1 ha
      have hb := mem_disI.1 hb
      exact setI_iff.1 (hc a.toNat b.toNat (by omega) (by omega))) ((genL_set (by omega)).1 (setI_iff.2 (by rw [Int.toNat_of_nonneg hx0.1]; exact hx)))
    have := setI_iff.1 this
    rwa [Int.toNat_of_nonneg hx0.1] at this
  · intro hc x y hx hy
    refine setI_iff.2 (hc _ ?_)
    have hlt := cmN_lt h hx hy
    refine setI_iff.1 ((genL_set hlt).2 ?_)
    refine mk_in (setI_iff.2 ?_)
    exact mem_cmL.2 ⟨(x : Int), mem_disI.2 (by omega), (y : Int), mem_disI.2 (by omega), by simp⟩
theorem der_gen (h : Grp t) : derL t (allI t) = genL t (cmL t (allI t)) := by
  unfold derL genL
  rw [der_noone h (allI_in t) (by have := h.toSh.pos; show 0 < (disI t.length).length; rw [disI_len]; exact this)]
theorem der_sub_iff (h : Grp t) (hl : ClL t l) (hn : NrmIn t (allI t) l) : Comm (quoL t (cosL t l)) ↔ ∀ x ∈ derL t (allI t), x ∈ l := by
  rw [quo_comm h hl hn, der_in_iff h hl, der_gen h]
end
end Go.Proofs.YtjlkhjgnfnfmgaaGreat
end
section
/- Package group: the quotient by a normal subgroup: contract. -/
namespace Go.Proofs.YtjlkhjgnfnfmgaaGreat
open Go Go.AM
set_option maxRecDepth 100000
set_option maxHeartbeats 1000000 in
theorem gQuo_k (t : List (List Int)) (l : List Int) (h : Grp t) (hl : ClL t l) (hn : nrmB t (allI t) l = true) (hp : validP (cosL t l)) (hg : Cg t (cosL t l) 0) : fnK TY SP Tryz.f33 [.ro (.rows .i64 t), .ro (.ints .i64 l)] (.tup [.new (.rows .i64 (quoL t (cosL t l))), .int .i64 0]) := by
  have hpl : (cosL t l).length = t.length := cosL_len t l
  have hmost := h.most
  have hcl : clB t l = true := clB_true.2 hl
  have hcn : classN (cosL t l) ≤ (cosL t l).length := firsts_le _
  refine Or.inl (cq (valid_fn t) (And.intro rfl trivial) ?_)
  refine And.intro (fun h1 => absurd (valid_zero.2 h.toSemi) h1) (fun h1 => ?_)
  refine Or.inl (cq (buildY_fn t h) (And.intro rfl trivial) ?_)
  refine Or.inl ?_
  refine Exists.intro [false, false, false, false, false, false, false, false, false, false, false, false] (And.intro (by decide +kernel) ?_)
  refine cq (gsub_fn t l h) (And.intro (by repeat' first | refine And.intro ?_ ?_ | exact True.intro | (show (_ : Int) = (_ : Int); omega) | omega | exact rfl | (simp only [RO.len]; omega)) (And.intro rfl trivial)) ?_
  refine And.intro (fun h1 => ?_) (fun h1 => ?_)
  · have h1 : (!clB t l) = true := h1
    rw [hcl] at h1; cases h1
  refine cq (gall_fn t h.most) (And.intro (by repeat' first | refine And.intro ?_ ?_ | exact True.intro | (show (_ : Int) = (_ : Int); omega) | omega | exact rfl | (simp only [RO.len]; omega)) trivial) ?_
  refine cq (gnrm_fn t (allI t) l h (allI_in t) hl.ins) (And.intro (by repeat' first | refine And.intro ?_ ?_ | exact True.intro | (show (_ : Int) = (_ : Int); omega) | omega | exact rfl | (simp only [RO.len]; omega)) (And.intro rfl (And.intro rfl trivial))) ?_
  refine And.intro (fun h1 => ?_) (fun h1 => ?_)
  · have h1 : (!nrmB t (allI t) l) = true := h1
    rw [hn] at h1; cases h1
  refine Or.inl (cq (gcos_fn t l h hl) (And.intro (by repeat' first | refine And.intro ?_ ?_ | exact True.intro | (show (_ : Int) = (_ : Int); omega) | omega | exact rfl | (simp only [RO.len]; omega)) (And.intro rfl trivial)) ?_)
  refine Or.inl (cq (pcount_fn (cosL t l)) (And.intro rfl trivial) ?_)
  have e : (if validP (cosL t l) then ((classN (cosL t l) : Nat) : Int) else 0) = classN (cosL t l) := if_pos hp
  refine And.intro (by omega) ?_
  refine And.intro (by omega) ?_
  refine Or.inr (Or.inr ?_)
  refine Exists.intro [57, 58, 59, 61, 62, 70, 73, 85, 10061] <| lp2 (fun (i : Nat) (_ : List (List Int)) => [(47, .int .i64 i)]) (fun _ q => [(44, .vec 0 (.nrows .i64 q) [])]) (fun i q => i ≤ (cosL t l).length ∧ QuoIn t (cosL t l) i q) (fun i _ => (cosL t l).length - i) 0 (List.replicate (if validP (cosL t l) then ((classN (cosL t l) : Nat) : Int) else 0).toNat []) ⟨Nat.zero_le _, by rw [e]; exact QuoIn.start⟩ (by repeat' first | refine And.intro ?_ ?_ | exact True.intro | (show (_ : Int) = (_ : Int); omega) | omega | exact rfl | (simp only [RO.len]; omega)) ?_
  rintro i q ⟨hi, hq⟩
  refine And.intro (fun h1 => ?_) (fun h1 => ?_)
  · have hil : i < (cosL t l).length := by omega
    have hr := cls_lt hp.2 hil
    have hql := hq.1
    refine And.intro (by omega) ?_
    refine And.intro (show 0 ≤ (cosL t l).getD i 0 ∧ (cosL t l).getD i 0 < (q.length : Int) by omega) ?_
    refine And.intro (fun h2 => ?_) (fun h2 => ?_)
    · refine And.intro (by omega) ?_
      refine And.intro (by omega) ?_
      refine And.intro (show 0 ≤ (cosL t l).getD i 0 ∧ (cosL t l).getD i 0 < (q.length : Int) by omega) ?_
      refine And.intro (show ((0 : Nat) : Int) ≤ (cosL t l).getD i 0 by omega) ?_
      refine Exists.intro [57, 58, 59, 61, 62, 70, 73, 85] <| lp2 (fun (j : Nat) (_ : List Int) => [(65, .int .i64 j)]) (fun _ r => [(44, .vec 0 (.nrows .i64 q) [((cosL t l).getD i 0, 61)]), (61, .vec 0 (.ints .i64 r) [])]) (fun j r => j ≤ (cosL t l).length ∧ RowIn t (cosL t l) i j r) (fun j _ => (cosL t l).length - j) 0 (List.replicate q.length 0) ⟨Nat.zero_le _, by rw [hql]; exact RowIn.start⟩ (by repeat' first | refine And.intro ?_ ?_ | exact True.intro | (show (_ : Int) = (_ : Int); omega) | omega | exact rfl | (simp only [RO.len]; omega)) ?_
      rintro j r ⟨hj, hr2⟩
      refine And.intro (fun h3 => ?_) (fun h3 => ?_)
      · have hjl : j < (cosL t l).length := by omega
        have hrl := hr2.1
        have hc := cls_lt hp.2 hjl
        have e1 := h.toSh.ent (x := i) (y := j) (by omega) (by omega)
        have r1 := h.toSh.len (x := i) (by omega)
        have hnext := hr2.next h.toSh hpl hp.2 hg (by omega) hjl
        rw [← Int.toNat_natCast (en t i j), ← e1.1] at hnext
        refine And.intro (by omega) ?_
        refine Or.inl ?_
        refine Exists.intro [false, false, false, false, false, false, false, false, false, false, false, false, false, false, false, false, true] (And.intro (by decide +kernel) ?_)
        refine And.intro (by simp only [Int.toNat_natCast]; omega) ?_
        refine And.intro (fun _ => ?_) (fun h4 => absurd rfl h4)
        refine And.intro (by omega) ?_
        refine And.intro (show 0 ≤ (j : Int) ∧ (j : Int) < ((t.getD i []).length : Int) by omega) ?_
        refine And.intro (show 0 ≤ (t.getD i []).getD j 0 ∧ (t.getD i []).getD j 0 < ((cosL t l).length : Int) by omega) ?_
        refine And.intro (show 0 ≤ (cosL t l).getD j 0 ∧ (cosL t l).getD j 0 < (r.length : Int) by omega) ?_
        refine And.intro (show ((0 : Nat) : Int) ≤ (cosL t l).getD j 0 by omega) ?_
        refine And.intro (by omega) ?_
        exact nx (j + 1, r.set ((cosL t l).getD j 0).toNat ((cosL t l).getD ((t.getD i []).getD j 0).toNat 0)) ⟨by omega, hnext⟩ (show (cosL t l).length - (j + 1) < (cosL t l).length - j by omega) (by repeat' first | refine And.intro ?_ ?_ | exact True.intro | (show (_ : Int) = (_ : Int); omega) | omega | exact rfl | (simp only [RO.len]; omega))
      · refine And.intro (by omega) ?_
        have hrd := hr2.done h.toSh hpl hp.2 hg (by omega) (by omega)
        have hpos : r ≠ [] := fun he => by
          have := hr2.1
          rw [he] at this
          simp at this; omega
        refine nx (i + 1, q.set ((cosL t l).getD i 0).toNat r) ⟨by omega, hq.new hp.2 hil hrd⟩ (show (cosL t l).length - (i + 1) < (cosL t l).length - i by omega) ?_
        repeat' first | refine And.intro ?_ ?_ | exact True.intro | exact hpos | (show (_ : Int) = (_ : Int); omega) | omega | exact rfl
    · refine And.intro ?_ (fun h0 => ?_)
      · refine And.intro (by omega) ?_
        exact nx (i + 1, q) ⟨by omega, hq.old hp.2 hil h2⟩ (show (cosL t l).length - (i + 1) < (cosL t l).length - i by omega) (by repeat' first | refine And.intro ?_ ?_ | exact True.intro | (show (_ : Int) = (_ : Int); omega) | omega | exact rfl | (simp only [RO.len]; omega))
      · exact absurd (List.eq_nil_of_length_eq_zero h0) h2
  · refine And.intro (And.intro (by omega) ?_) (And.intro rfl trivial)
    show RO.rows .i64 q = RO.rows .i64 (quoL t (cosL t l))
    rw [hq.done hp.2 (by omega)]
def NmS (t : List (List Int)) (l : List Int) : Prop := Grp t ∧ ClL t l ∧ NrmIn t (allI t) l
theorem gQuo_fn (t : List (List Int)) (l : List Int) (h : NmS t l) : QF 33 [.ro (.rows .i64 t), .ro (.ints .i64 l)] (.tup [.new (.rows .i64 (quoL t (cosL t l))), .int .i64 0]) :=
  mkQ Tryz.func33 (by decide +kernel) rfl (Nat.le_of_ble_eq_true rfl) fun _ => gQuo_k t l h.1 h.2.1 (nrmB_true.2 h.2.2) ⟨by rw [cosL_len]; have := h.1.most; omega, cosL_canon _ _⟩ (nrm_cg h.1 h.2.1 h.2.2)
end Go.Proofs.YtjlkhjgnfnfmgaaGreat
end
section
/- mult.Zero where 0 is a zero: contract. -/
namespace Go.Proofs.YtjlkhjgnfnfmgaaGreat
open Go Go.AM
set_option maxRecDepth 100000
set_option maxHeartbeats 1000000
def elemsL (n : Nat) : List Int := (List.range n).map fun i : Nat => (i : Int)
theorem elems_fn (t : List (List Int)) (hn : t.length ≤ 400) : QF 155 [.ro (.rows .i64 t)] (.new (.ints .i64 (elemsL t.length))) := mkQ Tryz.func155 (by decide +kernel) rfl (Nat.le_of_ble_eq_true rfl) fun _ => by
  refine And.intro (by omega) ?_
  refine And.intro (by omega) ?_
  refine Exists.intro [] <| lp2 (fun (k : Nat) (_ : List Int) => [(10, .int .i64 k)]) (fun _ L => [(7, .vec 0 (.ints .i64 L) [])]) (fun k L => k ≤ t.length ∧ L.length = t.length ∧ ∀ j, j < k → L.getD j 0 = (j : Int)) (fun k _ => t.length - k) 0 (List.replicate t.length 0) ⟨Nat.zero_le _, by simp, by omega⟩ (by repeat' first | refine And.intro ?_ ?_ | exact True.intro | (show (_ : Int) = (_ : Int); omega) | omega | exact rfl | (simp; omega)) ?_
  rintro k L ⟨hk, hL, hj⟩
  refine And.intro (fun h1 => ?_) (fun h1 => ?_)
  · have h1 : (k : Int) < ((List.replicate ((t.length : Nat) : Int).toNat (0 : Int)).length : Int) := h1
    rw [List.length_replicate, Int.toNat_natCast] at h1
    have hkl : k < t.length := by omega
    refine And.intro (show 0 ≤ (k : Int) ∧ (k : Int) < (L.length : Int) by omega) ?_
    refine And.intro (by omega) ?_
    refine And.intro (by omega) ?_
    refine nx (k + 1, L.set k (k : Int)) ⟨by omega, by rw [List.length_set]; exact hL, fun j hj' => ?_⟩ (show t.length - (k + 1) < t.length - k by omega) (by repeat' first | refine And.intro ?_ ?_ | exact True.intro | (show (_ : Int) = (_ : Int); omega) | omega | exact rfl | (simp only [RO.len]; omega))
    by_cases e : j = k
    · subst e; rw [getD_set_eq (by omega)]
    · rw [getD_set_ne (Ne.symm e)]; exact hj j (by omega)
  · have h1 : ((List.replicate ((t.length : Nat) : Int).toNat (0 : Int)).length : Int) ≤ (k : Int) := h1
    rw [List.length_replicate, Int.toNat_natCast] at h1
    refine And.intro (And.intro (by omega) ?_) trivial
    refine congrArg (RO.ints .i64) (ext_getD 0 (by simp [elemsL]; exact hL) fun j hj' => ?_)
    rw [hj j (by omega)]; unfold elemsL; rw [map_range_getD _ _ _ _ (by omega)]
theorem mvalid_fn (t : List (List Int)) : QF 85 [.ro (.rows .i64 t)] (.bool (.v (decide (validV t = 0)))) := mkQ Tryz.func85 (by decide +kernel) rfl (Nat.le_of_ble_eq_true rfl) fun _ => by
  refine Or.inl (cq (valid_fn t) (And.intro rfl trivial) ?_)
  exact And.intro rfl trivial
end Go.Proofs.YtjlkhjgnfnfmgaaGreat
end
section
/- mult.choose (the elements with a property), mult.Idempotents: contracts. -/
namespace Go.Proofs.YtjlkhjgnfnfmgaaGreat
open Go Go.AM
set_option maxRecDepth 100000
def flP (P : Nat → Bool) (k : Nat) : List Int := ((List.range k).filter P).map fun i : Nat => (i : Int)
theorem flP_yes {P : Nat → Bool} {k : Nat} (h : P k = true) : flP P (k + 1) = flP P k ++ [(k : Int)] := by simp [flP, List.range_succ, List.filter_append, h]
theorem flP_no {P : Nat → Bool} {k : Nat} (h : P k = false) : flP P (k + 1) = flP P k := by simp [flP, List.range_succ, List.filter_append, h]
theorem flP_mem {P : Nat → Bool} {k : Nat} {x : Int} : x ∈ flP P k ↔ ∃ i : Nat, i < k ∧ P i = true ∧ x = (i : Int) := by
  simp only [flP, List.mem_map, List.mem_filter, List.mem_range]
  exact ⟨fun ⟨i, ⟨h1, h2⟩, h3⟩ => ⟨i, h1, h2, h3.symm⟩, fun ⟨i, h1, h2, h3⟩ => ⟨i, ⟨h1, h2⟩, h3.symm⟩⟩
theorem flP_all {P : Nat → Bool} : ∀ {k : Nat}, (∀ i, i < k → P i = true) → flP P k = elemsL k
  | 0, _ => rfl
  | k + 1, h => by rw [flP_yes (h k (by omega)), flP_all fun i hi => h i (by omega)]; simp [elemsL, List.range_succ]
theorem flP_asc {n : Nat} {P : Nat → Bool} : flP P n = ascV n P :=
  asc_ext (asc_of (List.pairwise_map.2 (((List.pairwise_lt_range (n := n)).filter P).imp fun {a b} h => by omega))) (ascV_asc n P) fun x => by rw [flP_mem, ascV_mem]
section
variable (t : List (List Int)) (g : FuncId) (P : Nat → Bool)
abbrev chB : AV := .cfn g (.rows3 [t]) 0
abbrev chS : Store := [(1000, .box [chB t g])]
abbrev WantP : Prop := ∀ x : Nat, x < t.length → QF g [.int .i64 x, .rptr (.rows3 [t]) 0] (.bool (.v (P x)))
theorem ch1_k (hg : WantP t g P) (x : Nat) (hx : x < t.length) : fnMK TY SP Tryz.f156 [.int .i64 x, .ptr 1000 0] (chS t g) (.bool (.v (!P x))) (chS t g) := by
  refine cq (hg x hx) (And.intro rfl (And.intro (And.intro rfl rfl) trivial)) ?_
  exact And.intro ⟨⟨⟨rfl, rfl, rfl⟩, trivial⟩, trivial⟩ rfl
theorem ch1_fn (hg : WantP t g P) (x : Nat) (hx : x < t.length) : MF 156 [.int .i64 x, .ptr 1000 0] (chS t g) (.bool (.v (!P x))) (chS t g) := mkM Tryz.func156 (by decide +kernel) rfl (Nat.le_of_ble_eq_true rfl) fun _ => ch1_k t g P hg x hx
abbrev chS2 (l : List Int) : Store := [(1001, .vec 0 (.ints .i64 l) []), (1000, .box [chB t g])]
def fstN (P : Nat → Bool) (n : Nat) : Int := match (List.range n).find? (fun x => !P x) with | some x => (x : Int) | none => -1
theorem fst_yes {P : Nat → Bool} {n y : Nat} (hy : y < n) (h : ∀ z, z < y → P z = true) (e : P y = false) : fstN P n = (y : Int) := by
  have : (List.range n).find? (fun x => !P x) = some y := by
    rw [List.find?_range_eq_some]; exact ⟨by simp [e], by simp [hy], fun j hj => by simp [h j hj]⟩
  unfold fstN; rw [this]
theorem fst_no {P : Nat → Bool} {n : Nat} (h : ∀ z, z < n → P z = true) : fstN P n = -1 := by
  have : (List.range n).find? (fun x => !P x) = none := by
    rw [List.find?_eq_none]; intro x hx; simp [h x (List.mem_range.1 hx)]
  unfold fstN; rw [this]
theorem chI_k (hg : WantP t g P) (hn : t.length ≤ 400) : fnMK TY SP Tryz.f166 [.vec 1001, .fn 156 [.ptr 1000 0]] (chS2 t g (elemsL t.length)) (.int .i64 (fstN P t.length)) (chS2 t g (elemsL t.length)) := by
  have hel : (elemsL t.length).length = t.length := by simp [elemsL]
  have hge : ∀ k, k < t.length → (elemsL t.length).getD k 0 = (k : Int) := fun k hk => by simp [elemsL, List.getD, hk]
  refine Exists.intro [] <| lp (X := Nat) (fun y => [(8, .int .i64 y)]) (fun _ => []) (fun y => y ≤ t.length ∧ ∀ k, k < y → P k = true) (fun y => t.length - y) 0 ⟨Nat.zero_le _, fun k hk => absurd hk (Nat.not_lt_zero _)⟩ (by repeat' first | refine And.intro ?_ ?_ | exact True.intro | (show (_ : Int) = (_ : Int); omega) | omega | exact rfl | (simp only [RO.len]; omega)) ?_
  rintro y ⟨hy, hn2⟩
  refine And.intro (fun h1 => ?_) (fun h1 => ?_)
  · have h1 : (y : Int) < ((elemsL t.length).length : Int) := h1
    have hyl : y < t.length := by omega
    have e0 := hge y hyl
    refine And.intro (by omega) ?_
    refine Or.inr (cm [] [(1000, 1000)] (ch1_fn t g P hg y hyl) ?_)
    refine And.intro ?_ ?_
    · repeat' first | refine And.intro ?_ ?_ | exact True.intro | exact e0 | (show (_ : Int) = (_ : Int); omega) | omega | exact rfl | (simp only [RO.len]; omega)
    refine And.intro (fun h2 => ?_) (fun h2 => ?_)
    · have h2 : (!P y) = true := h2
      refine And.intro (by repeat' first | refine And.intro ?_ ?_ | exact True.intro | (show (_ : Int) = (_ : Int); omega) | omega | exact rfl | (simp only [RO.len]; omega)) ?_
      show (y : Int) = fstN P t.length
      exact (fst_yes hyl hn2 (by simpa using h2)).symm
    · have h2 : (!P y) = false := h2
      refine And.intro (by omega) ?_
      refine nx (y + 1) ⟨by omega, fun k hk => ?_⟩ (show t.length - (y + 1) < t.length - y by omega) (by repeat' first | refine And.intro ?_ ?_ | exact True.intro | (show (_ : Int) = (_ : Int); omega) | omega | exact rfl | (simp only [RO.len]; omega))
      by_cases e : k = y
      · rw [e]; simpa using h2
      · exact hn2 k (by omega)
  · have h1 : ((elemsL t.length).length : Int) ≤ (y : Int) := h1
    refine And.intro (by repeat' first | refine And.intro ?_ ?_ | exact True.intro | (show (_ : Int) = (_ : Int); omega) | omega | exact rfl | (simp only [RO.len]; omega)) ?_
    show (-1 : Int) = fstN P t.length
    exact (fst_no fun k hk => hn2 k (by omega)).symm
theorem chI_fn (hg : WantP t g P) (hn : t.length ≤ 400) : MF 166 [.vec 1001, .fn 156 [.ptr 1000 0]] (chS2 t g (elemsL t.length)) (.int .i64 (fstN P t.length)) (chS2 t g (elemsL t.length)) := mkM Tryz.func166 (by decide +kernel) rfl (Nat.le_of_ble_eq_true rfl) fun _ => chI_k t g P hg hn
abbrev chS3 (l : List Int) : Store := [(500, .vec 0 (.ints .i64 l) []), (1000, .box [chB t g])]
theorem chDA_k (hg : WantP t g P) (hn : t.length ≤ 400) (ha : ∀ z, z < t.length → P z = true) : fnMK TY SP Tryz.f154 [.vec 500, .fn 156 [.ptr 1000 0]] (chS3 t g (elemsL t.length)) (.vec 500) (chS3 t g (flP P t.length)) := by
  refine Or.inr (Or.inl (cm [] [(1000, 1000), (1001, 500)] (chI_fn t g P hg hn) ?_))
  refine And.intro ?_ ?_
  · repeat' first | refine And.intro ?_ ?_ | exact True.intro | (show (_ : Int) = (_ : Int); omega) | omega | exact rfl | (simp only [RO.len]; omega)
  refine And.intro (fun _ => ?_) (fun h1 => absurd (fst_no ha) h1)
  refine And.intro ?_ (And.intro rfl (And.intro trivial trivial))
  refine And.intro (And.intro ⟨Nat.le_refl _, Nat.zero_le _⟩ (congrArg (RO.ints .i64) (flP_all ha).symm)) ?_
  exact And.intro ⟨⟨rfl, rfl, rfl⟩, trivial⟩ trivial
structure DelI (P : Nat → Bool) (n i j : Nat) (r : List Int) : Prop where
  jn : j ≤ n
  ij : i < j
  len : r.length = n
  cnt : (flP P j).length = i
  hd : r.take i = flP P j
  tl : ∀ k, j ≤ k → k < n → r.getD k 0 = (k : Int)
theorem DelI.start {n y : Nat} (hy : y < n) (h : ∀ z, z < y → P z = true) (e : P y = false) : DelI P n y (y + 1) (elemsL n) := by
  have hf : flP P (y + 1) = elemsL y := by rw [flP_no e, flP_all h]
  refine ⟨by omega, by omega, by simp [elemsL], by rw [hf]; simp [elemsL], ?_, fun k _ hk => by simp [elemsL, List.getD, hk]⟩
  rw [hf]; unfold elemsL; rw [← List.map_take, List.take_range, Nat.min_eq_left (by omega)]
theorem DelI.yes {n i j : Nat} {r : List Int} (h : DelI P n i j r) (hj : j < n) (e : P j = true) : DelI P n (i + 1) (j + 1) (r.set i (r.getD j 0)) := by
  have h1 := h.ij
  refine ⟨by omega, by omega, by rw [List.length_set]; exact h.len, by rw [flP_yes e, List.length_append, h.cnt]; rfl, ?_, fun k hk hkn => by rw [getD_set_ne (by omega)]; exact h.tl k (by omega) hkn⟩
  rw [flP_yes e, ← h.hd, h.tl j (Nat.le_refl _) hj]
  have hi : i < (r.set i ((j : Nat) : Int)).length := by rw [List.length_set, h.len]; omega
  rw [List.take_succ_eq_append_getElem hi, List.take_set_of_le (Nat.le_refl _), List.getElem_set_self]
theorem DelI.no {n i j : Nat} {r : List Int} (h : DelI P n i j r) (hj : j < n) (e : P j = false) : DelI P n i (j + 1) r :=
  ⟨by omega, by have := h.ij; omega, h.len, by rw [flP_no e]; exact h.cnt, by rw [flP_no e]; exact h.hd, fun k hk hkn => h.tl k (by omega) hkn⟩
theorem chDB_k (hg : WantP t g P) (hn : t.length ≤ 400) (y : Nat) (hy : y < t.length) (ha : ∀ z, z < y → P z = true) (e : P y = false) : fnMK TY SP Tryz.f154 [.vec 500, .fn 156 [.ptr 1000 0]] (chS3 t g (elemsL t.length)) (.vec 500) (chS3 t g (flP P t.length)) := by
  have hf := fst_yes hy ha e
  refine Or.inr (Or.inl (cm [] [(1000, 1000), (1001, 500)] (chI_fn t g P hg hn) ?_))
  refine And.intro ?_ ?_
  · repeat' first | refine And.intro ?_ ?_ | exact True.intro | (show (_ : Int) = (_ : Int); omega) | omega | exact rfl | (simp only [RO.len]; omega)
  refine And.intro (fun h1 => absurd (show fstN P t.length = -1 from h1) (by omega)) (fun _ => ?_)
  refine And.intro (show -9223372036854775808 ≤ fstN P t.length + 1 ∧ fstN P t.length + 1 ≤ 9223372036854775807 by omega) ?_
  refine Exists.intro [] <| lp3 (fun (i : Nat) (j : Nat) (_ : List Int) => [(5, .int .i64 i), (6, .int .i64 j)]) (fun _ _ r => [(500, .vec 0 (.ints .i64 r) [])]) (fun i j r => DelI P t.length i j r) (fun _ j _ => t.length - j) y (y + 1) (elemsL t.length) (DelI.start P hy ha e) (by repeat' first | refine And.intro ?_ ?_ | exact True.intro | exact hf | (show (_ : Int) = (_ : Int); omega) | omega | exact rfl | (simp only [RO.len]; omega)) ?_
  rintro i j r hI
  have hjn := hI.jn
  have hij := hI.ij
  have hlen := hI.len
  refine And.intro (fun h1 => ?_) (fun h1 => ?_)
  · have h1 : (j : Int) < (r.length : Int) := h1
    have hj : j < t.length := by omega
    have e0 : r.getD j 0 = (j : Int) := hI.tl j (Nat.le_refl _) hj
    refine And.intro (by omega) ?_
    refine Or.inr (cm [] [(1000, 1000)] (ch1_fn t g P hg j hj) ?_)
    refine And.intro ?_ ?_
    · repeat' first | refine And.intro ?_ ?_ | exact True.intro | exact e0 | (show (_ : Int) = (_ : Int); omega) | omega | exact rfl | (simp only [RO.len]; omega)
    refine And.intro (fun h2 => ?_) (fun h2 => ?_)
    · have h2 : (!(!P j)) = true := h2
      have h2 : P j = true := by simpa using h2
      refine And.intro (by omega) ?_
      refine And.intro (by omega) ?_
      refine And.intro (by omega) ?_
      refine And.intro (by omega) ?_
      exact nx (i + 1, j + 1, r.set i (r.getD j 0)) (hI.yes P hj h2) (show t.length - (j + 1) < t.length - j by omega) (by repeat' first | refine And.intro ?_ ?_ | exact True.intro | (show (_ : Int) = (_ : Int); omega) | omega | exact rfl | (simp only [RO.len]; omega))
    · have h2 : (!(!P j)) = false := h2
      have h2 : P j = false := by simpa using h2
      refine And.intro (by omega) ?_
      exact nx (i, j + 1, r) (hI.no P hj h2) (show t.length - (j + 1) < t.length - j by omega) (by repeat' first | refine And.intro ?_ ?_ | exact True.intro | (show (_ : Int) = (_ : Int); omega) | omega | exact rfl | (simp only [RO.len]; omega))
  · have h1 : (r.length : Int) ≤ (j : Int) := h1
    have hje : j = t.length := by omega
    subst hje
    have ht : (r.take i ++ List.replicate (r.length - i) 0).length = r.length := by simp; omega
    have hres : List.drop 0 (List.take i (List.take i r ++ List.replicate (r.length - i) 0)) = flP P t.length := by
      rw [List.drop_zero, List.take_append_of_le_length (by rw [List.length_take]; omega), List.take_take, Nat.min_self]; exact hI.hd
    refine And.intro (by omega) ?_
    refine And.intro (by omega) ?_
    refine And.intro (show 0 ≤ (i : Int) ∧ (i : Int) ≤ ((r.take i ++ List.replicate (r.length - i) 0).length : Int) by omega) ?_
    refine Or.inr ?_
    repeat' first | refine And.intro ?_ ?_ | exact True.intro | exact congrArg (RO.ints .i64) hres | omega | exact rfl | (simp only [RO.len]; omega)
theorem chD_fn (hg : WantP t g P) (hn : t.length ≤ 400) : MF 154 [.vec 500, .fn 156 [.ptr 1000 0]] (chS3 t g (elemsL t.length)) (.vec 500) (chS3 t g (flP P t.length)) := mkM Tryz.func154 (by decide +kernel) rfl (Nat.le_of_ble_eq_true rfl) fun _ => by
  by_cases h : ∃ y, y < t.length ∧ P y = false
  · obtain ⟨y, hy, hl, e⟩ : ∃ y, y < t.length ∧ (∀ z, z < y → P z = true) ∧ P y = false := by
      obtain ⟨y, hy, e, hmin⟩ := least_ex (p := fun y => P y = false) h
      exact ⟨y, hy, fun z hz => by have := hmin z hz; simpa using this, e⟩
    exact chDB_k t g P hg hn y hy hl e
  · exact chDA_k t g P hg hn fun z hz => by
      cases e : P z with
      | true => rfl
      | false => exact absurd ⟨z, hz, e⟩ h
theorem choose_k (hg : WantP t g P) (h : validV t = 0) : fnK TY SP Tryz.f125 [.ro (.rows .i64 t), .cfn g (.rows3 [t]) 0] (.new (.ints .i64 (ascV t.length P))) := by
  have hn := (valid_zero.1 h).most
  refine Or.inl (cq (mvalid_fn t) (And.intro rfl trivial) ?_)
  refine And.intro (fun h1 => ?_) (fun _ => ?_)
  · have h1 : (!decide (validV t = 0)) = true := h1
    rw [decide_eq_true h] at h1; cases h1
  refine Or.inl (cq (elems_fn t hn) (And.intro rfl trivial) ?_)
  refine Or.inr (Or.inl (cm [] [(500, 9), (1000, 3)] (chD_fn t g P hg hn) ?_))
  refine And.intro ?_ ?_
  · repeat' first | refine And.intro ?_ ?_ | exact True.intro | (show (_ : Int) = (_ : Int); omega) | omega | exact rfl | (simp only [RO.len]; omega)
  repeat' first | refine And.intro ?_ ?_ | exact True.intro | exact congrArg (RO.ints .i64) flP_asc | omega | exact rfl | (simp only [RO.len]; omega)
theorem choose_fn (hg : WantP t g P) (h : validV t = 0) : QF 125 [.ro (.rows .i64 t), .cfn g (.rows3 [t]) 0] (.new (.ints .i64 (ascV t.length P))) := mkQ Tryz.func125 (by decide +kernel) rfl (Nat.le_of_ble_eq_true rfl) fun _ => choose_k t g P hg h
end
/-! ### Idempotents -/
end Go.Proofs.YtjlkhjgnfnfmgaaGreat
end
section
/- mult.Center, mult.Commutative: contracts. -/
namespace Go.Proofs.YtjlkhjgnfnfmgaaGreat
open Go Go.AM
set_option maxRecDepth 100000
section
variable (t : List (List Int))
def cenB (t : List (List Int)) (x : Nat) : Bool := (List.range t.length).all fun y => decide (en t x y = en t y x)
theorem cenB_true {t : List (List Int)} {x : Nat} : cenB t x = true ↔ ∀ y, y < t.length → en t x y = en t y x := by simp [cenB]
theorem cenC_k (h : Sh t) (x : Nat) (hx : x < t.length) : fnK TY SP Tryz.f126 [.int .i64 x, .rptr (.rows3 [t]) 0] (.bool (.v (cenB t x))) := by
  have hmost := h.most
  refine Exists.intro [] <| lp (X := Nat) (fun y => [(7, .int .i64 y)]) (fun _ => []) (fun y => y ≤ t.length ∧ ∀ k, k < y → en t x k = en t k x) (fun y => t.length - y) 0 ⟨Nat.zero_le _, fun k hk => absurd hk (Nat.not_lt_zero _)⟩ (by repeat' first | refine And.intro ?_ ?_ | exact True.intro | (show (_ : Int) = (_ : Int); omega) | omega | exact rfl | (simp only [RO.len]; omega)) ?_
  rintro y ⟨hy, hI⟩
  refine And.intro (fun h1 => ?_) (fun h1 => ?_)
  · have h1 : (y : Int) < (t.length : Int) := h1
    have hyl : y < t.length := by omega
    have rx := h.len hx
    have ry := h.len hyl
    have e1 := h.ent hx hyl
    have e2 := h.ent hyl hx
    refine Or.inl ?_
    refine Exists.intro (List.replicate 15 false) (And.intro (by decide +kernel) ?_)
    refine And.intro (show 0 ≤ (x : Int) ∧ (x : Int) < (t.length : Int) by omega) ?_
    refine And.intro (show 0 ≤ (y : Int) ∧ (y : Int) < ((t.getD x []).length : Int) by omega) ?_
    refine And.intro (show 0 ≤ (y : Int) ∧ (y : Int) < (t.length : Int) by omega) ?_
    refine And.intro (show 0 ≤ (x : Int) ∧ (x : Int) < ((t.getD y []).length : Int) by omega) ?_
    refine And.intro (fun h2 => ?_) (fun h2 => ?_)
    · have h2 : (t.getD x []).getD y 0 ≠ (t.getD y []).getD x 0 := h2
      refine And.intro ?_ trivial
      show false = cenB t x
      exact (Bool.eq_false_iff.2 fun hh => h2 (by have := cenB_true.1 hh y hyl; omega)).symm
    · have h2 : (t.getD x []).getD y 0 = (t.getD y []).getD x 0 := h2
      refine And.intro (by omega) ?_
      refine nx (y + 1) ⟨by omega, fun k hk => ?_⟩ (show t.length - (y + 1) < t.length - y by omega) (by repeat' first | refine And.intro ?_ ?_ | exact True.intro | (show (_ : Int) = (_ : Int); omega) | omega | exact rfl | (simp only [RO.len]; omega))
      by_cases e : k = y
      · subst e; omega
      · exact hI k (by omega)
  · have h1 : (t.length : Int) ≤ (y : Int) := h1
    refine And.intro ?_ trivial
    show true = cenB t x
    exact (cenB_true.2 fun k hk => hI k (by omega)).symm
theorem cenC_fn (h : Sh t) : WantP t 126 (cenB t) := fun x hx => mkQ Tryz.func126 (by decide +kernel) rfl (Nat.le_of_ble_eq_true rfl) fun _ => cenC_k t h x hx
theorem cen_k (h : validV t = 0) : fnK TY SP Tryz.f86 [.ro (.rows .i64 t)] (.new (.ints .i64 (ascV t.length (cenB t)))) := by
  have hs := (valid_zero.1 h).toSh
  refine Or.inr ?_
  refine Or.inl (cq (choose_fn t 126 (cenB t) (cenC_fn t hs) h) (And.intro rfl (And.intro ⟨rfl, rfl, rfl⟩ trivial)) ?_)
  exact And.intro (And.intro (by omega) rfl) trivial
theorem cen_fn (h : validV t = 0) : QF 86 [.ro (.rows .i64 t)] (.new (.ints .i64 (ascV t.length (cenB t)))) := mkQ Tryz.func86 (by decide +kernel) rfl (Nat.le_of_ble_eq_true rfl) fun _ => cen_k t h
theorem cen_all {t : List (List Int)} : (ascV t.length (cenB t)).length = t.length ↔ ∀ x y, x < t.length → y < t.length → en t x y = en t y x := by
  constructor
  · intro e x y hx hy
    have hnd : (ascV t.length (cenB t)).Nodup := (pairwise_adj (ascV_asc _ _)).imp fun {a b} h e => by omega
    have hall : ((x : Nat) : Int) ∈ ascV t.length (cenB t) := by
      refine Classical.byContradiction fun hno => ?_
      have := (List.nodup_cons.2 ⟨hno, hnd⟩ : (((x : Nat) : Int) :: ascV t.length (cenB t)).Nodup).length_le_of_subset (l₂ := elemsL t.length) fun z hz => by
        rcases List.mem_cons.1 hz with rfl | hz
        · exact List.mem_map.2 ⟨x, List.mem_range.2 hx, rfl⟩
        · obtain ⟨i, hi, _, rfl⟩ := ascV_mem.1 hz
          exact List.mem_map.2 ⟨i, List.mem_range.2 hi, rfl⟩
      simp [elemsL, e] at this
      omega
    obtain ⟨i, _, h2, h3⟩ := ascV_mem.1 hall
    obtain rfl : i = x := by omega
    exact cenB_true.1 h2 y hy
  · intro h
    have : ascV t.length (cenB t) = elemsL t.length := by
      rw [← flP_asc]; exact flP_all fun i hi => cenB_true.2 fun y hy => h i y hi hy
    rw [this]; simp [elemsL]
noncomputable def comB (t : List (List Int)) : Bool := @decide (∀ x y, x < t.length → y < t.length → en t x y = en t y x) (Classical.propDecidable _)
theorem comB_true {t : List (List Int)} : comB t = true ↔ ∀ x y, x < t.length → y < t.length → en t x y = en t y x := by unfold comB; exact @decide_eq_true_iff _ (Classical.propDecidable _)
theorem com_k (h : validV t = 0) : fnK TY SP Tryz.f36 [.ro (.rows .i64 t)] (.bool (.v (comB t))) := by
  refine Or.inl (cq (mvalid_fn t) (And.intro rfl trivial) ?_)
  refine And.intro (fun _ => ?_) (fun h1 => absurd h (of_decide_eq_false h1))
  refine Or.inl (cq (cen_fn t h) (And.intro rfl trivial) ?_)
  refine And.intro ?_ trivial
  show decide (((ascV t.length (cenB t)).length : Int) = (t.length : Int)) = comB t
  unfold comB
  exact decide_eq_decide.2 ⟨fun e => cen_all.1 (by omega), fun e => by have := cen_all.2 e; omega⟩
theorem com_fn (h : validV t = 0) : QF 36 [.ro (.rows .i64 t)] (.bool (.v (comB t))) := mkQ Tryz.func36 (by decide +kernel) rfl (Nat.le_of_ble_eq_true rfl) fun _ => com_k t h
end
end Go.Proofs.YtjlkhjgnfnfmgaaGreat
end
section
/- The statement GroupDerives: the walk. -/
namespace Go.Proofs.YtjlkhjgnfnfmgaaGreat
open Go Go.AM
set_option maxRecDepth 100000
def DrI (D l : List Int) (k : Nat) (b : Bool) : Prop := b = true ↔ ∀ i, i < k → D.getD i 0 ∈ l
theorem DrI.start (D l : List Int) : DrI D l 0 true := Iff.intro (fun _ i h => absurd h (Nat.not_lt_zero _)) fun _ => rfl
theorem DrI.no {D l : List Int} {k : Nat} (h : DrI D l k false) : DrI D l (k + 1) false := Iff.intro (fun hh => absurd hh (by decide)) fun hh => absurd (h.2 fun i hi => hh i (by omega)) (by decide)
theorem DrI.yes {D l : List Int} {k : Nat} {b : Bool} (h : DrI D l k true) (e : b = true ↔ D.getD k 0 ∈ l) : DrI D l (k + 1) b := by
  refine e.trans ⟨fun h1 i hi => ?_, fun h1 => h1 k (by omega)⟩
  by_cases e : i = k
  · subst e; exact h1
  · exact h.1 rfl i (by omega)
theorem der_nrm {t : List (List Int)} (h : Grp t) : NrmIn t (allI t) (derL t (allI t)) := fun x hx y hy => by
  have hdc := der_cl h (allI_cl h.toSh).ins
  have hx' := mem_disI.1 hx
  have hy' := hdc.ins y hy
  have hc : setI (derL t (allI t)) (cmN t x.toNat y.toNat) = true := (der_in_iff h hdc).2 (fun z hz => by rw [der_gen h]; exact hz) _ _ (by omega) (by omega)
  have hm := hdc.cl _ _ (cmN_lt h (x := x.toNat) (y := y.toNat) (by omega) (by omega)) (by omega) hc (hdc.iset hy)
  have e : en t (cmN t x.toNat y.toNat) y.toNat = cjN t x.toNat y.toNat := by
    have iy := h.ninv (x := y.toNat) (by omega)
    have hcj := cjN_lt h (x := x.toNat) (y := y.toNat) (by omega) (by omega)
    show en t (en t (cjN t x.toNat y.toNat) (invN t y.toNat)) y.toNat = _
    rw [assoc3 h.assoc hcj iy.1 (by omega), iy.2.2, (h.one.2.1 _ hcj).2]
  rw [← e]; exact hm
set_option maxHeartbeats 4000000 in
theorem grpDer_k (t : List (List Int)) (h : Grp t) (hn : t.length ≤ 16) : fnK TY SP Tryz.f8 [.ro (.rows .i64 t)] (.bool (.lit true)) := by
  have hS := h.toSh
  have hdc := der_cl h (allI_cl hS).ins
  have hns : (nsL t).length ≤ 1941 := few_subs h hn (fun l hl => (nsL_mem.1 hl).cl) ((nsL_srt t).nodup cmpS_tot)
  have hdl : (derL t (allI t)).length ≤ t.length := ascV_len _ _
  refine Or.inl (cq (little16_fn t 16) (And.intro rfl (And.intro rfl trivial)) ?_)
  refine And.intro (fun h1 => ?_) (fun _ => ?_)
  · have h1 : (!(decide ((t.length : Int) ≤ 16) && grpB t)) = true := h1
    rw [grpB_true.2 h, decide_eq_true (by omega)] at h1; exact absurd h1 (by decide)
  refine Or.inl (cq (new_ro (gDer_fn t h)) (And.intro rfl trivial) ?_)
  refine Or.inl (cq (gNrms_fn t h hn) (And.intro rfl trivial) ?_)
  refine And.intro (fun h2 => absurd rfl h2) (fun _ => ?_)
  refine Or.inl (cq (gNrm_fn t (derL t (allI t))) (And.intro rfl (And.intro rfl trivial)) ?_)
  refine And.intro (fun h3 => ?_) (fun _ => ?_)
  · have h3 : (!(grpB t && (clB t (derL t (allI t)) && nrmB t (allI t) (derL t (allI t))))) = true := h3
    rw [grpB_true.2 h, clB_true.2 hdc, nrmB_true.2 (der_nrm h)] at h3; exact absurd h3 (by decide)
  refine Exists.intro [] <| lp (X := Nat) (fun i => [(35, .int .i64 i)]) (fun _ => []) (fun i => i ≤ (nsL t).length) (fun i => (nsL t).length - i) 0 (Nat.zero_le _) (by repeat' first | refine And.intro ?_ ?_ | exact True.intro | (show (_ : Int) = (_ : Int); omega) | omega | exact rfl | (simp only [RO.len]; omega)) ?_
  rintro i hi
  refine And.intro (fun h1 => ?_) (fun h1 => ?_)
  · have h1 : (i : Int) < ((nsL t).length : Int) := h1
    have hil : i < (nsL t).length := by omega
    have hs := nsL_mem.1 (getD_mem (d := []) hil)
    refine And.intro (by omega) ?_
    refine Or.inl (cq (gQuo_fn t ((nsL t).getD i []) ⟨h, hs.cl, hs.nrm⟩) (And.intro rfl (And.intro rfl trivial)) ?_)
    refine Or.inl (cq (new_ro (rset_fn ((nsL t).getD i []) t.length (by omega))) (And.intro rfl (And.intro rfl trivial)) ?_)
    refine Exists.intro [] <| lp2 (fun (k : Nat) (b : Bool) => [(51, .int .i64 k), (11, .bool (.v b))]) (fun _ _ => []) (fun k b => k ≤ (derL t (allI t)).length ∧ DrI (derL t (allI t)) ((nsL t).getD i []) k b) (fun k _ => (derL t (allI t)).length - k) 0 true ⟨Nat.zero_le _, DrI.start _ _⟩ (by repeat' first | refine And.intro ?_ ?_ | exact True.intro | (show (_ : Int) = (_ : Int); omega) | omega | exact rfl | (simp only [RO.len]; omega)) ?_
    rintro k b ⟨hk, hK⟩
    refine And.intro (fun h2 => ?_) (fun h2 => ?_)
    · have h2 : (k : Int) < ((derL t (allI t)).length : Int) := h2
      have hkl : k < (derL t (allI t)).length := by omega
      have hr := ascV_in (getD_mem (d := 0) hkl)
      have hr : 0 ≤ (derL t (allI t)).getD k 0 ∧ (derL t (allI t)).getD k 0 < (t.length : Int) := hr
      refine And.intro (by omega) ?_
      refine And.intro (fun h3 => ?_) (fun h3 => ?_)
      · have h3 : b = true := h3
        subst h3
        refine Or.inl (cq (rin_fn t [(derL t (allI t)).getD k 0]) (And.intro rfl (And.intro rfl trivial)) ?_)
        refine And.intro (fun _ => ?_) (fun h4 => ?_)
        · refine And.intro (show 0 ≤ (derL t (allI t)).getD k 0 ∧ (derL t (allI t)).getD k 0 < ((setB t.length fun x => ((nsL t).getD i []).contains (x : Int)).length : Int) by rw [setB_len]; exact hr) ?_
          refine And.intro (by omega) ?_
          refine nx (k + 1, (setB t.length fun x => ((nsL t).getD i []).contains (x : Int)).getD ((derL t (allI t)).getD k 0).toNat false) ⟨by omega, hK.yes ?_⟩ (show (derL t (allI t)).length - (k + 1) < (derL t (allI t)).length - k by omega) (by repeat' first | refine And.intro ?_ ?_ | exact True.intro | (show (_ : Int) = (_ : Int); omega) | omega | exact rfl | (simp only [RO.len]; omega))
          rw [setB_get (by omega), Int.toNat_of_nonneg hr.1]
          simp
        · have h4 : decide (∀ x ∈ [(derL t (allI t)).getD k 0], 0 ≤ x ∧ x < (t.length : Int)) = false := h4
          exact absurd (fun x hx => by rw [List.mem_singleton] at hx; rw [hx]; exact hr) (of_decide_eq_false h4)
      · have h3 : b = false := h3
        subst h3
        refine And.intro (by omega) ?_
        exact nx (k + 1, false) ⟨by omega, hK.no⟩ (show (derL t (allI t)).length - (k + 1) < (derL t (allI t)).length - k by omega) (by repeat' first | refine And.intro ?_ ?_ | exact True.intro | (show (_ : Int) = (_ : Int); omega) | omega | exact rfl | (simp only [RO.len]; omega))
    · have h2 : ((derL t (allI t)).length : Int) ≤ (k : Int) := h2
      have hke : k = (derL t (allI t)).length := by omega
      subst hke
      have hgq : Grp (quoL t (cosL t ((nsL t).getD i []))) := quo_grp h (cosL_len t _) (cosL_canon t _) (nrm_cg h hs.cl hs.nrm)
      have hb : comB (quoL t (cosL t ((nsL t).getD i []))) = b := by
        rw [Bool.eq_iff_iff, comB_true]
        refine (der_sub_iff h hs.cl hs.nrm).trans (Iff.trans ?_ hK.symm)
        constructor
        · intro hd q hq
          exact hd _ (getD_mem hq)
        · intro hd x hx
          obtain ⟨q, hq, rfl⟩ := mem_getD 0 hx
          exact hd q hq
      refine And.intro (fun h3 => absurd rfl h3) (fun _ => ?_)
      refine Or.inl (cq (com_fn (quoL t (cosL t ((nsL t).getD i []))) (valid_zero.2 hgq.toSemi)) (And.intro rfl trivial) ?_)
      refine And.intro (fun h3 => ?_) (fun _ => ?_)
      · have h3 : (!(comB (quoL t (cosL t ((nsL t).getD i []))) == b)) = true := h3
        rw [hb] at h3; simp at h3
      refine And.intro (by omega) ?_
      exact nx (i + 1) (show i + 1 ≤ (nsL t).length by omega) (show (nsL t).length - (i + 1) < (nsL t).length - i by omega) (by repeat' first | refine And.intro ?_ ?_ | exact True.intro | (show (_ : Int) = (_ : Int); omega) | omega | exact rfl | (simp only [RO.len]; omega))
  · have hp : 0 < (nsL t).length := List.length_pos_of_mem (nsL_mem.2 (all_ns h))
    refine And.intro (fun _ => ?_) (fun h2 => absurd (show ((nsL t).length : Int) ≤ 0 from h2) (by omega))
    exact Or.inl (cq awake16_fn trivial (And.intro rfl trivial))
theorem grpDer_fn (t : List (List Int)) : QF 8 [.ro (.rows .i64 t)] (.bool (.lit true)) := mkQ Tryz.func8 (by decide +kernel) rfl (Nat.le_of_ble_eq_true rfl) fun _ => by
  by_cases h : Grp t ∧ t.length ≤ 16
  · exact grpDer_k t h.1 h.2
  · refine Or.inl (cq (little16_fn t 16) (And.intro rfl (And.intro rfl trivial)) ?_)
    refine And.intro (fun _ => Or.inl (cq awake16_fn trivial (And.intro rfl trivial))) (fun h1 => ?_)
    have h1 : (!(decide ((t.length : Int) ≤ 16) && grpB t)) = false := h1
    rw [Bool.not_eq_false', Bool.and_eq_true] at h1
    exact absurd ⟨grpB_true.1 h1.2, by have := of_decide_eq_true h1.1; omega⟩ h
end Go.Proofs.YtjlkhjgnfnfmgaaGreat
end
