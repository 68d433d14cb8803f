import Derived.Test.YtjlkhjgnfnfmgaaMult
import Derived.Test.YtjlkhjgnfnfmgaaCmTz
import Derived.Test.YtjlkhjgnfnfmgaaCmCode
import Derived.Test.YtjlkhjgnfnfmgaaRefTbl
import Derived.Test.YtjlkhjgnfnfmgaaRefPart
import Derived.Test.YtjlkhjgnfnfmgaaRows
import Derived.Deep.Matrix
import Derived.Deep.Fields
import Derived.SizedLaws
import Derived.Carry
import Derived.WideKeyArgs
import Derived.ProofKit
import Derived.OpenShut
section
section
/- The sanity check, by computation: what every seat needs. -/
namespace Go.Proofs.Ytjlkhjgnfnfmgaa
open Go Go.AM Go.CM
set_option maxRecDepth 100000
theorem zOk : ZOk Try.prog TY TZ := zOk_of (by decide +kernel)
theorem namesOk : namesB Try.prog = true := by decide +kernel
theorem semi_of {t : List (List Int)} (h : semiB t = true) : validV t = 0 := by
  obtain ⟨⟨h1, h2⟩, h3, h4⟩ := semiB_ok h
  exact valid_zero.2 ⟨⟨h1, h2, h3⟩, fun g hg x y hx hy => h4 x g y hx hg hy⟩
noncomputable abbrev KN : Kn := ⟨[], knowV 49 semiB⟩
theorem kn_ok : CalOk Try.prog KN.know := know_ok fun t h => by have := valid_fn t; rw [semi_of h] at this; exact this
def eqsB (P : Program) (eqs : List Nat) : Bool := eqs.all fun t => !P.stoodInHeld t && !P.eqGuardType P.depth t && (P.fieldsOf t).toList.all fun f => decide (f.name ≠ "_")
theorem eqs_of {P : Program} {eqs : List Nat} (h : eqsB P eqs = true) : EqOk P eqs := fun t ht => by
  have h := List.all_eq_true.1 h t (memB_iff.1 ht)
  simp only [Bool.and_eq_true, Bool.not_eq_true', List.all_eq_true, decide_eq_true_eq] at h
  exact ⟨h.1.1, h.1.2, h.2⟩
theorem awkE {f : FuncId} {n d : Nat} (eqs : List Nat) (he : eqsB Try.prog eqs = true) (h : okTrue (evF Try.prog TY TZ ⟨eqs, KN.know⟩ n d f [] ⟨.lf, 0, 0, []⟩) = true) : QF f [] (.bool (.lit true)) :=
  fn_true (K := ⟨eqs, KN.know⟩) tyOk zOk kn_ok (eqs_of he) mixed (names_of namesOk) h
end Go.Proofs.Ytjlkhjgnfnfmgaa
end
section
/- Statements about groups: the sanity check. -/
namespace Go.Proofs.Ytjlkhjgnfnfmgaa
open Go Go.AM Go.CM
set_option maxRecDepth 100000
theorem awake16_fn : QF 40 [] (.bool (.lit true)) := awkE (n := 1000) (d := 60) [122] (by decide +kernel) (by decide +kernel)
end Go.Proofs.Ytjlkhjgnfnfmgaa
end
end
section
/- The statement GroupTables: the walk. -/
namespace Go.Proofs.Ytjlkhjgnfnfmgaa
open Go Go.AM
set_option maxRecDepth 100000
theorem grp_prm {G : List (List Int)} {n : Nat} (hm : mayV G = 0) (hn : n = (G.getD 0 []).length) : (∀ f ∈ G, prmP f ∧ f.length = n) ∧ (∀ f ∈ G, Perm n f) := by
  obtain ⟨h0, hp⟩ := may_zero.1 hm
  have h1 : ∀ f ∈ G, prmP f ∧ f.length = n := fun f hf => ⟨(hp f hf).2, by have := (hp f hf).1; omega⟩
  exact ⟨h1, fun f hf => (h1 f hf).2 ▸ (h1 f hf).1.perm⟩
theorem tab_grp {G : List (List Int)} {n : Nat} (hm : mayV G = 0) (hn : n = (G.getD 0 []).length) (h5 : n ≤ 5) : tabE (grpL n G) = 0 := by
  obtain ⟨hG, hP⟩ := grp_prm hm hn
  have h0 := (may_zero.1 hm).1
  have hv := (hG _ (getD_mem (d := []) h0)).1.1.1
  have hf := perms_few h5 (grp_nd (n := n) (G := G)) fun p hp => ((mem_grp hP).1 hp).perm hP
  have hpos : 0 < (grpL n G).length := List.length_pos_of_mem ((mem_grp hP).2 .one)
  have hw : ∀ {p}, p ∈ grpL n G → Perm n p := fun hp => ((mem_grp hP).1 hp).perm hP
  refine tabE_ok.2 ⟨may_zero.2 ⟨hpos, fun f hf => ?_⟩, grp_nd, by omega, fun a b ha hb => ?_⟩
  · have p0 := hw (getD_mem (d := []) hpos)
    have p1 := hw hf
    refine ⟨by rw [p1.len, p0.len], ⟨⟨by rw [p1.len]; omega, by rw [p1.len]; omega⟩, fun x hx => ?_⟩, p1.nd⟩
    rw [p1.len]; exact p1.rng x hx
  · exact (mem_grp hP).2 (((mem_grp hP).1 (getD_mem ha)).cmp hP ((mem_grp hP).1 (getD_mem hb)))
set_option maxHeartbeats 4000000 in
theorem grpTbA_k (G : List (List Int)) (hE : tabE G = 0) (hlen : ¬ (30 < G.length)) : fnK TY SP Try.f8 [.ro (.rows .i64 G)] (.bool (.lit true)) := by
  obtain ⟨hm, hd, h400, hC⟩ := tabE_ok.1 hE
  have h0 := (may_zero.1 hm).1
  refine And.intro (fun h1 => absurd (show 30 < (G.length : Int) from h1) (by omega)) (fun _ => ?_)
  refine Or.inl (cq (gtab_ok G hE) (And.intro rfl trivial) ?_)
  refine Or.inl (cq (rtab_ok G hE) (And.intro rfl trivial) ?_)
  refine And.intro (fun h => absurd rfl h) (fun _ => ?_)
  refine Or.inl (cq (sameRows_fn (pbL G G.length) (pbL G G.length)) (And.intro rfl (And.intro rfl trivial)) ?_)
  refine And.intro (fun h => ?_) (fun _ => ?_)
  · have h : (!decide (pbL G G.length = pbL G G.length)) = true := h
    rw [decide_eq_true rfl] at h; exact absurd h (by decide)
  refine Or.inl (cq (rmay16_fn G) (And.intro rfl trivial) ?_)
  refine And.intro (fun h1 => absurd hm h1) (fun _ => ?_)
  refine And.intro (by omega) ?_
  refine And.intro (fun _ => Or.inl (cq awake16_fn trivial (And.intro rfl trivial))) (fun h2 => ?_)
  have h2 : ((G.getD 0 []).length : Int) ≤ 4 := h2
  refine And.intro (fun _ => Or.inl (cq awake16_fn trivial (And.intro rfl trivial))) (fun h3 => ?_)
  have h3 : (G.length : Int) ≤ 8 := h3
  obtain ⟨hG, hP⟩ := grp_prm hm (n := (G.getD 0 []).length) rfl
  have hv := (hG _ (getD_mem (d := []) h0)).1.1.1
  have hT := tab_grp hm (n := (G.getD 0 []).length) rfl (by omega)
  have hgp := pt_grp hP (tabE_ok.1 hT).2.2.1
  have hpos : 0 < (grpL (G.getD 0 []).length G).length := List.length_pos_of_mem ((mem_grp hP).2 .one)
  have hpl := pbL_len (E := grpL (G.getD 0 []).length G) (grpL (G.getD 0 []).length G).length
  refine Or.inl (cq (ggen_fn G (G.getD 0 []).length h0 (by omega) hv.1 (by omega) hG) (And.intro rfl trivial) ?_)
  refine And.intro (fun h => absurd rfl h) (fun _ => ?_)
  refine And.intro (fun h => absurd (show ((grpL (G.getD 0 []).length G).length : Int) < 1 from h) (by omega)) (fun _ => ?_)
  refine Or.inl (cq (gtab_ok (grpL (G.getD 0 []).length G) hT) (And.intro rfl trivial) ?_)
  refine And.intro (fun _ => ?_) (fun h => absurd rfl h)
  refine Or.inl (cq (isgroup_fn (pbL (grpL (G.getD 0 []).length G) (grpL (G.getD 0 []).length G).length)) (And.intro rfl trivial) ?_)
  refine And.intro (fun _ => ?_) (fun h => ?_)
  · refine And.intro (fun _ => ?_) (fun h => absurd (show ((pbL (grpL (G.getD 0 []).length G) (grpL (G.getD 0 []).length G).length).length : Int) = ((grpL (G.getD 0 []).length G).length : Int) by omega) h)
    exact Or.inl (cq awake16_fn trivial (And.intro rfl trivial))
  · have h : grpB (pbL (grpL (G.getD 0 []).length G) (grpL (G.getD 0 []).length G).length) = false := h
    rw [grpB_true.2 hgp] at h; cases h
set_option maxHeartbeats 4000000 in
theorem grpTbB_k (G : List (List Int)) (hE : tabE G ≠ 0) (hb : 400 < G.length) : fnK TY SP Try.f8 [.ro (.rows .i64 G)] (.bool (.lit true)) := by
  refine And.intro (fun _ => ?_) (fun h1 => absurd (show (G.length : Int) ≤ 30 from h1) (by omega))
  refine And.intro (fun h2 => absurd (show (G.length : Int) ≤ 400 from h2) (by omega)) (fun _ => ?_)
  refine Or.inl (cq (gtab_no G hE) (And.intro rfl trivial) ?_)
  refine Or.inl (cq (rtab_no G hE) (And.intro rfl trivial) ?_)
  refine And.intro (fun h => absurd rfl h) (fun _ => ?_)
  refine Or.inl (cq (sameRows_fn [] []) (And.intro rfl (And.intro rfl trivial)) ?_)
  refine And.intro (fun h => ?_) (fun _ => ?_)
  · have h : (!decide (([] : List (List Int)) = [])) = true := h
    exact absurd h (by decide)
  refine Or.inl (cq (rmay16_fn G) (And.intro rfl trivial) ?_)
  refine And.intro (fun _ => Or.inl (cq awake16_fn trivial (And.intro rfl trivial))) (fun hm => ?_)
  refine And.intro (by omega) ?_
  refine And.intro (fun _ => Or.inl (cq awake16_fn trivial (And.intro rfl trivial))) (fun _ => ?_)
  exact And.intro (fun _ => Or.inl (cq awake16_fn trivial (And.intro rfl trivial))) (fun h8 => absurd (show (G.length : Int) ≤ 8 from h8) (by omega))
set_option maxHeartbeats 4000000 in
theorem grpTbC_k (G : List (List Int)) (hE : tabE G ≠ 0) (hb : G.length ≤ 30) (hm : mayV G ≠ 0) : fnK TY SP Try.f8 [.ro (.rows .i64 G)] (.bool (.lit true)) := by
  refine And.intro (fun h1 => absurd (show 30 < (G.length : Int) from h1) (by omega)) (fun _ => ?_)
  refine Or.inl (cq (gtab_no G hE) (And.intro rfl trivial) ?_)
  refine Or.inl (cq (rtab_no G hE) (And.intro rfl trivial) ?_)
  refine And.intro (fun h => absurd rfl h) (fun _ => ?_)
  refine Or.inl (cq (sameRows_fn [] []) (And.intro rfl (And.intro rfl trivial)) ?_)
  refine And.intro (fun h => ?_) (fun _ => ?_)
  · have h : (!decide (([] : List (List Int)) = [])) = true := h
    exact absurd h (by decide)
  refine Or.inl (cq (rmay16_fn G) (And.intro rfl trivial) ?_)
  exact And.intro (fun _ => Or.inl (cq awake16_fn trivial (And.intro rfl trivial))) (fun h => absurd h hm)
set_option maxHeartbeats 4000000 in
theorem grpTbD_k (G : List (List Int)) (hE : tabE G ≠ 0) (hb : G.length ≤ 30) (hm : mayV G = 0) : fnK TY SP Try.f8 [.ro (.rows .i64 G)] (.bool (.lit true)) := by
  have h0 := (may_zero.1 hm).1
  refine And.intro (fun h1 => absurd (show 30 < (G.length : Int) from h1) (by omega)) (fun _ => ?_)
  refine Or.inl (cq (gtab_no G hE) (And.intro rfl trivial) ?_)
  refine Or.inl (cq (rtab_no G hE) (And.intro rfl trivial) ?_)
  refine And.intro (fun h => absurd rfl h) (fun _ => ?_)
  refine Or.inl (cq (sameRows_fn [] []) (And.intro rfl (And.intro rfl trivial)) ?_)
  refine And.intro (fun h => ?_) (fun _ => ?_)
  · have h : (!decide (([] : List (List Int)) = [])) = true := h
    exact absurd h (by decide)
  refine Or.inl (cq (rmay16_fn G) (And.intro rfl trivial) ?_)
  refine And.intro (fun h1 => absurd hm h1) (fun _ => ?_)
  refine And.intro (by omega) ?_
  refine And.intro (fun _ => Or.inl (cq awake16_fn trivial (And.intro rfl trivial))) (fun h2 => ?_)
  have h2 : ((G.getD 0 []).length : Int) ≤ 4 := h2
  refine And.intro (fun _ => Or.inl (cq awake16_fn trivial (And.intro rfl trivial))) (fun h3 => ?_)
  have h3 : (G.length : Int) ≤ 8 := h3
  obtain ⟨hG, hP⟩ := grp_prm hm (n := (G.getD 0 []).length) rfl
  have hv := (hG _ (getD_mem (d := []) h0)).1.1.1
  have hT := tab_grp hm (n := (G.getD 0 []).length) rfl (by omega)
  have hgp := pt_grp hP (tabE_ok.1 hT).2.2.1
  have hpos : 0 < (grpL (G.getD 0 []).length G).length := List.length_pos_of_mem ((mem_grp hP).2 .one)
  have hpl := pbL_len (E := grpL (G.getD 0 []).length G) (grpL (G.getD 0 []).length G).length
  refine Or.inl (cq (ggen_fn G (G.getD 0 []).length h0 (by omega) hv.1 (by omega) hG) (And.intro rfl trivial) ?_)
  refine And.intro (fun h => absurd rfl h) (fun _ => ?_)
  refine And.intro (fun h => absurd (show ((grpL (G.getD 0 []).length G).length : Int) < 1 from h) (by omega)) (fun _ => ?_)
  refine Or.inl (cq (gtab_ok (grpL (G.getD 0 []).length G) hT) (And.intro rfl trivial) ?_)
  refine And.intro (fun _ => ?_) (fun h => absurd rfl h)
  refine Or.inl (cq (isgroup_fn (pbL (grpL (G.getD 0 []).length G) (grpL (G.getD 0 []).length G).length)) (And.intro rfl trivial) ?_)
  refine And.intro (fun _ => ?_) (fun h => ?_)
  · refine And.intro (fun _ => ?_) (fun h => absurd (show ((pbL (grpL (G.getD 0 []).length G) (grpL (G.getD 0 []).length G).length).length : Int) = ((grpL (G.getD 0 []).length G).length : Int) by omega) h)
    exact Or.inl (cq awake16_fn trivial (And.intro rfl trivial))
  · have h : grpB (pbL (grpL (G.getD 0 []).length G) (grpL (G.getD 0 []).length G).length) = false := h
    rw [grpB_true.2 hgp] at h; cases h
theorem grpTbL_k (G : List (List Int)) (h1 : 30 < G.length) (h4 : G.length ≤ 400) : fnK TY SP Try.f8 [.ro (.rows .i64 G)] (.bool (.lit true)) := by
  refine And.intro (fun _ => ?_) (fun h => absurd (show (G.length : Int) ≤ 30 from h) (by omega))
  exact And.intro (fun _ => Or.inl (cq awake16_fn trivial (And.intro rfl trivial))) (fun h => absurd (show 400 < (G.length : Int) from h) (by omega))
theorem grpTb_fn (G : List (List Int)) : QF 8 [.ro (.rows .i64 G)] (.bool (.lit true)) := mkQ Try.func8 (by decide +kernel) rfl (Nat.le_of_ble_eq_true rfl) fun _ => by
  by_cases h1 : 30 < G.length
  · by_cases h4 : G.length ≤ 400
    · exact grpTbL_k G h1 h4
    · exact grpTbB_k G (fun h => h4 (tabE_ok.1 h).2.2.1) (by omega)
  · by_cases hE : tabE G = 0
    · exact grpTbA_k G hE h1
    · by_cases hm : mayV G = 0
      · exact grpTbD_k G hE (by omega) hm
      · exact grpTbC_k G hE (by omega) hm
end Go.Proofs.Ytjlkhjgnfnfmgaa
end
section
/- From contracts to the given statements: how the arguments read, before and after. -/
namespace Go.Proofs.Ytjlkhjgnfnfmgaa
open Go Go.AM
open Go.ChangeShapes Go.WideShapes Go.ChangeAt Go.RowKit Go.Deep
def noM : Msk := fun _ _ => False
section
variable {H : Type} {enc : TypeId × Value → H} {P : Program} {w : World}
theorem wf_in {k : IntKind} {n : Int} (h : (Lit.int k n).wf = true) : inK k n := by
  simp only [Lit.wf, Bool.and_eq_true, decide_eq_true_eq] at h
  exact h
theorem weight_mem {e : TypeId} {d : DataW H} {x : Nat} : ∀ {l : List (DataW H)}, d ∈ l → x ∈ d.weights P e → x ∈ DataW.weightsAll P e l
  | [], h, _ => by cases h
  | c :: l, h, hx => by
    simp only [DataW.weightsAll, List.mem_append]
    rcases List.mem_cons.1 h with rfl | h
    · exact .inl hx
    · exact .inr (weight_mem h hx)
theorem rows_rep {t e q : TypeId} {n : Nat} {v : Value} {y : DataW H × List MemPlace} (ht : P.underlying t = some (.slice e)) (he : P.underlying e = some (.slice q)) (hq : P.underlying q = some (.int .i64)) (ce : P.cellsOf e = 1) (cq : P.cellsOf q = 1)
    (be : 1 ≤ P.bytesOf e) (bq : 1 ≤ P.bytesOf q) (h : DataW.trod enc P w 0 (fun _ => true) true n t [v] = some y) (hw : ∀ x ∈ y.1.weights P t, x ≤ reachBytes) : ∃ l, RepC noEnv w noM (.ro (.rows .i64 l)) v := by
  have hrb : reachBytes = 140737488351232 := rfl
  rcases open_int_rows ht he hq ce cq h with ⟨hv, _⟩ | ⟨a, len, cap, A, L, C, Z, hv, _, hl, hm, hy, hrows⟩
  · obtain rfl : v = .slice none 0 0 := by simpa using hv
    exact ⟨[], Nat.zero_le _, none, 0, rfl, Nat.le_refl _, .inl rfl⟩
  · obtain rfl : v = .slice (some a) len cap := by simpa using hv
    subst hy
    have hlen : len * P.bytesOf e ≤ reachBytes := by
      have := hw ((len + (cap - len)) * P.bytesOf e) (by simp [DataW.weights, ht])
      exact Nat.le_trans (Nat.mul_le_mul_right _ (by omega)) this
    have hlen1 : len ≤ reachBytes := Nat.le_trans (by have := Nat.mul_le_mul_left len be; omega) hlen
    have hL : ∀ r, r < len → L r ≤ reachBytes := fun r hr => by
      obtain ⟨_, h1, h2, h3, _, h4, _⟩ := hrows r (by omega)
      cases hA : A r with
      | none => have := h4 hA; omega
      | some a' =>
        have hx : (L r + ((Z r).length - L r)) * P.bytesOf q ≤ reachBytes := by
          refine hw _ ?_
          simp only [DataW.weights, ht, List.mem_cons, List.mem_append]
          refine .inr (.inl (weight_mem (d := intRow .i64 (A r) (L r) (Z r)) (List.mem_map.2 ⟨r, List.mem_range.2 hr, rfl⟩) ?_))
          rw [hA]
          simp [intRow, DataW.weights, he, lits]
          left
          rw [Nat.min_eq_left (by omega)]
        have h5 : L r * 1 ≤ (L r + ((Z r).length - L r)) * P.bytesOf q := Nat.mul_le_mul (by omega) bq
        omega
    refine ⟨(List.range len).map fun r => (Z r).take (L r), ?_⟩
    have hll : (RO.rows .i64 ((List.range len).map fun r => (Z r).take (L r))).len = len := by simp [RO.len]
    refine ⟨by rw [hll]; exact Nat.le_trans hlen1 (by rw [hrb]; decide), some a, cap, by rw [hll], by rw [hll]; exact hl, ?_⟩
    by_cases h0 : len = 0
    · exact .inl (by rw [RO.cells, hll, h0, Nat.zero_mul])
    have hcell0 := (hrows 0 (by omega)).1
    obtain ⟨b, off, spot⟩ := a
    have hspot : spot = none := by simpa [Addr.add] using World.cell?_spot hcell0
    subst hspot
    refine .inr ⟨b, off, rfl, fun r hr => ?_⟩
    have hr : r < len := by simpa [RO.cells, hll, RO.sz] using hr
    obtain ⟨h1, h2, h3, h4, h5, h6, h7⟩ := hrows r (by omega)
    refine ⟨.slice (A r) (L r) (C r), by rw [← add_plain]; exact h1, fun hh => hh, ?_⟩
    have hget : ((List.range len).map fun r => (Z r).take (L r)).getD r [] = (Z r).take (L r) := by simp [List.getD, hr]
    show SlI w noM .i64 (((List.range len).map fun r => (Z r).take (L r)).getD r []) _
    rw [hget]
    have hzl : ((Z r).take (L r)).length = L r := by rw [List.length_take]; omega
    refine ⟨by rw [hzl]; have := hL r hr; simp only [LB]; omega, A r, C r, by rw [hzl], by rw [hzl]; exact h2, ?_⟩
    by_cases hl0 : L r = 0
    · exact .inl (by rw [hzl, hl0])
    cases hA : A r with
    | none => have := h6 hA; omega
    | some a' =>
      obtain ⟨h8, h9⟩ := h7 a' hA
      obtain ⟨b', off', spot'⟩ := a'
      have hspot : spot' = none := by simpa [Addr.add] using World.cell?_spot (h9 0 (by omega))
      subst hspot
      refine .inr ⟨b', off', rfl, fun c hc => ?_⟩
      rw [hzl] at hc
      have hg2 : ((Z r).take (L r)).getD c 0 = (Z r).getD c 0 := by simp [List.getD, hc]
      refine ⟨.int .i64 ((Z r).getD c 0), by rw [← add_plain]; exact h9 c (by omega), fun hh => hh, by rw [hg2], ?_⟩
      rw [hg2]
      refine wf_in (h5 _ ?_)
      have : c < (Z r).length := by omega
      simp [List.getD, this]
theorem stp_heap {W W' : World} (hs : Stp (fun _ _ => False) W W') {b : Nat} (hb : b < W.heap.size) : W'.heap[b]? = W.heap[b]? := by
  rcases hs.2 b hb with h | ⟨cs, cs', ty, h1, h2, h3, h4⟩ | ⟨_, _, _, _, _, _, h⟩
  · exact h
  · rw [h1, h2]
    have : cs' = cs := Array.ext_getElem? fun i => h4 i (by simp)
    rw [this]
  · exact h.elim
theorem stp_trod {t : TypeId} (hl : laidOutB P = true) (hr : P.readableRec t = true) (hrow : t < P.types.size) {W W' : World} {v : Value} {d : DataW H} {ps : List MemPlace}
    (h : DataW.Trod enc P W 0 (fun _ => true) true t v d ps) (hs : Stp (fun _ _ => False) W W') (hlt : ∀ x ∈ ps, x.block < W.heap.size) (sp : Nat → Bool) (hsp : ∀ x ∈ ps, sp x.block = true) :
    DataW.Trod enc P W' 0 sp true t v d ps :=
  WideElems.Trod_stays hl hr hrow h (fun x hx => by
    have hb := hlt x hx
    cases x with
    | cell b o => exact World.cell?_of_block (w := W) (stp_heap hs hb)
    | map b => exact stp_heap hs hb) hsp
theorem stp_kept {W W' : World} (hs : Stp (fun _ _ => False) W W') (may : MemPlace → Prop) : W.keptBut W' may := by
  refine ⟨hs.3.1.1, hs.3.1.2, fun i hi => ?_⟩
  rw [stp_heap hs hi]
  cases W.heap[i]? with
  | none => exact rfl
  | some o => cases o <;> first | exact ⟨rfl, rfl, rfl, fun _ _ => rfl⟩ | exact .inr ⟨rfl, rfl⟩ | exact rfl
theorem each_mem : ∀ {ts : List TypeId} {ds : List (DataW H)} {j : Nat} {t : TypeId} {d : DataW H} {x : Nat}, ts[j]? = some t → ds[j]? = some d → x ∈ d.weights P t → x ∈ DataW.weightsEach P ts ds
  | [], _, j, _, _, _, h, _, _ => by simp at h
  | _ :: _, [], j, _, _, _, _, h, _ => by simp at h
  | t :: ts, d :: ds, 0, t', d', x, h1, h2, hx => by
    simp at h1 h2
    subst h1; subst h2
    simp [DataW.weightsEach, hx]
  | t :: ts, d :: ds, j + 1, t', d', x, h1, h2, hx => by
    have := each_mem (ts := ts) (ds := ds) (j := j) (by simpa using h1) (by simpa using h2) hx
    simp [DataW.weightsEach, this]
theorem rows_arg {t e q : TypeId} {r : Reach} {b0 : Nat} {v : Value} {d : DataW H} {p : List MemPlace} (ht : P.underlying t = some (.slice e)) (he : P.underlying e = some (.slice q)) (hq : P.underlying q = some (.int .i64)) (ce : P.cellsOf e = 1) (cq : P.cellsOf q = 1)
    (be : 1 ≤ P.bytesOf e) (bq : 1 ≤ P.bytesOf q) (hv : Value.okWide P w r b0 t v) (h : DataW.Trod enc P w 0 (fun _ => true) true t v d p) (hw : ∀ x ∈ d.weights P t, x ≤ reachBytes) : ∃ l, RepT noEnv w noM (.ro (.rows .i64 l)) v := by
  obtain ⟨a, len, cap, rfl⟩ := okWide_slice ht hv
  obtain ⟨fuel, hf⟩ := h
  exact rows_rep ht he hq ce cq be bq (y := (d, p)) hf hw
end
end Go.Proofs.Ytjlkhjgnfnfmgaa
end
