import Derived.Test.YtjlkhjgnfnfmgaaGreatMult
import Derived.Test.YtjlkhjgnfnfmgaaGreatCmTz
import Derived.Test.YtjlkhjgnfnfmgaaGreatCmCode
import Derived.Test.YtjlkhjgnfnfmgaaGreatGChk
import Derived.Test.YtjlkhjgnfnfmgaaGreatGSer
import Derived.Test.YtjlkhjgnfnfmgaaGreatRefPart
import Derived.Test.YtjlkhjgnfnfmgaaGreatRows
import Derived.Deep.Matrix
import Derived.Deep.Fields
import Derived.SizedLaws
import Derived.Carry
import Derived.WideKeyArgs
import Derived.ProofKit
import Derived.OpenShut
section
section
/- The sanity check, by computation: what every seat needs. -/
namespace Go.Proofs.YtjlkhjgnfnfmgaaGreat
open Go Go.AM Go.CM
set_option maxRecDepth 100000
theorem zOk : ZOk Tryz.prog TY TZ := zOk_of (by decide +kernel)
theorem namesOk : namesB Tryz.prog = true := by decide +kernel
theorem semi_of {t : List (List Int)} (h : semiB t = true) : validV t = 0 := by
  obtain ⟨⟨h1, h2⟩, h3, h4⟩ := semiB_ok h
  exact valid_zero.2 ⟨⟨h1, h2, h3⟩, fun g hg x y hx hy => h4 x g y hx hg hy⟩
noncomputable abbrev KN : Kn := ⟨[], knowV 79 semiB⟩
theorem kn_ok : CalOk Tryz.prog KN.know := know_ok fun t h => by have := valid_fn t; rw [semi_of h] at this; exact this
def eqsB (P : Program) (eqs : List Nat) : Bool := eqs.all fun t => !P.stoodInHeld t && !P.eqGuardType P.depth t && (P.fieldsOf t).toList.all fun f => decide (f.name ≠ "_")
theorem eqs_of {P : Program} {eqs : List Nat} (h : eqsB P eqs = true) : EqOk P eqs := fun t ht => by
  have h := List.all_eq_true.1 h t (memB_iff.1 ht)
  simp only [Bool.and_eq_true, Bool.not_eq_true', List.all_eq_true, decide_eq_true_eq] at h
  exact ⟨h.1.1, h.1.2, h.2⟩
theorem awkE {f : FuncId} {n d : Nat} (eqs : List Nat) (he : eqsB Tryz.prog eqs = true) (h : okTrue (evF Tryz.prog TY TZ ⟨eqs, KN.know⟩ n d f [] ⟨.lf, 0, 0, []⟩) = true) : QF f [] (.bool (.lit true)) :=
  fn_true (K := ⟨eqs, KN.know⟩) tyOk zOk kn_ok (eqs_of he) mixed (names_of namesOk) h
end Go.Proofs.YtjlkhjgnfnfmgaaGreat
end
section
/- Statements about groups: the sanity check. -/
namespace Go.Proofs.YtjlkhjgnfnfmgaaGreat
open Go Go.AM Go.CM
set_option maxRecDepth 100000
theorem awake16_fn : QF 10 [] (.bool (.lit true)) := awkE (n := 1000) (d := 60) [38] (by decide +kernel) (by decide +kernel)
end Go.Proofs.YtjlkhjgnfnfmgaaGreat
end
end
section
/- The statement GroupHoelder: the walk. -/
namespace Go.Proofs.YtjlkhjgnfnfmgaaGreat
open Go Go.AM
set_option maxRecDepth 100000
theorem hlittle_fn (t : List (List Int)) (m : Int) : QF 22 [.ro (.rows .i64 t), .int .i64 m] (.bool (.v (decide ((t.length : Int) ≤ m) && grpB t))) := mkQ Tryz.func22 (by decide +kernel) rfl (Nat.le_of_ble_eq_true rfl) fun _ => by
  refine And.intro (fun h1 => ?_) (fun h1 => ?_)
  · refine Or.inl (cq (rgroup_fn t) (And.intro rfl trivial) ?_)
    refine And.intro ?_ trivial
    show grpB t = (decide ((t.length : Int) ≤ m) && grpB t)
    rw [decide_eq_true h1, Bool.true_and]
  · refine And.intro ?_ trivial
    show false = (decide ((t.length : Int) ≤ m) && grpB t)
    rw [decide_eq_false (by omega), Bool.false_and]
set_option maxHeartbeats 4000000 in
theorem grpHol_k (t : List (List Int)) (S : List (List Int)) (h : Grp t) (hn : t.length ≤ 16) (hSl : S.length ≤ 140737488355328) : fnK TY SP Tryz.f6 [.ro (.rows .i64 t), .ro (.rows .i64 S)] (.bool (.lit true)) := by
  have hm := h.most
  refine Or.inl (cq (hlittle_fn t 16) (And.intro rfl (And.intro rfl trivial)) ?_)
  refine And.intro (fun h1 => ?_) (fun _ => ?_)
  · have h1 : (!(decide ((t.length : Int) ≤ 16) && grpB t)) = true := h1
    rw [decide_eq_true (by omega), grpB_true.2 h] at h1; cases h1
  refine Or.inr (Or.inr (ce (gFac_fn t h hn) (And.intro rfl trivial) ?_))
  rintro L ⟨F, hF, hL⟩
  have hp := srt_perm (c := cmpF) ((facL t F).map fI)
  rw [← hL] at hp
  have hlen : L.length = F.length - 1 := by rw [hp.length_eq, List.length_map, facL_len]
  have hFp := hF.pos
  have hF5 := few_fac hF hn
  have h2 : ∀ f ∈ L, 2 ≤ f.1 := fun f hf => by
    obtain ⟨g, hg, rfl⟩ := List.mem_map.1 (hp.mem_iff.1 hf)
    exact Int.ofNat_le.2 (hF.two g hg)
  have hpr : prodI L = (t.length : Int) := by rw [prodI_perm hp, prodI_fI, hF.prod]
  have hsol : (∀ f ∈ L, f.2 = true) ↔ solB t = true := by
    rw [← hF.sol]
    constructor
    · intro hh f hf
      exact hh (fI f) (hp.mem_iff.2 (List.mem_map.2 ⟨f, hf, rfl⟩))
    · intro hh f hf
      obtain ⟨g, hg, rfl⟩ := List.mem_map.1 (hp.mem_iff.1 hf)
      exact hh g hg
  refine Exists.intro [] <| lp2 (fun (k : Nat) (b : Bool) => [(18, .int .i64 k), (6, .int .i64 (prodI (L.take k))), (7, .bool (.v b))]) (fun _ _ => []) (fun k b => k ≤ L.length ∧ (b = true ↔ ∀ f ∈ L.take k, f.2 = true)) (fun k _ => L.length - k) 0 true ⟨Nat.zero_le _, by simp⟩ (by repeat' first | refine And.intro ?_ ?_ | exact True.intro | (show (_ : Int) = (_ : Int); omega) | omega | exact rfl | (simp only [RO.len]; omega)) ?_
  rintro k b ⟨hk, hb⟩
  have hpt := prodI_take h2 k
  refine And.intro (fun h3 => ?_) (fun h3 => ?_)
  · have h3 : (k : Int) < (L.length : Int) := h3
    have hkl : k < L.length := by omega
    have eT : L.take (k + 1) = L.take k ++ [L.getD k (0, false)] := by rw [List.take_succ_eq_append_getElem hkl, getD_eq hkl]
    have eP : prodI (L.take k) * (L.getD k (0, false)).1 = prodI (L.take (k + 1)) := by
      rw [eT, prodI_app]; show _ = _ * ((L.getD k (0, false)).1 * 1); rw [Int.mul_one]
    have hpt2 := prodI_take h2 (k + 1)
    have h2k := h2 _ (getD_mem (d := (0, false)) hkl)
    refine And.intro (by omega) ?_
    have m1 : -9223372036854775808 ≤ prodI (L.take k) * (L.getD k (0, false)).1 := by omega
    have m2 : prodI (L.take k) * (L.getD k (0, false)).1 ≤ 9223372036854775807 := by omega
    cases b with
    | true =>
      refine Or.inr (Exists.intro (.fst 0 (.fst 1 (.fst 4 (.fst 5 (.br 2 (.br 3 (.fst 9 (.br 6 (.br 7 (.br 8 (.fst 10 .done) .no) .no) .no)) (.br 6 (.br 3 (.fst 9 (.br 7 (.br 8 (.fst 10 .done) .no) .no)) (.br 7 (.br 3 (.fst 9 (.br 8 (.fst 10 .done) .no)) (.br 8 (.br 3 (.fst 9 (.fst 10 .done)) .no) .no)) .no)) .no)) (.br 6 (.br 2 (.br 3 (.fst 9 (.br 7 (.br 8 (.fst 10 .done) .no) .no)) (.br 7 (.br 3 (.fst 9 (.br 8 (.fst 10 .done) .no)) (.br 8 (.br 3 (.fst 9 (.fst 10 .done)) .no) .no)) .no)) (.br 7 (.br 2 (.br 3 (.fst 9 (.br 8 (.fst 10 .done) .no)) (.br 8 (.br 3 (.fst 9 (.fst 10 .done)) .no) .no)) (.br 8 (.br 2 (.br 3 (.fst 9 (.fst 10 .done)) .no) .no) .no)) .no)) .no)))))) (And.intro (by decide +kernel) ?_))
      apply schShr
      · intro K hK
        repeat' first | exact m1 | exact m2 | (refine And.intro (fun _ => ?_) (fun hx => absurd hx (by decide))) | (refine And.intro (fun hx => absurd hx (by decide)) (fun _ => ?_)) | refine And.intro ?_ ?_ | exact True.intro | exact hK
      · refine And.intro (fun h4 => absurd (show (t.length : Int) < prodI (L.take k) * (L.getD k (0, false)).1 from h4) (by omega)) (fun _ => ?_)
        refine And.intro (fun h4 => absurd (show (L.getD k (0, false)).1 < 2 from h4) (by omega)) (fun _ => ?_)
        refine And.intro (by omega) ?_
        refine nx (k + 1, (L.getD k (0, false)).2) ⟨by omega, ?_⟩ (show L.length - (k + 1) < L.length - k by omega) (by repeat' first | refine And.intro ?_ ?_ | exact True.intro | exact eP | (show (_ : Int) = (_ : Int); omega) | omega | exact rfl)
        rw [eT]
        constructor
        · intro e f hf
          rcases List.mem_append.1 hf with hf | hf
          · exact hb.1 rfl f hf
          · rw [List.mem_singleton.1 hf]; exact e
        · intro hh; exact hh _ (by simp)
    | false =>
      refine Or.inr (Exists.intro (.fst 0 (.fst 1 (.fst 4 (.fst 5 (.br 2 (.br 3 (.fst 9 (.br 6 (.br 7 (.br 8 (.fst 10 .done) .no) .no) .no)) (.br 6 (.br 3 (.fst 9 (.br 7 (.br 8 (.fst 10 .done) .no) .no)) (.br 7 (.br 3 (.fst 9 (.br 8 (.fst 10 .done) .no)) (.br 8 (.br 3 (.fst 9 (.fst 10 .done)) .no) .no)) .no)) .no)) (.br 6 (.br 2 (.br 3 (.fst 9 (.br 7 (.br 8 (.fst 10 .done) .no) .no)) (.br 7 (.br 3 (.fst 9 (.br 8 (.fst 10 .done) .no)) (.br 8 (.br 3 (.fst 9 (.fst 10 .done)) .no) .no)) .no)) (.br 7 (.br 2 (.br 3 (.fst 9 (.br 8 (.fst 10 .done) .no)) (.br 8 (.br 3 (.fst 9 (.fst 10 .done)) .no) .no)) (.br 8 (.br 2 (.br 3 (.fst 9 (.fst 10 .done)) .no) .no) .no)) .no)) .no)))))) (And.intro (by decide +kernel) ?_))
      apply schShr
      · intro K hK
        repeat' first | exact m1 | exact m2 | (refine And.intro (fun _ => ?_) (fun hx => absurd hx (by decide))) | (refine And.intro (fun hx => absurd hx (by decide)) (fun _ => ?_)) | refine And.intro ?_ ?_ | exact True.intro | exact hK
      · refine And.intro (fun h4 => absurd (show (t.length : Int) < prodI (L.take k) * (L.getD k (0, false)).1 from h4) (by omega)) (fun _ => ?_)
        refine And.intro (fun h4 => absurd (show (L.getD k (0, false)).1 < 2 from h4) (by omega)) (fun _ => ?_)
        refine And.intro (by omega) ?_
        refine nx (k + 1, false) ⟨by omega, ?_⟩ (show L.length - (k + 1) < L.length - k by omega) (by repeat' first | refine And.intro ?_ ?_ | exact True.intro | exact eP | (show (_ : Int) = (_ : Int); omega) | omega | exact rfl)
        constructor
        · intro e; cases e
        · intro hh
          exact hb.2 fun f hf => hh f (by rw [eT]; exact List.mem_append_left _ hf)
  · have h3 : (L.length : Int) ≤ (k : Int) := h3
    have eT : L.take k = L := List.take_of_length_le (by omega)
    rw [eT] at hb
    have hbs : b = solB t := Bool.eq_iff_iff.2 (hb.trans hsol)
    rw [eT]
    refine And.intro (fun h4 => absurd hpr h4) (fun _ => ?_)
    refine Or.inl (cq (solv_fn t) (And.intro rfl trivial) ?_)
    refine And.intro (fun h4 => ?_) (fun _ => ?_)
    · have h4 : (!(b == (grpB t && solB t))) = true := h4
      rw [hbs, grpB_true.2 h, Bool.true_and] at h4
      simp at h4
    refine Or.inl (cq (simple_fn t) (And.intro rfl trivial) ?_)
    have hsim : simB t = decide ((L.length : Int) = 1) := by
      unfold simB
      rw [grpB_true.2 h, Bool.true_and]
      refine decide_eq_decide.2 (hF.sim.trans ?_)
      omega
    refine And.intro (fun h4 => ?_) (fun _ => ?_)
    · have h4 : (!(simB t == decide ((L.length : Int) = 1))) = true := h4
      rw [hsim] at h4
      simp at h4
    refine Or.inl (cq (gChk_fn t S) (And.intro rfl (And.intro rfl trivial)) ?_)
    refine And.intro (fun h5 => ?_) (fun h5 => ?_)
    · refine Or.inr (Or.inr (ce (gSer_fn t h) (And.intro rfl trivial) ?_))
      intro G hG
      have hGF := hF.same hG
      refine And.intro (by omega) ?_
      refine And.intro (fun _ => ?_) (fun h6 => absurd (show (G.length : Int) = (L.length : Int) + 1 by omega) h6)
      refine Or.inl (cq awake16_fn trivial ?_)
      exact And.intro rfl trivial
    · have h5 : (!chSB t S) = false := h5
      have hSF := hF.same (chSB_true.1 (by simpa using h5))
      refine And.intro (by omega) ?_
      refine And.intro (fun _ => ?_) (fun h6 => absurd (show (S.length : Int) = (L.length : Int) + 1 by omega) h6)
      refine Or.inr (Or.inr (ce (gSer_fn t h) (And.intro rfl trivial) ?_))
      intro G hG
      have hGF := hF.same hG
      refine And.intro (by omega) ?_
      refine And.intro (fun _ => ?_) (fun h6 => absurd (show (G.length : Int) = (L.length : Int) + 1 by omega) h6)
      refine Or.inl (cq awake16_fn trivial ?_)
      exact And.intro rfl trivial
theorem grpHolN_k (t : List (List Int)) (S : List (List Int)) (h : ¬ (t.length ≤ 16 ∧ Grp t)) : fnK TY SP Tryz.f6 [.ro (.rows .i64 t), .ro (.rows .i64 S)] (.bool (.lit true)) := by
  refine Or.inl (cq (hlittle_fn t 16) (And.intro rfl (And.intro rfl trivial)) ?_)
  refine And.intro (fun _ => ?_) (fun h1 => ?_)
  · refine Or.inl (cq awake16_fn trivial ?_)
    exact And.intro rfl trivial
  · have h1 : (!(decide ((t.length : Int) ≤ 16) && grpB t)) = false := h1
    rw [Bool.not_eq_false', Bool.and_eq_true, decide_eq_true_iff, grpB_true] at h1
    exact absurd ⟨by omega, h1.2⟩ h
theorem grpHol_fn (t : List (List Int)) (S : List (List Int)) : QF 6 [.ro (.rows .i64 t), .ro (.rows .i64 S)] (.bool (.lit true)) := by
  by_cases h : t.length ≤ 16 ∧ Grp t
  · exact mkQ Tryz.func6 (by decide +kernel) rfl (Nat.le_of_ble_eq_true rfl) fun hf => grpHol_k t S h.2 h.1 hf.2.1.1
  · exact mkQ Tryz.func6 (by decide +kernel) rfl (Nat.le_of_ble_eq_true rfl) fun _ => grpHolN_k t S h
end Go.Proofs.YtjlkhjgnfnfmgaaGreat
end
section
/- From contracts to the given statements: how the arguments read, before and after. -/
namespace Go.Proofs.YtjlkhjgnfnfmgaaGreat
open Go Go.AM
open Go.ChangeShapes Go.WideShapes Go.ChangeAt Go.RowKit Go.Deep
def noM : Msk := fun _ _ => False
section
variable {H : Type} {enc : TypeId × Value → H} {P : Program} {w : World}
theorem wf_in {k : IntKind} {n : Int} (h : (Lit.int k n).wf = true) : inK k n := by
  simp only [Lit.wf, Bool.and_eq_true, decide_eq_true_eq] at h
  exact h
theorem weight_mem {e : TypeId} {d : DataW H} {x : Nat} : ∀ {l : List (DataW H)}, d ∈ l → x ∈ d.weights P e → x ∈ DataW.weightsAll P e l
  | [], h, _ => by cases h
  | c :: l, h, hx => by
    simp only [DataW.weightsAll, List.mem_append]
    rcases List.mem_cons.1 h with rfl | h
    · exact .inl hx
    · exact .inr (weight_mem h hx)
theorem rows_rep {t e q : TypeId} {n : Nat} {v : Value} {y : DataW H × List MemPlace} (ht : P.underlying t = some (.slice e)) (he : P.underlying e = some (.slice q)) (hq : P.underlying q = some (.int .i64)) (ce : P.cellsOf e = 1) (cq : P.cellsOf q = 1)
    (be : 1 ≤ P.bytesOf e) (bq : 1 ≤ P.bytesOf q) (h : DataW.trod enc P w 0 (fun _ => true) true n t [v] = some y) (hw : ∀ x ∈ y.1.weights P t, x ≤ reachBytes) : ∃ l, RepC noEnv w noM (.ro (.rows .i64 l)) v := by
  have hrb : reachBytes = 140737488351232 := rfl
  rcases open_int_rows ht he hq ce cq h with ⟨hv, _⟩ | ⟨a, len, cap, A, L, C, Z, hv, _, hl, hm, hy, hrows⟩
  · obtain rfl : v = .slice none 0 0 := by simpa using hv
    exact ⟨[], Nat.zero_le _, none, 0, rfl, Nat.le_refl _, .inl rfl⟩
  · obtain rfl : v = .slice (some a) len cap := by simpa using hv
    subst hy
    have hlen : len * P.bytesOf e ≤ reachBytes := by
      have := hw ((len + (cap - len)) * P.bytesOf e) (by simp [DataW.weights, ht])
      exact Nat.le_trans (Nat.mul_le_mul_right _ (by omega)) this
    have hlen1 : len ≤ reachBytes := Nat.le_trans (by have := Nat.mul_le_mul_left len be; omega) hlen
    have hL : ∀ r, r < len → L r ≤ reachBytes := fun r hr => by
      obtain ⟨_, h1, h2, h3, _, h4, _⟩ := hrows r (by omega)
      cases hA : A r with
      | none => have := h4 hA; omega
      | some a' =>
        have hx : (L r + ((Z r).length - L r)) * P.bytesOf q ≤ reachBytes := by
          refine hw _ ?_
          simp only [DataW.weights, ht, List.mem_cons, List.mem_append]
          refine .inr (.inl (weight_mem (d := intRow .i64 (A r) (L r) (Z r)) (List.mem_map.2 ⟨r, List.mem_range.2 hr, rfl⟩) ?_))
          rw [hA]
          simp [intRow, DataW.weights, he, lits]
          left
          rw [Nat.min_eq_left (by omega)]
        have h5 : L r * 1 ≤ (L r + ((Z r).length - L r)) * P.bytesOf q := Nat.mul_le_mul (by omega) bq
        omega
    refine ⟨(List.range len).map fun r => (Z r).take (L r), ?_⟩
    have hll : (RO.rows .i64 ((List.range len).map fun r => (Z r).take (L r))).len = len := by simp [RO.len]
    refine ⟨by rw [hll]; exact Nat.le_trans hlen1 (by rw [hrb]; decide), some a, cap, by rw [hll], by rw [hll]; exact hl, ?_⟩
    by_cases h0 : len = 0
    · exact .inl (by rw [RO.cells, hll, h0, Nat.zero_mul])
    have hcell0 := (hrows 0 (by omega)).1
    obtain ⟨b, off, spot⟩ := a
    have hspot : spot = none := by simpa [Addr.add] using World.cell?_spot hcell0
    subst hspot
    refine .inr ⟨b, off, rfl, fun r hr => ?_⟩
    have hr : r < len := by simpa [RO.cells, hll, RO.sz] using hr
    obtain ⟨h1, h2, h3, h4, h5, h6, h7⟩ := hrows r (by omega)
    refine ⟨.slice (A r) (L r) (C r), by rw [← add_plain]; exact h1, fun hh => hh, ?_⟩
    have hget : ((List.range len).map fun r => (Z r).take (L r)).getD r [] = (Z r).take (L r) := by simp [List.getD, hr]
    show SlI w noM .i64 (((List.range len).map fun r => (Z r).take (L r)).getD r []) _
    rw [hget]
    have hzl : ((Z r).take (L r)).length = L r := by rw [List.length_take]; omega
    refine ⟨by rw [hzl]; have := hL r hr; simp only [LB]; omega, A r, C r, by rw [hzl], by rw [hzl]; exact h2, ?_⟩
    by_cases hl0 : L r = 0
    · exact .inl (by rw [hzl, hl0])
    cases hA : A r with
    | none => have := h6 hA; omega
    | some a' =>
      obtain ⟨h8, h9⟩ := h7 a' hA
      obtain ⟨b', off', spot'⟩ := a'
      have hspot : spot' = none := by simpa [Addr.add] using World.cell?_spot (h9 0 (by omega))
      subst hspot
      refine .inr ⟨b', off', rfl, fun c hc => ?_⟩
      rw [hzl] at hc
      have hg2 : ((Z r).take (L r)).getD c 0 = (Z r).getD c 0 := by simp [List.getD, hc]
      refine ⟨.int .i64 ((Z r).getD c 0), by rw [← add_plain]; exact h9 c (by omega), fun hh => hh, by rw [hg2], ?_⟩
      rw [hg2]
      refine wf_in (h5 _ ?_)
      have : c < (Z r).length := by omega
      simp [List.getD, this]
theorem stp_heap {W W' : World} (hs : Stp (fun _ _ => False) W W') {b : Nat} (hb : b < W.heap.size) : W'.heap[b]? = W.heap[b]? := by
  rcases hs.2 b hb with h | ⟨cs, cs', ty, h1, h2, h3, h4⟩ | ⟨_, _, _, _, _, _, h⟩
  · exact h
  · rw [h1, h2]
    have : cs' = cs := Array.ext_getElem? fun i => h4 i (by simp)
    rw [this]
  · exact h.elim
theorem stp_trod {t : TypeId} (hl : laidOutB P = true) (hr : P.readableRec t = true) (hrow : t < P.types.size) {W W' : World} {v : Value} {d : DataW H} {ps : List MemPlace}
    (h : DataW.Trod enc P W 0 (fun _ => true) true t v d ps) (hs : Stp (fun _ _ => False) W W') (hlt : ∀ x ∈ ps, x.block < W.heap.size) (sp : Nat → Bool) (hsp : ∀ x ∈ ps, sp x.block = true) :
    DataW.Trod enc P W' 0 sp true t v d ps :=
  WideElems.Trod_stays hl hr hrow h (fun x hx => by
    have hb := hlt x hx
    cases x with
    | cell b o => exact World.cell?_of_block (w := W) (stp_heap hs hb)
    | map b => exact stp_heap hs hb) hsp
theorem stp_kept {W W' : World} (hs : Stp (fun _ _ => False) W W') (may : MemPlace → Prop) : W.keptBut W' may := by
  refine ⟨hs.3.1.1, hs.3.1.2, fun i hi => ?_⟩
  rw [stp_heap hs hi]
  cases W.heap[i]? with
  | none => exact rfl
  | some o => cases o <;> first | exact ⟨rfl, rfl, rfl, fun _ _ => rfl⟩ | exact .inr ⟨rfl, rfl⟩ | exact rfl
theorem each_mem : ∀ {ts : List TypeId} {ds : List (DataW H)} {j : Nat} {t : TypeId} {d : DataW H} {x : Nat}, ts[j]? = some t → ds[j]? = some d → x ∈ d.weights P t → x ∈ DataW.weightsEach P ts ds
  | [], _, j, _, _, _, h, _, _ => by simp at h
  | _ :: _, [], j, _, _, _, _, h, _ => by simp at h
  | t :: ts, d :: ds, 0, t', d', x, h1, h2, hx => by
    simp at h1 h2
    subst h1; subst h2
    simp [DataW.weightsEach, hx]
  | t :: ts, d :: ds, j + 1, t', d', x, h1, h2, hx => by
    have := each_mem (ts := ts) (ds := ds) (j := j) (by simpa using h1) (by simpa using h2) hx
    simp [DataW.weightsEach, this]
theorem rows_arg {t e q : TypeId} {r : Reach} {b0 : Nat} {v : Value} {d : DataW H} {p : List MemPlace} (ht : P.underlying t = some (.slice e)) (he : P.underlying e = some (.slice q)) (hq : P.underlying q = some (.int .i64)) (ce : P.cellsOf e = 1) (cq : P.cellsOf q = 1)
    (be : 1 ≤ P.bytesOf e) (bq : 1 ≤ P.bytesOf q) (hv : Value.okWide P w r b0 t v) (h : DataW.Trod enc P w 0 (fun _ => true) true t v d p) (hw : ∀ x ∈ d.weights P t, x ≤ reachBytes) : ∃ l, RepT noEnv w noM (.ro (.rows .i64 l)) v := by
  obtain ⟨a, len, cap, rfl⟩ := okWide_slice ht hv
  obtain ⟨fuel, hf⟩ := h
  exact rows_rep ht he hq ce cq be bq (y := (d, p)) hf hw
end
end Go.Proofs.YtjlkhjgnfnfmgaaGreat
end
