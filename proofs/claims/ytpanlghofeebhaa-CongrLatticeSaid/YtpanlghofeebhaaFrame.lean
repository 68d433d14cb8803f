import Derived.Test.YtpanlghofeebhaaLs19
import Derived.Test.YtpanlghofeebhaaSdM
import Derived.Test.YtpanlghofeebhaaAllLaw
import Derived.Test.YtpanlghofeebhaaRefRees
import Derived.Test.YtpanlghofeebhaaEqvLaw
import Derived.Test.YtpanlghofeebhaaRows
import Derived.Deep.Matrix
import Derived.Deep.Fields
import Derived.SizedLaws
import Derived.Carry
import Derived.WideKeyArgs
import Derived.ProofKit
import Derived.OpenShut
section
/- The statement CongrLattice: the walk. -/
namespace Go.Proofs.Ytpanlghofeebhaa
open Go Go.AM
set_option maxRecDepth 100000
set_option maxHeartbeats 1000000
theorem cgs_ok {t : List (List Int)} (_hs : Semi t) : Srt cmpL (cgsL t) ∧ ∀ p, p ∈ cgsL t ↔ IsCg t p 0 := by
  have e : cgsL t = Go.Proofs.Ytpanlghofeebhaa.srt cmpL (firsts ((ptnsN t.length).filter fun p => cgB t p 0)) := cgs_of (srt_srt cmpL_tot (firsts_nodup _)) fun p => by
    rw [srt_mem, mem_firsts, List.mem_filter, cgB_true]
    exact ⟨fun h => h.2, fun h => ⟨by have := mem_ptns p fun i hi => canon_le h.val.2 hi; rwa [h.len] at this, h⟩⟩
  refine ⟨by rw [e]; exact srt_srt cmpL_tot (firsts_nodup _), fun p => ?_⟩
  rw [e, srt_mem, mem_firsts, List.mem_filter, cgB_true]
  exact ⟨fun h => h.2, fun h => ⟨by have := mem_ptns p fun i hi => canon_le h.val.2 hi; rwa [h.len] at this, h⟩⟩
theorem srt_get {l : List (List Int)} (h : Srt cmpL l) {i j : Nat} (hij : i < j) (hj : j < l.length) : cmpL (l.getD i []) (l.getD j []) < 0 := by
  have := List.pairwise_iff_getElem.1 h i j (by omega) hj hij
  simpa [List.getD, hj, show i < l.length by omega] using this
theorem tmod_bndT (a : Int) {n : Int} (h : 0 < n) : -n < a.tmod n ∧ a.tmod n < n :=
  ⟨by have := Int.lt_tmod_of_pos a h; omega, Int.tmod_lt_of_pos a h⟩
theorem lat_k (t : List (List Int)) (p : List Int) (i j : Int) (hs : Semi t) (hn : t.length ≤ 6) : fnK TY SP Try.f4 [.ro (.rows .i64 t), .ro (.ints .i64 p), .int .i64 i, .int .i64 j] (.bool (.lit true)) := by
  have hv := valid_zero.2 hs
  have hC := cgs_ok hs
  have hpos : 0 < (cgsL t).length := List.length_pos_of_mem ((hC.2 _).2 (dis_cg hs))
  have hfew : (cgsL t).length ≤ 720 := ptns_few hn (hC.1.nodup cmpL_tot) fun p hp => ⟨((hC.2 p).1 hp).len, ((hC.2 p).1 hp).val.2⟩
  refine Or.inl (cq (sml19_fn t 6) (And.intro rfl (And.intro rfl trivial)) ?_)
  refine And.intro (fun h1 => ?_) (fun _ => ?_)
  · have h1 : (!decide ((t.length : Int) ≤ 6 ∧ validV t = 0)) = true := h1
    rw [decide_eq_true ⟨by omega, hv⟩] at h1; exact absurd h1 (by decide)
  refine Or.inr (Or.inr (ce (all_fn t hs hn) (And.intro rfl trivial) ?_))
  intro _ _
  refine And.intro (fun h => absurd rfl h) (fun _ => ?_)
  refine And.intro (fun h => absurd (show ((cgsL t).length : Int) < 1 from h) (by omega)) (fun _ => ?_)
  refine Exists.intro [] <| lp (X := Nat) (fun k => [(36, .int .i64 k), (12, .bool (.v (decide (p ∈ (cgsL t).take k))))]) (fun _ => []) (fun k => k ≤ (cgsL t).length) (fun k => (cgsL t).length - k) 0 (Nat.zero_le _) (by repeat' first | refine And.intro ?_ ?_ | exact True.intro | exact (show false = decide (p ∈ (cgsL t).take 0) by simp) | omega | exact rfl) ?_
  intro k hk
  refine And.intro (fun h1 => ?_) (fun h1 => ?_)
  · have h1 : (k : Int) < ((cgsL t).length : Int) := h1
    have hkl : k < (cgsL t).length := by omega
    have htk : (cgsL t).take (k + 1) = (cgsL t).take k ++ [(cgsL t).getD k []] := take_get hkl
    refine And.intro (by omega) ?_
    refine And.intro (fun h3 => ?_) (fun h3 => ?_)
    · have h3 : (0 : Int) < (k : Int) := h3
      have ek : ((k : Int) - 1).toNat = k - 1 := by omega
      have hlt : cmpL ((cgsL t).getD (k - 1) []) ((cgsL t).getD k []) < 0 := srt_get hC.1 (by omega) hkl
      have hrl : (cgsL t).getD ((k : Int) - 1).toNat [] = (cgsL t).getD (k - 1) [] := by rw [ek]
      refine And.intro (by omega) ?_
      refine And.intro (by omega) ?_
      refine Or.inl (cq (rLess_fn ((cgsL t).getD (k - 1) []) ((cgsL t).getD k [])) (And.intro (congrArg (RO.ints .i64) hrl) (And.intro rfl trivial)) ?_)
      refine And.intro (fun h4 => ?_) (fun _ => ?_)
      · have h4 : (!decide (cmpL ((cgsL t).getD (k - 1) []) ((cgsL t).getD k []) < 0)) = true := h4
        rw [decide_eq_true hlt] at h4; exact absurd h4 (by decide)
      refine And.intro (fun h2 => ?_) (fun h2 => ?_)
      · have h2 : decide (p ∈ (cgsL t).take k) = true := h2
        have h2' := of_decide_eq_true h2
        have hb1 : true = decide (p ∈ (cgsL t).take (k + 1)) := (decide_eq_true (by rw [htk]; exact List.mem_append_left _ h2')).symm
        have hb2 : decide (p ∈ (cgsL t).take k) = decide (p ∈ (cgsL t).take (k + 1)) := h2.trans hb1
        refine And.intro (by omega) ?_
        exact nx (k + 1) (show k + 1 ≤ (cgsL t).length by omega) (show (cgsL t).length - (k + 1) < (cgsL t).length - k by omega) (by repeat' first | refine And.intro ?_ ?_ | exact True.intro | exact hb1 | exact hb2 | (show (_ : Int) = (_ : Int); omega) | omega | exact rfl | (simp only [RO.len]; omega))
      · have h2 : decide (p ∈ (cgsL t).take k) = false := h2
        have h2' := of_decide_eq_false h2
        have hb3 : decide (p = (cgsL t).getD k []) = decide (p ∈ (cgsL t).take (k + 1)) := decide_eq_decide.2 (by rw [htk, List.mem_append, List.mem_singleton]; exact ⟨.inr, fun h => h.resolve_left h2'⟩)
        refine Or.inl (cq (same_fn p ((cgsL t).getD k [])) (And.intro rfl (And.intro rfl trivial)) ?_)
        refine And.intro (by omega) ?_
        exact nx (k + 1) (show k + 1 ≤ (cgsL t).length by omega) (show (cgsL t).length - (k + 1) < (cgsL t).length - k by omega) (by repeat' first | refine And.intro ?_ ?_ | exact True.intro | exact hb3 | (show (_ : Int) = (_ : Int); omega) | omega | exact rfl | (simp only [RO.len]; omega))
    · have h3 : (k : Int) ≤ 0 := h3
      refine And.intro (fun h2 => ?_) (fun h2 => ?_)
      · have h2 : decide (p ∈ (cgsL t).take k) = true := h2
        have h2' := of_decide_eq_true h2
        have hb1 : true = decide (p ∈ (cgsL t).take (k + 1)) := (decide_eq_true (by rw [htk]; exact List.mem_append_left _ h2')).symm
        have hb2 : decide (p ∈ (cgsL t).take k) = decide (p ∈ (cgsL t).take (k + 1)) := h2.trans hb1
        refine And.intro (by omega) ?_
        exact nx (k + 1) (show k + 1 ≤ (cgsL t).length by omega) (show (cgsL t).length - (k + 1) < (cgsL t).length - k by omega) (by repeat' first | refine And.intro ?_ ?_ | exact True.intro | exact hb1 | exact hb2 | (show (_ : Int) = (_ : Int); omega) | omega | exact rfl | (simp only [RO.len]; omega))
      · have h2 : decide (p ∈ (cgsL t).take k) = false := h2
        have h2' := of_decide_eq_false h2
        have hb3 : decide (p = (cgsL t).getD k []) = decide (p ∈ (cgsL t).take (k + 1)) := decide_eq_decide.2 (by rw [htk, List.mem_append, List.mem_singleton]; exact ⟨.inr, fun h => h.resolve_left h2'⟩)
        refine Or.inl (cq (same_fn p ((cgsL t).getD k [])) (And.intro rfl (And.intro rfl trivial)) ?_)
        refine And.intro (by omega) ?_
        exact nx (k + 1) (show k + 1 ≤ (cgsL t).length by omega) (show (cgsL t).length - (k + 1) < (cgsL t).length - k by omega) (by repeat' first | refine And.intro ?_ ?_ | exact True.intro | exact hb3 | (show (_ : Int) = (_ : Int); omega) | omega | exact rfl | (simp only [RO.len]; omega))
  · have h1 : ((cgsL t).length : Int) ≤ (k : Int) := h1
    have hke : (cgsL t).take k = cgsL t := List.take_of_length_le (by omega)
    have hnp : 0 < ((cgsL t).length : Int) := by omega
    have hib := tmod_bndT i hnp
    have hjb := tmod_bndT j hnp
    have hii : 0 ≤ (i.tmod ((cgsL t).length : Int) + ((cgsL t).length : Int)) % ((cgsL t).length : Int) ∧ (i.tmod ((cgsL t).length : Int) + ((cgsL t).length : Int)) % ((cgsL t).length : Int) < ((cgsL t).length : Int) := ⟨Int.emod_nonneg _ (by omega), Int.emod_lt_of_pos _ hnp⟩
    have hji : 0 ≤ (j.tmod ((cgsL t).length : Int) + ((cgsL t).length : Int)) % ((cgsL t).length : Int) ∧ (j.tmod ((cgsL t).length : Int) + ((cgsL t).length : Int)) % ((cgsL t).length : Int) < ((cgsL t).length : Int) := ⟨Int.emod_nonneg _ (by omega), Int.emod_lt_of_pos _ hnp⟩
    refine Or.inl ?_
    refine Exists.intro [false, false, false, false, false, false, false, false, false, false, false, false, false, false, false, false, false, false, false, false, false, false] (And.intro (by decide +kernel) ?_)
    refine Or.inr (And.intro hnp ?_)
    refine And.intro (by omega) ?_
    refine Or.inl ?_
    refine And.intro (by omega) ?_
    refine And.intro hii ?_
    refine Or.inr (And.intro hnp ?_)
    refine And.intro (by omega) ?_
    refine Or.inl ?_
    refine And.intro (by omega) ?_
    refine And.intro hji ?_
    refine Or.inl (cq (cgr_fn t p 0) (And.intro rfl (And.intro rfl (And.intro rfl trivial))) ?_)
    have hA : IsCg t ((cgsL t).getD ((i.tmod ((cgsL t).length : Int) + ((cgsL t).length : Int)) % ((cgsL t).length : Int)).toNat []) 0 := (hC.2 _).1 (getD_mem (by omega))
    have hB : IsCg t ((cgsL t).getD ((j.tmod ((cgsL t).length : Int) + ((cgsL t).length : Int)) % ((cgsL t).length : Int)).toNat []) 0 := (hC.2 _).1 (getD_mem (by omega))
    have hMt := cgB_true.2 (mtP_cg hA hB)
    have hJ0 := joP_cg hA hB
    have hJn : joP ((cgsL t).getD ((i.tmod ((cgsL t).length : Int) + ((cgsL t).length : Int)) % ((cgsL t).length : Int)).toNat []).length ((cgsL t).getD ((i.tmod ((cgsL t).length : Int) + ((cgsL t).length : Int)) % ((cgsL t).length : Int)).toNat []) ((cgsL t).getD ((j.tmod ((cgsL t).length : Int) + ((cgsL t).length : Int)) % ((cgsL t).length : Int)).toNat []) = joP t.length ((cgsL t).getD ((i.tmod ((cgsL t).length : Int) + ((cgsL t).length : Int)) % ((cgsL t).length : Int)).toNat []) ((cgsL t).getD ((j.tmod ((cgsL t).length : Int) + ((cgsL t).length : Int)) % ((cgsL t).length : Int)).toNat []) := by rw [hA.len]
    have hJo := cgB_true.2 hJ0
    have hfd : (decide (p ∈ (cgsL t).take k) == cgB t p 0) = true := by
      rw [hke]
      have e : decide (p ∈ cgsL t) = cgB t p 0 := by unfold cgB; exact decide_eq_decide.2 (hC.2 p)
      rw [e]; simp
    refine And.intro (fun _ => ?_) (fun h => absurd (hfd.symm.trans h) (by decide))
    refine Or.inl (cq (pmt_fn (n := t.length) (p := ((cgsL t).getD ((i.tmod ((cgsL t).length : Int) + ((cgsL t).length : Int)) % ((cgsL t).length : Int)).toNat [])) (q := ((cgsL t).getD ((j.tmod ((cgsL t).length : Int) + ((cgsL t).length : Int)) % ((cgsL t).length : Int)).toNat [])) ⟨hA.len, hA.val⟩ ⟨hB.len, hB.val⟩) (And.intro rfl (And.intro rfl trivial)) ?_)
    refine Or.inl (cq (cgr_fn t (mtP ((cgsL t).getD ((i.tmod ((cgsL t).length : Int) + ((cgsL t).length : Int)) % ((cgsL t).length : Int)).toNat []) ((cgsL t).getD ((j.tmod ((cgsL t).length : Int) + ((cgsL t).length : Int)) % ((cgsL t).length : Int)).toNat [])) 0) (by repeat' first | refine And.intro ?_ ?_ | exact True.intro | (show (_ : Int) = (_ : Int); omega) | omega | exact rfl | (simp only [RO.len]; omega)) ?_)
    refine And.intro (fun _ => ?_) (fun h => absurd (hMt.symm.trans h) (by decide))
    refine Or.inl (cq (pjoin_fn ((cgsL t).getD ((i.tmod ((cgsL t).length : Int) + ((cgsL t).length : Int)) % ((cgsL t).length : Int)).toNat []) ((cgsL t).getD ((j.tmod ((cgsL t).length : Int) + ((cgsL t).length : Int)) % ((cgsL t).length : Int)).toNat []) ⟨hA.len.trans hB.len.symm, hA.val, hB.val⟩) (And.intro rfl (And.intro rfl trivial)) ?_)
    refine Or.inl (cq (cgr_fn t (joP t.length ((cgsL t).getD ((i.tmod ((cgsL t).length : Int) + ((cgsL t).length : Int)) % ((cgsL t).length : Int)).toNat []) ((cgsL t).getD ((j.tmod ((cgsL t).length : Int) + ((cgsL t).length : Int)) % ((cgsL t).length : Int)).toNat [])) 0) (And.intro rfl (And.intro (congrArg (RO.ints .i64) hJn) (And.intro rfl trivial))) ?_)
    refine And.intro (fun _ => ?_) (fun h => absurd (hJo.symm.trans h) (by decide))
    exact Or.inl (cq awl19_fn trivial (And.intro rfl trivial))
theorem lat_fn (t : List (List Int)) (p : List Int) (i j : Int) : QF 4 [.ro (.rows .i64 t), .ro (.ints .i64 p), .int .i64 i, .int .i64 j] (.bool (.lit true)) := mkQ Try.func4 (by decide +kernel) rfl (Nat.le_of_ble_eq_true rfl) fun _ => by
  by_cases h : Semi t ∧ t.length ≤ 6
  · exact lat_k t p i j h.1 h.2
  refine Or.inl (cq (sml19_fn t 6) (And.intro rfl (And.intro rfl trivial)) ?_)
  refine And.intro (fun _ => Or.inl (cq awl19_fn trivial (And.intro rfl trivial))) (fun h1 => ?_)
  have h1 : (!decide ((t.length : Int) ≤ 6 ∧ validV t = 0)) = false := h1
  rw [Bool.not_eq_false'] at h1
  have h1 := of_decide_eq_true h1
  exact absurd ⟨valid_zero.1 h1.2, by omega⟩ h
end Go.Proofs.Ytpanlghofeebhaa
end
section
/- From contracts to the given statements: how the arguments read, before and after. -/
namespace Go.Proofs.Ytpanlghofeebhaa
open Go Go.AM
open Go.ChangeShapes Go.WideShapes Go.ChangeAt Go.RowKit Go.Deep
def noM : Msk := fun _ _ => False
section
variable {H : Type} {enc : TypeId × Value → H} {P : Program} {w : World}
theorem wf_in {k : IntKind} {n : Int} (h : (Lit.int k n).wf = true) : inK k n := by
  simp only [Lit.wf, Bool.and_eq_true, decide_eq_true_eq] at h
  exact h
theorem weight_mem {e : TypeId} {d : DataW H} {x : Nat} : ∀ {l : List (DataW H)}, d ∈ l → x ∈ d.weights P e → x ∈ DataW.weightsAll P e l
  | [], h, _ => by cases h
  | c :: l, h, hx => by
    simp only [DataW.weightsAll, List.mem_append]
    rcases List.mem_cons.1 h with rfl | h
    · exact .inl hx
    · exact .inr (weight_mem h hx)
theorem rows_rep {t e q : TypeId} {n : Nat} {v : Value} {y : DataW H × List MemPlace} (ht : P.underlying t = some (.slice e)) (he : P.underlying e = some (.slice q)) (hq : P.underlying q = some (.int .i64)) (ce : P.cellsOf e = 1) (cq : P.cellsOf q = 1)
    (be : 1 ≤ P.bytesOf e) (bq : 1 ≤ P.bytesOf q) (h : DataW.trod enc P w 0 (fun _ => true) true n t [v] = some y) (hw : ∀ x ∈ y.1.weights P t, x ≤ reachBytes) : ∃ l, RepC noEnv w noM (.ro (.rows .i64 l)) v := by
  have hrb : reachBytes = 140737488351232 := rfl
  rcases open_int_rows ht he hq ce cq h with ⟨hv, _⟩ | ⟨a, len, cap, A, L, C, Z, hv, _, hl, hm, hy, hrows⟩
  · obtain rfl : v = .slice none 0 0 := by simpa using hv
    exact ⟨[], Nat.zero_le _, none, 0, rfl, Nat.le_refl _, .inl rfl⟩
  · obtain rfl : v = .slice (some a) len cap := by simpa using hv
    subst hy
    have hlen : len * P.bytesOf e ≤ reachBytes := by
      have := hw ((len + (cap - len)) * P.bytesOf e) (by simp [DataW.weights, ht])
      exact Nat.le_trans (Nat.mul_le_mul_right _ (by omega)) this
    have hlen1 : len ≤ reachBytes := Nat.le_trans (by have := Nat.mul_le_mul_left len be; omega) hlen
    have hL : ∀ r, r < len → L r ≤ reachBytes := fun r hr => by
      obtain ⟨_, h1, h2, h3, _, h4, _⟩ := hrows r (by omega)
      cases hA : A r with
      | none => have := h4 hA; omega
      | some a' =>
        have hx : (L r + ((Z r).length - L r)) * P.bytesOf q ≤ reachBytes := by
          refine hw _ ?_
          simp only [DataW.weights, ht, List.mem_cons, List.mem_append]
          refine .inr (.inl (weight_mem (d := intRow .i64 (A r) (L r) (Z r)) (List.mem_map.2 ⟨r, List.mem_range.2 hr, rfl⟩) ?_))
          rw [hA]
          simp [intRow, DataW.weights, he, lits]
          left
          rw [Nat.min_eq_left (by omega)]
        have h5 : L r * 1 ≤ (L r + ((Z r).length - L r)) * P.bytesOf q := Nat.mul_le_mul (by omega) bq
        omega
    refine ⟨(List.range len).map fun r => (Z r).take (L r), ?_⟩
    have hll : (RO.rows .i64 ((List.range len).map fun r => (Z r).take (L r))).len = len := by simp [RO.len]
    refine ⟨by rw [hll]; exact Nat.le_trans hlen1 (by rw [hrb]; decide), some a, cap, by rw [hll], by rw [hll]; exact hl, ?_⟩
    by_cases h0 : len = 0
    · exact .inl (by rw [RO.cells, hll, h0, Nat.zero_mul])
    have hcell0 := (hrows 0 (by omega)).1
    obtain ⟨b, off, spot⟩ := a
    have hspot : spot = none := by simpa [Addr.add] using World.cell?_spot hcell0
    subst hspot
    refine .inr ⟨b, off, rfl, fun r hr => ?_⟩
    have hr : r < len := by simpa [RO.cells, hll, RO.sz] using hr
    obtain ⟨h1, h2, h3, h4, h5, h6, h7⟩ := hrows r (by omega)
    refine ⟨.slice (A r) (L r) (C r), by rw [← add_plain]; exact h1, fun hh => hh, ?_⟩
    have hget : ((List.range len).map fun r => (Z r).take (L r)).getD r [] = (Z r).take (L r) := by simp [List.getD, hr]
    show SlI w noM .i64 (((List.range len).map fun r => (Z r).take (L r)).getD r []) _
    rw [hget]
    have hzl : ((Z r).take (L r)).length = L r := by rw [List.length_take]; omega
    refine ⟨by rw [hzl]; have := hL r hr; simp only [LB]; omega, A r, C r, by rw [hzl], by rw [hzl]; exact h2, ?_⟩
    by_cases hl0 : L r = 0
    · exact .inl (by rw [hzl, hl0])
    cases hA : A r with
    | none => have := h6 hA; omega
    | some a' =>
      obtain ⟨h8, h9⟩ := h7 a' hA
      obtain ⟨b', off', spot'⟩ := a'
      have hspot : spot' = none := by simpa [Addr.add] using World.cell?_spot (h9 0 (by omega))
      subst hspot
      refine .inr ⟨b', off', rfl, fun c hc => ?_⟩
      rw [hzl] at hc
      have hg2 : ((Z r).take (L r)).getD c 0 = (Z r).getD c 0 := by simp [List.getD, hc]
      refine ⟨.int .i64 ((Z r).getD c 0), by rw [← add_plain]; exact h9 c (by omega), fun hh => hh, by rw [hg2], ?_⟩
      rw [hg2]
      refine wf_in (h5 _ ?_)
      have : c < (Z r).length := by omega
      simp [List.getD, this]
theorem ints_rep {t e : TypeId} {n : Nat} {v : Value} {y : DataW H × List MemPlace} (ht : P.underlying t = some (.slice e)) (he : P.underlying e = some (.int .i64)) (ce : P.cellsOf e = 1)
    (be : 1 ≤ P.bytesOf e) (h : DataW.trod enc P w 0 (fun _ => true) true n t [v] = some y) (hw : ∀ x ∈ y.1.weights P t, x ≤ reachBytes) : ∃ l, RepC noEnv w noM (.ro (.ints .i64 l)) v := by
  have hrb : reachBytes = 140737488351232 := rfl
  rcases open_ints ht he ce h with ⟨hv, _⟩ | ⟨a, len, cap, zs, hv, _, hl, hm, hz, hy, hcell, hwf⟩
  · obtain rfl : v = .slice none 0 0 := by simpa using hv
    exact ⟨[], Nat.zero_le _, none, 0, rfl, Nat.le_refl _, .inl rfl⟩
  · obtain rfl : v = .slice (some a) len cap := by simpa using hv
    subst hy
    simp only [if_true] at hz
    have hlen : (len + (zs.length - len)) * P.bytesOf e ≤ reachBytes := hw _ (by simp [DataW.weights, ht, lits]; left; rw [Nat.min_eq_left (by omega)])
    have hlen1 : len * 1 ≤ (len + (zs.length - len)) * P.bytesOf e := Nat.mul_le_mul (by omega) be
    have hzl : (zs.take len).length = len := by rw [List.length_take]; omega
    refine ⟨zs.take len, by show (zs.take len).length ≤ _; rw [hzl]; simp only [LB]; omega, some a, cap, by show _ = Value.slice _ (zs.take len).length _; rw [hzl], by show (zs.take len).length ≤ _; rw [hzl]; exact hl, ?_⟩
    by_cases hl0 : len = 0
    · exact .inl (by simp [RO.cells, RO.len, hl0])
    obtain ⟨b, off, spot⟩ := a
    have hspot : spot = none := by simpa [Addr.add] using World.cell?_spot (hcell 0 (by omega))
    subst hspot
    refine .inr ⟨b, off, rfl, fun c hc => ?_⟩
    have hc : c < len := by simpa [RO.cells, RO.len, RO.sz, hzl] using hc
    have hg2 : (zs.take len).getD c 0 = zs.getD c 0 := by simp [List.getD, hc]
    refine ⟨.int .i64 (zs.getD c 0), by rw [← add_plain]; exact hcell c (by omega), fun hh => hh, by rw [hg2], ?_⟩
    rw [hg2]
    refine wf_in (hwf _ ?_)
    have : c < zs.length := by omega
    simp [List.getD, this]
theorem stp_heap {W W' : World} (hs : Stp (fun _ _ => False) W W') {b : Nat} (hb : b < W.heap.size) : W'.heap[b]? = W.heap[b]? := by
  rcases hs.2 b hb with h | ⟨cs, cs', ty, h1, h2, h3, h4⟩ | ⟨_, _, _, _, _, _, h⟩
  · exact h
  · rw [h1, h2]
    have : cs' = cs := Array.ext_getElem? fun i => h4 i (by simp)
    rw [this]
  · exact h.elim
theorem stp_trod {t : TypeId} (hl : laidOutB P = true) (hr : P.readableRec t = true) (hrow : t < P.types.size) {W W' : World} {v : Value} {d : DataW H} {ps : List MemPlace}
    (h : DataW.Trod enc P W 0 (fun _ => true) true t v d ps) (hs : Stp (fun _ _ => False) W W') (hlt : ∀ x ∈ ps, x.block < W.heap.size) (sp : Nat → Bool) (hsp : ∀ x ∈ ps, sp x.block = true) :
    DataW.Trod enc P W' 0 sp true t v d ps :=
  WideElems.Trod_stays hl hr hrow h (fun x hx => by
    have hb := hlt x hx
    cases x with
    | cell b o => exact World.cell?_of_block (w := W) (stp_heap hs hb)
    | map b => exact stp_heap hs hb) hsp
theorem stp_kept {W W' : World} (hs : Stp (fun _ _ => False) W W') (may : MemPlace → Prop) : W.keptBut W' may := by
  refine ⟨hs.3.1.1, hs.3.1.2, fun i hi => ?_⟩
  rw [stp_heap hs hi]
  cases W.heap[i]? with
  | none => exact rfl
  | some o => cases o <;> first | exact ⟨rfl, rfl, rfl, fun _ _ => rfl⟩ | exact .inr ⟨rfl, rfl⟩ | exact rfl
theorem each_mem : ∀ {ts : List TypeId} {ds : List (DataW H)} {j : Nat} {t : TypeId} {d : DataW H} {x : Nat}, ts[j]? = some t → ds[j]? = some d → x ∈ d.weights P t → x ∈ DataW.weightsEach P ts ds
  | [], _, j, _, _, _, h, _, _ => by simp at h
  | _ :: _, [], j, _, _, _, _, h, _ => by simp at h
  | t :: ts, d :: ds, 0, t', d', x, h1, h2, hx => by
    simp at h1 h2
    subst h1; subst h2
    simp [DataW.weightsEach, hx]
  | t :: ts, d :: ds, j + 1, t', d', x, h1, h2, hx => by
    have := each_mem (ts := ts) (ds := ds) (j := j) (by simpa using h1) (by simpa using h2) hx
    simp [DataW.weightsEach, this]
theorem rows_arg {t e q : TypeId} {r : Reach} {b0 : Nat} {v : Value} {d : DataW H} {p : List MemPlace} (ht : P.underlying t = some (.slice e)) (he : P.underlying e = some (.slice q)) (hq : P.underlying q = some (.int .i64)) (ce : P.cellsOf e = 1) (cq : P.cellsOf q = 1)
    (be : 1 ≤ P.bytesOf e) (bq : 1 ≤ P.bytesOf q) (hv : Value.okWide P w r b0 t v) (h : DataW.Trod enc P w 0 (fun _ => true) true t v d p) (hw : ∀ x ∈ d.weights P t, x ≤ reachBytes) : ∃ l, RepT noEnv w noM (.ro (.rows .i64 l)) v := by
  obtain ⟨a, len, cap, rfl⟩ := okWide_slice ht hv
  obtain ⟨fuel, hf⟩ := h
  exact rows_rep ht he hq ce cq be bq (y := (d, p)) hf hw
theorem ints_arg {t e : TypeId} {r : Reach} {b0 : Nat} {v : Value} {d : DataW H} {p : List MemPlace} (ht : P.underlying t = some (.slice e)) (he : P.underlying e = some (.int .i64)) (ce : P.cellsOf e = 1)
    (be : 1 ≤ P.bytesOf e) (hv : Value.okWide P w r b0 t v) (h : DataW.Trod enc P w 0 (fun _ => true) true t v d p) (hw : ∀ x ∈ d.weights P t, x ≤ reachBytes) : ∃ l, RepT noEnv w noM (.ro (.ints .i64 l)) v := by
  obtain ⟨a, len, cap, rfl⟩ := okWide_slice ht hv
  obtain ⟨fuel, hf⟩ := h
  exact ints_rep ht he ce be (y := (d, p)) hf hw
end
end Go.Proofs.Ytpanlghofeebhaa
end
