import Derived.Test.YtpanlghofeebhaaGreatGQuo
import Derived.Test.YtpanlghofeebhaaGreatCmp
import Derived.Test.YtpanlghofeebhaaGreatRefPart
import Derived.Test.YtpanlghofeebhaaGreatEqvLaw
import Derived.Test.YtpanlghofeebhaaGreatJhTab
import Derived.Test.YtpanlghofeebhaaGreatRefNrm
section
/- Reference of package group: the quotient: contract. -/
namespace Go.Proofs.YtpanlghofeebhaaGreat
open Go Go.AM
set_option maxRecDepth 100000
theorem take_map_succ {α : Type} {f : Nat → α} {n i : Nat} (h : i < n) : ((List.range n).map f).take (i + 1) = ((List.range n).map f).take i ++ [f i] := by
  rw [List.take_add_one]; simp [h]
set_option maxHeartbeats 1000000 in
theorem rQuo_fn (t : List (List Int)) (l : List Int) (h : NmS t l) : QF 35 [.ro (.rows .i64 t), .ro (.ints .i64 l)] (.new (.rows .i64 (quoL t (cosL t l)))) := mkQ Tryz.func35 (by decide +kernel) rfl (Nat.le_of_ble_eq_true rfl) fun _ => by
  have hv : validP (cosL t l) := ⟨by rw [cosL_len]; have := h.1.most; omega, cosL_canon _ _⟩
  have hpl := cosL_len t l
  have hmost := h.1.most
  have hsh := h.1.toSh
  have hcl : (classes (classN (cosL t l)) (cosL t l)).length = classN (cosL t l) := by simp [classes]
  have hcn : classN (cosL t l) ≤ t.length := by have := firsts_le (cosL t l); rw [hpl] at this; exact this
  refine Or.inl (cq (rCos_fn t l h.1 h.2.1) (And.intro rfl (And.intro rfl trivial)) ?_)
  refine Or.inl (cq (rclasses_fn (cosL t l) hv) (And.intro rfl trivial) ?_)
  refine Exists.intro [] <| lp2 (fun (i : Nat) (q : List (List Int)) => [(20, .int .i64 i), (7, .vec 51)]) (fun _ q => [(51, .vec 0 (.rows .i64 q) [])]) (fun i q => i ≤ classN (cosL t l) ∧ q = (quoL t (cosL t l)).take i) (fun i _ => classN (cosL t l) - i) 0 [] ⟨Nat.zero_le _, rfl⟩ (by repeat' first | refine And.intro ?_ ?_ | exact True.intro | (show (_ : Int) = (_ : Int); omega) | omega | exact rfl | (simp only [RO.len]; omega)) ?_
  rintro i q ⟨hi, hq⟩
  have hql : q.length = i := by rw [hq, List.length_take, quoL_len]; omega
  refine And.intro (fun h1 => ?_) (fun h1 => ?_)
  · have h1 : (i : Int) < ((classes (classN (cosL t l)) (cosL t l)).length : Int) := h1
    have hil : i < classN (cosL t l) := by omega
    have ki := hd_at hv.2 hil
    have pi := cls_pos hv.2 hil
    refine And.intro (by omega) ?_
    refine Exists.intro [] <| lp2 (fun (j : Nat) (r : List Int) => [(26, .int .i64 j), (10, .vec 46)]) (fun _ r => [(46, .vec 0 (.ints .i64 r) [])]) (fun j r => j ≤ classN (cosL t l) ∧ r = (quoR t (cosL t l) i).take j) (fun j _ => classN (cosL t l) - j) 0 [] ⟨Nat.zero_le _, rfl⟩ (by repeat' first | refine And.intro ?_ ?_ | exact True.intro | (show (_ : Int) = (_ : Int); omega) | omega | exact rfl | (simp only [RO.len]; omega)) ?_
    rintro j r ⟨hj, hr⟩
    have hrl : r.length = j := by rw [hr, List.length_take, quoR_len]; omega
    refine And.intro (fun h2 => ?_) (fun h2 => ?_)
    · have h2 : (j : Int) < ((classes (classN (cosL t l)) (cosL t l)).length : Int) := h2
      have hjl : j < classN (cosL t l) := by omega
      have kj := hd_at hv.2 hjl
      have pj := cls_pos hv.2 hjl
      have e1 := hsh.ent (x := hdN (cosL t l) i) (y := hdN (cosL t l) j) (by omega) (by omega)
      have r1 := hsh.len (x := hdN (cosL t l) i) (by omega)
      have ti : (((classes (classN (cosL t l)) (cosL t l)).getD i []).getD 0 0).toNat = hdN (cosL t l) i := by rw [ki.2.2]; exact Int.toNat_natCast _
      have tj : (((classes (classN (cosL t l)) (cosL t l)).getD j []).getD 0 0).toNat = hdN (cosL t l) j := by rw [kj.2.2]; exact Int.toNat_natCast _
      refine And.intro (by omega) ?_
      refine Or.inl ?_
      refine Exists.intro [false, false, false, false, false, false, false, false, false, false, false, false, false, false, false, false, true, true] (And.intro (by decide +kernel) ?_)
      refine And.intro (by simp only [Int.toNat_natCast]; omega) ?_
      refine And.intro (show 0 ≤ ((classes (classN (cosL t l)) (cosL t l)).getD i []).getD 0 0 ∧ ((classes (classN (cosL t l)) (cosL t l)).getD i []).getD 0 0 < (t.length : Int) by omega) ?_
      refine And.intro (by simp only [Int.toNat_natCast]; omega) ?_
      refine And.intro (show 0 ≤ ((classes (classN (cosL t l)) (cosL t l)).getD j []).getD 0 0 ∧ ((classes (classN (cosL t l)) (cosL t l)).getD j []).getD 0 0 < ((t.getD (((classes (classN (cosL t l)) (cosL t l)).getD i []).getD 0 0).toNat []).length : Int) by rw [ti]; omega) ?_
      refine And.intro (show 0 ≤ (t.getD (((classes (classN (cosL t l)) (cosL t l)).getD i []).getD 0 0).toNat []).getD (((classes (classN (cosL t l)) (cosL t l)).getD j []).getD 0 0).toNat 0 ∧ (t.getD (((classes (classN (cosL t l)) (cosL t l)).getD i []).getD 0 0).toNat []).getD (((classes (classN (cosL t l)) (cosL t l)).getD j []).getD 0 0).toNat 0 < ((cosL t l).length : Int) by rw [ti, tj]; omega) ?_
      refine And.intro (by simp; omega) ?_
      refine And.intro (by omega) ?_
      refine nx (j + 1, r ++ [(cosL t l).getD ((t.getD (((classes (classN (cosL t l)) (cosL t l)).getD i []).getD 0 0).toNat []).getD (((classes (classN (cosL t l)) (cosL t l)).getD j []).getD 0 0).toNat 0).toNat 0]) ⟨by omega, ?_⟩ (show classN (cosL t l) - (j + 1) < classN (cosL t l) - j by omega) (by repeat' first | refine And.intro ?_ ?_ | exact True.intro | (show (_ : Int) = (_ : Int); omega) | omega | exact rfl | (simp only [RO.len]; omega))
      show _ = (quoR t (cosL t l) i).take (j + 1)
      rw [ti, tj, e1.1, Int.toNat_natCast, hr]
      unfold quoR
      rw [take_map_succ hjl]
    · have h2 : ((classes (classN (cosL t l)) (cosL t l)).length : Int) ≤ (j : Int) := h2
      refine And.intro (by simp; omega) ?_
      refine And.intro (by omega) ?_
      have hr2 : r = quoR t (cosL t l) i := by rw [hr, List.take_of_length_le (by rw [quoR_len]; omega)]
      refine nx (i + 1, q ++ [r]) ⟨by omega, ?_⟩ (show classN (cosL t l) - (i + 1) < classN (cosL t l) - i by omega) (by repeat' first | refine And.intro ?_ ?_ | exact True.intro | (show (_ : Int) = (_ : Int); omega) | omega | exact rfl | (simp only [RO.len]; omega))
      show _ = (quoL t (cosL t l)).take (i + 1)
      rw [hr2, hq]
      unfold quoL
      rw [take_map_succ hil]
  · have h1 : ((classes (classN (cosL t l)) (cosL t l)).length : Int) ≤ (i : Int) := h1
    refine And.intro (And.intro (by omega) ?_) trivial
    show RO.rows .i64 q = RO.rows .i64 (quoL t (cosL t l))
    rw [hq, List.take_of_length_le (by rw [quoL_len]; omega)]
end Go.Proofs.YtpanlghofeebhaaGreat
end
section
/- What is handed over as owned may be taken as read only. -/
namespace Go.Proofs.YtpanlghofeebhaaGreat
open Go Go.AM
theorem new_ro {f : FuncId} {args : List AV} {r : RO} (h : QF f args (.new r)) : QF f args (.ro r) := by
  refine ⟨h.1, fun M w vs hM hv => (h.2 M w vs hM hv).mono fun e w' ⟨v, he, hs, M', h1, h2, hr⟩ => ?_⟩
  obtain ⟨o, rfl, hV, hf⟩ := hr
  obtain ⟨e1, e2, e3, _, hb⟩ := hV
  refine ⟨_, he, hs, fun b off => M' b off ∧ o.blk ≠ some b, fun b off hlt => ?_, fun b off hm => h2 b off hm.1, ?_⟩
  · rw [← h1 b off hlt]
    exact ⟨fun hh => hh.1, fun hh => ⟨hh, fun e => by have := hf b e; omega⟩⟩
  · have hk : Keep w' M' w' fun b off => M' b off ∧ o.blk ≠ some b := fun b off c hc hn => ⟨hc, fun hh => hn hh.1⟩
    show RepRO w' _ r o.val
    cases ho : o.blk with
    | none =>
      rw [ho] at hb
      obtain ⟨b1, b2⟩ := hb
      exact ⟨e3, none, o.cap, by unfold Sl.val; rw [ho, e1]; rfl, by omega, .inl (by unfold RO.cells; rw [b1, Nat.zero_mul])⟩
    | some b =>
      rw [ho] at hb
      obtain ⟨b1, cs, ty, b2, b3, b4, b5⟩ := hb
      refine ⟨e3, some ⟨b, 0, none⟩, o.cap, by unfold Sl.val; rw [ho, e1]; rfl, by omega, .inr ⟨b, 0, rfl, fun q hq => ?_⟩⟩
      obtain ⟨c, c1, c2⟩ := b5 q hq
      have hkc : Keep w' M' w' fun b' off => M' b' off ∧ some b ≠ some b' := by rw [← ho]; exact hk
      exact ⟨c, by rw [cell_of_heap b2, Nat.zero_add]; exact c1, fun hh => hh.2 rfl, c2.keep hkc⟩
end Go.Proofs.YtpanlghofeebhaaGreat
end
section
/- slices.Clone of integers: contract. -/
namespace Go.Proofs.YtpanlghofeebhaaGreat
open Go Go.AM
set_option maxRecDepth 100000
theorem cloneI_fn (l : List Int) (hl : l.length ≤ 4096) : QF 53 [.ro (.ints .i64 l)] (.new (.ints .i64 l)) := mkQ Tryz.func53 (by decide +kernel) rfl (Nat.le_of_ble_eq_true rfl) fun _ => by
  refine And.intro (fun h1 => ?_) ?_
  · exact And.intro h1 trivial
  · refine And.intro (by simp; omega) ?_
    exact And.intro ⟨by omega, by simp⟩ trivial
end Go.Proofs.YtpanlghofeebhaaGreat
end
section
/- Package group: greatest normal subgroups of a subgroup, simple and solvable groups: contracts. -/
namespace Go.Proofs.YtpanlghofeebhaaGreat
open Go Go.AM
set_option maxRecDepth 100000
def MxI (t : List (List Int)) (w s : List Int) (C : List Bool) : Prop := C.length = t.length ∧ (∀ y, y < t.length → C.getD y false = true → setI s y = true ∨ Gd t w s y) ∧ ∀ y, y < t.length → setI s y = true → C.getD y false = true
theorem MxI.mark {t : List (List Int)} {w s : List Int} {C : List Bool} (h : MxI t w s C) {z : Nat} (hz : z < t.length) (hg : setI s z = true ∨ Gd t w s z) : MxI t w s (C.set z true) := by
  obtain ⟨h1, h2, h3⟩ := h
  refine ⟨by rw [List.length_set]; exact h1, fun y hy hc => ?_, fun y hy hc => ?_⟩
  · by_cases e : y = z
    · subst e; exact hg
    · rw [getD_set_ne (Ne.symm e)] at hc; exact h2 y hy hc
  · by_cases e : y = z
    · subst e; rw [getD_set_eq (by omega)]
    · rw [getD_set_ne (Ne.symm e)]; exact h3 y hy hc
set_option maxHeartbeats 4000000 in
theorem mx_k (t : List (List Int)) (w s : List Int) (h : Grp t) (hw : ClL t w) (hs' : ClL t s) (hsw : ∀ x ∈ s, x ∈ w) : fnK TY SP Tryz.f28 [frA t, .ro (.ints .i64 w), .ro (.ints .i64 s)] (.bool (.v (mxB t w s))) := by
  have hs := h.toSh
  have hm := hs.most
  have hwl := ascV_len t.length (setI w)
  rw [hw.self] at hwl
  have hsl := ascV_len t.length (setI s)
  rw [hs'.self] at hsl
  refine And.intro (fun h1 => ?_) (fun h1 => ?_)
  · have h1 : (s.length : Int) = (w.length : Int) := h1
    exact And.intro (mxB_false.2 fun hh => hh.1 (by omega)).symm trivial
  have h1 : (s.length : Int) ≠ (w.length : Int) := h1
  refine Or.inl (cq (gmem_fn t s hm hs'.ins) (And.intro (by repeat' first | refine And.intro ?_ ?_ | exact True.intro | (show (_ : Int) = (_ : Int); omega) | omega | exact rfl | (simp only [RO.len]; omega)) (And.intro rfl trivial)) ?_)
  refine Exists.intro [] <| lp2 (fun (k : Nat) (_ : List Bool) => [(23, .int .i64 k)]) (fun _ C => [(20, .vec 0 (.bools C) [])]) (fun k C => k ≤ w.length ∧ MxI t w s C ∧ ∀ i, i < k → setI s (w.getD i 0).toNat = true ∨ Gd t w s (w.getD i 0).toNat) (fun k _ => w.length - k) 0 (setB t.length (setI s)) ⟨Nat.zero_le _, ⟨setB_len _ _, fun y hy hc => by rw [setB_get hy] at hc; exact .inl hc, fun y hy hc => by rw [setB_get hy]; exact hc⟩, fun i hi => absurd hi (Nat.not_lt_zero _)⟩ (by repeat' first | refine And.intro ?_ ?_ | exact True.intro | (show (_ : Int) = (_ : Int); omega) | omega | exact rfl | (simp only [RO.len]; omega)) ?_
  rintro k C ⟨hk, hI, hdone⟩
  have hC := hI.1
  refine And.intro (fun h2 => ?_) (fun h2 => ?_)
  · have h2 : (k : Int) < (w.length : Int) := h2
    have hkl : k < w.length := by omega
    have hwk := hw.ins _ (getD_mem (d := 0) hkl)
    refine And.intro (by omega) ?_
    refine And.intro (show 0 ≤ w.getD k 0 ∧ w.getD k 0 < (C.length : Int) by omega) ?_
    have hx : (w.getD k 0).toNat < t.length := by omega
    refine And.intro (fun h3 => ?_) (fun h3 => ?_)
    · have h3 : C.getD (w.getD k 0).toNat false = true := h3
      refine And.intro (by omega) ?_
      refine nx (k + 1, C) ⟨by omega, hI, fun i hi => ?_⟩ (show w.length - (k + 1) < w.length - k by omega) (by repeat' first | refine And.intro ?_ ?_ | exact True.intro | (show (_ : Int) = (_ : Int); omega) | omega | exact rfl | (simp only [RO.len]; omega))
      by_cases e : i = k
      · subst e; exact hI.2.1 _ hx h3
      · exact hdone i (by omega)
    have h3 : C.getD (w.getD k 0).toNat false = false := h3
    have hxin : w.getD k 0 ∈ w := getD_mem hkl
    have hgin : inT t (s ++ [w.getD k 0]) := fun y hy => (List.mem_append.1 hy).elim (hs'.ins y) fun hy => by rw [List.mem_singleton] at hy; rw [hy]; exact hwk
    have hxs : w.getD k 0 ∉ s := fun hh => by rw [hI.2.2 _ hx (hs'.iset hh)] at h3; cases h3
    have good : ((memV (setB t.length (cloF t w (s ++ [w.getD k 0])))).length : Int) = (w.length : Int) → Gd t w s (w.getD k 0).toNat := fun e => (gd_iff h hw hsw hxin).2 (by
      have e : ((ascV t.length (cloF t w (s ++ [w.getD k 0]))).length : Int) = (w.length : Int) := e
      omega)
    have bad : ((memV (setB t.length (cloF t w (s ++ [w.getD k 0])))).length : Int) ≠ (w.length : Int) → (BE.lit false).val = (BE.v (mxB t w s)).val := fun e => (mxB_false.2 fun hh => e (by
      have := (gd_iff h hw hsw hxin).1 (hh.2 _ hxin hxs)
      show ((ascV t.length (cloF t w (s ++ [w.getD k 0]))).length : Int) = (w.length : Int)
      omega)).symm
    have hap : ((s ++ [w.getD k 0]).length : Int) ≤ 17592186044416 := by rw [List.length_append, List.length_singleton]; omega
    refine Or.inr (Exists.intro (.fst 1 (.fst 2 (.fst 4 (.br 0 (.br 3 (.br 5 (.br 6 (.br 7 (.fst 8 .done) .no) .no) .no) (.br 5 (.br 3 (.br 6 (.br 7 (.fst 8 .done) .no) .no) .no) .no)) (.br 3 (.br 0 (.br 5 (.br 6 (.br 7 (.fst 8 .done) .no) .no) .no) (.br 5 (.br 0 (.br 6 (.br 7 (.fst 8 .done) .no) .no) (.br 6 (.br 0 (.br 7 (.fst 8 .done) .no) .no) .no)) .no)) (.br 5 (.br 0 (.br 3 (.br 6 (.br 7 (.fst 8 .done) .no) .no) .no) (.br 3 (.br 0 (.br 6 (.br 7 (.fst 8 .done) .no) .no) (.br 6 (.br 0 (.br 7 (.fst 8 .done) .no) .no) .no)) .no)) .no)))))) (And.intro (by decide +kernel) ?_))
    refine And.intro ?_ ?_
    · refine And.intro ?_ ?_
      · refine Or.inl (cq (cloneI_fn s (by omega)) (And.intro rfl trivial) ?_)
        refine And.intro ?_ trivial
        refine And.intro ?_ trivial
        refine And.intro hap ?_
        refine And.intro ?_ trivial
        refine Or.inl (cq (gclo_fn t w (s ++ [w.getD k 0]) h hw hgin) (And.intro (by repeat' first | refine And.intro ?_ ?_ | exact True.intro | (show (_ : Int) = (_ : Int); omega) | omega | exact rfl | (simp only [RO.len]; omega)) (And.intro rfl (And.intro rfl trivial))) ?_)
        refine Or.inl (cq (glist_fn (setB t.length (cloF t w (s ++ [w.getD k 0]))) (by rw [setB_len]; omega)) (And.intro rfl trivial) ?_)
        refine And.intro (fun h4 => And.intro (bad h4) trivial) (fun h4 => ?_)
        have hG := good h4
        refine Exists.intro [] <| lp2 (fun (j : Nat) (_ : List Bool) => [(47, .int .i64 j)]) (fun _ C => [(20, .vec 0 (.bools C) [])]) (fun j C => j ≤ s.length ∧ MxI t w s C) (fun j _ => s.length - j) 0 C ⟨Nat.zero_le _, hI⟩ (by repeat' first | refine And.intro ?_ ?_ | exact True.intro | (show (_ : Int) = (_ : Int); omega) | omega | exact rfl | (simp only [RO.len]; omega)) ?_
        rintro j C' ⟨hj, hI'⟩
        have hC' := hI'.1
        refine And.intro (fun h5 => ?_) (fun h5 => ?_)
        · have h5 : (j : Int) < (s.length : Int) := h5
          have hjl : j < s.length := by omega
          have hsj := hs'.ins _ (getD_mem (d := 0) hjl)
          have hy : (s.getD j 0).toNat < t.length := by omega
          have r1 := hs.len hx
          have e1 := hs.ent hx hy
          refine And.intro (by omega) ?_
          refine And.intro (show 0 ≤ w.getD k 0 ∧ w.getD k 0 < (t.length : Int) by omega) ?_
          refine And.intro (show 0 ≤ s.getD j 0 ∧ s.getD j 0 < ((t.getD (w.getD k 0).toNat []).length : Int) by omega) ?_
          refine And.intro (show 0 ≤ (t.getD (w.getD k 0).toNat []).getD (s.getD j 0).toNat 0 ∧ (t.getD (w.getD k 0).toNat []).getD (s.getD j 0).toNat 0 < (C'.length : Int) by omega) ?_
          refine And.intro (show 0 ≤ (t.getD (w.getD k 0).toNat []).getD (s.getD j 0).toNat 0 by omega) ?_
          refine And.intro (by omega) ?_
          exact nx (j + 1, C'.set ((t.getD (w.getD k 0).toNat []).getD (s.getD j 0).toNat 0).toNat true) ⟨by omega, hI'.mark e1.2 (.inr (gd_coset h hw hs' hx (hs'.iset (getD_mem hjl)) hG))⟩ (show s.length - (j + 1) < s.length - j by omega) (by repeat' first | refine And.intro ?_ ?_ | exact True.intro | (show (_ : Int) = (_ : Int); omega) | omega | exact rfl | (simp only [RO.len]; omega))
        · have h5 : (s.length : Int) ≤ (j : Int) := h5
          refine And.intro (by omega) ?_
          refine nx (k + 1, C') ⟨by omega, hI', fun i hi => ?_⟩ (show w.length - (k + 1) < w.length - k by omega) (by repeat' first | refine And.intro ?_ ?_ | exact True.intro | (show (_ : Int) = (_ : Int); omega) | omega | exact rfl | (simp only [RO.len]; omega))
          by_cases e : i = k
          · subst e; exact .inr hG
          · exact hdone i (by omega)
      · refine And.intro ?_ trivial
        refine And.intro ?_ trivial
        refine Or.inl (cq (cloneI_fn s (by omega)) (And.intro rfl trivial) ?_)
        refine And.intro ?_ trivial
        refine And.intro hap ?_
        refine And.intro ?_ trivial
        refine Or.inl (cq (gclo_fn t w (s ++ [w.getD k 0]) h hw hgin) (And.intro (by repeat' first | refine And.intro ?_ ?_ | exact True.intro | (show (_ : Int) = (_ : Int); omega) | omega | exact rfl | (simp only [RO.len]; omega)) (And.intro rfl (And.intro rfl trivial))) ?_)
        refine Or.inl (cq (glist_fn (setB t.length (cloF t w (s ++ [w.getD k 0]))) (by rw [setB_len]; omega)) (And.intro rfl trivial) ?_)
        refine And.intro (fun h4 => And.intro (bad h4) trivial) (fun h4 => ?_)
        have hG := good h4
        refine Exists.intro [] <| lp2 (fun (j : Nat) (_ : List Bool) => [(47, .int .i64 j)]) (fun _ C => [(20, .vec 0 (.bools C) [])]) (fun j C => j ≤ s.length ∧ MxI t w s C) (fun j _ => s.length - j) 0 C ⟨Nat.zero_le _, hI⟩ (by repeat' first | refine And.intro ?_ ?_ | exact True.intro | (show (_ : Int) = (_ : Int); omega) | omega | exact rfl | (simp only [RO.len]; omega)) ?_
        rintro j C' ⟨hj, hI'⟩
        have hC' := hI'.1
        refine And.intro (fun h5 => ?_) (fun h5 => ?_)
        · have h5 : (j : Int) < (s.length : Int) := h5
          have hjl : j < s.length := by omega
          have hsj := hs'.ins _ (getD_mem (d := 0) hjl)
          have hy : (s.getD j 0).toNat < t.length := by omega
          have r1 := hs.len hx
          have e1 := hs.ent hx hy
          refine And.intro (by omega) ?_
          refine And.intro (show 0 ≤ w.getD k 0 ∧ w.getD k 0 < (t.length : Int) by omega) ?_
          refine And.intro (show 0 ≤ s.getD j 0 ∧ s.getD j 0 < ((t.getD (w.getD k 0).toNat []).length : Int) by omega) ?_
          refine And.intro (show 0 ≤ (t.getD (w.getD k 0).toNat []).getD (s.getD j 0).toNat 0 ∧ (t.getD (w.getD k 0).toNat []).getD (s.getD j 0).toNat 0 < (C'.length : Int) by omega) ?_
          refine And.intro (show 0 ≤ (t.getD (w.getD k 0).toNat []).getD (s.getD j 0).toNat 0 by omega) ?_
          refine And.intro (by omega) ?_
          exact nx (j + 1, C'.set ((t.getD (w.getD k 0).toNat []).getD (s.getD j 0).toNat 0).toNat true) ⟨by omega, hI'.mark e1.2 (.inr (gd_coset h hw hs' hx (hs'.iset (getD_mem hjl)) hG))⟩ (show s.length - (j + 1) < s.length - j by omega) (by repeat' first | refine And.intro ?_ ?_ | exact True.intro | (show (_ : Int) = (_ : Int); omega) | omega | exact rfl | (simp only [RO.len]; omega))
        · have h5 : (s.length : Int) ≤ (j : Int) := h5
          refine And.intro (by omega) ?_
          refine nx (k + 1, C') ⟨by omega, hI', fun i hi => ?_⟩ (show w.length - (k + 1) < w.length - k by omega) (by repeat' first | refine And.intro ?_ ?_ | exact True.intro | (show (_ : Int) = (_ : Int); omega) | omega | exact rfl | (simp only [RO.len]; omega))
          by_cases e : i = k
          · subst e; exact .inr hG
          · exact hdone i (by omega)
    · refine And.intro ?_ ?_
      · refine Or.inl (cq (cloneI_fn s (by omega)) (And.intro rfl trivial) ?_)
        refine And.intro ?_ ?_
        · refine And.intro ?_ trivial
          refine And.intro ?_ trivial
          refine And.intro hap ?_
          refine And.intro ?_ trivial
          refine Or.inl (cq (gclo_fn t w (s ++ [w.getD k 0]) h hw hgin) (And.intro (by repeat' first | refine And.intro ?_ ?_ | exact True.intro | (show (_ : Int) = (_ : Int); omega) | omega | exact rfl | (simp only [RO.len]; omega)) (And.intro rfl (And.intro rfl trivial))) ?_)
          refine Or.inl (cq (glist_fn (setB t.length (cloF t w (s ++ [w.getD k 0]))) (by rw [setB_len]; omega)) (And.intro rfl trivial) ?_)
          refine And.intro (fun h4 => And.intro (bad h4) trivial) (fun h4 => ?_)
          have hG := good h4
          refine Exists.intro [] <| lp2 (fun (j : Nat) (_ : List Bool) => [(47, .int .i64 j)]) (fun _ C => [(20, .vec 0 (.bools C) [])]) (fun j C => j ≤ s.length ∧ MxI t w s C) (fun j _ => s.length - j) 0 C ⟨Nat.zero_le _, hI⟩ (by repeat' first | refine And.intro ?_ ?_ | exact True.intro | (show (_ : Int) = (_ : Int); omega) | omega | exact rfl | (simp only [RO.len]; omega)) ?_
          rintro j C' ⟨hj, hI'⟩
          have hC' := hI'.1
          refine And.intro (fun h5 => ?_) (fun h5 => ?_)
          · have h5 : (j : Int) < (s.length : Int) := h5
            have hjl : j < s.length := by omega
            have hsj := hs'.ins _ (getD_mem (d := 0) hjl)
            have hy : (s.getD j 0).toNat < t.length := by omega
            have r1 := hs.len hx
            have e1 := hs.ent hx hy
            refine And.intro (by omega) ?_
            refine And.intro (show 0 ≤ w.getD k 0 ∧ w.getD k 0 < (t.length : Int) by omega) ?_
            refine And.intro (show 0 ≤ s.getD j 0 ∧ s.getD j 0 < ((t.getD (w.getD k 0).toNat []).length : Int) by omega) ?_
            refine And.intro (show 0 ≤ (t.getD (w.getD k 0).toNat []).getD (s.getD j 0).toNat 0 ∧ (t.getD (w.getD k 0).toNat []).getD (s.getD j 0).toNat 0 < (C'.length : Int) by omega) ?_
            refine And.intro (show 0 ≤ (t.getD (w.getD k 0).toNat []).getD (s.getD j 0).toNat 0 by omega) ?_
            refine And.intro (by omega) ?_
            exact nx (j + 1, C'.set ((t.getD (w.getD k 0).toNat []).getD (s.getD j 0).toNat 0).toNat true) ⟨by omega, hI'.mark e1.2 (.inr (gd_coset h hw hs' hx (hs'.iset (getD_mem hjl)) hG))⟩ (show s.length - (j + 1) < s.length - j by omega) (by repeat' first | refine And.intro ?_ ?_ | exact True.intro | (show (_ : Int) = (_ : Int); omega) | omega | exact rfl | (simp only [RO.len]; omega))
          · have h5 : (s.length : Int) ≤ (j : Int) := h5
            refine And.intro (by omega) ?_
            refine nx (k + 1, C') ⟨by omega, hI', fun i hi => ?_⟩ (show w.length - (k + 1) < w.length - k by omega) (by repeat' first | refine And.intro ?_ ?_ | exact True.intro | (show (_ : Int) = (_ : Int); omega) | omega | exact rfl | (simp only [RO.len]; omega))
            by_cases e : i = k
            · subst e; exact .inr hG
            · exact hdone i (by omega)
        · refine And.intro ?_ trivial
          refine And.intro ?_ ?_
          · refine And.intro ?_ trivial
            refine And.intro hap ?_
            refine And.intro ?_ trivial
            refine Or.inl (cq (gclo_fn t w (s ++ [w.getD k 0]) h hw hgin) (And.intro (by repeat' first | refine And.intro ?_ ?_ | exact True.intro | (show (_ : Int) = (_ : Int); omega) | omega | exact rfl | (simp only [RO.len]; omega)) (And.intro rfl (And.intro rfl trivial))) ?_)
            refine Or.inl (cq (glist_fn (setB t.length (cloF t w (s ++ [w.getD k 0]))) (by rw [setB_len]; omega)) (And.intro rfl trivial) ?_)
            refine And.intro (fun h4 => And.intro (bad h4) trivial) (fun h4 => ?_)
            have hG := good h4
            refine Exists.intro [] <| lp2 (fun (j : Nat) (_ : List Bool) => [(47, .int .i64 j)]) (fun _ C => [(20, .vec 0 (.bools C) [])]) (fun j C => j ≤ s.length ∧ MxI t w s C) (fun j _ => s.length - j) 0 C ⟨Nat.zero_le _, hI⟩ (by repeat' first | refine And.intro ?_ ?_ | exact True.intro | (show (_ : Int) = (_ : Int); omega) | omega | exact rfl | (simp only [RO.len]; omega)) ?_
            rintro j C' ⟨hj, hI'⟩
            have hC' := hI'.1
            refine And.intro (fun h5 => ?_) (fun h5 => ?_)
            · have h5 : (j : Int) < (s.length : Int) := h5
              have hjl : j < s.length := by omega
              have hsj := hs'.ins _ (getD_mem (d := 0) hjl)
              have hy : (s.getD j 0).toNat < t.length := by omega
              have r1 := hs.len hx
              have e1 := hs.ent hx hy
              refine And.intro (by omega) ?_
              refine And.intro (show 0 ≤ w.getD k 0 ∧ w.getD k 0 < (t.length : Int) by omega) ?_
              refine And.intro (show 0 ≤ s.getD j 0 ∧ s.getD j 0 < ((t.getD (w.getD k 0).toNat []).length : Int) by omega) ?_
              refine And.intro (show 0 ≤ (t.getD (w.getD k 0).toNat []).getD (s.getD j 0).toNat 0 ∧ (t.getD (w.getD k 0).toNat []).getD (s.getD j 0).toNat 0 < (C'.length : Int) by omega) ?_
              refine And.intro (show 0 ≤ (t.getD (w.getD k 0).toNat []).getD (s.getD j 0).toNat 0 by omega) ?_
              refine And.intro (by omega) ?_
              exact nx (j + 1, C'.set ((t.getD (w.getD k 0).toNat []).getD (s.getD j 0).toNat 0).toNat true) ⟨by omega, hI'.mark e1.2 (.inr (gd_coset h hw hs' hx (hs'.iset (getD_mem hjl)) hG))⟩ (show s.length - (j + 1) < s.length - j by omega) (by repeat' first | refine And.intro ?_ ?_ | exact True.intro | (show (_ : Int) = (_ : Int); omega) | omega | exact rfl | (simp only [RO.len]; omega))
            · have h5 : (s.length : Int) ≤ (j : Int) := h5
              refine And.intro (by omega) ?_
              refine nx (k + 1, C') ⟨by omega, hI', fun i hi => ?_⟩ (show w.length - (k + 1) < w.length - k by omega) (by repeat' first | refine And.intro ?_ ?_ | exact True.intro | (show (_ : Int) = (_ : Int); omega) | omega | exact rfl | (simp only [RO.len]; omega))
              by_cases e : i = k
              · subst e; exact .inr hG
              · exact hdone i (by omega)
          · refine And.intro ?_ trivial
            refine And.intro hap ?_
            refine And.intro ?_ trivial
            refine And.intro ?_ trivial
            refine Or.inl (cq (gclo_fn t w (s ++ [w.getD k 0]) h hw hgin) (And.intro (by repeat' first | refine And.intro ?_ ?_ | exact True.intro | (show (_ : Int) = (_ : Int); omega) | omega | exact rfl | (simp only [RO.len]; omega)) (And.intro rfl (And.intro rfl trivial))) ?_)
            refine Or.inl (cq (glist_fn (setB t.length (cloF t w (s ++ [w.getD k 0]))) (by rw [setB_len]; omega)) (And.intro rfl trivial) ?_)
            refine And.intro (fun h4 => And.intro (bad h4) trivial) (fun h4 => ?_)
            have hG := good h4
            refine Exists.intro [] <| lp2 (fun (j : Nat) (_ : List Bool) => [(47, .int .i64 j)]) (fun _ C => [(20, .vec 0 (.bools C) [])]) (fun j C => j ≤ s.length ∧ MxI t w s C) (fun j _ => s.length - j) 0 C ⟨Nat.zero_le _, hI⟩ (by repeat' first | refine And.intro ?_ ?_ | exact True.intro | (show (_ : Int) = (_ : Int); omega) | omega | exact rfl | (simp only [RO.len]; omega)) ?_
            rintro j C' ⟨hj, hI'⟩
            have hC' := hI'.1
            refine And.intro (fun h5 => ?_) (fun h5 => ?_)
            · have h5 : (j : Int) < (s.length : Int) := h5
              have hjl : j < s.length := by omega
              have hsj := hs'.ins _ (getD_mem (d := 0) hjl)
              have hy : (s.getD j 0).toNat < t.length := by omega
              have r1 := hs.len hx
              have e1 := hs.ent hx hy
              refine And.intro (by omega) ?_
              refine And.intro (show 0 ≤ w.getD k 0 ∧ w.getD k 0 < (t.length : Int) by omega) ?_
              refine And.intro (show 0 ≤ s.getD j 0 ∧ s.getD j 0 < ((t.getD (w.getD k 0).toNat []).length : Int) by omega) ?_
              refine And.intro (show 0 ≤ (t.getD (w.getD k 0).toNat []).getD (s.getD j 0).toNat 0 ∧ (t.getD (w.getD k 0).toNat []).getD (s.getD j 0).toNat 0 < (C'.length : Int) by omega) ?_
              refine And.intro (show 0 ≤ (t.getD (w.getD k 0).toNat []).getD (s.getD j 0).toNat 0 by omega) ?_
              refine And.intro (by omega) ?_
              exact nx (j + 1, C'.set ((t.getD (w.getD k 0).toNat []).getD (s.getD j 0).toNat 0).toNat true) ⟨by omega, hI'.mark e1.2 (.inr (gd_coset h hw hs' hx (hs'.iset (getD_mem hjl)) hG))⟩ (show s.length - (j + 1) < s.length - j by omega) (by repeat' first | refine And.intro ?_ ?_ | exact True.intro | (show (_ : Int) = (_ : Int); omega) | omega | exact rfl | (simp only [RO.len]; omega))
            · have h5 : (s.length : Int) ≤ (j : Int) := h5
              refine And.intro (by omega) ?_
              refine nx (k + 1, C') ⟨by omega, hI', fun i hi => ?_⟩ (show w.length - (k + 1) < w.length - k by omega) (by repeat' first | refine And.intro ?_ ?_ | exact True.intro | (show (_ : Int) = (_ : Int); omega) | omega | exact rfl | (simp only [RO.len]; omega))
              by_cases e : i = k
              · subst e; exact .inr hG
              · exact hdone i (by omega)
      · refine And.intro ?_ trivial
        refine And.intro ?_ ?_
        · refine And.intro ?_ trivial
          refine Or.inl (cq (cloneI_fn s (by omega)) (And.intro rfl trivial) ?_)
          refine And.intro ?_ trivial
          refine And.intro hap ?_
          refine And.intro ?_ trivial
          refine Or.inl (cq (gclo_fn t w (s ++ [w.getD k 0]) h hw hgin) (And.intro (by repeat' first | refine And.intro ?_ ?_ | exact True.intro | (show (_ : Int) = (_ : Int); omega) | omega | exact rfl | (simp only [RO.len]; omega)) (And.intro rfl (And.intro rfl trivial))) ?_)
          refine Or.inl (cq (glist_fn (setB t.length (cloF t w (s ++ [w.getD k 0]))) (by rw [setB_len]; omega)) (And.intro rfl trivial) ?_)
          refine And.intro (fun h4 => And.intro (bad h4) trivial) (fun h4 => ?_)
          have hG := good h4
          refine Exists.intro [] <| lp2 (fun (j : Nat) (_ : List Bool) => [(47, .int .i64 j)]) (fun _ C => [(20, .vec 0 (.bools C) [])]) (fun j C => j ≤ s.length ∧ MxI t w s C) (fun j _ => s.length - j) 0 C ⟨Nat.zero_le _, hI⟩ (by repeat' first | refine And.intro ?_ ?_ | exact True.intro | (show (_ : Int) = (_ : Int); omega) | omega | exact rfl | (simp only [RO.len]; omega)) ?_
          rintro j C' ⟨hj, hI'⟩
          have hC' := hI'.1
          refine And.intro (fun h5 => ?_) (fun h5 => ?_)
          · have h5 : (j : Int) < (s.length : Int) := h5
            have hjl : j < s.length := by omega
            have hsj := hs'.ins _ (getD_mem (d := 0) hjl)
            have hy : (s.getD j 0).toNat < t.length := by omega
            have r1 := hs.len hx
            have e1 := hs.ent hx hy
            refine And.intro (by omega) ?_
            refine And.intro (show 0 ≤ w.getD k 0 ∧ w.getD k 0 < (t.length : Int) by omega) ?_
            refine And.intro (show 0 ≤ s.getD j 0 ∧ s.getD j 0 < ((t.getD (w.getD k 0).toNat []).length : Int) by omega) ?_
            refine And.intro (show 0 ≤ (t.getD (w.getD k 0).toNat []).getD (s.getD j 0).toNat 0 ∧ (t.getD (w.getD k 0).toNat []).getD (s.getD j 0).toNat 0 < (C'.length : Int) by omega) ?_
            refine And.intro (show 0 ≤ (t.getD (w.getD k 0).toNat []).getD (s.getD j 0).toNat 0 by omega) ?_
            refine And.intro (by omega) ?_
            exact nx (j + 1, C'.set ((t.getD (w.getD k 0).toNat []).getD (s.getD j 0).toNat 0).toNat true) ⟨by omega, hI'.mark e1.2 (.inr (gd_coset h hw hs' hx (hs'.iset (getD_mem hjl)) hG))⟩ (show s.length - (j + 1) < s.length - j by omega) (by repeat' first | refine And.intro ?_ ?_ | exact True.intro | (show (_ : Int) = (_ : Int); omega) | omega | exact rfl | (simp only [RO.len]; omega))
          · have h5 : (s.length : Int) ≤ (j : Int) := h5
            refine And.intro (by omega) ?_
            refine nx (k + 1, C') ⟨by omega, hI', fun i hi => ?_⟩ (show w.length - (k + 1) < w.length - k by omega) (by repeat' first | refine And.intro ?_ ?_ | exact True.intro | (show (_ : Int) = (_ : Int); omega) | omega | exact rfl | (simp only [RO.len]; omega))
            by_cases e : i = k
            · subst e; exact .inr hG
            · exact hdone i (by omega)
        · refine And.intro ?_ trivial
          refine Or.inl (cq (cloneI_fn s (by omega)) (And.intro rfl trivial) ?_)
          refine And.intro ?_ ?_
          · refine And.intro ?_ trivial
            refine And.intro hap ?_
            refine And.intro ?_ trivial
            refine Or.inl (cq (gclo_fn t w (s ++ [w.getD k 0]) h hw hgin) (And.intro (by repeat' first | refine And.intro ?_ ?_ | exact True.intro | (show (_ : Int) = (_ : Int); omega) | omega | exact rfl | (simp only [RO.len]; omega)) (And.intro rfl (And.intro rfl trivial))) ?_)
            refine Or.inl (cq (glist_fn (setB t.length (cloF t w (s ++ [w.getD k 0]))) (by rw [setB_len]; omega)) (And.intro rfl trivial) ?_)
            refine And.intro (fun h4 => And.intro (bad h4) trivial) (fun h4 => ?_)
            have hG := good h4
            refine Exists.intro [] <| lp2 (fun (j : Nat) (_ : List Bool) => [(47, .int .i64 j)]) (fun _ C => [(20, .vec 0 (.bools C) [])]) (fun j C => j ≤ s.length ∧ MxI t w s C) (fun j _ => s.length - j) 0 C ⟨Nat.zero_le _, hI⟩ (by repeat' first | refine And.intro ?_ ?_ | exact True.intro | (show (_ : Int) = (_ : Int); omega) | omega | exact rfl | (simp only [RO.len]; omega)) ?_
            rintro j C' ⟨hj, hI'⟩
            have hC' := hI'.1
            refine And.intro (fun h5 => ?_) (fun h5 => ?_)
            · have h5 : (j : Int) < (s.length : Int) := h5
              have hjl : j < s.length := by omega
              have hsj := hs'.ins _ (getD_mem (d := 0) hjl)
              have hy : (s.getD j 0).toNat < t.length := by omega
              have r1 := hs.len hx
              have e1 := hs.ent hx hy
              refine And.intro (by omega) ?_
              refine And.intro (show 0 ≤ w.getD k 0 ∧ w.getD k 0 < (t.length : Int) by omega) ?_
              refine And.intro (show 0 ≤ s.getD j 0 ∧ s.getD j 0 < ((t.getD (w.getD k 0).toNat []).length : Int) by omega) ?_
              refine And.intro (show 0 ≤ (t.getD (w.getD k 0).toNat []).getD (s.getD j 0).toNat 0 ∧ (t.getD (w.getD k 0).toNat []).getD (s.getD j 0).toNat 0 < (C'.length : Int) by omega) ?_
              refine And.intro (show 0 ≤ (t.getD (w.getD k 0).toNat []).getD (s.getD j 0).toNat 0 by omega) ?_
              refine And.intro (by omega) ?_
              exact nx (j + 1, C'.set ((t.getD (w.getD k 0).toNat []).getD (s.getD j 0).toNat 0).toNat true) ⟨by omega, hI'.mark e1.2 (.inr (gd_coset h hw hs' hx (hs'.iset (getD_mem hjl)) hG))⟩ (show s.length - (j + 1) < s.length - j by omega) (by repeat' first | refine And.intro ?_ ?_ | exact True.intro | (show (_ : Int) = (_ : Int); omega) | omega | exact rfl | (simp only [RO.len]; omega))
            · have h5 : (s.length : Int) ≤ (j : Int) := h5
              refine And.intro (by omega) ?_
              refine nx (k + 1, C') ⟨by omega, hI', fun i hi => ?_⟩ (show w.length - (k + 1) < w.length - k by omega) (by repeat' first | refine And.intro ?_ ?_ | exact True.intro | (show (_ : Int) = (_ : Int); omega) | omega | exact rfl | (simp only [RO.len]; omega))
              by_cases e : i = k
              · subst e; exact .inr hG
              · exact hdone i (by omega)
          · refine And.intro ?_ trivial
            refine And.intro hap ?_
            refine And.intro ?_ trivial
            refine And.intro ?_ trivial
            refine Or.inl (cq (gclo_fn t w (s ++ [w.getD k 0]) h hw hgin) (And.intro (by repeat' first | refine And.intro ?_ ?_ | exact True.intro | (show (_ : Int) = (_ : Int); omega) | omega | exact rfl | (simp only [RO.len]; omega)) (And.intro rfl (And.intro rfl trivial))) ?_)
            refine Or.inl (cq (glist_fn (setB t.length (cloF t w (s ++ [w.getD k 0]))) (by rw [setB_len]; omega)) (And.intro rfl trivial) ?_)
            refine And.intro (fun h4 => And.intro (bad h4) trivial) (fun h4 => ?_)
            have hG := good h4
            refine Exists.intro [] <| lp2 (fun (j : Nat) (_ : List Bool) => [(47, .int .i64 j)]) (fun _ C => [(20, .vec 0 (.bools C) [])]) (fun j C => j ≤ s.length ∧ MxI t w s C) (fun j _ => s.length - j) 0 C ⟨Nat.zero_le _, hI⟩ (by repeat' first | refine And.intro ?_ ?_ | exact True.intro | (show (_ : Int) = (_ : Int); omega) | omega | exact rfl | (simp only [RO.len]; omega)) ?_
            rintro j C' ⟨hj, hI'⟩
            have hC' := hI'.1
            refine And.intro (fun h5 => ?_) (fun h5 => ?_)
            · have h5 : (j : Int) < (s.length : Int) := h5
              have hjl : j < s.length := by omega
              have hsj := hs'.ins _ (getD_mem (d := 0) hjl)
              have hy : (s.getD j 0).toNat < t.length := by omega
              have r1 := hs.len hx
              have e1 := hs.ent hx hy
              refine And.intro (by omega) ?_
              refine And.intro (show 0 ≤ w.getD k 0 ∧ w.getD k 0 < (t.length : Int) by omega) ?_
              refine And.intro (show 0 ≤ s.getD j 0 ∧ s.getD j 0 < ((t.getD (w.getD k 0).toNat []).length : Int) by omega) ?_
              refine And.intro (show 0 ≤ (t.getD (w.getD k 0).toNat []).getD (s.getD j 0).toNat 0 ∧ (t.getD (w.getD k 0).toNat []).getD (s.getD j 0).toNat 0 < (C'.length : Int) by omega) ?_
              refine And.intro (show 0 ≤ (t.getD (w.getD k 0).toNat []).getD (s.getD j 0).toNat 0 by omega) ?_
              refine And.intro (by omega) ?_
              exact nx (j + 1, C'.set ((t.getD (w.getD k 0).toNat []).getD (s.getD j 0).toNat 0).toNat true) ⟨by omega, hI'.mark e1.2 (.inr (gd_coset h hw hs' hx (hs'.iset (getD_mem hjl)) hG))⟩ (show s.length - (j + 1) < s.length - j by omega) (by repeat' first | refine And.intro ?_ ?_ | exact True.intro | (show (_ : Int) = (_ : Int); omega) | omega | exact rfl | (simp only [RO.len]; omega))
            · have h5 : (s.length : Int) ≤ (j : Int) := h5
              refine And.intro (by omega) ?_
              refine nx (k + 1, C') ⟨by omega, hI', fun i hi => ?_⟩ (show w.length - (k + 1) < w.length - k by omega) (by repeat' first | refine And.intro ?_ ?_ | exact True.intro | (show (_ : Int) = (_ : Int); omega) | omega | exact rfl | (simp only [RO.len]; omega))
              by_cases e : i = k
              · subst e; exact .inr hG
              · exact hdone i (by omega)
  · have h2 : (w.length : Int) ≤ (k : Int) := h2
    refine And.intro (mxB_true.2 ⟨by omega, fun x hx hxs => ?_⟩).symm trivial
    obtain ⟨i, hi, rfl⟩ := mem_getD 0 hx
    rcases hdone i (by omega) with hd | hd
    · exact absurd (by have := setI_iff.1 hd; rwa [Int.toNat_of_nonneg (hw.ins _ hx).1] at this) hxs
    · exact hd
theorem mx_fn (t : List (List Int)) (w s : List Int) (h : Grp t) (hw : ClL t w) (hs' : ClL t s) (hsw : ∀ x ∈ s, x ∈ w) : QF 28 [frA t, .ro (.ints .i64 w), .ro (.ints .i64 s)] (.bool (.v (mxB t w s))) := mkQ Tryz.func28 (by decide +kernel) rfl (Nat.le_of_ble_eq_true rfl) fun _ => mx_k t w s h hw hs' hsw
theorem simple_k (t : List (List Int)) (h : Grp t) : fnK TY SP Tryz.f14 [.ro (.rows .i64 t)] (.bool (.v (decide ((nsL t).length = 2)))) := by
  have hm := h.most
  rw [← simple_iff h]
  refine Or.inl (cq (openY_fn t h) (And.intro rfl trivial) ?_)
  refine Or.inl ?_
  refine Exists.intro [false, false, false, false, false, false, false, false, false, false, false] (And.intro (by decide +kernel) ?_)
  refine cq (gall_fn t hm) (And.intro (by repeat' first | refine And.intro ?_ ?_ | exact True.intro | (show (_ : Int) = (_ : Int); omega) | omega | exact rfl | (simp only [RO.len]; omega)) trivial) ?_
  refine cq (mx_fn t (allI t) [(oneN t : Int)] h (allI_cl h.toSh) (one_ns h).cl fun x hx => mem_disI.2 ((one_ns h).cl.ins x hx)) (And.intro (by repeat' first | refine And.intro ?_ ?_ | exact True.intro | (show (_ : Int) = (_ : Int); omega) | omega | exact rfl | (simp only [RO.len]; omega)) (And.intro rfl (And.intro rfl trivial))) ?_
  exact And.intro rfl trivial
theorem simpleN_k (t : List (List Int)) (h : ¬ Grp t) : fnK TY SP Tryz.f14 [.ro (.rows .i64 t)] (.bool (.lit false)) := by
  refine Or.inl (cq (open_fn t) (And.intro rfl trivial) ?_)
  refine Or.inl ?_
  refine Exists.intro [false, false, false, false, false, false, false, false, false, false, false] (And.intro (by decide +kernel) ?_)
  refine And.intro (fun h1 => absurd (grpB_true.1 h1) h) (fun h1 => ?_)
  exact And.intro rfl trivial
noncomputable def simB (t : List (List Int)) : Bool := grpB t && decide ((nsL t).length = 2)
theorem simple_fn (t : List (List Int)) : QF 14 [.ro (.rows .i64 t)] (.bool (.v (simB t))) := by
  unfold simB
  by_cases h : Grp t
  · rw [grpB_true.2 h, Bool.true_and]; exact mkQ Tryz.func14 (by decide +kernel) rfl (Nat.le_of_ble_eq_true rfl) fun _ => simple_k t h
  · rw [grpB_false.2 h, Bool.false_and]; exact mkQ Tryz.func14 (by decide +kernel) rfl (Nat.le_of_ble_eq_true rfl) fun _ => simpleN_k t h
theorem gallR_fn (t : List (List Int)) (hn : t.length ≤ 400) : QF 24 [frA t] (.ro (.ints .i64 (allI t))) := new_ro (gall_fn t hn)
theorem rsimpleN_fn (t : List (List Int)) (h : ¬ Grp t) : QF 34 [.ro (.rows .i64 t)] (.bool (.lit false)) := mkQ Tryz.func34 (by decide +kernel) rfl (Nat.le_of_ble_eq_true rfl) fun _ => by
  refine Or.inl (cq (rgroup_fn t) (And.intro rfl trivial) ?_)
  refine And.intro (fun h1 => absurd (grpB_true.1 h1) h) (fun h1 => ?_)
  exact And.intro rfl trivial
theorem rsimple_fn (t : List (List Int)) (hn : t.length ≤ 16) : QF 34 [.ro (.rows .i64 t)] (.bool (.v (simB t))) := mkQ Tryz.func34 (by decide +kernel) rfl (Nat.le_of_ble_eq_true rfl) fun _ => by
  refine Or.inl (cq (rgroup_fn t) (And.intro rfl trivial) ?_)
  refine And.intro (fun h1 => ?_) (fun h1 => ?_)
  · have h1 : grpB t = true := h1
    have h := grpB_true.1 h1
    refine Or.inl (cq (rNrms_fn t h hn) (And.intro rfl trivial) ?_)
    refine And.intro ?_ trivial
    show decide (((nsL t).length : Int) = 2) = simB t
    unfold simB
    rw [h1, Bool.true_and]
    exact decide_eq_decide.2 (by omega)
  · have h1 : grpB t = false := h1
    refine And.intro ?_ trivial
    show false = simB t
    unfold simB
    rw [h1]; rfl
end Go.Proofs.YtpanlghofeebhaaGreat
end
