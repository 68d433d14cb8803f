import Derived.Test.YtjlkhjgnfnfmgaaGreatMult
import Derived.Test.YtjlkhjgnfnfmgaaGreatCmTz
import Derived.Test.YtjlkhjgnfnfmgaaGreatCmCode
import Derived.Test.YtjlkhjgnfnfmgaaGreatIdeals
import Derived.Test.YtjlkhjgnfnfmgaaGreatIn
import Derived.Test.YtjlkhjgnfnfmgaaGreatRefNrm
import Derived.Test.YtjlkhjgnfnfmgaaGreatSgp4
import Derived.Test.YtjlkhjgnfnfmgaaGreatOrd
import Derived.Test.YtjlkhjgnfnfmgaaGreatPart
import Derived.Test.YtjlkhjgnfnfmgaaGreatSgpLaw
section
section
/- The sanity check, by computation: what every seat needs. -/
namespace Go.Proofs.YtjlkhjgnfnfmgaaGreat
open Go Go.AM Go.CM
set_option maxRecDepth 100000
theorem zOk : ZOk Tryz.prog TY TZ := zOk_of (by decide +kernel)
theorem namesOk : namesB Tryz.prog = true := by decide +kernel
theorem semi_of {t : List (List Int)} (h : semiB t = true) : validV t = 0 := by
  obtain ⟨⟨h1, h2⟩, h3, h4⟩ := semiB_ok h
  exact valid_zero.2 ⟨⟨h1, h2, h3⟩, fun g hg x y hx hy => h4 x g y hx hg hy⟩
noncomputable abbrev KN : Kn := ⟨[], knowV 79 semiB⟩
theorem kn_ok : CalOk Tryz.prog KN.know := know_ok fun t h => by have := valid_fn t; rw [semi_of h] at this; exact this
def eqsB (P : Program) (eqs : List Nat) : Bool := eqs.all fun t => !P.stoodInHeld t && !P.eqGuardType P.depth t && (P.fieldsOf t).toList.all fun f => decide (f.name ≠ "_")
theorem eqs_of {P : Program} {eqs : List Nat} (h : eqsB P eqs = true) : EqOk P eqs := fun t ht => by
  have h := List.all_eq_true.1 h t (memB_iff.1 ht)
  simp only [Bool.and_eq_true, Bool.not_eq_true', List.all_eq_true, decide_eq_true_eq] at h
  exact ⟨h.1.1, h.1.2, h.2⟩
theorem awkE {f : FuncId} {n d : Nat} (eqs : List Nat) (he : eqsB Tryz.prog eqs = true) (h : okTrue (evF Tryz.prog TY TZ ⟨eqs, KN.know⟩ n d f [] ⟨.lf, 0, 0, []⟩) = true) : QF f [] (.bool (.lit true)) :=
  fn_true (K := ⟨eqs, KN.know⟩) tyOk zOk kn_ok (eqs_of he) mixed (names_of namesOk) h
end Go.Proofs.YtjlkhjgnfnfmgaaGreat
end
section
/- Statements about groups: the sanity check. -/
namespace Go.Proofs.YtjlkhjgnfnfmgaaGreat
open Go Go.AM Go.CM
set_option maxRecDepth 100000
theorem awake16_fn : QF 10 [] (.bool (.lit true)) := awkE (n := 1000) (d := 60) [38] (by decide +kernel) (by decide +kernel)
end Go.Proofs.YtjlkhjgnfnfmgaaGreat
end
end
section
section
/- Package group: all normal subgroups: contracts. -/
namespace Go.Proofs.YtjlkhjgnfnfmgaaGreat
open Go Go.AM
set_option maxRecDepth 100000
theorem markOf_fn (n : Nat) (hn : n ≤ 16) (f : Nat → Bool) : QF 122 [.ro (.bools (setB n f))] (mkA (wd f n : Nat)) := mkQ Tryz.func122 (by decide +kernel) rfl (Nat.le_of_ble_eq_true rfl) fun _ => by
  have hl := setB_len n f
  refine Exists.intro [] <| lp (X := Nat) (fun k => [(8, .int .i64 k)]) (fun k => [(3, .box [.int .u64 (wd f k : Nat), .int .u64 0, .int .u64 0, .int .u64 0, .int .u64 0, .int .u64 0, .int .u64 0])]) (fun k => k ≤ n) (fun k => n - k) 0 (Nat.zero_le _) (by repeat' first | refine And.intro ?_ ?_ | exact True.intro | (show (_ : Int) = (_ : Int); omega) | omega | exact rfl | (simp only [RO.len]; omega)) ?_
  intro k hk
  refine And.intro (fun h1 => ?_) (fun h1 => ?_)
  · have h1 : (k : Int) < ((setB n f).length : Int) := h1
    have hkn : k < n := by omega
    have e1 : (k : Int) % 64 = ((k : Nat) : Int) := by omega
    refine And.intro (by omega) ?_
    refine And.intro (fun h2 => ?_) (fun h2 => ?_)
    · have h2 : (setB n f).getD k false = true := h2
      rw [setB_get hkn] at h2
      refine Or.inl <| Exists.intro [false, false, false, false, false, false, false, false, false, true] (And.intro (by decide +kernel) ?_)
      refine And.intro (by omega) ?_
      refine And.intro (by omega) ?_
      repeat' first | (exfalso; omega) | exact trivial | refine And.intro (by omega) ?_ | refine Or.inl (And.intro (by omega) ?_) | refine And.intro (fun h => ?_) ?_
      refine nx (k + 1) (by omega) (show n - (k + 1) < n - k by omega) ?_
      have e2 : orI .u64 ((wd f k : Nat) : Int) (shlI .u64 1 ((k : Int) % 64)) = ((wd f (k + 1) : Nat) : Int) := by rw [e1]; exact wd_yes (by omega) h2
      repeat' first | refine And.intro ?_ ?_ | exact True.intro | (show (_ : Int) = (_ : Int); omega) | omega | exact rfl | (simp only [RO.len]; omega)
    · have h2 : (setB n f).getD k false = false := h2
      rw [setB_get hkn] at h2
      have e2 : ((wd f k : Nat) : Int) = ((wd f (k + 1) : Nat) : Int) := by rw [wd_no h2]
      refine And.intro (by omega) ?_
      refine nx (k + 1) (by omega) (show n - (k + 1) < n - k by omega) ?_
      repeat' first | refine And.intro ?_ ?_ | exact True.intro | (show (_ : Int) = (_ : Int); omega) | omega | exact rfl | (simp only [RO.len]; omega)
  · have h1 : ((setB n f).length : Int) ≤ (k : Int) := h1
    have hkn : k = n := by omega
    subst hkn
    refine And.intro ?_ trivial
    repeat' first | refine And.intro ?_ ?_ | exact True.intro | (show (_ : Int) = (_ : Int); omega) | omega | exact rfl | (simp only [RO.len]; omega)
theorem gcmp_fn (a b : List Int) : QF 82 [.ro (.ints .i64 a), .ro (.ints .i64 b)] (.int .i64 (cmpS a b)) := mkQ Tryz.func82 (by decide +kernel) rfl (Nat.le_of_ble_eq_true rfl) fun _ => by
  refine Or.inl (cq (compare_fn (a.length : Int) (b.length : Int)) (And.intro rfl (And.intro rfl trivial)) ?_)
  refine Or.inl (cq (compareL_fn a b) (And.intro rfl (And.intro rfl trivial)) ?_)
  refine Or.inl (cq (or2_fn (cmpI a.length b.length) (cmpL a b)) (And.intro rfl trivial) ?_)
  exact And.intro rfl trivial
theorem mkI_set {n : Nat} {f : Nat → Bool} : mkI n (ascV n f) = [((wd f n : Nat) : Int), 0, 0, 0, 0, 0, 0] := by
  unfold mkI
  rw [wd_congr fun y hy => ascV_set (f := f) hy]
theorem glistR_fn (n : Nat) (hn : n ≤ 400) (f : Nat → Bool) : QF 105 [.ro (.bools (setB n f))] (.ro (.ints .i64 (ascV n f))) := new_ro (glist_fn (setB n f) (by rw [setB_len]; omega))
def addF (F : List (List Int)) (u : List Int) : List (List Int) := if u ∈ F then F else F ++ [u]
theorem ascV_self2 (n : Nat) (f : Nat → Bool) : ascV n (setI (ascV n f)) = ascV n f := ascV_congr fun _ hx => ascV_set hx
theorem nadd_fn (n : Nat) (hn : n ≤ 16) (f : Nat → Bool) (F : List (List Int)) (hF : ∀ s ∈ F, ascV n (setI s) = s) (hl : F.length ≤ 100000) : MF 121 [.ro (.bools (setB n f)), .ptr 1000 0, .ptr 1001 0] [(1000, .box [.ptr 1002 0]), (1002, .map (.arr 7 .u64) none (seenM n F)), (1001, .box [.vec 501]), (501, .vec 0 (.rows .i64 F) [])] (.tup [])
    [(1000, .box [.ptr 1002 0]), (1002, .map (.arr 7 .u64) none (seenM n (addF F (ascV n f)))), (1001, .box [.vec 501]), (501, .vec 0 (.rows .i64 (addF F (ascV n f))) [])] := mkM Tryz.func121 (by decide +kernel) rfl (Nat.le_of_ble_eq_true rfl) fun _ => by
  have hg := seen_get hF (ascV_self2 n f)
  rw [mkI_set] at hg
  refine Or.inl (cq (markOf_fn n hn f) (And.intro rfl trivial) ?_)
  refine And.intro (fun h1 => ?_) (fun h1 => ?_)
  · have h1 : (getM (seenM n F) [((wd f n : Nat) : Int), 0, 0, 0, 0, 0, 0]).getD 0 = 0 := h1
    rw [hg] at h1
    have hno : ascV n f ∉ F := fun hh => by rw [if_pos hh] at h1; cases h1
    have ea : addF F (ascV n f) = F ++ [ascV n f] := if_neg hno
    have es := seen_set hF (ascV_self2 n f) hno
    rw [mkI_set] at es
    rw [ea, ← es]
    refine Or.inl ?_
    refine Exists.intro [false, false, false, false, true, true] (And.intro (by decide +kernel) ?_)
    refine cq (glistR_fn n (by omega) f) (And.intro rfl trivial) ?_
    refine And.intro (by rw [List.length_append, List.length_singleton]; omega) ?_
    refine And.intro ?_ trivial
    repeat' first | refine And.intro ?_ ?_ | exact True.intro | exact rfl | omega | (simp only [RO.len]; omega)
  · have h1 : (getM (seenM n F) [((wd f n : Nat) : Int), 0, 0, 0, 0, 0, 0]).getD 0 ≠ 0 := h1
    rw [hg] at h1
    have hyes : ascV n f ∈ F := Classical.byContradiction fun hh => by rw [if_neg hh] at h1; exact h1 rfl
    have ea : addF F (ascV n f) = F := if_pos hyes
    rw [ea]
    refine And.intro ?_ trivial
    repeat' first | refine And.intro ?_ ?_ | exact True.intro | exact rfl | omega | (simp only [RO.len]; omega)
def PrdI (t : List (List Int)) (a b : List Int) (k j : Nat) (C : List Bool) : Prop := C.length = t.length ∧ ∀ y, y < t.length → (C.getD y false = true ↔ (setI a y = true ∨ (∃ i, i < k ∧ ∃ x, setI a x = true ∧ y = en t x (b.getD i 0).toNat)) ∨ ∃ i, i < j ∧ y = en t (a.getD i 0).toNat (b.getD k 0).toNat)
theorem gprd_fn (t : List (List Int)) (a b : List Int) (h : Grp t) (ha : NS t a) (hb : NS t b) : QF 123 [frA t, .ro (.ints .i64 a), .ro (.ints .i64 b)] (.new (.bools (setB t.length (setI (jnL t a b))))) := mkQ Tryz.func123 (by decide +kernel) rfl (Nat.le_of_ble_eq_true rfl) fun _ => by
  have hs := h.toSh
  have hm := hs.most
  have hal := ascV_len t.length (setI a)
  rw [ha.cl.self] at hal
  have hbl := ascV_len t.length (setI b)
  rw [hb.cl.self] at hbl
  refine Or.inl (cq (gmem_fn t a hm ha.cl.ins) (And.intro (by repeat' first | refine And.intro ?_ ?_ | exact True.intro | (show (_ : Int) = (_ : Int); omega) | omega | exact rfl | (simp only [RO.len]; omega)) (And.intro rfl trivial)) ?_)
  refine Exists.intro [] <| lp2 (fun (k : Nat) (_ : List Bool) => [(17, .int .i64 k)]) (fun _ C => [(14, .vec 0 (.bools C) [])]) (fun k C => k ≤ b.length ∧ PrdI t a b k 0 C) (fun k _ => b.length - k) 0 (setB t.length (setI a)) ⟨Nat.zero_le _, setB_len _ _, fun y hy => by
    rw [setB_get hy]
    exact ⟨fun hh => .inl (.inl hh), fun hh => hh.elim (fun hh => hh.elim id fun ⟨i, hi, _⟩ => absurd hi (Nat.not_lt_zero _)) fun ⟨i, hi, _⟩ => absurd hi (Nat.not_lt_zero _)⟩⟩ (by repeat' first | refine And.intro ?_ ?_ | exact True.intro | (show (_ : Int) = (_ : Int); omega) | omega | exact rfl | (simp only [RO.len]; omega)) ?_
  rintro k C ⟨hk, hC, hI⟩
  refine And.intro (fun h1 => ?_) (fun h1 => ?_)
  · have h1 : (k : Int) < (b.length : Int) := h1
    have hkl : k < b.length := by omega
    have hbk := hb.cl.ins _ (getD_mem (d := 0) hkl)
    have hbm := hb.cl.iset (getD_mem (d := 0) hkl)
    have hy : (b.getD k 0).toNat < t.length := by omega
    refine And.intro (by omega) ?_
    refine And.intro (show 0 ≤ b.getD k 0 ∧ b.getD k 0 < (C.length : Int) by omega) ?_
    refine And.intro (fun h2 => ?_) (fun h2 => ?_)
    · have h2 : C.getD (b.getD k 0).toNat false = true := h2
      refine And.intro (by omega) ?_
      refine nx (k + 1, C) ⟨by omega, hC, fun y hyl => ?_⟩ (show b.length - (k + 1) < b.length - k by omega) (by repeat' first | refine And.intro ?_ ?_ | exact True.intro | (show (_ : Int) = (_ : Int); omega) | omega | exact rfl | (simp only [RO.len]; omega))
      rw [hI y hyl]
      constructor
      · rintro ((hh | ⟨i, hi, hx⟩) | ⟨i, hi, _⟩)
        · exact .inl (.inl hh)
        · exact .inl (.inr ⟨i, by omega, hx⟩)
        · exact absurd hi (Nat.not_lt_zero _)
      · rintro ((hh | ⟨i, hi, x, hx, e⟩) | ⟨i, hi, _⟩)
        · exact .inl (.inl hh)
        · by_cases ei : i = k
          · subst ei
            rcases (hI _ hy).1 h2 with (hh | ⟨i', hi', x', hx', e'⟩) | ⟨i', hi', _⟩
            · rw [e]; exact .inl (.inl (ha.cl.cl _ _ (ha.cl.lt hx) hy hx hh))
            · refine .inl (.inr ⟨i', hi', en t x x', ha.cl.cl _ _ (ha.cl.lt hx) (ha.cl.lt hx') hx hx', ?_⟩)
              have hbi := hb.cl.ins _ (getD_mem (d := 0) (show i' < b.length by omega))
              rw [e, e', assoc3 h.assoc (ha.cl.lt hx) (ha.cl.lt hx') (by omega)]
            · exact absurd hi' (Nat.not_lt_zero _)
          · exact .inl (.inr ⟨i, by omega, x, hx, e⟩)
        · exact absurd hi (Nat.not_lt_zero _)
    · refine Exists.intro [] <| lp2 (fun (j : Nat) (_ : List Bool) => [(27, .int .i64 j)]) (fun _ C => [(14, .vec 0 (.bools C) [])]) (fun j C => j ≤ a.length ∧ PrdI t a b k j C) (fun j _ => a.length - j) 0 C ⟨Nat.zero_le _, hC, hI⟩ (by repeat' first | refine And.intro ?_ ?_ | exact True.intro | (show (_ : Int) = (_ : Int); omega) | omega | exact rfl | (simp only [RO.len]; omega)) ?_
      rintro j C ⟨hj, hC, hI⟩
      refine And.intro (fun h3 => ?_) (fun h3 => ?_)
      · have h3 : (j : Int) < (a.length : Int) := h3
        have hjl : j < a.length := by omega
        have haj := ha.cl.ins _ (getD_mem (d := 0) hjl)
        have hx : (a.getD j 0).toNat < t.length := by omega
        have r1 := hs.len hx
        have e1 := hs.ent hx hy
        refine And.intro (by omega) ?_
        refine And.intro (show 0 ≤ a.getD j 0 ∧ a.getD j 0 < (t.length : Int) by omega) ?_
        refine And.intro (show 0 ≤ b.getD k 0 ∧ b.getD k 0 < ((t.getD (a.getD j 0).toNat []).length : Int) by omega) ?_
        refine And.intro (show 0 ≤ (t.getD (a.getD j 0).toNat []).getD (b.getD k 0).toNat 0 ∧ (t.getD (a.getD j 0).toNat []).getD (b.getD k 0).toNat 0 < (C.length : Int) by omega) ?_
        refine And.intro (show 0 ≤ (t.getD (a.getD j 0).toNat []).getD (b.getD k 0).toNat 0 by omega) ?_
        refine And.intro (by omega) ?_
        refine nx (j + 1, C.set (en t (a.getD j 0).toNat (b.getD k 0).toNat) true) ⟨by omega, by rw [List.length_set]; exact hC, fun y hyl => ?_⟩ (show a.length - (j + 1) < a.length - j by omega) (by repeat' first | refine And.intro ?_ ?_ | exact True.intro | (show (_ : Int) = (_ : Int); omega) | omega | exact rfl | (simp only [RO.len]; omega))
        have step : (∃ i, i < j + 1 ∧ y = en t (a.getD i 0).toNat (b.getD k 0).toNat) ↔ (∃ i, i < j ∧ y = en t (a.getD i 0).toNat (b.getD k 0).toNat) ∨ y = en t (a.getD j 0).toNat (b.getD k 0).toNat := by
          constructor
          · rintro ⟨i, hi, e⟩
            by_cases ei : i = j
            · subst ei; exact .inr e
            · exact .inl ⟨i, by omega, e⟩
          · rintro (⟨i, hi, e⟩ | e)
            · exact ⟨i, by omega, e⟩
            · exact ⟨j, by omega, e⟩
        rw [step, ← or_assoc, ← hI y hyl]
        by_cases e : y = en t (a.getD j 0).toNat (b.getD k 0).toNat
        · rw [e, getD_set_eq (by omega)]; simp
        · rw [getD_set_ne (Ne.symm e)]; exact ⟨.inl, fun hh => hh.resolve_right e⟩
      · have h3 : (a.length : Int) ≤ (j : Int) := h3
        refine And.intro (by omega) ?_
        refine nx (k + 1, C) ⟨by omega, hC, fun y hyl => ?_⟩ (show b.length - (k + 1) < b.length - k by omega) (by repeat' first | refine And.intro ?_ ?_ | exact True.intro | (show (_ : Int) = (_ : Int); omega) | omega | exact rfl | (simp only [RO.len]; omega))
        rw [hI y hyl]
        constructor
        · rintro ((hh | ⟨i, hi, hx⟩) | ⟨i, hi, e⟩)
          · exact .inl (.inl hh)
          · exact .inl (.inr ⟨i, by omega, hx⟩)
          · exact .inl (.inr ⟨k, by omega, _, ha.cl.iset (getD_mem (d := 0) (show i < a.length by omega)), e⟩)
        · rintro ((hh | ⟨i, hi, x, hx, e⟩) | ⟨i, hi, _⟩)
          · exact .inl (.inl hh)
          · by_cases ei : i = k
            · subst ei
              obtain ⟨q, hq, hv⟩ := mem_getD 0 (setI_iff.1 hx)
              exact .inr ⟨q, by omega, by rw [hv, Int.toNat_natCast]; exact e⟩
            · exact .inl (.inr ⟨i, by omega, x, hx, e⟩)
          · exact absurd hi (Nat.not_lt_zero _)
  · have h1 : (b.length : Int) ≤ (k : Int) := h1
    refine And.intro (And.intro (by omega) ?_) trivial
    refine congrArg RO.bools (setB_ofP hC fun y hyl => ?_)
    rw [hI y hyl, jn_prod h ha hb hyl]
    constructor
    · rintro ((hh | ⟨i, hi, x, hx, e⟩) | ⟨i, hi, _⟩)
      · exact ⟨y, oneN t, hh, hb.cl.one h, (h.one.2.1 y hyl).2.symm⟩
      · exact ⟨x, _, hx, hb.cl.iset (getD_mem (d := 0) (show i < b.length by omega)), e⟩
      · exact absurd hi (Nat.not_lt_zero _)
    · rintro ⟨x, z, hx, hz, e⟩
      obtain ⟨q, hq, hv⟩ := mem_getD 0 (setI_iff.1 hz)
      exact .inl (.inr ⟨q, by omega, x, hx, by rw [hv, Int.toNat_natCast]; exact e⟩)
noncomputable def bsN (t : List (List Int)) : Nat → List (List Int) | 0 => [] | k + 1 => addF (bsN t k) (cloL t [(k : Int)])
theorem addF_mem {F : List (List Int)} {u s : List Int} : s ∈ addF F u ↔ s ∈ F ∨ s = u := by
  unfold addF
  split
  · rename_i hu; exact ⟨.inl, fun hh => hh.elim id fun e => e ▸ hu⟩
  · rw [List.mem_append, List.mem_singleton]
theorem addF_nodup {F : List (List Int)} {u : List Int} (hF : F.Nodup) : (addF F u).Nodup := by
  unfold addF
  split
  · exact hF
  · rename_i hu
    rw [List.nodup_append]
    exact ⟨hF, by simp, fun a ha b hb e => hu (by rw [List.mem_singleton] at hb; rw [← hb, ← e]; exact ha)⟩
theorem addF_len (F : List (List Int)) (u : List Int) : (addF F u).length ≤ F.length + 1 := by
  unfold addF
  split
  · omega
  · simp
theorem bsN_mem {t : List (List Int)} : ∀ {k : Nat} {s : List Int}, s ∈ bsN t k ↔ ∃ x, x < k ∧ s = cloL t [(x : Int)]
  | 0, s => ⟨fun h => (by cases h), fun ⟨x, hx, _⟩ => absurd hx (Nat.not_lt_zero _)⟩
  | k + 1, s => by
    show s ∈ addF (bsN t k) _ ↔ _
    rw [addF_mem, bsN_mem]
    constructor
    · rintro (⟨x, hx, rfl⟩ | rfl)
      · exact ⟨x, by omega, rfl⟩
      · exact ⟨k, by omega, rfl⟩
    · rintro ⟨x, hx, rfl⟩
      by_cases e : x = k
      · rw [e]; exact .inr rfl
      · exact .inl ⟨x, by omega, rfl⟩
theorem bsN_len (t : List (List Int)) : ∀ k, (bsN t k).length ≤ k
  | 0 => Nat.le_refl _
  | k + 1 => by have := bsN_len t k; have := addF_len (bsN t k) (cloL t [(k : Int)]); show (addF (bsN t k) _).length ≤ k + 1; omega
theorem bsN_ns {t : List (List Int)} (h : Grp t) {k : Nat} (hk : k ≤ t.length) : ∀ s ∈ bsN t k, NS t s := fun s hs => by
  obtain ⟨x, hx, rfl⟩ := bsN_mem.1 hs
  exact clo_ns h (one_in (by omega))
theorem prins_fn (t : List (List Int)) (h : Grp t) (hn : t.length ≤ 16) : QF 120 [frA t] (.ro (.rows .i64 (bsN t t.length))) := mkQ Tryz.func120 (by decide +kernel) rfl (Nat.le_of_ble_eq_true rfl) fun _ => by
  have hm := h.most
  refine Or.inl (cq (gallR_fn t hm) (And.intro (by repeat' first | refine And.intro ?_ ?_ | exact True.intro | (show (_ : Int) = (_ : Int); omega) | omega | exact rfl | (simp only [RO.len]; omega)) trivial) ?_)
  refine Exists.intro [] <| lp (X := Nat) (fun k => [(15, .int .i64 k), (5, .vec 35)]) (fun k => [(11, .map (.arr 7 .u64) none (seenM t.length (bsN t k))), (35, .vec 0 (.rows .i64 (bsN t k)) [])]) (fun k => k ≤ t.length) (fun k => t.length - k) 0 (Nat.zero_le _) (by repeat' first | refine And.intro ?_ ?_ | exact True.intro | (show (_ : Int) = (_ : Int); omega) | omega | exact rfl | (simp only [RO.len]; omega)) ?_
  intro k hk
  have hbl := bsN_len t k
  refine And.intro (fun h1 => ?_) (fun h1 => ?_)
  · have h1 : (k : Int) < (t.length : Int) := h1
    have hkl : k < t.length := by omega
    have hself : ∀ s ∈ bsN t k, ascV t.length (setI s) = s := fun s hs => (bsN_ns h hk s hs).cl.self
    have hg := seen_get hself (ascV_self2 t.length (cloF t (allI t) [(k : Int)]))
    rw [mkI_set] at hg
    refine Or.inl (cq (gclo_fn t (allI t) [(k : Int)] h (allI_cl h.toSh) (one_in hkl)) (And.intro (by repeat' first | refine And.intro ?_ ?_ | exact True.intro | (show (_ : Int) = (_ : Int); omega) | omega | exact rfl | (simp only [RO.len]; omega)) (And.intro rfl (And.intro rfl trivial))) ?_)
    refine Or.inl (cq (markOf_fn t.length hn (cloF t (allI t) [(k : Int)])) (And.intro rfl trivial) ?_)
    have hbs : bsN t (k + 1) = addF (bsN t k) (cloL t [(k : Int)]) := rfl
    refine And.intro (fun h2 => ?_) (fun h2 => ?_)
    · have h2 : (getM (seenM t.length (bsN t k)) [((wd (cloF t (allI t) [(k : Int)]) t.length : Nat) : Int), 0, 0, 0, 0, 0, 0]).getD 0 = 0 := h2
      rw [hg] at h2
      have hno : ascV t.length (cloF t (allI t) [(k : Int)]) ∉ bsN t k := fun hh => by rw [if_pos hh] at h2; cases h2
      have ea : bsN t (k + 1) = bsN t k ++ [ascV t.length (cloF t (allI t) [(k : Int)])] := by rw [hbs]; exact if_neg hno
      have es := seen_set hself (ascV_self2 t.length (cloF t (allI t) [(k : Int)])) hno
      rw [mkI_set, ← ea] at es
      have ea' : RO.rows .i64 (bsN t k ++ [ascV t.length (cloF t (allI t) [(k : Int)])]) = RO.rows .i64 (bsN t (k + 1)) := by rw [ea]
      refine Or.inl (cq (glistR_fn t.length (by omega) (cloF t (allI t) [(k : Int)])) (And.intro rfl trivial) ?_)
      refine And.intro (by rw [List.length_append, List.length_singleton]; omega) ?_
      refine And.intro (by omega) ?_
      refine nx (k + 1) (by omega) (show t.length - (k + 1) < t.length - k by omega) ?_
      repeat' first | refine And.intro ?_ ?_ | exact True.intro | exact es | exact ea' | (show (_ : Int) = (_ : Int); omega) | omega | exact rfl
    · have h2 : (getM (seenM t.length (bsN t k)) [((wd (cloF t (allI t) [(k : Int)]) t.length : Nat) : Int), 0, 0, 0, 0, 0, 0]).getD 0 ≠ 0 := h2
      rw [hg] at h2
      have hyes : ascV t.length (cloF t (allI t) [(k : Int)]) ∈ bsN t k := Classical.byContradiction fun hh => by rw [if_neg hh] at h2; exact h2 rfl
      have ea : bsN t k = bsN t (k + 1) := by rw [hbs]; exact (if_pos hyes).symm
      have es : seenM t.length (bsN t k) = seenM t.length (bsN t (k + 1)) := by rw [← ea]
      have ea' : RO.rows .i64 (bsN t k) = RO.rows .i64 (bsN t (k + 1)) := by rw [← ea]
      refine And.intro (by omega) ?_
      refine nx (k + 1) (by omega) (show t.length - (k + 1) < t.length - k by omega) ?_
      repeat' first | refine And.intro ?_ ?_ | exact True.intro | exact es | exact ea' | (show (_ : Int) = (_ : Int); omega) | omega | exact rfl
  · have h1 : (t.length : Int) ≤ (k : Int) := h1
    have e : k = t.length := by omega
    subst e
    exact And.intro (And.intro trivial rfl) trivial
theorem nadd0_fn (n : Nat) (hn : n ≤ 16) (f : Nat → Bool) : MF 121 [.ro (.bools (setB n f)), .ptr 1000 0, .ptr 1001 0] [(1000, .box [.ptr 1002 0]), (1002, .map (.arr 7 .u64) none []), (1001, .box [.nils])] (.tup [])
    [(1000, .box [.ptr 1002 0]), (1002, .map (.arr 7 .u64) none (seenM n [ascV n f])), (1001, .box [.vec 17]), (17, .vec 0 (.rows .i64 [ascV n f]) [])] := mkM Tryz.func121 (by decide +kernel) rfl (Nat.le_of_ble_eq_true rfl) fun _ => by
  refine Or.inl (cq (markOf_fn n hn f) (And.intro rfl trivial) ?_)
  refine And.intro (fun h1 => ?_) (fun h1 => ?_)
  · refine Or.inl ?_
    refine Exists.intro [false, false, false, false, true, true] (And.intro (by decide +kernel) ?_)
    refine cq (glistR_fn n (by omega) f) (And.intro rfl trivial) ?_
    refine And.intro (by simp) ?_
    have e : setM [] [((wd f n : Nat) : Int), 0, 0, 0, 0, 0, 0] 1 = seenM n [ascV n f] := by
      show [([((wd f n : Nat) : Int), 0, 0, 0, 0, 0, 0], 1)] = [(mkI n (ascV n f), 1)]
      rw [mkI_set]
    refine And.intro ?_ trivial
    repeat' first | refine And.intro ?_ ?_ | exact True.intro | exact e | exact rfl | omega | (simp; done)
  · exact absurd rfl h1
structure NrI (t : List (List Int)) (i m : Nat) (F : List (List Int)) : Prop where
  nd : F.Nodup
  ns : ∀ a ∈ F, NS t a
  one : [(oneN t : Int)] ∈ F
  jn : ∀ a b, (a < i ∨ (a = i ∧ b < m)) → a < F.length → b < (bsN t t.length).length → jnL t (F.getD a []) ((bsN t t.length).getD b []) ∈ F
section
variable {t : List (List Int)} {i m : Nat} {F : List (List Int)}
theorem NrI.len (h : Grp t) (hn : t.length ≤ 16) (H : NrI t i m F) : F.length ≤ 1941 := few_subs h hn (fun a ha => (H.ns a ha).cl) H.nd
theorem NrI.self (H : NrI t i m F) : ∀ s ∈ F, ascV t.length (setI s) = s := fun s hs => (H.ns s hs).cl.self
theorem NrI.next (h : Grp t) (H : NrI t i m F) (hi : i < F.length) (hm : m < (bsN t t.length).length) : NrI t i (m + 1) (addF F (ascV t.length (setI (jnL t (F.getD i []) ((bsN t t.length).getD m []))))) := by
  have hns := jn_ns h (H.ns _ (getD_mem (d := []) hi)) (bsN_ns h (Nat.le_refl _) _ (getD_mem (d := []) hm))
  rw [hns.cl.self]
  have hget : ∀ a, a < F.length → (addF F (jnL t (F.getD i []) ((bsN t t.length).getD m []))).getD a [] = F.getD a [] := fun a ha => by
    unfold addF
    split
    · rfl
    · simp [List.getD, List.getElem?_append_left ha]
  have hlen : F.length ≤ (addF F (jnL t (F.getD i []) ((bsN t t.length).getD m []))).length := by
    unfold addF
    split
    · exact Nat.le_refl _
    · simp
  refine ⟨addF_nodup H.nd, fun a ha => ?_, addF_mem.2 (.inl H.one), fun a b hab ha hb => ?_⟩
  · rcases addF_mem.1 ha with ha | rfl
    · exact H.ns a ha
    · exact hns
  · have ha' : a < F.length := by omega
    rw [hget a ha']
    by_cases e : a = i ∧ b = m
    · rw [e.1, e.2]; exact addF_mem.2 (.inr rfl)
    · exact addF_mem.2 (.inl (H.jn a b (by omega) ha' hb))
theorem NrI.row (H : NrI t i m F) (hm : (bsN t t.length).length ≤ m) : NrI t (i + 1) 0 F := ⟨H.nd, H.ns, H.one, fun a b hab ha hb => H.jn a b (by omega) ha hb⟩
theorem NrI.done (h : Grp t) (H : NrI t i m F) (hi : F.length ≤ i) : ∀ l, l ∈ F ↔ NS t l := fun l => ⟨H.ns l, ns_all h H.ns H.one (fun a ha x hx => by
  obtain ⟨p, hp, rfl⟩ := mem_getD [] ha
  obtain ⟨q, hq, hv⟩ := mem_getD [] (bsN_mem.2 ⟨x, hx, rfl⟩)
  rw [← hv]
  exact H.jn p q (by omega) hp hq) l⟩
end
set_option maxHeartbeats 1000000 in
theorem normals_fn (t : List (List Int)) (h : Grp t) (hn : t.length ≤ 16) : EF 81 [frA t, .int .i64 2000] (fun F : List (List Int) => .tup [.new (.rows .i64 F), .bool (.lit true)]) (fun F => F.Nodup ∧ ∀ l, l ∈ F ↔ NS t l) := mkE Tryz.func81 (by decide +kernel) rfl (Nat.le_of_ble_eq_true rfl) fun _ => by
  have hm := h.most
  have hone : ascV t.length (setI [(oneN t : Int)]) = [(oneN t : Int)] := (one_ns h).cl.self
  have hbl := bsN_len t t.length
  refine Or.inl (cq (prins_fn t h hn) (And.intro (by repeat' first | refine And.intro ?_ ?_ | exact True.intro | (show (_ : Int) = (_ : Int); omega) | omega | exact rfl | (simp only [RO.len]; omega)) trivial) ?_)
  refine Or.inl (cq (gmem_fn t [(oneN t : Int)] hm (one_ns h).cl.ins) (And.intro (by repeat' first | refine And.intro ?_ ?_ | exact True.intro | (show (_ : Int) = (_ : Int); omega) | omega | exact rfl | (simp only [RO.len]; omega)) (And.intro rfl trivial)) ?_)
  refine Or.inr (cm [22] [(1000, 7), (1001, 8), (1002, 15), (17, 301)] (nadd0_fn t.length hn (setI [(oneN t : Int)])) ?_)
  refine And.intro (by repeat' first | refine And.intro ?_ ?_ | exact True.intro | (show (_ : Int) = (_ : Int); omega) | omega | exact rfl | (simp only [RO.len]; omega)) ?_
  refine Exists.intro [] <| lp2 (fun (i : Nat) (_ : List (List Int)) => [(10, .int .i64 i)]) (fun _ F => [(15, .map (.arr 7 .u64) none (seenM t.length F)), (301, .vec 0 (.rows .i64 F) [])]) (fun i F => i ≤ F.length ∧ NrI t i 0 F) (fun i _ => 2000 - i) 0 [ascV t.length (setI [(oneN t : Int)])] ⟨Nat.zero_le _, ⟨by simp, fun a ha => by rw [List.mem_singleton, hone] at ha; rw [ha]; exact one_ns h, by rw [hone]; simp, fun a b hab => by omega⟩⟩ (by repeat' first | refine And.intro ?_ ?_ | exact True.intro | (show (_ : Int) = (_ : Int); omega) | omega | exact rfl | (simp only [RO.len]; omega)) ?_
  rintro i F ⟨hi, H⟩
  have hF := H.len h hn
  refine And.intro (fun h1 => ?_) (fun h1 => ?_)
  · have h1 : (i : Int) < (F.length : Int) := h1
    refine Exists.intro [25] <| lp2 (fun (m : Nat) (_ : List (List Int)) => [(32, .int .i64 m)]) (fun _ F => [(15, .map (.arr 7 .u64) none (seenM t.length F)), (301, .vec 0 (.rows .i64 F) [])]) (fun m F => m ≤ (bsN t t.length).length ∧ i < F.length ∧ NrI t i m F) (fun m _ => (bsN t t.length).length - m) 0 F ⟨Nat.zero_le _, by omega, H⟩ (by repeat' first | refine And.intro ?_ ?_ | exact True.intro | (show (_ : Int) = (_ : Int); omega) | omega | exact rfl | (simp only [RO.len]; omega)) ?_
    rintro m F ⟨hm', hiF, H⟩
    have hF := H.len h hn
    refine And.intro (fun h2 => ?_) (fun h2 => ?_)
    · have h2 : (m : Int) < ((bsN t t.length).length : Int) := h2
      have hml : m < (bsN t t.length).length := by omega
      refine And.intro (by omega) ?_
      refine Or.inl ?_
      refine Exists.intro [false, false, false, false, false, false, false, false, true] (And.intro (by decide +kernel) ?_)
      refine And.intro (by omega) ?_
      refine cq (gprd_fn t (F.getD i []) ((bsN t t.length).getD m []) h (H.ns _ (getD_mem hiF)) (bsN_ns h (Nat.le_refl _) _ (getD_mem hml))) (And.intro (by repeat' first | refine And.intro ?_ ?_ | exact True.intro | (show (_ : Int) = (_ : Int); omega) | omega | exact rfl | (simp only [RO.len]; omega)) (And.intro rfl (And.intro rfl trivial))) ?_
      refine Or.inr (cm [43] [(1000, 7), (1001, 8), (1002, 15), (501, 301)] (nadd_fn t.length hn (setI (jnL t (F.getD i []) ((bsN t t.length).getD m []))) F H.self (by omega)) ?_)
      have hnx := H.next h hiF hml
      have hlx := hnx.len h hn
      refine And.intro (by repeat' first | refine And.intro ?_ ?_ | exact True.intro | (show (_ : Int) = (_ : Int); omega) | omega | exact rfl | (simp only [RO.len]; omega)) ?_
      refine And.intro (fun h3 => ?_) (fun h3 => ?_)
      · exfalso
        have h3 : (2000 : Int) < ((addF F (ascV t.length (setI (jnL t (F.getD i []) ((bsN t t.length).getD m []))))).length : Int) := h3
        omega
      · refine And.intro (by omega) ?_
        refine nx (m + 1, addF F (ascV t.length (setI (jnL t (F.getD i []) ((bsN t t.length).getD m []))))) ⟨by omega, ?_, hnx⟩ (show (bsN t t.length).length - (m + 1) < (bsN t t.length).length - m by omega) (by repeat' first | refine And.intro ?_ ?_ | exact True.intro | (show (_ : Int) = (_ : Int); omega) | omega | exact rfl | (simp only [RO.len]; omega))
        show i < (addF F _).length
        unfold addF
        split
        · exact hiF
        · rw [List.length_append]; omega
    · have h2 : ((bsN t t.length).length : Int) ≤ (m : Int) := h2
      refine And.intro (by omega) ?_
      exact nx (i + 1, F) ⟨by omega, H.row (by omega)⟩ (show 2000 - (i + 1) < 2000 - i by omega) (by repeat' first | refine And.intro ?_ ?_ | exact True.intro | (show (_ : Int) = (_ : Int); omega) | omega | exact rfl | (simp only [RO.len]; omega))
  · have h1 : (F.length : Int) ≤ (i : Int) := h1
    refine Exists.intro F (And.intro ⟨H.nd, H.done h (by omega)⟩ ?_)
    repeat' first | refine And.intro ?_ ?_ | exact True.intro | (show (_ : Int) = (_ : Int); omega) | omega | exact rfl | (simp only [RO.len]; omega)
theorem gNrms_fn (t : List (List Int)) (h : Grp t) (hn : t.length ≤ 16) : QF 31 [.ro (.rows .i64 t)] (.tup [.new (.rows .i64 (nsL t)), .int .i64 0]) := mkQ Tryz.func31 (by decide +kernel) rfl (Nat.le_of_ble_eq_true rfl) fun _ => by
  refine Or.inl (cq (valid_fn t) (And.intro rfl trivial) ?_)
  refine And.intro (fun h1 => absurd (valid_zero.2 h.toSemi) h1) (fun _ => ?_)
  refine Or.inl (cq (buildY_fn t h) (And.intro rfl trivial) ?_)
  refine Or.inr (Or.inr (ce (normals_fn t h hn) (And.intro (by repeat' first | refine And.intro ?_ ?_ | exact True.intro | (show (_ : Int) = (_ : Int); omega) | omega | exact rfl | (simp only [RO.len]; omega)) (And.intro rfl trivial)) fun F hF => ?_))
  have hpos : 0 < F.length := List.length_pos_of_mem ((hF.2 _).2 (one_ns h))
  have hsrt := nsL_of hF.1 hF.2
  refine Or.inr (Or.inl (cm [] [(1000, 22)] (sortRows_m cmpS_tot gcmp_fn F hpos) (And.intro (by repeat' first | refine And.intro ?_ ?_ | exact True.intro | (show (_ : Int) = (_ : Int); omega) | omega | exact rfl | (simp only [RO.len]; omega)) ?_)))
  exact And.intro (And.intro rfl (congrArg (RO.rows .i64) hsrt)) (by repeat' first | refine And.intro ?_ ?_ | exact True.intro | (show (_ : Int) = (_ : Int); omega) | omega | exact rfl | (simp only [RO.len]; omega))
end Go.Proofs.YtjlkhjgnfnfmgaaGreat
end
section
/- The statements GroupNormals and GroupLists: the walks. -/
namespace Go.Proofs.YtjlkhjgnfnfmgaaGreat
open Go Go.AM
set_option maxRecDepth 100000
theorem little16_fn (t : List (List Int)) (m : Int) : QF 22 [.ro (.rows .i64 t), .int .i64 m] (.bool (.v (decide ((t.length : Int) ≤ m) && grpB t))) := mkQ Tryz.func22 (by decide +kernel) rfl (Nat.le_of_ble_eq_true rfl) fun _ => by
  refine And.intro (fun h1 => ?_) (fun h1 => ?_)
  · refine Or.inl (cq (rgroup_fn t) (And.intro rfl trivial) ?_)
    refine And.intro ?_ trivial
    show grpB t = (decide ((t.length : Int) ≤ m) && grpB t)
    rw [decide_eq_true h1, Bool.true_and]
  · refine And.intro ?_ trivial
    show false = (decide ((t.length : Int) ≤ m) && grpB t)
    rw [decide_eq_false (by omega), Bool.false_and]
end Go.Proofs.YtjlkhjgnfnfmgaaGreat
end
end
section
/- Plain: congruences of a table. -/
namespace Go.Proofs.YtjlkhjgnfnfmgaaGreat
def CgA (t : List (List Int)) (p : List Int) (side : Int) (x y s : Nat) : Prop :=
  (side ≠ 2 → p.getD (en t s x) 0 = p.getD (en t s y) 0) ∧ (side ≠ 1 → p.getD (en t x s) 0 = p.getD (en t y s) 0)
def Cg (t : List (List Int)) (p : List Int) (side : Int) : Prop := ∀ x y s, x < t.length → y < t.length → s < t.length → p.getD x 0 = p.getD y 0 → CgA t p side x y s
end Go.Proofs.YtjlkhjgnfnfmgaaGreat
end
section
/- Plain: the quotient of a table by a congruence. -/
namespace Go.Proofs.YtjlkhjgnfnfmgaaGreat
open Go Go.AM
def hdN (p : List Int) (c : Nat) : Nat := (((classes (classN p) p).getD c []).getD 0 0).toNat
def quoR (t : List (List Int)) (p : List Int) (c : Nat) : List Int := (List.range (classN p)).map fun d => p.getD (en t (hdN p c) (hdN p d)) 0
def quoL (t : List (List Int)) (p : List Int) : List (List Int) := (List.range (classN p)).map fun c => quoR t p c
section
variable {t : List (List Int)} {p : List Int}
theorem cls_pos (hp : canon p = p) {c : Nat} (hc : c < classN p) : 0 < ((classes (classN p) p).getD c []).length := by
  have hm := (valid_range hp (c : Int)).1 ⟨by omega, by omega⟩
  obtain ⟨i, hi, he⟩ := mem_getD 0 hm
  have := (mem_classes (p := p) hc (x := (i : Int))).2 ⟨by omega, by omega, by rw [Int.toNat_natCast]; exact he⟩
  exact List.length_pos_of_mem this
theorem hd_at (hp : canon p = p) {c : Nat} (hc : c < classN p) : hdN p c < p.length ∧ p.getD (hdN p c) 0 = (c : Int) ∧ ((classes (classN p) p).getD c []).getD 0 0 = (hdN p c : Int) := by
  have hm := (mem_classes hc).1 (getD_mem (d := 0) (cls_pos hp hc))
  unfold hdN
  exact ⟨by omega, hm.2.2, by omega⟩
theorem cls_lt (hp : canon p = p) {x : Nat} (hx : x < p.length) : 0 ≤ p.getD x 0 ∧ (p.getD x 0).toNat < classN p ∧ p.getD x 0 = ((p.getD x 0).toNat : Int) := by
  have := (valid_range hp (p.getD x 0)).2 (getD_mem hx)
  omega
theorem quoR_len {c : Nat} : (quoR t p c).length = classN p := by simp [quoR]
theorem quoR_get {c d : Nat} (hd : d < classN p) : (quoR t p c).getD d 0 = p.getD (en t (hdN p c) (hdN p d)) 0 := by simp [quoR, List.getD, hd]
theorem quoL_len : (quoL t p).length = classN p := by simp [quoL]
theorem quoL_get {c : Nat} (hc : c < classN p) : (quoL t p).getD c [] = quoR t p c := by simp [quoL, List.getD, hc]
theorem cg_both (_hs : Sh t) (_hl : p.length = t.length) (hg : Cg t p 0) {x y x' y' : Nat} (hx : x < t.length) (hy : y < t.length) (hx' : x' < t.length) (hy' : y' < t.length) (h1 : p.getD x 0 = p.getD x' 0) (h2 : p.getD y 0 = p.getD y' 0) :
    p.getD (en t x y) 0 = p.getD (en t x' y') 0 :=
  ((hg x x' y hx hx' hy h1).2 (by decide)).trans ((hg y y' x' hy hy' hx' h2).1 (by decide))
theorem quo_hom (hs : Sh t) (hl : p.length = t.length) (hp : canon p = p) (hg : Cg t p 0) {x y : Nat} (hx : x < t.length) (hy : y < t.length) :
    ((quoL t p).getD (p.getD x 0).toNat []).getD (p.getD y 0).toNat 0 = p.getD (en t x y) 0 := by
  have h1 := cls_lt hp (x := x) (by omega)
  have h2 := cls_lt hp (x := y) (by omega)
  have k1 := hd_at hp h1.2.1
  have k2 := hd_at hp h2.2.1
  rw [quoL_get h1.2.1, quoR_get h2.2.1]
  exact (cg_both hs hl hg hx hy (by omega) (by omega) (by omega) (by omega)).symm
theorem quo_en_hom (hs : Sh t) (hl : p.length = t.length) (hp : canon p = p) (hg : Cg t p 0) {x y : Nat} (hx : x < t.length) (hy : y < t.length) :
    en (quoL t p) (p.getD x 0).toNat (p.getD y 0).toNat = (p.getD (en t x y) 0).toNat := by
  unfold en; rw [quo_hom hs hl hp hg hx hy]; rfl
theorem cls_some (hs : Sh t) (hl : p.length = t.length) : 0 < classN p := by
  have := hs.pos
  cases p with
  | nil => simp at hl; omega
  | cons a l =>
    have hm : a ∈ firsts (a :: l) := mem_firsts.2 (by simp)
    exact List.length_pos_of_mem hm
theorem quo_sh (hs : Sh t) (hl : p.length = t.length) (hp : canon p = p) : Sh (quoL t p) := by
  have hle : classN p ≤ p.length := firsts_le p
  have hm := hs.most
  refine ⟨by rw [quoL_len]; exact cls_some hs hl, by rw [quoL_len]; omega, fun r hr => ?_⟩
  obtain ⟨c, hc, rfl⟩ := mem_getD [] hr
  rw [quoL_len] at hc
  rw [quoL_get hc]
  refine ⟨by rw [quoR_len, quoL_len], fun x hx => ?_⟩
  obtain ⟨d, hd, rfl⟩ := mem_getD 0 hx
  rw [quoR_len] at hd
  rw [quoR_get hd, quoL_len]
  have k1 := hd_at hp hc
  have k2 := hd_at hp hd
  have k3 := cls_lt hp (x := en t (hdN p c) (hdN p d)) (by rw [hl]; exact (hs.ent (by omega) (by omega)).2)
  omega
theorem cls_rep (hl : p.length = t.length) (hp : canon p = p) {c : Nat} (hc : c < classN p) : ∃ x, x < t.length ∧ (p.getD x 0).toNat = c := by
  have k := hd_at hp hc
  exact ⟨hdN p c, by omega, by omega⟩
theorem quo_semi (hs : Semi t) (hl : p.length = t.length) (hp : canon p = p) (hg : Cg t p 0) : Semi (quoL t p) := by
  refine ⟨quo_sh hs.toSh hl hp, fun b hb a c ha hc => ?_⟩
  rw [quoL_len] at hb ha hc
  obtain ⟨x, hx, rfl⟩ := cls_rep hl hp ha
  obtain ⟨y, hy, rfl⟩ := cls_rep hl hp hb
  obtain ⟨z, hz, rfl⟩ := cls_rep hl hp hc
  have hS := hs.toSh
  rw [quo_en_hom hS hl hp hg hx hy, quo_en_hom hS hl hp hg hy hz, quo_en_hom hS hl hp hg (hS.ent hx hy).2 hz, quo_en_hom hS hl hp hg hx (hS.ent hy hz).2, assoc3 hs.assoc hx hy hz]
/-! ### How the rows are filled -/
def QuoIn (t : List (List Int)) (p : List Int) (i : Nat) (l : List (List Int)) : Prop :=
  l.length = classN p ∧ ∀ c, c < classN p → ((∃ x, x < i ∧ p.getD x 0 = (c : Int)) → l.getD c [] = quoR t p c) ∧ ((∀ x, x < i → p.getD x 0 ≠ (c : Int)) → l.getD c [] = [])
theorem QuoIn.start : QuoIn t p 0 (List.replicate (classN p) []) := ⟨by simp, fun c hc => ⟨fun ⟨x, hx, _⟩ => absurd hx (Nat.not_lt_zero _), fun _ => by simp [List.getD, hc]⟩⟩
theorem QuoIn.old (hp : canon p = p) {i : Nat} {l : List (List Int)} (h : QuoIn t p i l) (hi : i < p.length) (hn : l.getD (p.getD i 0).toNat [] ≠ []) : QuoIn t p (i + 1) l := by
  have hc := cls_lt hp hi
  have hsome : ∃ x, x < i ∧ p.getD x 0 = p.getD i 0 := Classical.byContradiction fun hne => hn ((h.2 _ hc.2.1).2 fun x hx e => hne ⟨x, hx, by rw [e]; exact hc.2.2.symm⟩)
  refine ⟨h.1, fun c hcc => ⟨fun ⟨x, hx, he⟩ => (h.2 c hcc).1 ?_, fun hno => (h.2 c hcc).2 fun x hx => hno x (by omega)⟩⟩
  by_cases hxi : x < i
  · exact ⟨x, hxi, he⟩
  · have : x = i := by omega
    subst this
    obtain ⟨y, hy, hye⟩ := hsome
    exact ⟨y, hy, hye.trans he⟩
theorem QuoIn.new (hp : canon p = p) {i : Nat} {l : List (List Int)} (h : QuoIn t p i l) (hi : i < p.length) {r : List Int} (hr : r = quoR t p (p.getD i 0).toNat) : QuoIn t p (i + 1) (l.set (p.getD i 0).toNat r) := by
  have hc := cls_lt hp hi
  have hlt : (p.getD i 0).toNat < l.length := by rw [h.1]; exact hc.2.1
  refine ⟨by rw [List.length_set]; exact h.1, fun c hcc => ?_⟩
  rw [getD_set _ _ _ _ _ hlt]
  by_cases e : c = (p.getD i 0).toNat
  · subst e
    rw [if_pos rfl]
    exact ⟨fun _ => hr, fun hno => absurd hc.2.2 (hno i (by omega))⟩
  · rw [if_neg e]
    refine ⟨fun ⟨x, hx, he⟩ => (h.2 c hcc).1 ⟨x, ?_, he⟩, fun hno => (h.2 c hcc).2 fun x hx => hno x (by omega)⟩
    rcases Nat.lt_or_ge x i with hxi | hxi
    · exact hxi
    · have : x = i := by omega
      subst this
      omega
theorem QuoIn.done (hp : canon p = p) {l : List (List Int)} {i : Nat} (h : QuoIn t p i l) (hi : p.length ≤ i) : l = quoL t p := by
  refine ext_getD [] (by rw [h.1, quoL_len]) fun c hc => ?_
  rw [h.1] at hc
  rw [quoL_get hc]
  have k := hd_at hp hc
  exact (h.2 c hc).1 ⟨hdN p c, by omega, k.2.1⟩
def RowIn (t : List (List Int)) (p : List Int) (i j : Nat) (r : List Int) : Prop :=
  r.length = classN p ∧ ∀ d, d < classN p → (∃ y, y < j ∧ p.getD y 0 = (d : Int)) → r.getD d 0 = p.getD (en t i (hdN p d)) 0
theorem RowIn.start {i : Nat} : RowIn t p i 0 (List.replicate (classN p) 0) := ⟨by simp, fun d _ ⟨y, hy, _⟩ => absurd hy (Nat.not_lt_zero _)⟩
theorem RowIn.next (hs : Sh t) (hl : p.length = t.length) (hp : canon p = p) (hg : Cg t p 0) {i j : Nat} {r : List Int} (h : RowIn t p i j r) (hi : i < t.length) (hj : j < p.length) : RowIn t p i (j + 1) (r.set (p.getD j 0).toNat (p.getD (en t i j) 0)) := by
  have hc := cls_lt hp hj
  have hlt : (p.getD j 0).toNat < r.length := by rw [h.1]; exact hc.2.1
  refine ⟨by rw [List.length_set]; exact h.1, fun d hd ⟨y, hy, he⟩ => ?_⟩
  rw [getD_set _ _ _ _ _ hlt]
  by_cases e : d = (p.getD j 0).toNat
  · subst e
    rw [if_pos rfl]
    have k := hd_at hp hd
    exact cg_both hs hl hg hi (by omega) hi (by omega) rfl (by rw [k.2.1]; exact hc.2.2)
  · rw [if_neg e]
    refine h.2 d hd ⟨y, ?_, he⟩
    rcases Nat.lt_or_ge y j with hyj | hyj
    · exact hyj
    · have : y = j := by omega
      subst this
      omega
theorem RowIn.done (hs : Sh t) (hl : p.length = t.length) (hp : canon p = p) (hg : Cg t p 0) {i j : Nat} {r : List Int} (h : RowIn t p i j r) (hi : i < t.length) (hj : p.length ≤ j) : r = quoR t p (p.getD i 0).toNat := by
  have hc := cls_lt hp (x := i) (by omega)
  refine ext_getD 0 (by rw [h.1, quoR_len]) fun d hd => ?_
  rw [h.1] at hd
  have k := hd_at hp hd
  have k2 := hd_at hp hc.2.1
  rw [h.2 d hd ⟨hdN p d, by omega, k.2.1⟩, quoR_get hd]
  exact cg_both hs hl hg hi (by omega) (by omega) (by omega) (by rw [k2.2.1]; exact hc.2.2) rfl
end
end Go.Proofs.YtjlkhjgnfnfmgaaGreat
end
section
/- Plain: Lagrange: each coset has as many elements as the subgroup. -/
namespace Go.Proofs.YtjlkhjgnfnfmgaaGreat
variable {t : List (List Int)} {l : List Int}
theorem cosL_canon (t : List (List Int)) (l : List Int) : canon (cosL t l) = cosL t l := canon_idem _
end Go.Proofs.YtjlkhjgnfnfmgaaGreat
end
