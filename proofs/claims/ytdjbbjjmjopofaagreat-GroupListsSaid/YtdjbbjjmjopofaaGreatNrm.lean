/- Package group: all normal subgroups: contracts. -/
import Derived.Test.YtdjbbjjmjopofaaGreatSol
import Derived.Test.YtdjbbjjmjopofaaGreatIdeals
import Derived.Test.YtdjbbjjmjopofaaGreatSort
namespace Go.Proofs.YtdjbbjjmjopofaaGreat
open Go Go.AM
set_option maxRecDepth 100000
theorem markOf_k (n : Nat) (hn : n ≤ 16) (f : Nat → Bool) : fnK TY SP Tryz.f134 [.ro (.bools (setB n f))] (mkA (wd f n : Nat)) := by
  have hl := setB_len n f
  refine Exists.intro [] <| lp (X := Nat) (fun k => [(8, .int .i64 k)]) (fun k => [(3, .box [.int .u64 (wd f k : Nat), .int .u64 0, .int .u64 0, .int .u64 0, .int .u64 0, .int .u64 0, .int .u64 0])]) (fun k => k ≤ n) (fun k => n - k) 0 (Nat.zero_le _) (by repeat' first | refine And.intro ?_ ?_ | exact True.intro | (show (_ : Int) = (_ : Int); omega) | omega | exact rfl | (simp only [RO.len]; omega)) ?_
  intro k hk
  refine And.intro (fun h1 => ?_) (fun h1 => ?_)
  · have h1 : (k : Int) < ((setB n f).length : Int) := h1
    have hkn : k < n := by omega
    have e1 : (k : Int) % 64 = ((k : Nat) : Int) := by omega
    refine And.intro (by omega) ?_
    refine And.intro (fun h2 => ?_) (fun h2 => ?_)
    · have h2 : (setB n f).getD k false = true := h2
      rw [setB_get hkn] at h2
      refine Or.inl <| Exists.intro [false, false, false, false, false, false, false, false, false, true] (And.intro (by decide +kernel) ?_)
      refine And.intro (by omega) ?_
      refine And.intro (by omega) ?_
      repeat' first | (exfalso; omega) | exact trivial | refine And.intro (by omega) ?_ | refine Or.inl (And.intro (by omega) ?_) | refine And.intro (fun h => ?_) ?_
      refine nx (k + 1) (by omega) (show n - (k + 1) < n - k by omega) ?_
      have e2 : orI .u64 ((wd f k : Nat) : Int) (shlI .u64 1 ((k : Int) % 64)) = ((wd f (k + 1) : Nat) : Int) := by rw [e1]; exact wd_yes (by omega) h2
      repeat' first | refine And.intro ?_ ?_ | exact True.intro | (show (_ : Int) = (_ : Int); omega) | omega | exact rfl | (simp only [RO.len]; omega)
    · have h2 : (setB n f).getD k false = false := h2
      rw [setB_get hkn] at h2
      have e2 : ((wd f k : Nat) : Int) = ((wd f (k + 1) : Nat) : Int) := by rw [wd_no h2]
      refine And.intro (by omega) ?_
      refine nx (k + 1) (by omega) (show n - (k + 1) < n - k by omega) ?_
      repeat' first | refine And.intro ?_ ?_ | exact True.intro | (show (_ : Int) = (_ : Int); omega) | omega | exact rfl | (simp only [RO.len]; omega)
  · have h1 : ((setB n f).length : Int) ≤ (k : Int) := h1
    have hkn : k = n := by omega
    subst hkn
    refine And.intro ?_ trivial
    repeat' first | refine And.intro ?_ ?_ | exact True.intro | (show (_ : Int) = (_ : Int); omega) | omega | exact rfl | (simp only [RO.len]; omega)
theorem markOf_fn (n : Nat) (hn : n ≤ 16) (f : Nat → Bool) : QF 134 [.ro (.bools (setB n f))] (mkA (wd f n : Nat)) := mkQ Tryz.func134 (by decide +kernel) rfl (Nat.le_of_ble_eq_true rfl) fun _ => markOf_k n hn f
theorem gcmp_k (a b : List Int) : fnK TY SP Tryz.f89 [.ro (.ints .i64 a), .ro (.ints .i64 b)] (.int .i64 (cmpS a b)) := by
  refine Or.inl (cq (compare_fn (a.length : Int) (b.length : Int)) (And.intro rfl (And.intro rfl trivial)) ?_)
  refine Or.inl (cq (compareL_fn a b) (And.intro rfl (And.intro rfl trivial)) ?_)
  refine Or.inl (cq (or2_fn (cmpI a.length b.length) (cmpL a b)) (And.intro rfl trivial) ?_)
  exact And.intro rfl trivial
theorem gcmp_fn (a b : List Int) : QF 89 [.ro (.ints .i64 a), .ro (.ints .i64 b)] (.int .i64 (cmpS a b)) := mkQ Tryz.func89 (by decide +kernel) rfl (Nat.le_of_ble_eq_true rfl) fun _ => gcmp_k a b

theorem mkI_set {n : Nat} {f : Nat → Bool} : mkI n (ascV n f) = [((wd f n : Nat) : Int), 0, 0, 0, 0, 0, 0] := by
  unfold mkI
  rw [wd_congr fun y hy => ascV_set (f := f) hy]
theorem glistR_fn (n : Nat) (hn : n ≤ 400) (f : Nat → Bool) : QF 75 [.ro (.bools (setB n f))] (.ro (.ints .i64 (ascV n f))) := new_ro (glist_fn (setB n f) (by rw [setB_len]; omega))
/-- What is found, with a set more, unless it is there. -/
def addF (F : List (List Int)) (u : List Int) : List (List Int) := if u ∈ F then F else F ++ [u]
theorem ascV_self2 (n : Nat) (f : Nat → Bool) : ascV n (setI (ascV n f)) = ascV n f := ascV_congr fun _ hx => ascV_set hx

theorem nadd_k (n : Nat) (hn : n ≤ 16) (f : Nat → Bool) (F : List (List Int)) (hF : ∀ s ∈ F, ascV n (setI s) = s) (hl : F.length ≤ 100000) : fnMK TY SP Tryz.f133 [.ro (.bools (setB n f)), .ptr 1000 0, .ptr 1001 0] [(1000, .box [.ptr 1002 0]), (1002, .map (.arr 7 .u64) none (seenM n F)), (1001, .box [.vec 501]), (501, .vec 0 (.rows .i64 F) [])] (.tup [])
    [(1000, .box [.ptr 1002 0]), (1002, .map (.arr 7 .u64) none (seenM n (addF F (ascV n f)))), (1001, .box [.vec 501]), (501, .vec 0 (.rows .i64 (addF F (ascV n f))) [])] := by
  have hg := seen_get hF (ascV_self2 n f)
  rw [mkI_set] at hg
  refine Or.inl (cq (markOf_fn n hn f) (And.intro rfl trivial) ?_)
  refine And.intro (fun h1 => ?_) (fun h1 => ?_)
  · have h1 : (getM (seenM n F) [((wd f n : Nat) : Int), 0, 0, 0, 0, 0, 0]).getD 0 = 0 := h1
    rw [hg] at h1
    have hno : ascV n f ∉ F := fun hh => by rw [if_pos hh] at h1; cases h1
    have ea : addF F (ascV n f) = F ++ [ascV n f] := if_neg hno
    have es := seen_set hF (ascV_self2 n f) hno
    rw [mkI_set] at es
    rw [ea, ← es]
    refine Or.inl ?_
    refine Exists.intro [false, false, false, false, true, true] (And.intro (by decide +kernel) ?_)
    refine cq (glistR_fn n (by omega) f) (And.intro rfl trivial) ?_
    refine And.intro (by rw [List.length_append, List.length_singleton]; omega) ?_
    refine And.intro ?_ trivial
    repeat' first | refine And.intro ?_ ?_ | exact True.intro | exact rfl | omega | (simp only [RO.len]; omega)
  · have h1 : (getM (seenM n F) [((wd f n : Nat) : Int), 0, 0, 0, 0, 0, 0]).getD 0 ≠ 0 := h1
    rw [hg] at h1
    have hyes : ascV n f ∈ F := Classical.byContradiction fun hh => by rw [if_neg hh] at h1; exact h1 rfl
    have ea : addF F (ascV n f) = F := if_pos hyes
    rw [ea]
    refine And.intro ?_ trivial
    repeat' first | refine And.intro ?_ ?_ | exact True.intro | exact rfl | omega | (simp only [RO.len]; omega)
theorem nadd_fn (n : Nat) (hn : n ≤ 16) (f : Nat → Bool) (F : List (List Int)) (hF : ∀ s ∈ F, ascV n (setI s) = s) (hl : F.length ≤ 100000) : MF 133 [.ro (.bools (setB n f)), .ptr 1000 0, .ptr 1001 0] [(1000, .box [.ptr 1002 0]), (1002, .map (.arr 7 .u64) none (seenM n F)), (1001, .box [.vec 501]), (501, .vec 0 (.rows .i64 F) [])] (.tup [])
    [(1000, .box [.ptr 1002 0]), (1002, .map (.arr 7 .u64) none (seenM n (addF F (ascV n f)))), (1001, .box [.vec 501]), (501, .vec 0 (.rows .i64 (addF F (ascV n f))) [])] := mkM Tryz.func133 (by decide +kernel) rfl (Nat.le_of_ble_eq_true rfl) fun _ => nadd_k n hn f F hF hl

/-- What is marked: the first set, and its products with the first k of the second. -/
def PrdI (t : List (List Int)) (a b : List Int) (k j : Nat) (C : List Bool) : Prop := C.length = t.length ∧ ∀ y, y < t.length → (C.getD y false = true ↔ (setI a y = true ∨ (∃ i, i < k ∧ ∃ x, setI a x = true ∧ y = en t x (b.getD i 0).toNat)) ∨ ∃ i, i < j ∧ y = en t (a.getD i 0).toNat (b.getD k 0).toNat)
theorem gprd_k (t : List (List Int)) (a b : List Int) (h : Grp t) (ha : NS t a) (hb : NS t b) : fnK TY SP Tryz.f135 [frA t, .ro (.ints .i64 a), .ro (.ints .i64 b)] (.new (.bools (setB t.length (setI (jnL t a b))))) := by
  have hs := h.toSh
  have hm := hs.most
  have hal := ascV_len t.length (setI a)
  rw [ha.cl.self] at hal
  have hbl := ascV_len t.length (setI b)
  rw [hb.cl.self] at hbl
  refine Or.inl (cq (gmem_fn t a hm ha.cl.ins) (And.intro (by repeat' first | refine And.intro ?_ ?_ | exact True.intro | (show (_ : Int) = (_ : Int); omega) | omega | exact rfl | (simp only [RO.len]; omega)) (And.intro rfl trivial)) ?_)
  refine Exists.intro [] <| lp2 (fun (k : Nat) (_ : List Bool) => [(17, .int .i64 k)]) (fun _ C => [(14, .vec 0 (.bools C) [])]) (fun k C => k ≤ b.length ∧ PrdI t a b k 0 C) (fun k _ => b.length - k) 0 (setB t.length (setI a)) ⟨Nat.zero_le _, setB_len _ _, fun y hy => by
    rw [setB_get hy]
    exact ⟨fun hh => .inl (.inl hh), fun hh => hh.elim (fun hh => hh.elim id fun ⟨i, hi, _⟩ => absurd hi (Nat.not_lt_zero _)) fun ⟨i, hi, _⟩ => absurd hi (Nat.not_lt_zero _)⟩⟩ (by repeat' first | refine And.intro ?_ ?_ | exact True.intro | (show (_ : Int) = (_ : Int); omega) | omega | exact rfl | (simp only [RO.len]; omega)) ?_
  rintro k C ⟨hk, hC, hI⟩
  refine And.intro (fun h1 => ?_) (fun h1 => ?_)
  · have h1 : (k : Int) < (b.length : Int) := h1
    have hkl : k < b.length := by omega
    have hbk := hb.cl.ins _ (getD_mem (d := 0) hkl)
    have hbm := hb.cl.iset (getD_mem (d := 0) hkl)
    have hy : (b.getD k 0).toNat < t.length := by omega
    refine And.intro (by omega) ?_
    refine And.intro (show 0 ≤ b.getD k 0 ∧ b.getD k 0 < (C.length : Int) by omega) ?_
    refine And.intro (fun h2 => ?_) (fun h2 => ?_)
    · have h2 : C.getD (b.getD k 0).toNat false = true := h2
      refine And.intro (by omega) ?_
      refine nx (k + 1, C) ⟨by omega, hC, fun y hyl => ?_⟩ (show b.length - (k + 1) < b.length - k by omega) (by repeat' first | refine And.intro ?_ ?_ | exact True.intro | (show (_ : Int) = (_ : Int); omega) | omega | exact rfl | (simp only [RO.len]; omega))
      rw [hI y hyl]
      constructor
      · rintro ((hh | ⟨i, hi, hx⟩) | ⟨i, hi, _⟩)
        · exact .inl (.inl hh)
        · exact .inl (.inr ⟨i, by omega, hx⟩)
        · exact absurd hi (Nat.not_lt_zero _)
      · rintro ((hh | ⟨i, hi, x, hx, e⟩) | ⟨i, hi, _⟩)
        · exact .inl (.inl hh)
        · by_cases ei : i = k
          · subst ei
            rcases (hI _ hy).1 h2 with (hh | ⟨i', hi', x', hx', e'⟩) | ⟨i', hi', _⟩
            · rw [e]; exact .inl (.inl (ha.cl.cl _ _ (ha.cl.lt hx) hy hx hh))
            · refine .inl (.inr ⟨i', hi', en t x x', ha.cl.cl _ _ (ha.cl.lt hx) (ha.cl.lt hx') hx hx', ?_⟩)
              have hbi := hb.cl.ins _ (getD_mem (d := 0) (show i' < b.length by omega))
              rw [e, e', assoc3 h.assoc (ha.cl.lt hx) (ha.cl.lt hx') (by omega)]
            · exact absurd hi' (Nat.not_lt_zero _)
          · exact .inl (.inr ⟨i, by omega, x, hx, e⟩)
        · exact absurd hi (Nat.not_lt_zero _)
    · refine Exists.intro [] <| lp2 (fun (j : Nat) (_ : List Bool) => [(27, .int .i64 j)]) (fun _ C => [(14, .vec 0 (.bools C) [])]) (fun j C => j ≤ a.length ∧ PrdI t a b k j C) (fun j _ => a.length - j) 0 C ⟨Nat.zero_le _, hC, hI⟩ (by repeat' first | refine And.intro ?_ ?_ | exact True.intro | (show (_ : Int) = (_ : Int); omega) | omega | exact rfl | (simp only [RO.len]; omega)) ?_
      rintro j C ⟨hj, hC, hI⟩
      refine And.intro (fun h3 => ?_) (fun h3 => ?_)
      · have h3 : (j : Int) < (a.length : Int) := h3
        have hjl : j < a.length := by omega
        have haj := ha.cl.ins _ (getD_mem (d := 0) hjl)
        have hx : (a.getD j 0).toNat < t.length := by omega
        have r1 := hs.len hx
        have e1 := hs.ent hx hy
        refine And.intro (by omega) ?_
        refine And.intro (show 0 ≤ a.getD j 0 ∧ a.getD j 0 < (t.length : Int) by omega) ?_
        refine And.intro (show 0 ≤ b.getD k 0 ∧ b.getD k 0 < ((t.getD (a.getD j 0).toNat []).length : Int) by omega) ?_
        refine And.intro (show 0 ≤ (t.getD (a.getD j 0).toNat []).getD (b.getD k 0).toNat 0 ∧ (t.getD (a.getD j 0).toNat []).getD (b.getD k 0).toNat 0 < (C.length : Int) by omega) ?_
        refine And.intro (show 0 ≤ (t.getD (a.getD j 0).toNat []).getD (b.getD k 0).toNat 0 by omega) ?_
        refine And.intro (by omega) ?_
        refine nx (j + 1, C.set (en t (a.getD j 0).toNat (b.getD k 0).toNat) true) ⟨by omega, by rw [List.length_set]; exact hC, fun y hyl => ?_⟩ (show a.length - (j + 1) < a.length - j by omega) (by repeat' first | refine And.intro ?_ ?_ | exact True.intro | (show (_ : Int) = (_ : Int); omega) | omega | exact rfl | (simp only [RO.len]; omega))
        have step : (∃ i, i < j + 1 ∧ y = en t (a.getD i 0).toNat (b.getD k 0).toNat) ↔ (∃ i, i < j ∧ y = en t (a.getD i 0).toNat (b.getD k 0).toNat) ∨ y = en t (a.getD j 0).toNat (b.getD k 0).toNat := by
          constructor
          · rintro ⟨i, hi, e⟩
            by_cases ei : i = j
            · subst ei; exact .inr e
            · exact .inl ⟨i, by omega, e⟩
          · rintro (⟨i, hi, e⟩ | e)
            · exact ⟨i, by omega, e⟩
            · exact ⟨j, by omega, e⟩
        rw [step, ← or_assoc, ← hI y hyl]
        by_cases e : y = en t (a.getD j 0).toNat (b.getD k 0).toNat
        · rw [e, getD_set_eq (by omega)]; simp
        · rw [getD_set_ne (Ne.symm e)]; exact ⟨.inl, fun hh => hh.resolve_right e⟩
      · have h3 : (a.length : Int) ≤ (j : Int) := h3
        refine And.intro (by omega) ?_
        refine nx (k + 1, C) ⟨by omega, hC, fun y hyl => ?_⟩ (show b.length - (k + 1) < b.length - k by omega) (by repeat' first | refine And.intro ?_ ?_ | exact True.intro | (show (_ : Int) = (_ : Int); omega) | omega | exact rfl | (simp only [RO.len]; omega))
        rw [hI y hyl]
        constructor
        · rintro ((hh | ⟨i, hi, hx⟩) | ⟨i, hi, e⟩)
          · exact .inl (.inl hh)
          · exact .inl (.inr ⟨i, by omega, hx⟩)
          · exact .inl (.inr ⟨k, by omega, _, ha.cl.iset (getD_mem (d := 0) (show i < a.length by omega)), e⟩)
        · rintro ((hh | ⟨i, hi, x, hx, e⟩) | ⟨i, hi, _⟩)
          · exact .inl (.inl hh)
          · by_cases ei : i = k
            · subst ei
              obtain ⟨q, hq, hv⟩ := mem_getD 0 (setI_iff.1 hx)
              exact .inr ⟨q, by omega, by rw [hv, Int.toNat_natCast]; exact e⟩
            · exact .inl (.inr ⟨i, by omega, x, hx, e⟩)
          · exact absurd hi (Nat.not_lt_zero _)
  · have h1 : (b.length : Int) ≤ (k : Int) := h1
    refine And.intro (And.intro (by omega) ?_) trivial
    refine congrArg RO.bools (setB_ofP hC fun y hyl => ?_)
    rw [hI y hyl, jn_prod h ha hb hyl]
    constructor
    · rintro ((hh | ⟨i, hi, x, hx, e⟩) | ⟨i, hi, _⟩)
      · exact ⟨y, oneN t, hh, hb.cl.one h, (h.one.2.1 y hyl).2.symm⟩
      · exact ⟨x, _, hx, hb.cl.iset (getD_mem (d := 0) (show i < b.length by omega)), e⟩
      · exact absurd hi (Nat.not_lt_zero _)
    · rintro ⟨x, z, hx, hz, e⟩
      obtain ⟨q, hq, hv⟩ := mem_getD 0 (setI_iff.1 hz)
      exact .inl (.inr ⟨q, by omega, x, hx, by rw [hv, Int.toNat_natCast]; exact e⟩)
theorem gprd_fn (t : List (List Int)) (a b : List Int) (h : Grp t) (ha : NS t a) (hb : NS t b) : QF 135 [frA t, .ro (.ints .i64 a), .ro (.ints .i64 b)] (.new (.bools (setB t.length (setI (jnL t a b))))) := mkQ Tryz.func135 (by decide +kernel) rfl (Nat.le_of_ble_eq_true rfl) fun _ => gprd_k t a b h ha hb

/-- The closures of the first k elements, each once. -/
noncomputable def bsN (t : List (List Int)) : Nat → List (List Int) | 0 => [] | k + 1 => addF (bsN t k) (cloL t [(k : Int)])
theorem addF_mem {F : List (List Int)} {u s : List Int} : s ∈ addF F u ↔ s ∈ F ∨ s = u := by
  unfold addF
  split
  · rename_i hu; exact ⟨.inl, fun hh => hh.elim id fun e => e ▸ hu⟩
  · rw [List.mem_append, List.mem_singleton]
theorem addF_nodup {F : List (List Int)} {u : List Int} (hF : F.Nodup) : (addF F u).Nodup := by
  unfold addF
  split
  · exact hF
  · rename_i hu
    rw [List.nodup_append]
    exact ⟨hF, by simp, fun a ha b hb e => hu (by rw [List.mem_singleton] at hb; rw [← hb, ← e]; exact ha)⟩
theorem addF_len (F : List (List Int)) (u : List Int) : (addF F u).length ≤ F.length + 1 := by
  unfold addF
  split
  · omega
  · simp
theorem bsN_mem {t : List (List Int)} : ∀ {k : Nat} {s : List Int}, s ∈ bsN t k ↔ ∃ x, x < k ∧ s = cloL t [(x : Int)]
  | 0, s => ⟨fun h => (by cases h), fun ⟨x, hx, _⟩ => absurd hx (Nat.not_lt_zero _)⟩
  | k + 1, s => by
    show s ∈ addF (bsN t k) _ ↔ _
    rw [addF_mem, bsN_mem]
    constructor
    · rintro (⟨x, hx, rfl⟩ | rfl)
      · exact ⟨x, by omega, rfl⟩
      · exact ⟨k, by omega, rfl⟩
    · rintro ⟨x, hx, rfl⟩
      by_cases e : x = k
      · rw [e]; exact .inr rfl
      · exact .inl ⟨x, by omega, rfl⟩
theorem bsN_len (t : List (List Int)) : ∀ k, (bsN t k).length ≤ k
  | 0 => Nat.le_refl _
  | k + 1 => by have := bsN_len t k; have := addF_len (bsN t k) (cloL t [(k : Int)]); show (addF (bsN t k) _).length ≤ k + 1; omega
theorem bsN_ns {t : List (List Int)} (h : Grp t) {k : Nat} (hk : k ≤ t.length) : ∀ s ∈ bsN t k, NS t s := fun s hs => by
  obtain ⟨x, hx, rfl⟩ := bsN_mem.1 hs
  exact clo_ns h (one_in (by omega))
theorem prins_k (t : List (List Int)) (h : Grp t) (hn : t.length ≤ 16) : fnK TY SP Tryz.f132 [frA t] (.ro (.rows .i64 (bsN t t.length))) := by
  have hm := h.most
  refine Or.inl (cq (gallR_fn t hm) (And.intro (by repeat' first | refine And.intro ?_ ?_ | exact True.intro | (show (_ : Int) = (_ : Int); omega) | omega | exact rfl | (simp only [RO.len]; omega)) trivial) ?_)
  refine Exists.intro [] <| lp (X := Nat) (fun k => [(15, .int .i64 k), (5, .vec 35)]) (fun k => [(11, .map (.arr 7 .u64) none (seenM t.length (bsN t k))), (35, .vec 0 (.rows .i64 (bsN t k)) [])]) (fun k => k ≤ t.length) (fun k => t.length - k) 0 (Nat.zero_le _) (by repeat' first | refine And.intro ?_ ?_ | exact True.intro | (show (_ : Int) = (_ : Int); omega) | omega | exact rfl | (simp only [RO.len]; omega)) ?_
  intro k hk
  have hbl := bsN_len t k
  refine And.intro (fun h1 => ?_) (fun h1 => ?_)
  · have h1 : (k : Int) < (t.length : Int) := h1
    have hkl : k < t.length := by omega
    have hself : ∀ s ∈ bsN t k, ascV t.length (setI s) = s := fun s hs => (bsN_ns h hk s hs).cl.self
    have hg := seen_get hself (ascV_self2 t.length (cloF t (allI t) [(k : Int)]))
    rw [mkI_set] at hg
    refine Or.inl (cq (gclo_fn t (allI t) [(k : Int)] h (allI_cl h.toSh) (one_in hkl)) (And.intro (by repeat' first | refine And.intro ?_ ?_ | exact True.intro | (show (_ : Int) = (_ : Int); omega) | omega | exact rfl | (simp only [RO.len]; omega)) (And.intro rfl (And.intro rfl trivial))) ?_)
    refine Or.inl (cq (markOf_fn t.length hn (cloF t (allI t) [(k : Int)])) (And.intro rfl trivial) ?_)
    have hbs : bsN t (k + 1) = addF (bsN t k) (cloL t [(k : Int)]) := rfl
    refine And.intro (fun h2 => ?_) (fun h2 => ?_)
    · have h2 : (getM (seenM t.length (bsN t k)) [((wd (cloF t (allI t) [(k : Int)]) t.length : Nat) : Int), 0, 0, 0, 0, 0, 0]).getD 0 = 0 := h2
      rw [hg] at h2
      have hno : ascV t.length (cloF t (allI t) [(k : Int)]) ∉ bsN t k := fun hh => by rw [if_pos hh] at h2; cases h2
      have ea : bsN t (k + 1) = bsN t k ++ [ascV t.length (cloF t (allI t) [(k : Int)])] := by rw [hbs]; exact if_neg hno
      have es := seen_set hself (ascV_self2 t.length (cloF t (allI t) [(k : Int)])) hno
      rw [mkI_set, ← ea] at es
      have ea' : RO.rows .i64 (bsN t k ++ [ascV t.length (cloF t (allI t) [(k : Int)])]) = RO.rows .i64 (bsN t (k + 1)) := by rw [ea]
      refine Or.inl (cq (glistR_fn t.length (by omega) (cloF t (allI t) [(k : Int)])) (And.intro rfl trivial) ?_)
      refine And.intro (by rw [List.length_append, List.length_singleton]; omega) ?_
      refine And.intro (by omega) ?_
      refine nx (k + 1) (by omega) (show t.length - (k + 1) < t.length - k by omega) ?_
      repeat' first | refine And.intro ?_ ?_ | exact True.intro | exact es | exact ea' | (show (_ : Int) = (_ : Int); omega) | omega | exact rfl
    · have h2 : (getM (seenM t.length (bsN t k)) [((wd (cloF t (allI t) [(k : Int)]) t.length : Nat) : Int), 0, 0, 0, 0, 0, 0]).getD 0 ≠ 0 := h2
      rw [hg] at h2
      have hyes : ascV t.length (cloF t (allI t) [(k : Int)]) ∈ bsN t k := Classical.byContradiction fun hh => by rw [if_neg hh] at h2; exact h2 rfl
      have ea : bsN t k = bsN t (k + 1) := by rw [hbs]; exact (if_pos hyes).symm
      have es : seenM t.length (bsN t k) = seenM t.length (bsN t (k + 1)) := by rw [← ea]
      have ea' : RO.rows .i64 (bsN t k) = RO.rows .i64 (bsN t (k + 1)) := by rw [← ea]
      refine And.intro (by omega) ?_
      refine nx (k + 1) (by omega) (show t.length - (k + 1) < t.length - k by omega) ?_
      repeat' first | refine And.intro ?_ ?_ | exact True.intro | exact es | exact ea' | (show (_ : Int) = (_ : Int); omega) | omega | exact rfl
  · have h1 : (t.length : Int) ≤ (k : Int) := h1
    have e : k = t.length := by omega
    subst e
    exact And.intro (And.intro trivial rfl) trivial
theorem prins_fn (t : List (List Int)) (h : Grp t) (hn : t.length ≤ 16) : QF 132 [frA t] (.ro (.rows .i64 (bsN t t.length))) := mkQ Tryz.func132 (by decide +kernel) rfl (Nat.le_of_ble_eq_true rfl) fun _ => prins_k t h hn

theorem nadd0_k (n : Nat) (hn : n ≤ 16) (f : Nat → Bool) : fnMK TY SP Tryz.f133 [.ro (.bools (setB n f)), .ptr 1000 0, .ptr 1001 0] [(1000, .box [.ptr 1002 0]), (1002, .map (.arr 7 .u64) none []), (1001, .box [.nils])] (.tup [])
    [(1000, .box [.ptr 1002 0]), (1002, .map (.arr 7 .u64) none (seenM n [ascV n f])), (1001, .box [.vec 17]), (17, .vec 0 (.rows .i64 [ascV n f]) [])] := by
  refine Or.inl (cq (markOf_fn n hn f) (And.intro rfl trivial) ?_)
  refine And.intro (fun h1 => ?_) (fun h1 => ?_)
  · refine Or.inl ?_
    refine Exists.intro [false, false, false, false, true, true] (And.intro (by decide +kernel) ?_)
    refine cq (glistR_fn n (by omega) f) (And.intro rfl trivial) ?_
    refine And.intro (by simp) ?_
    have e : setM [] [((wd f n : Nat) : Int), 0, 0, 0, 0, 0, 0] 1 = seenM n [ascV n f] := by
      show [([((wd f n : Nat) : Int), 0, 0, 0, 0, 0, 0], 1)] = [(mkI n (ascV n f), 1)]
      rw [mkI_set]
    refine And.intro ?_ trivial
    repeat' first | refine And.intro ?_ ?_ | exact True.intro | exact e | exact rfl | omega | (simp; done)
  · exact absurd rfl h1
theorem nadd0_fn (n : Nat) (hn : n ≤ 16) (f : Nat → Bool) : MF 133 [.ro (.bools (setB n f)), .ptr 1000 0, .ptr 1001 0] [(1000, .box [.ptr 1002 0]), (1002, .map (.arr 7 .u64) none []), (1001, .box [.nils])] (.tup [])
    [(1000, .box [.ptr 1002 0]), (1002, .map (.arr 7 .u64) none (seenM n [ascV n f])), (1001, .box [.vec 17]), (17, .vec 0 (.rows .i64 [ascV n f]) [])] := mkM Tryz.func133 (by decide +kernel) rfl (Nat.le_of_ble_eq_true rfl) fun _ => nadd0_k n hn f
/-- What is found: the joins of those before (i, m) with the closures of elements are there. -/
structure NrI (t : List (List Int)) (i m : Nat) (F : List (List Int)) : Prop where
  nd : F.Nodup
  ns : ∀ a ∈ F, NS t a
  one : [(oneN t : Int)] ∈ F
  jn : ∀ a b, (a < i ∨ (a = i ∧ b < m)) → a < F.length → b < (bsN t t.length).length → jnL t (F.getD a []) ((bsN t t.length).getD b []) ∈ F
section
variable {t : List (List Int)} {i m : Nat} {F : List (List Int)}
theorem NrI.len (h : Grp t) (hn : t.length ≤ 16) (H : NrI t i m F) : F.length ≤ 1941 := few_subs h hn (fun a ha => (H.ns a ha).cl) H.nd
theorem NrI.self (H : NrI t i m F) : ∀ s ∈ F, ascV t.length (setI s) = s := fun s hs => (H.ns s hs).cl.self
theorem NrI.next (h : Grp t) (H : NrI t i m F) (hi : i < F.length) (hm : m < (bsN t t.length).length) : NrI t i (m + 1) (addF F (ascV t.length (setI (jnL t (F.getD i []) ((bsN t t.length).getD m []))))) := by
  have hns := jn_ns h (H.ns _ (getD_mem (d := []) hi)) (bsN_ns h (Nat.le_refl _) _ (getD_mem (d := []) hm))
  rw [hns.cl.self]
  have hget : ∀ a, a < F.length → (addF F (jnL t (F.getD i []) ((bsN t t.length).getD m []))).getD a [] = F.getD a [] := fun a ha => by
    unfold addF
    split
    · rfl
    · simp [List.getD, List.getElem?_append_left ha]
  have hlen : F.length ≤ (addF F (jnL t (F.getD i []) ((bsN t t.length).getD m []))).length := by
    unfold addF
    split
    · exact Nat.le_refl _
    · simp
  refine ⟨addF_nodup H.nd, fun a ha => ?_, addF_mem.2 (.inl H.one), fun a b hab ha hb => ?_⟩
  · rcases addF_mem.1 ha with ha | rfl
    · exact H.ns a ha
    · exact hns
  · have ha' : a < F.length := by omega
    rw [hget a ha']
    by_cases e : a = i ∧ b = m
    · rw [e.1, e.2]; exact addF_mem.2 (.inr rfl)
    · exact addF_mem.2 (.inl (H.jn a b (by omega) ha' hb))
theorem NrI.row (H : NrI t i m F) (hm : (bsN t t.length).length ≤ m) : NrI t (i + 1) 0 F := ⟨H.nd, H.ns, H.one, fun a b hab ha hb => H.jn a b (by omega) ha hb⟩
theorem NrI.done (h : Grp t) (H : NrI t i m F) (hi : F.length ≤ i) : ∀ l, l ∈ F ↔ NS t l := fun l => ⟨H.ns l, ns_all h H.ns H.one (fun a ha x hx => by
  obtain ⟨p, hp, rfl⟩ := mem_getD [] ha
  obtain ⟨q, hq, hv⟩ := mem_getD [] (bsN_mem.2 ⟨x, hx, rfl⟩)
  rw [← hv]
  exact H.jn p q (by omega) hp hq) l⟩
end

set_option maxHeartbeats 1000000 in
theorem normals_k (t : List (List Int)) (h : Grp t) (hn : t.length ≤ 16) : fnEK TY SP Tryz.f87 [frA t, .int .i64 2000] (fun F : List (List Int) => .tup [.new (.rows .i64 F), .bool (.lit true)]) (fun F => F.Nodup ∧ ∀ l, l ∈ F ↔ NS t l) := by
  have hm := h.most
  have hone : ascV t.length (setI [(oneN t : Int)]) = [(oneN t : Int)] := (one_ns h).cl.self
  have hbl := bsN_len t t.length
  refine Or.inl (cq (prins_fn t h hn) (And.intro (by repeat' first | refine And.intro ?_ ?_ | exact True.intro | (show (_ : Int) = (_ : Int); omega) | omega | exact rfl | (simp only [RO.len]; omega)) trivial) ?_)
  refine Or.inl (cq (gmem_fn t [(oneN t : Int)] hm (one_ns h).cl.ins) (And.intro (by repeat' first | refine And.intro ?_ ?_ | exact True.intro | (show (_ : Int) = (_ : Int); omega) | omega | exact rfl | (simp only [RO.len]; omega)) (And.intro rfl trivial)) ?_)
  refine Or.inr (cm [22] [(1000, 7), (1001, 8), (1002, 15), (17, 301)] (nadd0_fn t.length hn (setI [(oneN t : Int)])) ?_)
  refine And.intro (by repeat' first | refine And.intro ?_ ?_ | exact True.intro | (show (_ : Int) = (_ : Int); omega) | omega | exact rfl | (simp only [RO.len]; omega)) ?_
  refine Exists.intro [] <| lp2 (fun (i : Nat) (_ : List (List Int)) => [(10, .int .i64 i)]) (fun _ F => [(15, .map (.arr 7 .u64) none (seenM t.length F)), (301, .vec 0 (.rows .i64 F) [])]) (fun i F => i ≤ F.length ∧ NrI t i 0 F) (fun i _ => 2000 - i) 0 [ascV t.length (setI [(oneN t : Int)])] ⟨Nat.zero_le _, ⟨by simp, fun a ha => by rw [List.mem_singleton, hone] at ha; rw [ha]; exact one_ns h, by rw [hone]; simp, fun a b hab => by omega⟩⟩ (by repeat' first | refine And.intro ?_ ?_ | exact True.intro | (show (_ : Int) = (_ : Int); omega) | omega | exact rfl | (simp only [RO.len]; omega)) ?_
  rintro i F ⟨hi, H⟩
  have hF := H.len h hn
  refine And.intro (fun h1 => ?_) (fun h1 => ?_)
  · have h1 : (i : Int) < (F.length : Int) := h1
    refine Exists.intro [25] <| lp2 (fun (m : Nat) (_ : List (List Int)) => [(32, .int .i64 m)]) (fun _ F => [(15, .map (.arr 7 .u64) none (seenM t.length F)), (301, .vec 0 (.rows .i64 F) [])]) (fun m F => m ≤ (bsN t t.length).length ∧ i < F.length ∧ NrI t i m F) (fun m _ => (bsN t t.length).length - m) 0 F ⟨Nat.zero_le _, by omega, H⟩ (by repeat' first | refine And.intro ?_ ?_ | exact True.intro | (show (_ : Int) = (_ : Int); omega) | omega | exact rfl | (simp only [RO.len]; omega)) ?_
    rintro m F ⟨hm', hiF, H⟩
    have hF := H.len h hn
    refine And.intro (fun h2 => ?_) (fun h2 => ?_)
    · have h2 : (m : Int) < ((bsN t t.length).length : Int) := h2
      have hml : m < (bsN t t.length).length := by omega
      refine And.intro (by omega) ?_
      refine Or.inl ?_
      refine Exists.intro [false, false, false, false, false, false, false, false, true] (And.intro (by decide +kernel) ?_)
      refine And.intro (by omega) ?_
      refine cq (gprd_fn t (F.getD i []) ((bsN t t.length).getD m []) h (H.ns _ (getD_mem hiF)) (bsN_ns h (Nat.le_refl _) _ (getD_mem hml))) (And.intro (by repeat' first | refine And.intro ?_ ?_ | exact True.intro | (show (_ : Int) = (_ : Int); omega) | omega | exact rfl | (simp only [RO.len]; omega)) (And.intro rfl (And.intro rfl trivial))) ?_
      refine Or.inr (cm [43] [(1000, 7), (1001, 8), (1002, 15), (501, 301)] (nadd_fn t.length hn (setI (jnL t (F.getD i []) ((bsN t t.length).getD m []))) F H.self (by omega)) ?_)
      have hnx := H.next h hiF hml
      have hlx := hnx.len h hn
      refine And.intro (by repeat' first | refine And.intro ?_ ?_ | exact True.intro | (show (_ : Int) = (_ : Int); omega) | omega | exact rfl | (simp only [RO.len]; omega)) ?_
      refine And.intro (fun h3 => ?_) (fun h3 => ?_)
      · exfalso
        have h3 : (2000 : Int) < ((addF F (ascV t.length (setI (jnL t (F.getD i []) ((bsN t t.length).getD m []))))).length : Int) := h3
        omega
      · refine And.intro (by omega) ?_
        refine nx (m + 1, addF F (ascV t.length (setI (jnL t (F.getD i []) ((bsN t t.length).getD m []))))) ⟨by omega, ?_, hnx⟩ (show (bsN t t.length).length - (m + 1) < (bsN t t.length).length - m by omega) (by repeat' first | refine And.intro ?_ ?_ | exact True.intro | (show (_ : Int) = (_ : Int); omega) | omega | exact rfl | (simp only [RO.len]; omega))
        show i < (addF F _).length
        unfold addF
        split
        · exact hiF
        · rw [List.length_append]; omega
    · have h2 : ((bsN t t.length).length : Int) ≤ (m : Int) := h2
      refine And.intro (by omega) ?_
      exact nx (i + 1, F) ⟨by omega, H.row (by omega)⟩ (show 2000 - (i + 1) < 2000 - i by omega) (by repeat' first | refine And.intro ?_ ?_ | exact True.intro | (show (_ : Int) = (_ : Int); omega) | omega | exact rfl | (simp only [RO.len]; omega))
  · have h1 : (F.length : Int) ≤ (i : Int) := h1
    refine Exists.intro F (And.intro ⟨H.nd, H.done h (by omega)⟩ ?_)
    repeat' first | refine And.intro ?_ ?_ | exact True.intro | (show (_ : Int) = (_ : Int); omega) | omega | exact rfl | (simp only [RO.len]; omega)
theorem normals_fn (t : List (List Int)) (h : Grp t) (hn : t.length ≤ 16) : EF 87 [frA t, .int .i64 2000] (fun F : List (List Int) => .tup [.new (.rows .i64 F), .bool (.lit true)]) (fun F => F.Nodup ∧ ∀ l, l ∈ F ↔ NS t l) := mkE Tryz.func87 (by decide +kernel) rfl (Nat.le_of_ble_eq_true rfl) fun _ => normals_k t h hn

theorem gNrms_k (t : List (List Int)) (h : Grp t) (hn : t.length ≤ 16) : fnK TY SP Tryz.f40 [.ro (.rows .i64 t)] (.tup [.new (.rows .i64 (nsL t)), .int .i64 0]) := by
  refine Or.inl (cq (valid_fn t) (And.intro rfl trivial) ?_)
  refine And.intro (fun h1 => absurd (valid_zero.2 h.toSemi) h1) (fun _ => ?_)
  refine Or.inl (cq (buildY_fn t h) (And.intro rfl trivial) ?_)
  refine Or.inr (Or.inr (ce (normals_fn t h hn) (And.intro (by repeat' first | refine And.intro ?_ ?_ | exact True.intro | (show (_ : Int) = (_ : Int); omega) | omega | exact rfl | (simp only [RO.len]; omega)) (And.intro rfl trivial)) fun F hF => ?_))
  have hpos : 0 < F.length := List.length_pos_of_mem ((hF.2 _).2 (one_ns h))
  have hsrt := nsL_of hF.1 hF.2
  refine Or.inr (Or.inl (cm [] [(1000, 22)] (sortRows_m cmpS_tot gcmp_fn F hpos) (And.intro (by repeat' first | refine And.intro ?_ ?_ | exact True.intro | (show (_ : Int) = (_ : Int); omega) | omega | exact rfl | (simp only [RO.len]; omega)) ?_)))
  exact And.intro (And.intro rfl (congrArg (RO.rows .i64) hsrt)) (by repeat' first | refine And.intro ?_ ?_ | exact True.intro | (show (_ : Int) = (_ : Int); omega) | omega | exact rfl | (simp only [RO.len]; omega))
theorem gNrms_fn (t : List (List Int)) (h : Grp t) (hn : t.length ≤ 16) : QF 40 [.ro (.rows .i64 t)] (.tup [.new (.rows .i64 (nsL t)), .int .i64 0]) := mkQ Tryz.func40 (by decide +kernel) rfl (Nat.le_of_ble_eq_true rfl) fun _ => gNrms_k t h hn
end Go.Proofs.YtdjbbjjmjopofaaGreat
