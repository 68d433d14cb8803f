import Derived.Test.YtpanlghofeebhaaGreatIdealLaw
import Derived.Test.YtpanlghofeebhaaGreatGrpLaw
import Derived.Test.YtpanlghofeebhaaGreatMerge
section
/- Package group: the frame of a group; inverses and orders of elements: contracts. -/
namespace Go.Proofs.YtpanlghofeebhaaGreat
open Go Go.AM
set_option maxRecDepth 100000
noncomputable abbrev frA (t : List (List Int)) : AV := .agg [.ro (.rows .i64 t), .int .i64 (oneN t), .ro (.ints .i64 (invL t))]
theorem buildY_fn (t : List (List Int)) (h : Grp t) : QF 44 [.ro (.rows .i64 t)] (.tup [frA t, .bool (.lit true)]) := mkQ Tryz.func44 (by decide +kernel) rfl (Nat.le_of_ble_eq_true rfl) fun _ => by
  have hs := h.toSemi
  have hpos := hs.pos
  have hmost := hs.most
  obtain ⟨hone, hneu, hid⟩ := h.one
  refine Or.inl (cq (gid_fn t hs.toSh) (And.intro rfl trivial) ?_)
  refine And.intro (fun h1 => ?_) (fun h1 => ?_)
  · exact absurd h1 (by rw [hid]; omega)
  refine And.intro (by omega) ?_
  refine And.intro (by omega) ?_
  refine Exists.intro [] <| lp2 (fun (k : Nat) (iv : List Int) => [(19, .int .i64 k)]) (fun _ iv => [(16, .vec 0 (.ints .i64 iv) [])]) (fun k iv => k ≤ t.length ∧ iv.length = t.length ∧ ∀ x, x < k → iv.getD x 0 = (invN t x : Int)) (fun k _ => t.length - k) 0 (List.replicate t.length 0) ⟨Nat.zero_le _, by simp, by omega⟩ (by repeat' first | refine And.intro ?_ ?_ | exact True.intro | (show (_ : Int) = (_ : Int); omega) | omega | exact rfl | (simp only [RO.len]; omega)) ?_
  intro k iv hk
  refine And.intro (fun h3 => ?_) (fun h3 => ?_)
  · have hkl : k < t.length := by omega
    have l1 := hs.len hkl
    refine And.intro (by omega) ?_
    refine Or.inl (cq (index_fn (t.getD k []) (idV t)) (And.intro rfl (And.intro rfl trivial)) ?_)
    have hinv := h.ninv hkl
    have hidx : idxV (t.getD k []) (idV t) = (invN t k : Int) := by
      have a1 := hs.ent hkl hinv.1
      refine idx_of (by omega) (by rw [a1.1, hinv.2.1, hid]) fun j hj he => ?_
      have hjl : j < t.length := by omega
      have a2 := hs.ent hkl hjl
      have := h.inv_uniq hkl hjl (by rw [a2.1, hid] at he; omega)
      omega
    have l2 := hs.len hinv.1
    have a2 := hs.ent hinv.1 hkl
    have hN : (idxV (t.getD k []) (idV t)).toNat = invN t k := by rw [hidx]; exact Int.toNat_natCast _
    refine And.intro (fun h4 => ?_) (fun h4 => ?_)
    · exact absurd h4 (by rw [hidx]; omega)
    refine And.intro (by rw [hidx]; omega) ?_
    refine And.intro (by rw [hN]; omega) ?_
    refine And.intro (fun h5 => ?_) (fun h5 => ?_)
    · have h5 : (t.getD (idxV (t.getD k []) (idV t)).toNat []).getD k 0 ≠ idV t := h5
      exact absurd (by rw [hN, a2.1, hinv.2.2, hid]) h5
    · refine And.intro (by omega) ?_
      refine And.intro (by omega) ?_
      refine And.intro (by omega) ?_
      refine nx (k + 1, iv.set k (idxV (t.getD k []) (idV t))) ⟨by omega, by rw [List.length_set]; exact hk.2.1, fun x hx => ?_⟩ (show t.length - (k + 1) < t.length - k by omega) (by repeat' first | refine And.intro ?_ ?_ | exact True.intro | (show (_ : Int) = (_ : Int); omega) | omega | exact rfl | (simp only [RO.len]; omega))
      by_cases hxk : x = k
      · subst hxk; rw [getD_set_eq (by omega)]; exact hidx
      · rw [getD_set_ne (Ne.symm hxk)]; exact hk.2.2 x (by omega)
  · have hiv : iv = invL t := by
      refine List.ext_getElem (by rw [invL_len]; exact hk.2.1) fun x h1 h2 => ?_
      have := hk.2.2 x (by omega)
      rw [getD_eq h1] at this
      rw [this, ← invL_get (t := t) (by omega), getD_eq h2]
    exact And.intro (And.intro rfl (And.intro hid (And.intro (And.intro trivial (by rw [hiv])) trivial))) (And.intro rfl trivial)
theorem openY_fn (t : List (List Int)) (h : Grp t) : QF 15 [.ro (.rows .i64 t)] (.tup [frA t, .bool (.lit true)]) := mkQ Tryz.func15 (by decide +kernel) rfl (Nat.le_of_ble_eq_true rfl) fun _ => by
  refine Or.inl (cq (valid_fn t) (And.intro rfl trivial) ?_)
  refine And.intro (fun h1 => ?_) (fun h1 => ?_)
  · exact absurd (valid_zero.2 h.toSemi) h1
  · refine Or.inl (cq (buildY_fn t h) (And.intro rfl trivial) ?_)
    exact And.intro (And.intro rfl (And.intro rfl (And.intro rfl trivial))) (And.intro rfl trivial)
/-! ### The reference -/
theorem rinvY_fn (t : List (List Int)) (h : Grp t) (x : Nat) (hx : x < t.length) : EF 38 [.ro (.rows .i64 t), .int .i64 x] (fun v : Int => .int .i64 v) (fun v => v = (invN t x : Int)) := by
  have hr := rinv_fn t h.toSh (oneN t) x h.one.2.2 hx
  refine ⟨hr.1, fun M w vs hM hv => (hr.2 M w vs hM hv).mono fun e w' ⟨y, hy, hrest⟩ => ⟨y, ?_, hrest⟩⟩
  rcases hy with ⟨k, hk, hkl, hi⟩ | ⟨_, hno⟩
  · rw [hk, h.inv_uniq hx hkl hi.1]
  · exact absurd (h.ninv hx).2 (hno _ (h.ninv hx).1)
end Go.Proofs.YtpanlghofeebhaaGreat
end
section
/- The reference's inverses, as a plain contract. -/
namespace Go.Proofs.YtpanlghofeebhaaGreat
open Go Go.AM
set_option maxRecDepth 100000
theorem qOfE {f : FuncId} {args : List AV} {X : Type} {out : X → AV} {c : X} (h : EF f args out (fun v => v = c)) : QF f args (out c) := ⟨h.1, fun M w vs hM hv => (h.2 M w vs hM hv).mono fun e w' ⟨x, hx, v, r⟩ => ⟨v, by subst hx; exact r⟩⟩
theorem rinvQ_fn (t : List (List Int)) (h : Grp t) (x : Nat) (hx : x < t.length) : QF 38 [.ro (.rows .i64 t), .int .i64 x] (.int .i64 (invN t x)) := qOfE (out := fun v : Int => .int .i64 v) (rinvY_fn t h x hx)
end Go.Proofs.YtpanlghofeebhaaGreat
end
section
/- The reference of groups: subgroups, normal subgroups, cosets: contracts. -/
namespace Go.Proofs.YtpanlghofeebhaaGreat
open Go Go.AM
set_option maxRecDepth 100000
theorem rSub_fn (t : List (List Int)) (l : List Int) : QF 31 [.ro (.rows .i64 t), .ro (.ints .i64 l)] (.bool (.v (grpB t && clB t l))) := mkQ Tryz.func31 (by decide +kernel) rfl (Nat.le_of_ble_eq_true rfl) fun _ => by
  refine Or.inl (cq (rgroup_fn t) (And.intro rfl trivial) ?_)
  refine And.intro (fun h1 => ?_) (fun h1 => ?_)
  · have h1 : grpB t = true := h1
    have hs := (grpB_true.1 h1).toSh
    refine Or.inl (cq (rasc_fn t l) (And.intro rfl (And.intro rfl trivial)) ?_)
    refine And.intro (fun h2 => ?_) (fun h2 => ?_)
    · have h2 : ascB t l = true := h2
      obtain ⟨a1, a2, a3⟩ := ascB_true.1 h2
      refine Or.inl (cq (rgen_fn t l hs a3) (And.intro rfl (And.intro rfl trivial)) ?_)
      refine Or.inl (cq (same_fn (genL t l) l) (And.intro rfl (And.intro rfl trivial)) ?_)
      refine And.intro ?_ trivial
      show decide (genL t l = l) = (grpB t && clB t l)
      rw [h1, Bool.true_and, Bool.eq_iff_iff, decide_eq_true_eq, clB_true]
      exact ⟨cl_of_gen hs a1 a2 a3, genL_self⟩
    · have h2 : ascB t l = false := h2
      refine And.intro ?_ trivial
      show false = (grpB t && clB t l)
      rw [h1, Bool.true_and]
      exact (clB_false.2 fun hh => by rw [ascB_true.2 ⟨hh.pos, hh.asc, hh.ins⟩] at h2; cases h2).symm
  · have h1 : grpB t = false := h1
    refine And.intro ?_ trivial
    show false = (grpB t && clB t l)
    rw [h1]; rfl
theorem rNrm_k (t : List (List Int)) (l : List Int) (hll : l.length ≤ 140737488355328) : fnK TY SP Tryz.f33 [.ro (.rows .i64 t), .ro (.ints .i64 l)] (.bool (.v (grpB t && (clB t l && nrmB t (allI t) l)))) := by
  refine Or.inl (cq (rSub_fn t l) (And.intro rfl (And.intro rfl trivial)) ?_)
  refine And.intro (fun h1 => ?_) (fun h1 => ?_)
  · have h1 : (!(grpB t && clB t l)) = true := h1
    refine And.intro ?_ trivial
    show false = (grpB t && (clB t l && nrmB t (allI t) l))
    rw [← Bool.and_assoc]
    cases hb : (grpB t && clB t l) with
    | false => rfl
    | true => rw [hb] at h1; cases h1
  have h1 : (!(grpB t && clB t l)) = false := h1
  have hb : grpB t = true ∧ clB t l = true := by simpa using h1
  have h := grpB_true.1 hb.1
  have hl := clB_true.1 hb.2
  have hs := h.toSh
  have hm := hs.most
  have hval : (grpB t && (clB t l && nrmB t (allI t) l)) = nrmB t (allI t) l := by rw [hb.1, hb.2]; rfl
  rw [hval]
  refine Or.inl (cq (rset_fn l t.length hm) (And.intro rfl (And.intro rfl trivial)) ?_)
  have hsl := setB_len t.length fun x => l.contains (x : Int)
  refine Exists.intro [] <| lp (X := Nat) (fun x => [(20, .int .i64 x)]) (fun _ => []) (fun x => x ≤ t.length ∧ ∀ a b, a < x → b < l.length → setI l (cjN t a (l.getD b 0).toNat) = true) (fun x => t.length - x) 0 ⟨Nat.zero_le _, by omega⟩ (by repeat' first | refine And.intro ?_ ?_ | exact True.intro | (show (_ : Int) = (_ : Int); omega) | omega | exact rfl | (simp only [RO.len]; omega)) ?_
  rintro x ⟨hx, hP⟩
  refine And.intro (fun h2 => ?_) (fun h2 => ?_)
  · have h2 : (x : Int) < (t.length : Int) := h2
    have hxl : x < t.length := by omega
    have hi := h.ninv hxl
    refine Or.inl (cq (rinvQ_fn t h x hxl) (And.intro rfl (And.intro rfl trivial)) ?_)
    refine Exists.intro [] <| lp (X := Nat) (fun j => [(28, .int .i64 j)]) (fun _ => []) (fun j => j ≤ l.length ∧ ∀ b, b < j → setI l (cjN t x (l.getD b 0).toNat) = true) (fun j => l.length - j) 0 ⟨Nat.zero_le _, by omega⟩ (by repeat' first | refine And.intro ?_ ?_ | exact True.intro | (show (_ : Int) = (_ : Int); omega) | omega | exact rfl | (simp only [RO.len]; omega)) ?_
    rintro j ⟨hj, hQ⟩
    refine And.intro (fun h3 => ?_) (fun h3 => ?_)
    · have h3 : (j : Int) < (l.length : Int) := h3
      have hjl : j < l.length := by omega
      have hlj := hl.ins _ (getD_mem (d := 0) hjl)
      have hy : (l.getD j 0).toNat < t.length := by omega
      have r1 := hs.len hxl
      have e1 := hs.ent hxl hy
      have r2 := hs.len e1.2
      have e2 := hs.ent e1.2 hi.1
      have hN : ((t.getD x []).getD (l.getD j 0).toNat 0).toNat = en t x (l.getD j 0).toNat := rfl
      have hv : (t.getD ((t.getD x []).getD (l.getD j 0).toNat 0).toNat []).getD (invN t x) 0 = ((cjN t x (l.getD j 0).toNat : Nat) : Int) := by rw [hN]; exact e2.1
      have hc := cjN_lt h hxl hy
      have g1 : (setB t.length fun x => l.contains (x : Int)).getD ((t.getD ((t.getD x []).getD (l.getD j 0).toNat 0).toNat []).getD (invN t x) 0).toNat false = setI l (cjN t x (l.getD j 0).toNat) := by
        rw [hv, Int.toNat_natCast, setB_get hc]; rfl
      refine And.intro (by omega) ?_
      refine And.intro (show 0 ≤ (x : Int) ∧ (x : Int) < (t.length : Int) by omega) ?_
      refine And.intro (show 0 ≤ l.getD j 0 ∧ l.getD j 0 < ((t.getD x []).length : Int) by omega) ?_
      refine And.intro (show 0 ≤ (t.getD x []).getD (l.getD j 0).toNat 0 ∧ (t.getD x []).getD (l.getD j 0).toNat 0 < (t.length : Int) by omega) ?_
      refine And.intro (show 0 ≤ ((invN t x : Nat) : Int) ∧ ((invN t x : Nat) : Int) < ((t.getD ((t.getD x []).getD (l.getD j 0).toNat 0).toNat []).length : Int) by rw [hN]; omega) ?_
      refine And.intro (show 0 ≤ (t.getD ((t.getD x []).getD (l.getD j 0).toNat 0).toNat []).getD (invN t x) 0 ∧ (t.getD ((t.getD x []).getD (l.getD j 0).toNat 0).toNat []).getD (invN t x) 0 < ((setB t.length fun x => l.contains (x : Int)).length : Int) by rw [hv]; omega) ?_
      refine And.intro (fun h4 => ?_) (fun h4 => ?_)
      · have h4 : (!(setB t.length fun x => l.contains (x : Int)).getD ((t.getD ((t.getD x []).getD (l.getD j 0).toNat 0).toNat []).getD (invN t x) 0).toNat false) = true := h4
        rw [g1] at h4
        refine And.intro (nrmB_false.2 fun hh => ?_).symm trivial
        have := hh x (mem_disI.2 (by omega)) _ (getD_mem (d := 0) hjl)
        rw [Int.toNat_natCast] at this
        rw [this] at h4; cases h4
      · have h4 : (!(setB t.length fun x => l.contains (x : Int)).getD ((t.getD ((t.getD x []).getD (l.getD j 0).toNat 0).toNat []).getD (invN t x) 0).toNat false) = false := h4
        rw [g1] at h4
        refine And.intro (by omega) ?_
        refine nx (j + 1) ⟨by omega, fun b hb => ?_⟩ (show l.length - (j + 1) < l.length - j by omega) (by repeat' first | refine And.intro ?_ ?_ | exact True.intro | (show (_ : Int) = (_ : Int); omega) | omega | exact rfl | (simp only [RO.len]; omega))
        by_cases e : b = j
        · subst e; simpa using h4
        · exact hQ b (by omega)
    · have h3 : (l.length : Int) ≤ (j : Int) := h3
      refine And.intro (by omega) ?_
      refine nx (x + 1) ⟨by omega, fun a b ha hb => ?_⟩ (show t.length - (x + 1) < t.length - x by omega) (by repeat' first | refine And.intro ?_ ?_ | exact True.intro | (show (_ : Int) = (_ : Int); omega) | omega | exact rfl | (simp only [RO.len]; omega))
      by_cases e : a = x
      · subst e; exact hQ b (by omega)
      · exact hP a b (by omega) hb
  · have h2 : (t.length : Int) ≤ (x : Int) := h2
    refine And.intro (nrmB_true.2 fun a ha b hb => ?_).symm trivial
    have := mem_disI.1 ha
    obtain ⟨j, hj, rfl⟩ := mem_getD 0 hb
    exact hP a.toNat j (by omega) hj
theorem rNrm_fn (t : List (List Int)) (l : List Int) : QF 33 [.ro (.rows .i64 t), .ro (.ints .i64 l)] (.bool (.v (grpB t && (clB t l && nrmB t (allI t) l)))) := mkQ Tryz.func33 (by decide +kernel) rfl (Nat.le_of_ble_eq_true rfl) fun hf => rNrm_k t l hf.2.1.1
def cosR (t : List (List Int)) (l : List Int) (k j : Nat) (a b : Nat) : Prop := (a < k ∧ ∃ i, i < l.length ∧ b = en t a (l.getD i 0).toNat) ∨ (a = k ∧ ∃ i, i < j ∧ b = en t a (l.getD i 0).toNat)
theorem rCos_k (t : List (List Int)) (l : List Int) (h : Grp t) (hl : ClL t l) (hll : l.length ≤ 140737488355328) : fnK TY SP Tryz.f60 [.ro (.rows .i64 t), .ro (.ints .i64 l)] (.new (.ints .i64 (cosL t l))) := by
  have hs := h.toSh
  have hm := hs.most
  refine Or.inl (cq (rdis_fn t.length (by omega)) (And.intro rfl trivial) ?_)
  refine Exists.intro [] <| lp2 (fun (x : Nat) (_ : List Int) => [(14, .int .i64 x)]) (fun _ p => [(11, .vec 0 (.ints .i64 p) [])]) (fun x p => x ≤ t.length ∧ KerOf t.length p (cosR t l x 0)) (fun x _ => t.length - x) 0 (disI t.length) ⟨Nat.zero_le _, .dis fun a b hr => by rcases hr with ⟨h1, _⟩ | ⟨_, i, hi, _⟩ <;> omega⟩ (by repeat' first | refine And.intro ?_ ?_ | exact True.intro | (show (_ : Int) = (_ : Int); omega) | omega | exact rfl | (simp only [RO.len]; omega)) ?_
  rintro x p ⟨hx, hp⟩
  have hpl := hp.1
  refine And.intro (fun h2 => ?_) (fun h2 => ?_)
  · have h2 : (x : Int) < (t.length : Int) := h2
    have hxl : x < t.length := by omega
    have r1 := hs.len hxl
    refine Exists.intro [] <| lp2 (fun (j : Nat) (_ : List Int) => [(19, .int .i64 j)]) (fun _ p => [(11, .vec 0 (.ints .i64 p) [])]) (fun j p => j ≤ l.length ∧ KerOf t.length p (cosR t l x j)) (fun j _ => l.length - j) 0 p ⟨Nat.zero_le _, hp⟩ (by repeat' first | refine And.intro ?_ ?_ | exact True.intro | (show (_ : Int) = (_ : Int); omega) | omega | exact rfl | (simp only [RO.len]; omega)) ?_
    rintro j q ⟨hj, hq⟩
    have hql := hq.1
    refine And.intro (fun h3 => ?_) (fun h3 => ?_)
    · have h3 : (j : Int) < (l.length : Int) := h3
      have hjl : j < l.length := by omega
      have hlj := hl.ins _ (getD_mem (d := 0) hjl)
      have hy : (l.getD j 0).toNat < t.length := by omega
      have e1 := hs.ent hxl hy
      refine And.intro (by omega) ?_
      refine And.intro (show 0 ≤ (x : Int) ∧ (x : Int) < (t.length : Int) by omega) ?_
      refine And.intro (show 0 ≤ l.getD j 0 ∧ l.getD j 0 < ((t.getD x []).length : Int) by omega) ?_
      refine Or.inr (Or.inl (cm [] [(1000, 11)] (merge_fn q x (en t x (l.getD j 0).toNat) (by omega) (by omega) (by omega)) ?_))
      refine And.intro (by repeat' first | refine And.intro ?_ ?_ | exact True.intro | exact e1.1 | exact rfl | omega) ?_
      refine And.intro (by omega) ?_
      refine nx (j + 1, mrgL q x (en t x (l.getD j 0).toNat)) ⟨by omega, (hq.mrg (i := x) (j := en t x (l.getD j 0).toNat) hxl e1.2).congr (fun a b hr => ?_) fun a b hr => ?_⟩ (show l.length - (j + 1) < l.length - j by omega) (by repeat' first | refine And.intro ?_ ?_ | exact True.intro | (show (_ : Int) = (_ : Int); omega) | omega | exact rfl | (simp only [RO.len]; omega))
      · rcases hr with (⟨h1, h2⟩ | ⟨h1, i, hi, h2⟩) | ⟨rfl, rfl⟩
        · exact .rel (.inl ⟨h1, h2⟩)
        · exact .rel (.inr ⟨h1, i, by omega, h2⟩)
        · exact .rel (.inr ⟨rfl, j, by omega, rfl⟩)
      · rcases hr with ⟨h1, h2⟩ | ⟨h1, i, hi, h2⟩
        · exact .rel (.inl (.inl ⟨h1, h2⟩))
        · by_cases e : i = j
          · exact .rel (.inr ⟨h1, by rw [h2, h1, e]⟩)
          · exact .rel (.inl (.inr ⟨h1, i, by omega, h2⟩))
    · have h3 : (l.length : Int) ≤ (j : Int) := h3
      refine And.intro (by omega) ?_
      refine nx (x + 1, q) ⟨by omega, hq.congr (fun a b hr => ?_) fun a b hr => ?_⟩ (show t.length - (x + 1) < t.length - x by omega) (by repeat' first | refine And.intro ?_ ?_ | exact True.intro | (show (_ : Int) = (_ : Int); omega) | omega | exact rfl | (simp only [RO.len]; omega))
      · rcases hr with ⟨h1, h2⟩ | ⟨h1, i, hi, h2⟩
        · exact .rel (.inl ⟨by omega, h2⟩)
        · exact .rel (.inl ⟨by omega, i, by omega, h2⟩)
      · rcases hr with ⟨h1, i, hi, h2⟩ | ⟨_, i, hi, _⟩
        · by_cases e : a = x
          · exact .rel (.inr ⟨e, i, by omega, h2⟩)
          · exact .rel (.inl ⟨by omega, i, hi, h2⟩)
        · omega
  · have h2 : (t.length : Int) ≤ (x : Int) := h2
    refine Or.inl (cq (rcanon_fn p) (And.intro rfl trivial) ?_)
    refine And.intro (And.intro (by omega) ?_) trivial
    have he : canon p = cosL t l := ker_clsL (cos_pre hl h) hpl fun a b ha hb => by
      rw [hp.2 a b ha hb]
      constructor
      · intro e
        have : (a < t.length → b < t.length → cosE t l a b = true) ∧ (a < t.length ↔ b < t.length) := e.least (Q := fun a b => (a < t.length → b < t.length → cosE t l a b = true) ∧ (a < t.length ↔ b < t.length))
          (fun a => ⟨fun ha _ => (cos_pre hl h).1 a ha, Iff.rfl⟩) (fun a b hh => ⟨fun hb ha => cos_symm hl h ha hb (hh.1 ha hb), hh.2.symm⟩)
          (fun a b c h1 h2 => ⟨fun ha hc => (cos_pre hl h).2 a b c ha (h1.2.1 ha) hc (h1.1 ha (h1.2.1 ha)) (h2.1 (h1.2.1 ha) hc), h1.2.trans h2.2⟩)
          (fun a b hr => by
            rcases hr with ⟨h1, i, hi, h2⟩ | ⟨_, i, hi, _⟩
            · have hli := hl.ins _ (getD_mem (d := 0) hi)
              have hal : a < t.length := by omega
              have hb' := (hs.ent (x := a) (y := (l.getD i 0).toNat) hal (by omega)).2
              exact ⟨fun ha hb => (cosE_iff h ha hb).2 ⟨_, by omega, setI_iff.2 (by rw [Int.toNat_of_nonneg hli.1]; exact getD_mem hi), h2.symm⟩, ⟨fun _ => by rw [h2]; exact hb', fun _ => hal⟩⟩
            · omega)
        have hab := this.1 ha hb
        exact ⟨hab, cos_symm hl h ha hb hab⟩
      · rintro ⟨hab, _⟩
        obtain ⟨m, hm', hs', e⟩ := (cosE_iff h ha hb).1 hab
        obtain ⟨i, hi, hv⟩ := mem_getD 0 (setI_iff.1 hs')
        exact .rel (.inl ⟨by omega, i, hi, by rw [hv, Int.toNat_natCast]; exact e.symm⟩)
    rw [if_pos (by omega), he]
theorem rCos_fn (t : List (List Int)) (l : List Int) (h : Grp t) (hl : ClL t l) : QF 60 [.ro (.rows .i64 t), .ro (.ints .i64 l)] (.new (.ints .i64 (cosL t l))) := mkQ Tryz.func60 (by decide +kernel) rfl (Nat.le_of_ble_eq_true rfl) fun hf => rCos_k t l h hl hf.2.1.1
end Go.Proofs.YtpanlghofeebhaaGreat
end
section
/- The reference of groups: normal closures, commutator subgroups: contracts. -/
namespace Go.Proofs.YtpanlghofeebhaaGreat
open Go Go.AM
set_option maxRecDepth 100000
theorem rAll_fn (t : List (List Int)) (hm : t.length ≤ 400) : QF 30 [.ro (.rows .i64 t)] (.new (.ints .i64 (allI t))) := mkQ Tryz.func30 (by decide +kernel) rfl (Nat.le_of_ble_eq_true rfl) fun _ => by
  refine Or.inl (cq (rdis_fn t.length (by omega)) (And.intro rfl trivial) ?_)
  exact And.intro (And.intro (by omega) rfl) trivial
theorem rClo_fn (t : List (List Int)) (g : List Int) (h : Grp t) (hg : inT t g) (hlg : g.length ≤ 1048576) : QF 63 [.ro (.rows .i64 t), .ro (.ints .i64 g)] (.new (.ints .i64 (ascV t.length (cloF t (allI t) g)))) := mkQ Tryz.func63 (by decide +kernel) rfl (Nat.le_of_ble_eq_true rfl) fun _ => by
  have hs := h.toSh
  have hm := hs.most
  have ho := h.one
  refine Or.inl (cq (rid_fn t hs) (And.intro rfl trivial) ?_)
  refine Exists.intro [12] <| lp2 (fun (k : Nat) (_ : List Int) => [(15, .int .i64 k), (5, .vec 12)]) (fun _ c => [(12, .vec 0 (.ints .i64 c) [])])
    (fun k c => k ≤ t.length ∧ c.length = 1 + k * g.length ∧ (∀ y, y ∈ c ↔ y = (oneN t : Int) ∨ ∃ a b, a < k ∧ b < g.length ∧ y = ((cjN t a (g.getD b 0).toNat : Nat) : Int))) (fun k _ => t.length - k) 0 [idV t] ⟨Nat.zero_le _, by simp, fun y => by rw [ho.2.2, List.mem_singleton]; exact ⟨.inl, fun hh => hh.elim id fun ⟨a, _, ha, _⟩ => absurd ha (Nat.not_lt_zero _)⟩⟩ (by repeat' first | refine And.intro ?_ ?_ | exact True.intro | (show (_ : Int) = (_ : Int); omega) | omega | exact rfl | (simp only [RO.len]; omega)) ?_
  rintro k c ⟨hk, hlc, hc⟩
  refine And.intro (fun h1 => ?_) (fun h1 => ?_)
  · have h1 : (k : Int) < (t.length : Int) := h1
    have hkl : k < t.length := by omega
    have r1 := hs.len hkl
    have hi := h.ninv hkl
    refine Or.inl (cq (rinvQ_fn t h k hkl) (And.intro rfl (And.intro rfl trivial)) ?_)
    refine Exists.intro [] <| lp2 (fun (j : Nat) (_ : List Int) => [(23, .int .i64 j), (5, .vec 12)]) (fun _ c => [(12, .vec 0 (.ints .i64 c) [])])
      (fun j c => j ≤ g.length ∧ c.length = 1 + k * g.length + j ∧ (∀ y, y ∈ c ↔ (y = (oneN t : Int) ∨ ∃ a b, a < k ∧ b < g.length ∧ y = ((cjN t a (g.getD b 0).toNat : Nat) : Int)) ∨ ∃ b, b < j ∧ y = ((cjN t k (g.getD b 0).toNat : Nat) : Int))) (fun j _ => g.length - j) 0 c ⟨Nat.zero_le _, hlc, fun y => by rw [hc y]; exact ⟨.inl, fun hh => hh.elim id fun ⟨i, hi, _⟩ => absurd hi (Nat.not_lt_zero _)⟩⟩ (by repeat' first | refine And.intro ?_ ?_ | exact True.intro | (show (_ : Int) = (_ : Int); omega) | omega | exact rfl | (simp only [RO.len]; omega)) ?_
    rintro j c ⟨hj, hlc, hc⟩
    have hbig : k * g.length ≤ 400 * 1048576 := Nat.mul_le_mul (by omega) hlg
    refine And.intro (fun h3 => ?_) (fun h3 => ?_)
    · have h3 : (j : Int) < (g.length : Int) := h3
      have hjl : j < g.length := by omega
      have hwj := hg _ (getD_mem (d := 0) hjl)
      have hwi : (g.getD j 0).toNat < t.length := by omega
      have e1 := hs.ent hkl hwi
      have r2 := hs.len e1.2
      have e2 := hs.ent e1.2 hi.1
      have hN : ((t.getD k []).getD (g.getD j 0).toNat 0).toNat = en t k (g.getD j 0).toNat := rfl
      have hv : (t.getD ((t.getD k []).getD (g.getD j 0).toNat 0).toNat []).getD (invN t k) 0 = ((cjN t k (g.getD j 0).toNat : Nat) : Int) := by rw [hN]; exact e2.1
      have step : ∀ {y : Int}, (∃ i, i < j + 1 ∧ y = ((cjN t k (g.getD i 0).toNat : Nat) : Int)) ↔ (∃ i, i < j ∧ y = ((cjN t k (g.getD i 0).toNat : Nat) : Int)) ∨ y = ((cjN t k (g.getD j 0).toNat : Nat) : Int) := fun {y} => by
        constructor
        · rintro ⟨i, hi, e⟩
          by_cases ei : i = j
          · subst ei; exact .inr e
          · exact .inl ⟨i, by omega, e⟩
        · rintro (⟨i, hi, e⟩ | e)
          · exact ⟨i, by omega, e⟩
          · exact ⟨j, by omega, e⟩
      refine And.intro (by omega) ?_
      refine And.intro (show 0 ≤ (k : Int) ∧ (k : Int) < (t.length : Int) by omega) ?_
      refine And.intro (show 0 ≤ g.getD j 0 ∧ g.getD j 0 < ((t.getD k []).length : Int) by omega) ?_
      refine And.intro (show 0 ≤ (t.getD k []).getD (g.getD j 0).toNat 0 ∧ (t.getD k []).getD (g.getD j 0).toNat 0 < (t.length : Int) by omega) ?_
      refine And.intro (show 0 ≤ ((invN t k : Nat) : Int) ∧ ((invN t k : Nat) : Int) < ((t.getD ((t.getD k []).getD (g.getD j 0).toNat 0).toNat []).length : Int) by rw [hN]; omega) ?_
      refine And.intro (by rw [List.length_append, List.length_singleton]; omega) ?_
      refine And.intro (by omega) ?_
      refine nx (j + 1, c ++ [(t.getD ((t.getD k []).getD (g.getD j 0).toNat 0).toNat []).getD (invN t k) 0]) ⟨by omega, by rw [List.length_append, List.length_singleton]; omega, fun y => ?_⟩ (show g.length - (j + 1) < g.length - j by omega) (by repeat' first | refine And.intro ?_ ?_ | exact True.intro | (show (_ : Int) = (_ : Int); omega) | omega | exact rfl | (simp only [RO.len]; omega))
      rw [hv, List.mem_append, List.mem_singleton, hc y, step, or_assoc]
    · have h3 : (g.length : Int) ≤ (j : Int) := h3
      refine And.intro (by omega) ?_
      refine nx (k + 1, c) ⟨by omega, by rw [hlc, Nat.add_mul, Nat.one_mul]; omega, fun y => ?_⟩ (show t.length - (k + 1) < t.length - k by omega) (by repeat' first | refine And.intro ?_ ?_ | exact True.intro | (show (_ : Int) = (_ : Int); omega) | omega | exact rfl | (simp only [RO.len]; omega))
      rw [hc y, or_assoc]
      refine or_congr Iff.rfl ?_
      constructor
      · rintro (⟨a, b, ha, hb, e⟩ | ⟨b, hb, e⟩)
        · exact ⟨a, b, by omega, hb, e⟩
        · exact ⟨k, b, by omega, by omega, e⟩
      · rintro ⟨a, b, ha, hb, e⟩
        by_cases ea : a = k
        · subst ea; exact .inr ⟨b, by omega, e⟩
        · exact .inl ⟨a, b, by omega, hb, e⟩
  · have h1 : (t.length : Int) ≤ (k : Int) := h1
    have hmem : ∀ y, y ∈ c ↔ y ∈ (oneN t : Int) :: cjL t (allI t) g := fun y => by
      rw [hc y, List.mem_cons, mem_cjL]
      refine or_congr Iff.rfl ⟨fun ⟨a, b, ha, hb, e⟩ => ⟨_, getD_mem hb, (a : Int), mem_disI.2 (by omega), by rw [Int.toNat_natCast]; exact e⟩, fun ⟨b, hb, a, ha, e⟩ => ?_⟩
      obtain ⟨j, hj, rfl⟩ := mem_getD 0 hb
      have := mem_disI.1 ha
      exact ⟨a.toNat, j, by omega, hj, e⟩
    have hcin : inT t c := fun y hy => by
      rcases List.mem_cons.1 ((hmem y).1 hy) with rfl | hy
      · omega
      · obtain ⟨b, hb, a, ha, rfl⟩ := mem_cjL.1 hy
        have := mem_disI.1 ha
        have := hg b hb
        have := cjN_lt h (x := a.toNat) (y := b.toNat) (by omega) (by omega)
        omega
    refine Or.inl (cq (rgen_fn t c hs hcin) (And.intro rfl (And.intro rfl trivial)) ?_)
    refine And.intro (And.intro rfl ?_) trivial
    show RO.ints .i64 (genL t c) = RO.ints .i64 (ascV t.length (cloF t (allI t) g))
    unfold genL cloF
    rw [genF_congr (mk_same hmem)]
end Go.Proofs.YtpanlghofeebhaaGreat
end
section
/- Comparisons of numbers and of lists: contracts. -/
namespace Go.Proofs.YtpanlghofeebhaaGreat
open Go Go.AM
set_option maxRecDepth 100000
theorem isNaN_fn (a : Int) : QF 50 [.int .i64 a] (.bool (.lit false)) := mkQ Tryz.func50 (by decide +kernel) rfl (Nat.le_of_ble_eq_true rfl) fun _ => by
  refine And.intro ?_ trivial
  show decide (a ≠ a) = false
  simp
theorem compare_fn (a b : Int) : QF 21 [.int .i64 a, .int .i64 b] (.int .i64 (cmpI a b)) := mkQ Tryz.func21 (by decide +kernel) rfl (Nat.le_of_ble_eq_true rfl) fun _ => by
  refine Or.inl (cq (isNaN_fn a) (And.intro rfl trivial) ?_)
  refine Or.inl (cq (isNaN_fn b) (And.intro rfl trivial) ?_)
  unfold cmpI
  refine And.intro (fun h1 => ?_) (fun h1 => ?_)
  · exact And.intro (by rw [if_pos h1]; rfl) trivial
  · refine And.intro (fun h2 => ?_) (fun h2 => ?_)
    · exact And.intro (by rw [if_neg (by omega), if_pos h2]; rfl) trivial
    · exact And.intro (by rw [if_neg (by omega), if_neg (by omega)]; rfl) trivial
theorem or2_fn (a b : Int) : QF 20 [.ro (.ints .i64 [a, b])] (.int .i64 (if a ≠ 0 then a else b)) := mkQ Tryz.func20 (by decide +kernel) rfl (Nat.le_of_ble_eq_true rfl) fun _ => by
  refine Exists.intro [] <| lp (X := Nat) (fun i => [(8, .int .i64 i)]) (fun _ => []) (fun i => i ≤ 2 ∧ (0 < i → a = 0) ∧ (1 < i → b = 0)) (fun i => 2 - i) 0 (by omega) (by repeat' first | refine And.intro ?_ ?_ | exact True.intro | (show (_ : Int) = (_ : Int); omega) | omega | exact rfl | (simp only [RO.len]; omega)) ?_
  rintro i ⟨hi, h1, h2⟩
  refine And.intro (fun h3 => ?_) (fun h3 => ?_)
  · have h3 : (i : Int) < 2 := h3
    have hi' : i = 0 ∨ i = 1 := by omega
    refine And.intro (by omega) ?_
    refine And.intro (fun h4 => ?_) (fun h4 => ?_)
    · refine And.intro ?_ trivial
      rcases hi' with rfl | rfl
      · have h4 : a ≠ 0 := h4
        show a = if a ≠ 0 then a else b
        rw [if_pos h4]
      · show b = if a ≠ 0 then a else b
        rw [if_neg (by simp [h1 (by omega)])]
    · refine And.intro (by omega) ?_
      refine nx (i + 1) ⟨by omega, fun _ => ?_, fun hh => ?_⟩ (show 2 - (i + 1) < 2 - i by omega) (by repeat' first | refine And.intro ?_ ?_ | exact True.intro | (show (_ : Int) = (_ : Int); omega) | omega | exact rfl | (simp only [RO.len]; omega))
      · rcases hi' with rfl | rfl
        · exact h4
        · exact h1 (by omega)
      · rcases hi' with rfl | rfl
        · omega
        · exact h4
  · have h3 : (2 : Int) ≤ (i : Int) := h3
    refine And.intro ?_ trivial
    show 0 = if a ≠ 0 then a else b
    rw [if_neg (by simp [h1 (by omega)]), h2 (by omega)]
theorem compareL_k (a b : List Int) (ha : a.length ≤ 140737488355328) (hb : b.length ≤ 140737488355328) : fnK TY SP Tryz.f69 [.ro (.ints .i64 a), .ro (.ints .i64 b)] (.int .i64 (cmpL a b)) := by
  refine Exists.intro [] <| lp (X := Nat) (fun i => [(11, .int .i64 i)]) (fun _ => []) (fun i => (i ≤ a.length ∧ i ≤ b.length) ∧ ∀ j, j < i → a.getD j 0 = b.getD j 0) (fun i => a.length - i) 0 (by simp) (by repeat' first | refine And.intro ?_ ?_ | exact True.intro | (show (_ : Int) = (_ : Int); omega) | omega | exact rfl | (simp only [RO.len]; omega)) ?_
  rintro i ⟨⟨hi, hi2⟩, hs⟩
  refine And.intro (fun h1 => ?_) (fun h1 => ?_)
  · refine And.intro (by omega) ?_
    refine And.intro (fun h2 => ?_) (fun h2 => ?_)
    · refine And.intro ?_ trivial
      rw [cmpL_end hs hi hi2 (.inr (by omega))]
      unfold cmpI; rw [if_neg (by omega), if_pos (by omega)]; rfl
    · refine And.intro (by omega) ?_
      refine Or.inl (cq (compare_fn (a.getD i 0) (b.getD i 0)) (And.intro rfl (And.intro rfl trivial)) ?_)
      refine And.intro (fun h3 => ?_) (fun h3 => ?_)
      · refine And.intro ?_ trivial
        exact (cmpL_here hs (by omega) (by omega) fun e => h3 (by rw [e]; exact cmpI_tot.self _)).symm
      · refine And.intro (by omega) ?_
        refine nx (i + 1) ⟨⟨by omega, by omega⟩, fun j hj => ?_⟩ (show a.length - (i + 1) < a.length - i by omega) (by repeat' first | refine And.intro ?_ ?_ | exact True.intro | (show (_ : Int) = (_ : Int); omega) | omega | exact rfl | (simp only [RO.len]; omega))
        by_cases e : j = i
        · subst e; exact cmpI_tot.eq _ _ h3
        · exact hs j (by omega)
  · have e := cmpL_end hs hi hi2 (.inl (by omega))
    refine And.intro (fun h2 => ?_) (fun h2 => ?_)
    · refine And.intro ?_ trivial
      rw [e]; unfold cmpI; rw [if_pos h2]; rfl
    · refine And.intro ?_ trivial
      rw [e]; unfold cmpI; rw [if_neg (by omega), if_neg (by omega)]; rfl
theorem compareL_fn (a b : List Int) : QF 69 [.ro (.ints .i64 a), .ro (.ints .i64 b)] (.int .i64 (cmpL a b)) := mkQ Tryz.func69 (by decide +kernel) rfl (Nat.le_of_ble_eq_true rfl) fun hf => compareL_k a b hf.1.1 hf.2.1.1
theorem rLess_k (a b : List Int) (ha : a.length ≤ 140737488355328) (hb : b.length ≤ 140737488355328) : fnK TY SP Tryz.f100 [.ro (.ints .i64 a), .ro (.ints .i64 b)] (.bool (.v (decide (cmpL a b < 0)))) := by
  refine Exists.intro [] <| lp (X := Nat) (fun i => [(5, .int .i64 i)]) (fun _ => []) (fun i => (i ≤ a.length ∧ i ≤ b.length) ∧ ∀ j, j < i → a.getD j 0 = b.getD j 0) (fun i => a.length - i) 0 (by simp) (by repeat' first | refine And.intro ?_ ?_ | exact True.intro | (show (_ : Int) = (_ : Int); omega) | omega | exact rfl | (simp only [RO.len]; omega)) ?_
  rintro i ⟨⟨hi, hi2⟩, hs⟩
  have fin : i = a.length ∨ i = b.length → decide ((a.length : Int) < (b.length : Int)) = decide (cmpL a b < 0) := fun he => by
    rw [cmpL_end hs hi hi2 he]
    unfold cmpI
    refine decide_eq_decide.2 ?_
    split <;> (try split) <;> omega
  refine And.intro (fun h1 => ?_) (fun h1 => ?_)
  · refine And.intro (fun h2 => ?_) (fun h2 => ?_)
    · refine Or.inl <| Exists.intro [false, false, false, false, false, false, false, false, false] (And.intro (by decide +kernel) ?_)
      refine And.intro (by omega) ?_
      refine And.intro (by omega) ?_
      refine And.intro (fun h3 => ?_) (fun h3 => ?_)
      · have h3 : a.getD i 0 ≠ b.getD i 0 := h3
        refine Or.inl <| Exists.intro [false, false, false, false, false, false, false, false, false, false] (And.intro (by decide +kernel) ?_)
        refine And.intro (by omega) ?_
        refine And.intro (by omega) ?_
        refine And.intro ?_ trivial
        show decide (a.getD i 0 < b.getD i 0) = decide (cmpL a b < 0)
        rw [cmpL_here hs (by omega) (by omega) h3]
        unfold cmpI
        refine decide_eq_decide.2 ?_
        split <;> (try split) <;> omega
      · have h3 : a.getD i 0 = b.getD i 0 := h3
        refine And.intro (by omega) ?_
        refine nx (i + 1) ⟨⟨by omega, by omega⟩, fun j hj => ?_⟩ (show a.length - (i + 1) < a.length - i by omega) (by repeat' first | refine And.intro ?_ ?_ | exact True.intro | (show (_ : Int) = (_ : Int); omega) | omega | exact rfl | (simp only [RO.len]; omega))
        by_cases e : j = i
        · subst e; exact h3
        · exact hs j (by omega)
    · exact And.intro (fin (.inr (by omega))) trivial
  · exact And.intro (fin (.inl (by omega))) trivial
theorem rLess_fn (a b : List Int) : QF 100 [.ro (.ints .i64 a), .ro (.ints .i64 b)] (.bool (.v (decide (cmpL a b < 0)))) := mkQ Tryz.func100 (by decide +kernel) rfl (Nat.le_of_ble_eq_true rfl) fun hf => rLess_k a b hf.1.1 hf.2.1.1
theorem rless16_fn (a b : List Int) : QF 91 [.ro (.ints .i64 a), .ro (.ints .i64 b)] (.bool (.v (decide (cmpS a b < 0)))) := mkQ Tryz.func91 (by decide +kernel) rfl (Nat.le_of_ble_eq_true rfl) fun _ => by
  refine And.intro (fun h1 => ?_) (fun h1 => ?_)
  · have h1 : (a.length : Int) ≠ (b.length : Int) := h1
    refine And.intro ?_ trivial
    show decide ((a.length : Int) < (b.length : Int)) = decide (cmpS a b < 0)
    unfold cmpS cmpI
    refine decide_eq_decide.2 ?_
    split <;> split <;> (try split) <;> omega
  · have h1 : (a.length : Int) = (b.length : Int) := h1
    refine Or.inl (cq (rLess_fn a b) (And.intro rfl (And.intro rfl trivial)) ?_)
    refine And.intro ?_ trivial
    show decide (cmpL a b < 0) = decide (cmpS a b < 0)
    unfold cmpS
    rw [h1, cmpI_tot.self]; rfl
def insSch : Sch :=
  let F : Sch := .br 7 (.br 11 (.fst 12 .done) .no) .no
  let A6 : Sch := .br 4 F .no
  .fst 1 (.fst 2 (.fst 3 (.fst 5 (.fst 8 (.fst 9 (.fst 10 (.br 0 (.br 4 (.br 6 F .no) (.br 6 A6 .no)) (.br 6 (.br 0 A6 .no) .no))))))))
theorem insert_fn (l : List (List Int)) (x : List Int) (hl : l.length ≤ 100000) (hs0 : Srt cmpS l) : QF 62 [.ro (.rows .i64 l), .ro (.ints .i64 x)] (.ro (.rows .i64 (insC cmpS l x))) := mkQ Tryz.func62 (by decide +kernel) rfl (Nat.le_of_ble_eq_true rfl) fun _ => by
  refine Exists.intro [] <| lp (X := Nat) (fun i => [(5, .int .i64 i)]) (fun _ => []) (fun i => i ≤ l.length ∧ ∀ j, i ≤ j → j < l.length → cmpS x (l.getD j []) < 0) (fun i => i) l.length (by simp; omega) (by repeat' first | refine And.intro ?_ ?_ | exact True.intro | (show (_ : Int) = (_ : Int); omega) | omega | exact rfl | (simp only [RO.len]; omega)) ?_
  rintro i ⟨hi, hs⟩
  have e0 : ((i : Int) - 1).toNat = i - 1 := by omega
  refine And.intro (fun h1 => ?_) (fun h1 => ?_)
  · refine And.intro (by omega) ?_
    refine And.intro (by omega) ?_
    refine Or.inl (cq (rless16_fn x (l.getD ((i : Int) - 1).toNat [])) (And.intro rfl (And.intro rfl trivial)) ?_)
    refine And.intro (fun h2 => ?_) (fun h2 => ?_)
    · have h2 : cmpS x (l.getD ((i : Int) - 1).toNat []) < 0 := of_decide_eq_true h2
      rw [e0] at h2
      refine And.intro (by omega) ?_
      refine nx (i - 1) ⟨by omega, fun j hj hjl => ?_⟩ (show i - 1 < i by omega) (by repeat' first | refine And.intro ?_ ?_ | exact True.intro | (show (_ : Int) = (_ : Int); omega) | omega | exact rfl | (simp only [RO.len]; omega))
      by_cases e : j = i - 1
      · rw [e]; exact h2
      · exact hs j (by omega) hjl
    · have h2 : ¬ cmpS x (l.getD ((i : Int) - 1).toNat []) < 0 := of_decide_eq_false h2
      rw [e0] at h2
      refine And.intro (fun h3 => ?_) (fun h3 => by omega)
      refine And.intro (by omega) ?_
      refine And.intro (by omega) ?_
      refine Or.inl (cq (same_fn (l.getD ((i : Int) - 1).toNat []) x) (And.intro rfl (And.intro rfl trivial)) ?_)
      refine And.intro (fun h4 => ?_) (fun h4 => ?_)
      · have h4 : l.getD ((i : Int) - 1).toNat [] = x := of_decide_eq_true h4
        rw [e0] at h4
        refine And.intro ?_ trivial
        refine congrArg (RO.rows .i64) (insC_in ?_).symm
        rw [← h4]
        exact getD_mem (by omega)
      · have h4 : ¬ l.getD ((i : Int) - 1).toNat [] = x := of_decide_eq_false h4
        rw [e0] at h4
        have hlt : cmpS (l.getD (i - 1) []) x < 0 := by
          have := cmpS_tot.swap (l.getD (i - 1) []) x
          have := mt (cmpS_tot.eq (l.getD (i - 1) []) x) h4
          omega
        have fin := insC_at cmpS_tot (d := []) hs0 hi hs fun _ => hlt
        refine Or.inr (Exists.intro insSch (And.intro (by decide +kernel) ?_))
        refine And.intro (by omega) ?_
        refine And.intro (by omega) ?_
        repeat' first | exact trivial | refine And.intro ?_ ?_
        all_goals first | (simp; omega) | exact congrArg (RO.rows .i64) (by rw [← fin]; simp)
  · refine And.intro (fun h3 => by omega) (fun h3 => ?_)
    have fin := insC_at cmpS_tot (d := []) hs0 hi hs fun h => by omega
    refine Or.inr (Exists.intro insSch (And.intro (by decide +kernel) ?_))
    refine And.intro (by omega) ?_
    refine And.intro (by omega) ?_
    repeat' first | exact trivial | refine And.intro ?_ ?_
    all_goals first | (simp; omega) | exact congrArg (RO.rows .i64) (by rw [← fin]; simp)
end Go.Proofs.YtpanlghofeebhaaGreat
end
