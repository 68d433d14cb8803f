/- The reference of groups: subgroups, normal subgroups, cosets: contracts. -/
import Derived.Test.YtdjbbjjmjopofaaGreatRefGen
import Derived.Test.YtdjbbjjmjopofaaGreatMerge
import Derived.Test.YtdjbbjjmjopofaaGreatGrpEl0
namespace Go.Proofs.YtdjbbjjmjopofaaGreat
open Go Go.AM
set_option maxRecDepth 100000
theorem rSub_k (t : List (List Int)) (l : List Int) : fnK TY SP Tryz.f37 [.ro (.rows .i64 t), .ro (.ints .i64 l)] (.bool (.v (grpB t && clB t l))) := by
  refine Or.inl (cq (rgroup_fn t) (And.intro rfl trivial) ?_)
  refine And.intro (fun h1 => ?_) (fun h1 => ?_)
  · have h1 : grpB t = true := h1
    have hs := (grpB_true.1 h1).toSh
    refine Or.inl (cq (rasc_fn t l) (And.intro rfl (And.intro rfl trivial)) ?_)
    refine And.intro (fun h2 => ?_) (fun h2 => ?_)
    · have h2 : ascB t l = true := h2
      obtain ⟨a1, a2, a3⟩ := ascB_true.1 h2
      refine Or.inl (cq (rgen_fn t l hs a3) (And.intro rfl (And.intro rfl trivial)) ?_)
      refine Or.inl (cq (same_fn (genL t l) l) (And.intro rfl (And.intro rfl trivial)) ?_)
      refine And.intro ?_ trivial
      show decide (genL t l = l) = (grpB t && clB t l)
      rw [h1, Bool.true_and, Bool.eq_iff_iff, decide_eq_true_eq, clB_true]
      exact ⟨cl_of_gen hs a1 a2 a3, genL_self⟩
    · have h2 : ascB t l = false := h2
      refine And.intro ?_ trivial
      show false = (grpB t && clB t l)
      rw [h1, Bool.true_and]
      exact (clB_false.2 fun hh => by rw [ascB_true.2 ⟨hh.pos, hh.asc, hh.ins⟩] at h2; cases h2).symm
  · have h1 : grpB t = false := h1
    refine And.intro ?_ trivial
    show false = (grpB t && clB t l)
    rw [h1]; rfl
theorem rSub_fn (t : List (List Int)) (l : List Int) : QF 37 [.ro (.rows .i64 t), .ro (.ints .i64 l)] (.bool (.v (grpB t && clB t l))) := mkQ Tryz.func37 (by decide +kernel) rfl (Nat.le_of_ble_eq_true rfl) fun _ => rSub_k t l

theorem rNrm_k (t : List (List Int)) (l : List Int) (hll : l.length ≤ 140737488355328) : fnK TY SP Tryz.f38 [.ro (.rows .i64 t), .ro (.ints .i64 l)] (.bool (.v (grpB t && (clB t l && nrmB t (allI t) l)))) := by
  refine Or.inl (cq (rSub_fn t l) (And.intro rfl (And.intro rfl trivial)) ?_)
  refine And.intro (fun h1 => ?_) (fun h1 => ?_)
  · have h1 : (!(grpB t && clB t l)) = true := h1
    refine And.intro ?_ trivial
    show false = (grpB t && (clB t l && nrmB t (allI t) l))
    rw [← Bool.and_assoc]
    cases hb : (grpB t && clB t l) with
    | false => rfl
    | true => rw [hb] at h1; cases h1
  have h1 : (!(grpB t && clB t l)) = false := h1
  have hb : grpB t = true ∧ clB t l = true := by simpa using h1
  have h := grpB_true.1 hb.1
  have hl := clB_true.1 hb.2
  have hs := h.toSh
  have hm := hs.most
  have hval : (grpB t && (clB t l && nrmB t (allI t) l)) = nrmB t (allI t) l := by rw [hb.1, hb.2]; rfl
  rw [hval]
  refine Or.inl (cq (rset_fn l t.length hm) (And.intro rfl (And.intro rfl trivial)) ?_)
  have hsl := setB_len t.length fun x => l.contains (x : Int)
  refine Exists.intro [] <| lp (X := Nat) (fun x => [(20, .int .i64 x)]) (fun _ => []) (fun x => x ≤ t.length ∧ ∀ a b, a < x → b < l.length → setI l (cjN t a (l.getD b 0).toNat) = true) (fun x => t.length - x) 0 ⟨Nat.zero_le _, by omega⟩ (by repeat' first | refine And.intro ?_ ?_ | exact True.intro | (show (_ : Int) = (_ : Int); omega) | omega | exact rfl | (simp only [RO.len]; omega)) ?_
  rintro x ⟨hx, hP⟩
  refine And.intro (fun h2 => ?_) (fun h2 => ?_)
  · have h2 : (x : Int) < (t.length : Int) := h2
    have hxl : x < t.length := by omega
    have hi := h.ninv hxl
    refine Or.inl (cq (rinvQ_fn t h x hxl) (And.intro rfl (And.intro rfl trivial)) ?_)
    refine Exists.intro [] <| lp (X := Nat) (fun j => [(28, .int .i64 j)]) (fun _ => []) (fun j => j ≤ l.length ∧ ∀ b, b < j → setI l (cjN t x (l.getD b 0).toNat) = true) (fun j => l.length - j) 0 ⟨Nat.zero_le _, by omega⟩ (by repeat' first | refine And.intro ?_ ?_ | exact True.intro | (show (_ : Int) = (_ : Int); omega) | omega | exact rfl | (simp only [RO.len]; omega)) ?_
    rintro j ⟨hj, hQ⟩
    refine And.intro (fun h3 => ?_) (fun h3 => ?_)
    · have h3 : (j : Int) < (l.length : Int) := h3
      have hjl : j < l.length := by omega
      have hlj := hl.ins _ (getD_mem (d := 0) hjl)
      have hy : (l.getD j 0).toNat < t.length := by omega
      have r1 := hs.len hxl
      have e1 := hs.ent hxl hy
      have r2 := hs.len e1.2
      have e2 := hs.ent e1.2 hi.1
      have hN : ((t.getD x []).getD (l.getD j 0).toNat 0).toNat = en t x (l.getD j 0).toNat := rfl
      have hv : (t.getD ((t.getD x []).getD (l.getD j 0).toNat 0).toNat []).getD (invN t x) 0 = ((cjN t x (l.getD j 0).toNat : Nat) : Int) := by rw [hN]; exact e2.1
      have hc := cjN_lt h hxl hy
      have g1 : (setB t.length fun x => l.contains (x : Int)).getD ((t.getD ((t.getD x []).getD (l.getD j 0).toNat 0).toNat []).getD (invN t x) 0).toNat false = setI l (cjN t x (l.getD j 0).toNat) := by
        rw [hv, Int.toNat_natCast, setB_get hc]; rfl
      refine And.intro (by omega) ?_
      refine And.intro (show 0 ≤ (x : Int) ∧ (x : Int) < (t.length : Int) by omega) ?_
      refine And.intro (show 0 ≤ l.getD j 0 ∧ l.getD j 0 < ((t.getD x []).length : Int) by omega) ?_
      refine And.intro (show 0 ≤ (t.getD x []).getD (l.getD j 0).toNat 0 ∧ (t.getD x []).getD (l.getD j 0).toNat 0 < (t.length : Int) by omega) ?_
      refine And.intro (show 0 ≤ ((invN t x : Nat) : Int) ∧ ((invN t x : Nat) : Int) < ((t.getD ((t.getD x []).getD (l.getD j 0).toNat 0).toNat []).length : Int) by rw [hN]; omega) ?_
      refine And.intro (show 0 ≤ (t.getD ((t.getD x []).getD (l.getD j 0).toNat 0).toNat []).getD (invN t x) 0 ∧ (t.getD ((t.getD x []).getD (l.getD j 0).toNat 0).toNat []).getD (invN t x) 0 < ((setB t.length fun x => l.contains (x : Int)).length : Int) by rw [hv]; omega) ?_
      refine And.intro (fun h4 => ?_) (fun h4 => ?_)
      · have h4 : (!(setB t.length fun x => l.contains (x : Int)).getD ((t.getD ((t.getD x []).getD (l.getD j 0).toNat 0).toNat []).getD (invN t x) 0).toNat false) = true := h4
        rw [g1] at h4
        refine And.intro (nrmB_false.2 fun hh => ?_).symm trivial
        have := hh x (mem_disI.2 (by omega)) _ (getD_mem (d := 0) hjl)
        rw [Int.toNat_natCast] at this
        rw [this] at h4; cases h4
      · have h4 : (!(setB t.length fun x => l.contains (x : Int)).getD ((t.getD ((t.getD x []).getD (l.getD j 0).toNat 0).toNat []).getD (invN t x) 0).toNat false) = false := h4
        rw [g1] at h4
        refine And.intro (by omega) ?_
        refine nx (j + 1) ⟨by omega, fun b hb => ?_⟩ (show l.length - (j + 1) < l.length - j by omega) (by repeat' first | refine And.intro ?_ ?_ | exact True.intro | (show (_ : Int) = (_ : Int); omega) | omega | exact rfl | (simp only [RO.len]; omega))
        by_cases e : b = j
        · subst e; simpa using h4
        · exact hQ b (by omega)
    · have h3 : (l.length : Int) ≤ (j : Int) := h3
      refine And.intro (by omega) ?_
      refine nx (x + 1) ⟨by omega, fun a b ha hb => ?_⟩ (show t.length - (x + 1) < t.length - x by omega) (by repeat' first | refine And.intro ?_ ?_ | exact True.intro | (show (_ : Int) = (_ : Int); omega) | omega | exact rfl | (simp only [RO.len]; omega))
      by_cases e : a = x
      · subst e; exact hQ b (by omega)
      · exact hP a b (by omega) hb
  · have h2 : (t.length : Int) ≤ (x : Int) := h2
    refine And.intro (nrmB_true.2 fun a ha b hb => ?_).symm trivial
    have := mem_disI.1 ha
    obtain ⟨j, hj, rfl⟩ := mem_getD 0 hb
    exact hP a.toNat j (by omega) hj
theorem rNrm_fn (t : List (List Int)) (l : List Int) : QF 38 [.ro (.rows .i64 t), .ro (.ints .i64 l)] (.bool (.v (grpB t && (clB t l && nrmB t (allI t) l)))) := mkQ Tryz.func38 (by decide +kernel) rfl (Nat.le_of_ble_eq_true rfl) fun hf => rNrm_k t l hf.2.1.1

/-- What has been joined: all of the rows before k, of row k the first j. -/
def cosR (t : List (List Int)) (l : List Int) (k j : Nat) (a b : Nat) : Prop := (a < k ∧ ∃ i, i < l.length ∧ b = en t a (l.getD i 0).toNat) ∨ (a = k ∧ ∃ i, i < j ∧ b = en t a (l.getD i 0).toNat)
theorem rCos_k (t : List (List Int)) (l : List Int) (h : Grp t) (hl : ClL t l) (hll : l.length ≤ 140737488355328) : fnK TY SP Tryz.f39 [.ro (.rows .i64 t), .ro (.ints .i64 l)] (.new (.ints .i64 (cosL t l))) := by
  have hs := h.toSh
  have hm := hs.most
  refine Or.inl (cq (rdis_fn t.length (by omega)) (And.intro rfl trivial) ?_)
  refine Exists.intro [] <| lp2 (fun (x : Nat) (_ : List Int) => [(14, .int .i64 x)]) (fun _ p => [(11, .vec 0 (.ints .i64 p) [])]) (fun x p => x ≤ t.length ∧ KerOf t.length p (cosR t l x 0)) (fun x _ => t.length - x) 0 (disI t.length) ⟨Nat.zero_le _, .dis fun a b hr => by rcases hr with ⟨h1, _⟩ | ⟨_, i, hi, _⟩ <;> omega⟩ (by repeat' first | refine And.intro ?_ ?_ | exact True.intro | (show (_ : Int) = (_ : Int); omega) | omega | exact rfl | (simp only [RO.len]; omega)) ?_
  rintro x p ⟨hx, hp⟩
  have hpl := hp.1
  refine And.intro (fun h2 => ?_) (fun h2 => ?_)
  · have h2 : (x : Int) < (t.length : Int) := h2
    have hxl : x < t.length := by omega
    have r1 := hs.len hxl
    refine Exists.intro [] <| lp2 (fun (j : Nat) (_ : List Int) => [(19, .int .i64 j)]) (fun _ p => [(11, .vec 0 (.ints .i64 p) [])]) (fun j p => j ≤ l.length ∧ KerOf t.length p (cosR t l x j)) (fun j _ => l.length - j) 0 p ⟨Nat.zero_le _, hp⟩ (by repeat' first | refine And.intro ?_ ?_ | exact True.intro | (show (_ : Int) = (_ : Int); omega) | omega | exact rfl | (simp only [RO.len]; omega)) ?_
    rintro j q ⟨hj, hq⟩
    have hql := hq.1
    refine And.intro (fun h3 => ?_) (fun h3 => ?_)
    · have h3 : (j : Int) < (l.length : Int) := h3
      have hjl : j < l.length := by omega
      have hlj := hl.ins _ (getD_mem (d := 0) hjl)
      have hy : (l.getD j 0).toNat < t.length := by omega
      have e1 := hs.ent hxl hy
      refine And.intro (by omega) ?_
      refine And.intro (show 0 ≤ (x : Int) ∧ (x : Int) < (t.length : Int) by omega) ?_
      refine And.intro (show 0 ≤ l.getD j 0 ∧ l.getD j 0 < ((t.getD x []).length : Int) by omega) ?_
      refine Or.inr (Or.inl (cm [] [(1000, 11)] (merge_fn q x (en t x (l.getD j 0).toNat) (by omega) (by omega) (by omega)) ?_))
      refine And.intro (by repeat' first | refine And.intro ?_ ?_ | exact True.intro | exact e1.1 | exact rfl | omega) ?_
      refine And.intro (by omega) ?_
      refine nx (j + 1, mrgL q x (en t x (l.getD j 0).toNat)) ⟨by omega, (hq.mrg (i := x) (j := en t x (l.getD j 0).toNat) hxl e1.2).congr (fun a b hr => ?_) fun a b hr => ?_⟩ (show l.length - (j + 1) < l.length - j by omega) (by repeat' first | refine And.intro ?_ ?_ | exact True.intro | (show (_ : Int) = (_ : Int); omega) | omega | exact rfl | (simp only [RO.len]; omega))
      · rcases hr with (⟨h1, h2⟩ | ⟨h1, i, hi, h2⟩) | ⟨rfl, rfl⟩
        · exact .rel (.inl ⟨h1, h2⟩)
        · exact .rel (.inr ⟨h1, i, by omega, h2⟩)
        · exact .rel (.inr ⟨rfl, j, by omega, rfl⟩)
      · rcases hr with ⟨h1, h2⟩ | ⟨h1, i, hi, h2⟩
        · exact .rel (.inl (.inl ⟨h1, h2⟩))
        · by_cases e : i = j
          · exact .rel (.inr ⟨h1, by rw [h2, h1, e]⟩)
          · exact .rel (.inl (.inr ⟨h1, i, by omega, h2⟩))
    · have h3 : (l.length : Int) ≤ (j : Int) := h3
      refine And.intro (by omega) ?_
      refine nx (x + 1, q) ⟨by omega, hq.congr (fun a b hr => ?_) fun a b hr => ?_⟩ (show t.length - (x + 1) < t.length - x by omega) (by repeat' first | refine And.intro ?_ ?_ | exact True.intro | (show (_ : Int) = (_ : Int); omega) | omega | exact rfl | (simp only [RO.len]; omega))
      · rcases hr with ⟨h1, h2⟩ | ⟨h1, i, hi, h2⟩
        · exact .rel (.inl ⟨by omega, h2⟩)
        · exact .rel (.inl ⟨by omega, i, by omega, h2⟩)
      · rcases hr with ⟨h1, i, hi, h2⟩ | ⟨_, i, hi, _⟩
        · by_cases e : a = x
          · exact .rel (.inr ⟨e, i, by omega, h2⟩)
          · exact .rel (.inl ⟨by omega, i, hi, h2⟩)
        · omega
  · have h2 : (t.length : Int) ≤ (x : Int) := h2
    refine Or.inl (cq (rcanon_fn p) (And.intro rfl trivial) ?_)
    refine And.intro (And.intro (by omega) ?_) trivial
    have he : canon p = cosL t l := ker_clsL (cos_pre hl h) hpl fun a b ha hb => by
      rw [hp.2 a b ha hb]
      constructor
      · intro e
        have : (a < t.length → b < t.length → cosE t l a b = true) ∧ (a < t.length ↔ b < t.length) := e.least (Q := fun a b => (a < t.length → b < t.length → cosE t l a b = true) ∧ (a < t.length ↔ b < t.length))
          (fun a => ⟨fun ha _ => (cos_pre hl h).1 a ha, Iff.rfl⟩) (fun a b hh => ⟨fun hb ha => cos_symm hl h ha hb (hh.1 ha hb), hh.2.symm⟩)
          (fun a b c h1 h2 => ⟨fun ha hc => (cos_pre hl h).2 a b c ha (h1.2.1 ha) hc (h1.1 ha (h1.2.1 ha)) (h2.1 (h1.2.1 ha) hc), h1.2.trans h2.2⟩)
          (fun a b hr => by
            rcases hr with ⟨h1, i, hi, h2⟩ | ⟨_, i, hi, _⟩
            · have hli := hl.ins _ (getD_mem (d := 0) hi)
              have hal : a < t.length := by omega
              have hb' := (hs.ent (x := a) (y := (l.getD i 0).toNat) hal (by omega)).2
              exact ⟨fun ha hb => (cosE_iff h ha hb).2 ⟨_, by omega, setI_iff.2 (by rw [Int.toNat_of_nonneg hli.1]; exact getD_mem hi), h2.symm⟩, ⟨fun _ => by rw [h2]; exact hb', fun _ => hal⟩⟩
            · omega)
        have hab := this.1 ha hb
        exact ⟨hab, cos_symm hl h ha hb hab⟩
      · rintro ⟨hab, _⟩
        obtain ⟨m, hm', hs', e⟩ := (cosE_iff h ha hb).1 hab
        obtain ⟨i, hi, hv⟩ := mem_getD 0 (setI_iff.1 hs')
        exact .rel (.inl ⟨by omega, i, hi, by rw [hv, Int.toNat_natCast]; exact e.symm⟩)
    rw [if_pos (by omega), he]
theorem rCos_fn (t : List (List Int)) (l : List Int) (h : Grp t) (hl : ClL t l) : QF 39 [.ro (.rows .i64 t), .ro (.ints .i64 l)] (.new (.ints .i64 (cosL t l))) := mkQ Tryz.func39 (by decide +kernel) rfl (Nat.le_of_ble_eq_true rfl) fun hf => rCos_k t l h hl hf.2.1.1
end Go.Proofs.YtdjbbjjmjopofaaGreat
