import Derived.Test.YtjlkhjgnfnfmgaaSep
import Derived.Test.YtjlkhjgnfnfmgaaIdealLaw
import Derived.Test.YtjlkhjgnfnfmgaaClone
import Derived.Test.YtjlkhjgnfnfmgaaGrpLaw
import Derived.Test.YtjlkhjgnfnfmgaaIdpLaw
import Derived.Test.YtjlkhjgnfnfmgaaCgFor
section
/- Plain: congruences that keep idempotents apart; the idempotents of the quotient by the greatest one. -/
namespace Go.Proofs.Ytjlkhjgnfnfmgaa
section
variable {t : List (List Int)} {p : List Int}
abbrev idmF (t : List (List Int)) (x : Nat) : Bool := decide (en t x x = x)
theorem idmF_mem {t : List (List Int)} {x : Int} : x ∈ ascV t.length (idmF t) ↔ ∃ i : Nat, i < t.length ∧ en t i i = i ∧ x = (i : Int) := by
  rw [ascV_mem]
  exact ⟨fun ⟨i, h1, h2, h3⟩ => ⟨i, h1, of_decide_eq_true h2, h3⟩, fun ⟨i, h1, h2, h3⟩ => ⟨i, h1, decide_eq_true h2, h3⟩⟩
theorem idm_nodup (t : List (List Int)) : (ascV t.length (idmF t)).Nodup := (pairwise_adj (ascV_asc _ _)).imp fun {a b} h e => by omega
theorem idm_cls (h : Semi t) (hp : Cg t p 0) {x : Nat} (hx : x < t.length) (e : p.getD (en t x x) 0 = p.getD x 0) : ∀ k, p.getD (pwN t x k) 0 = p.getD x 0
  | 0 => rfl
  | k + 1 => by
    have ih := idm_cls h hp hx e k
    have h1 := (hp _ _ x (pwN_lt h hx k) hx hx ih).2 (by decide)
    exact h1.trans e
theorem idm_quo (h : Semi t) (hp : IsCg t p 0) (hs : Sep t p) : (ascV (quoL t p).length (idmF (quoL t p))).length = (ascV t.length (idmF t)).length := by
  have hS := h.toSh
  have hpl := hp.len
  have hc : canon p = p := hp.val.2
  have hm : ((ascV t.length (idmF t)).map fun x => p.getD x.toNat 0).Nodup := by
    refine List.pairwise_map.2 ((List.Pairwise.and_mem.1 (idm_nodup t)).imp fun {a b} ⟨ha, hb, hab⟩ e => hab ?_)
    obtain ⟨i, hi, ei, rfl⟩ := idmF_mem.1 ha
    obtain ⟨j, hj, ej, rfl⟩ := idmF_mem.1 hb
    rw [Int.toNat_natCast, Int.toNat_natCast] at e
    exact congrArg _ (hs i j hi hj ei ej e)
  have hmem : ∀ c, c ∈ ((ascV t.length (idmF t)).map fun x => p.getD x.toNat 0) ↔ c ∈ ascV (quoL t p).length (idmF (quoL t p)) := by
    intro c
    rw [List.mem_map, idmF_mem]
    constructor
    · rintro ⟨a, ha, rfl⟩
      obtain ⟨i, hi, ei, rfl⟩ := idmF_mem.1 ha
      have hcl := cls_lt hc (x := i) (by omega)
      refine ⟨(p.getD i 0).toNat, by rw [quoL_len]; exact hcl.2.1, ?_, ?_⟩
      · rw [quo_en_hom hS hpl hc hp.cg hi hi, ei]
      · rw [Int.toNat_natCast]; exact hcl.2.2
    · rintro ⟨d, hd, ed, rfl⟩
      rw [quoL_len] at hd
      obtain ⟨x, hx, rfl⟩ := cls_rep hpl hc hd
      rw [quo_en_hom hS hpl hc hp.cg hx hx] at ed
      have hxx := (hS.ent hx hx).2
      have c1 := cls_lt hc (x := x) (by omega)
      have c2 := cls_lt hc (x := en t x x) (by omega)
      have e : p.getD (en t x x) 0 = p.getD x 0 := by omega
      obtain ⟨k, _, ek, e2⟩ := ip_ex h hx
      have h3 := idm_cls h hp.cg hx e k
      refine ⟨(pwN t x k : Nat), idmF_mem.2 ⟨_, pwN_lt h hx k, ek, rfl⟩, ?_⟩
      rw [Int.toNat_natCast, h3]; exact c1.2.2
  have e : ((ascV t.length (idmF t)).map fun x => p.getD x.toNat 0).length = (ascV t.length (idmF t)).length := List.length_map _
  rw [← e]
  exact Nat.le_antisymm ((idm_nodup _).length_le_of_subset fun c hc => (hmem c).2 hc) (hm.length_le_of_subset fun c hc => (hmem c).1 hc)
theorem sep_list : Sep t p ↔ ∀ i j, j < i → i < (ascV t.length (idmF t)).length → p.getD ((ascV t.length (idmF t)).getD i 0).toNat 0 ≠ p.getD ((ascV t.length (idmF t)).getD j 0).toNat 0 := by
  have hnd := idm_nodup t
  constructor
  · intro h i j hji hi e
    obtain ⟨x, hx, ex, e1⟩ := idmF_mem.1 (getD_mem (d := 0) hi)
    obtain ⟨y, hy, ey, e2⟩ := idmF_mem.1 (getD_mem (d := 0) (show j < (ascV t.length (idmF t)).length by omega))
    rw [e1, e2, Int.toNat_natCast, Int.toNat_natCast] at e
    have e3 := h x y hx hy ex ey e
    have e4 : (ascV t.length (idmF t)).getD i 0 = (ascV t.length (idmF t)).getD j 0 := by rw [e1, e2, e3]
    rw [getD_eq hi, getD_eq (by omega : j < _)] at e4
    have := (List.getElem_inj hnd).1 e4
    omega
  · intro h x y hx hy ex ey e
    obtain ⟨i, hi, e1⟩ := mem_getD 0 (idmF_mem.2 ⟨x, hx, ex, rfl⟩)
    obtain ⟨j, hj, e2⟩ := mem_getD 0 (idmF_mem.2 ⟨y, hy, ey, rfl⟩)
    rcases Nat.lt_trichotomy i j with hij | hij | hij
    · exact absurd (by rw [e1, e2, Int.toNat_natCast, Int.toNat_natCast]; exact e.symm) (h j i hij hj)
    · subst hij
      rw [e1] at e2; omega
    · exact absurd (by rw [e1, e2, Int.toNat_natCast, Int.toNat_natCast]; exact e) (h i j hij hi)
end
end Go.Proofs.Ytjlkhjgnfnfmgaa
end
section
/- mult.choose (the elements with a property), mult.Idempotents: contracts. -/
namespace Go.Proofs.Ytjlkhjgnfnfmgaa
open Go Go.AM
set_option maxRecDepth 100000
def flP (P : Nat → Bool) (k : Nat) : List Int := ((List.range k).filter P).map fun i : Nat => (i : Int)
theorem flP_yes {P : Nat → Bool} {k : Nat} (h : P k = true) : flP P (k + 1) = flP P k ++ [(k : Int)] := by simp [flP, List.range_succ, List.filter_append, h]
theorem flP_no {P : Nat → Bool} {k : Nat} (h : P k = false) : flP P (k + 1) = flP P k := by simp [flP, List.range_succ, List.filter_append, h]
theorem flP_mem {P : Nat → Bool} {k : Nat} {x : Int} : x ∈ flP P k ↔ ∃ i : Nat, i < k ∧ P i = true ∧ x = (i : Int) := by
  simp only [flP, List.mem_map, List.mem_filter, List.mem_range]
  exact ⟨fun ⟨i, ⟨h1, h2⟩, h3⟩ => ⟨i, h1, h2, h3.symm⟩, fun ⟨i, h1, h2, h3⟩ => ⟨i, ⟨h1, h2⟩, h3.symm⟩⟩
theorem flP_all {P : Nat → Bool} : ∀ {k : Nat}, (∀ i, i < k → P i = true) → flP P k = elemsL k
  | 0, _ => rfl
  | k + 1, h => by rw [flP_yes (h k (by omega)), flP_all fun i hi => h i (by omega)]; simp [elemsL, List.range_succ]
theorem flP_asc {n : Nat} {P : Nat → Bool} : flP P n = ascV n P :=
  asc_ext (asc_of (List.pairwise_map.2 (((List.pairwise_lt_range (n := n)).filter P).imp fun {a b} h => by omega))) (ascV_asc n P) fun x => by rw [flP_mem, ascV_mem]
section
variable (t : List (List Int)) (g : FuncId) (P : Nat → Bool)
abbrev chB : AV := .cfn g (.rows3 [t]) 0
abbrev chS : Store := [(1000, .box [chB t g])]
abbrev WantP : Prop := ∀ x : Nat, x < t.length → QF g [.int .i64 x, .rptr (.rows3 [t]) 0] (.bool (.v (P x)))
theorem ch1_k (hg : WantP t g P) (x : Nat) (hx : x < t.length) : fnMK TY SP Try.f143 [.int .i64 x, .ptr 1000 0] (chS t g) (.bool (.v (!P x))) (chS t g) := by
  refine cq (hg x hx) (And.intro rfl (And.intro (And.intro rfl rfl) trivial)) ?_
  exact And.intro ⟨⟨⟨rfl, rfl, rfl⟩, trivial⟩, trivial⟩ rfl
theorem ch1_fn (hg : WantP t g P) (x : Nat) (hx : x < t.length) : MF 143 [.int .i64 x, .ptr 1000 0] (chS t g) (.bool (.v (!P x))) (chS t g) := mkM Try.func143 (by decide +kernel) rfl (Nat.le_of_ble_eq_true rfl) fun _ => ch1_k t g P hg x hx
abbrev chS2 (l : List Int) : Store := [(1001, .vec 0 (.ints .i64 l) []), (1000, .box [chB t g])]
def fstN (P : Nat → Bool) (n : Nat) : Int := match (List.range n).find? (fun x => !P x) with | some x => (x : Int) | none => -1
theorem fst_yes {P : Nat → Bool} {n y : Nat} (hy : y < n) (h : ∀ z, z < y → P z = true) (e : P y = false) : fstN P n = (y : Int) := by
  have : (List.range n).find? (fun x => !P x) = some y := by
    rw [List.find?_range_eq_some]; exact ⟨by simp [e], by simp [hy], fun j hj => by simp [h j hj]⟩
  unfold fstN; rw [this]
theorem fst_no {P : Nat → Bool} {n : Nat} (h : ∀ z, z < n → P z = true) : fstN P n = -1 := by
  have : (List.range n).find? (fun x => !P x) = none := by
    rw [List.find?_eq_none]; intro x hx; simp [h x (List.mem_range.1 hx)]
  unfold fstN; rw [this]
theorem chI_k (hg : WantP t g P) (hn : t.length ≤ 400) : fnMK TY SP Try.f101 [.vec 1001, .fn 143 [.ptr 1000 0]] (chS2 t g (elemsL t.length)) (.int .i64 (fstN P t.length)) (chS2 t g (elemsL t.length)) := by
  have hel : (elemsL t.length).length = t.length := by simp [elemsL]
  have hge : ∀ k, k < t.length → (elemsL t.length).getD k 0 = (k : Int) := fun k hk => by simp [elemsL, List.getD, hk]
  refine Exists.intro [] <| lp (X := Nat) (fun y => [(8, .int .i64 y)]) (fun _ => []) (fun y => y ≤ t.length ∧ ∀ k, k < y → P k = true) (fun y => t.length - y) 0 ⟨Nat.zero_le _, fun k hk => absurd hk (Nat.not_lt_zero _)⟩ (by repeat' first | refine And.intro ?_ ?_ | exact True.intro | (show (_ : Int) = (_ : Int); omega) | omega | exact rfl | (simp only [RO.len]; omega)) ?_
  rintro y ⟨hy, hn2⟩
  refine And.intro (fun h1 => ?_) (fun h1 => ?_)
  · have h1 : (y : Int) < ((elemsL t.length).length : Int) := h1
    have hyl : y < t.length := by omega
    have e0 := hge y hyl
    refine And.intro (by omega) ?_
    refine Or.inr (cm [] [(1000, 1000)] (ch1_fn t g P hg y hyl) ?_)
    refine And.intro ?_ ?_
    · repeat' first | refine And.intro ?_ ?_ | exact True.intro | exact e0 | (show (_ : Int) = (_ : Int); omega) | omega | exact rfl | (simp only [RO.len]; omega)
    refine And.intro (fun h2 => ?_) (fun h2 => ?_)
    · have h2 : (!P y) = true := h2
      refine And.intro (by repeat' first | refine And.intro ?_ ?_ | exact True.intro | (show (_ : Int) = (_ : Int); omega) | omega | exact rfl | (simp only [RO.len]; omega)) ?_
      show (y : Int) = fstN P t.length
      exact (fst_yes hyl hn2 (by simpa using h2)).symm
    · have h2 : (!P y) = false := h2
      refine And.intro (by omega) ?_
      refine nx (y + 1) ⟨by omega, fun k hk => ?_⟩ (show t.length - (y + 1) < t.length - y by omega) (by repeat' first | refine And.intro ?_ ?_ | exact True.intro | (show (_ : Int) = (_ : Int); omega) | omega | exact rfl | (simp only [RO.len]; omega))
      by_cases e : k = y
      · rw [e]; simpa using h2
      · exact hn2 k (by omega)
  · have h1 : ((elemsL t.length).length : Int) ≤ (y : Int) := h1
    refine And.intro (by repeat' first | refine And.intro ?_ ?_ | exact True.intro | (show (_ : Int) = (_ : Int); omega) | omega | exact rfl | (simp only [RO.len]; omega)) ?_
    show (-1 : Int) = fstN P t.length
    exact (fst_no fun k hk => hn2 k (by omega)).symm
theorem chI_fn (hg : WantP t g P) (hn : t.length ≤ 400) : MF 101 [.vec 1001, .fn 143 [.ptr 1000 0]] (chS2 t g (elemsL t.length)) (.int .i64 (fstN P t.length)) (chS2 t g (elemsL t.length)) := mkM Try.func101 (by decide +kernel) rfl (Nat.le_of_ble_eq_true rfl) fun _ => chI_k t g P hg hn
abbrev chS3 (l : List Int) : Store := [(500, .vec 0 (.ints .i64 l) []), (1000, .box [chB t g])]
theorem chDA_k (hg : WantP t g P) (hn : t.length ≤ 400) (ha : ∀ z, z < t.length → P z = true) : fnMK TY SP Try.f141 [.vec 500, .fn 143 [.ptr 1000 0]] (chS3 t g (elemsL t.length)) (.vec 500) (chS3 t g (flP P t.length)) := by
  refine Or.inr (Or.inl (cm [] [(1000, 1000), (1001, 500)] (chI_fn t g P hg hn) ?_))
  refine And.intro ?_ ?_
  · repeat' first | refine And.intro ?_ ?_ | exact True.intro | (show (_ : Int) = (_ : Int); omega) | omega | exact rfl | (simp only [RO.len]; omega)
  refine And.intro (fun _ => ?_) (fun h1 => absurd (fst_no ha) h1)
  refine And.intro ?_ (And.intro rfl (And.intro trivial trivial))
  refine And.intro (And.intro ⟨Nat.le_refl _, Nat.zero_le _⟩ (congrArg (RO.ints .i64) (flP_all ha).symm)) ?_
  exact And.intro ⟨⟨rfl, rfl, rfl⟩, trivial⟩ trivial
structure DelI (P : Nat → Bool) (n i j : Nat) (r : List Int) : Prop where
  jn : j ≤ n
  ij : i < j
  len : r.length = n
  cnt : (flP P j).length = i
  hd : r.take i = flP P j
  tl : ∀ k, j ≤ k → k < n → r.getD k 0 = (k : Int)
theorem DelI.start {n y : Nat} (hy : y < n) (h : ∀ z, z < y → P z = true) (e : P y = false) : DelI P n y (y + 1) (elemsL n) := by
  have hf : flP P (y + 1) = elemsL y := by rw [flP_no e, flP_all h]
  refine ⟨by omega, by omega, by simp [elemsL], by rw [hf]; simp [elemsL], ?_, fun k _ hk => by simp [elemsL, List.getD, hk]⟩
  rw [hf]; unfold elemsL; rw [← List.map_take, List.take_range, Nat.min_eq_left (by omega)]
theorem DelI.yes {n i j : Nat} {r : List Int} (h : DelI P n i j r) (hj : j < n) (e : P j = true) : DelI P n (i + 1) (j + 1) (r.set i (r.getD j 0)) := by
  have h1 := h.ij
  refine ⟨by omega, by omega, by rw [List.length_set]; exact h.len, by rw [flP_yes e, List.length_append, h.cnt]; rfl, ?_, fun k hk hkn => by rw [getD_set_ne (by omega)]; exact h.tl k (by omega) hkn⟩
  rw [flP_yes e, ← h.hd, h.tl j (Nat.le_refl _) hj]
  have hi : i < (r.set i ((j : Nat) : Int)).length := by rw [List.length_set, h.len]; omega
  rw [List.take_succ_eq_append_getElem hi, List.take_set_of_le (Nat.le_refl _), List.getElem_set_self]
theorem DelI.no {n i j : Nat} {r : List Int} (h : DelI P n i j r) (hj : j < n) (e : P j = false) : DelI P n i (j + 1) r :=
  ⟨by omega, by have := h.ij; omega, h.len, by rw [flP_no e]; exact h.cnt, by rw [flP_no e]; exact h.hd, fun k hk hkn => h.tl k (by omega) hkn⟩
theorem chDB_k (hg : WantP t g P) (hn : t.length ≤ 400) (y : Nat) (hy : y < t.length) (ha : ∀ z, z < y → P z = true) (e : P y = false) : fnMK TY SP Try.f141 [.vec 500, .fn 143 [.ptr 1000 0]] (chS3 t g (elemsL t.length)) (.vec 500) (chS3 t g (flP P t.length)) := by
  have hf := fst_yes hy ha e
  refine Or.inr (Or.inl (cm [] [(1000, 1000), (1001, 500)] (chI_fn t g P hg hn) ?_))
  refine And.intro ?_ ?_
  · repeat' first | refine And.intro ?_ ?_ | exact True.intro | (show (_ : Int) = (_ : Int); omega) | omega | exact rfl | (simp only [RO.len]; omega)
  refine And.intro (fun h1 => absurd (show fstN P t.length = -1 from h1) (by omega)) (fun _ => ?_)
  refine And.intro (show -9223372036854775808 ≤ fstN P t.length + 1 ∧ fstN P t.length + 1 ≤ 9223372036854775807 by omega) ?_
  refine Exists.intro [] <| lp3 (fun (i : Nat) (j : Nat) (_ : List Int) => [(5, .int .i64 i), (6, .int .i64 j)]) (fun _ _ r => [(500, .vec 0 (.ints .i64 r) [])]) (fun i j r => DelI P t.length i j r) (fun _ j _ => t.length - j) y (y + 1) (elemsL t.length) (DelI.start P hy ha e) (by repeat' first | refine And.intro ?_ ?_ | exact True.intro | exact hf | (show (_ : Int) = (_ : Int); omega) | omega | exact rfl | (simp only [RO.len]; omega)) ?_
  rintro i j r hI
  have hjn := hI.jn
  have hij := hI.ij
  have hlen := hI.len
  refine And.intro (fun h1 => ?_) (fun h1 => ?_)
  · have h1 : (j : Int) < (r.length : Int) := h1
    have hj : j < t.length := by omega
    have e0 : r.getD j 0 = (j : Int) := hI.tl j (Nat.le_refl _) hj
    refine And.intro (by omega) ?_
    refine Or.inr (cm [] [(1000, 1000)] (ch1_fn t g P hg j hj) ?_)
    refine And.intro ?_ ?_
    · repeat' first | refine And.intro ?_ ?_ | exact True.intro | exact e0 | (show (_ : Int) = (_ : Int); omega) | omega | exact rfl | (simp only [RO.len]; omega)
    refine And.intro (fun h2 => ?_) (fun h2 => ?_)
    · have h2 : (!(!P j)) = true := h2
      have h2 : P j = true := by simpa using h2
      refine And.intro (by omega) ?_
      refine And.intro (by omega) ?_
      refine And.intro (by omega) ?_
      refine And.intro (by omega) ?_
      exact nx (i + 1, j + 1, r.set i (r.getD j 0)) (hI.yes P hj h2) (show t.length - (j + 1) < t.length - j by omega) (by repeat' first | refine And.intro ?_ ?_ | exact True.intro | (show (_ : Int) = (_ : Int); omega) | omega | exact rfl | (simp only [RO.len]; omega))
    · have h2 : (!(!P j)) = false := h2
      have h2 : P j = false := by simpa using h2
      refine And.intro (by omega) ?_
      exact nx (i, j + 1, r) (hI.no P hj h2) (show t.length - (j + 1) < t.length - j by omega) (by repeat' first | refine And.intro ?_ ?_ | exact True.intro | (show (_ : Int) = (_ : Int); omega) | omega | exact rfl | (simp only [RO.len]; omega))
  · have h1 : (r.length : Int) ≤ (j : Int) := h1
    have hje : j = t.length := by omega
    subst hje
    have ht : (r.take i ++ List.replicate (r.length - i) 0).length = r.length := by simp; omega
    have hres : List.drop 0 (List.take i (List.take i r ++ List.replicate (r.length - i) 0)) = flP P t.length := by
      rw [List.drop_zero, List.take_append_of_le_length (by rw [List.length_take]; omega), List.take_take, Nat.min_self]; exact hI.hd
    refine And.intro (by omega) ?_
    refine And.intro (by omega) ?_
    refine And.intro (show 0 ≤ (i : Int) ∧ (i : Int) ≤ ((r.take i ++ List.replicate (r.length - i) 0).length : Int) by omega) ?_
    refine Or.inr ?_
    repeat' first | refine And.intro ?_ ?_ | exact True.intro | exact congrArg (RO.ints .i64) hres | omega | exact rfl | (simp only [RO.len]; omega)
theorem chD_fn (hg : WantP t g P) (hn : t.length ≤ 400) : MF 141 [.vec 500, .fn 143 [.ptr 1000 0]] (chS3 t g (elemsL t.length)) (.vec 500) (chS3 t g (flP P t.length)) := mkM Try.func141 (by decide +kernel) rfl (Nat.le_of_ble_eq_true rfl) fun _ => by
  by_cases h : ∃ y, y < t.length ∧ P y = false
  · obtain ⟨y, hy, hl, e⟩ : ∃ y, y < t.length ∧ (∀ z, z < y → P z = true) ∧ P y = false := by
      obtain ⟨y, hy, e, hmin⟩ := least_ex (p := fun y => P y = false) h
      exact ⟨y, hy, fun z hz => by have := hmin z hz; simpa using this, e⟩
    exact chDB_k t g P hg hn y hy hl e
  · exact chDA_k t g P hg hn fun z hz => by
      cases e : P z with
      | true => rfl
      | false => exact absurd ⟨z, hz, e⟩ h
theorem choose_k (hg : WantP t g P) (h : validV t = 0) : fnK TY SP Try.f71 [.ro (.rows .i64 t), .cfn g (.rows3 [t]) 0] (.new (.ints .i64 (ascV t.length P))) := by
  have hn := (valid_zero.1 h).most
  refine Or.inl (cq (mvalid_fn t) (And.intro rfl trivial) ?_)
  refine And.intro (fun h1 => ?_) (fun _ => ?_)
  · have h1 : (!decide (validV t = 0)) = true := h1
    rw [decide_eq_true h] at h1; cases h1
  refine Or.inl (cq (elems_fn t hn) (And.intro rfl trivial) ?_)
  refine Or.inr (Or.inl (cm [] [(500, 9), (1000, 3)] (chD_fn t g P hg hn) ?_))
  refine And.intro ?_ ?_
  · repeat' first | refine And.intro ?_ ?_ | exact True.intro | (show (_ : Int) = (_ : Int); omega) | omega | exact rfl | (simp only [RO.len]; omega)
  repeat' first | refine And.intro ?_ ?_ | exact True.intro | exact congrArg (RO.ints .i64) flP_asc | omega | exact rfl | (simp only [RO.len]; omega)
theorem choose_fn (hg : WantP t g P) (h : validV t = 0) : QF 71 [.ro (.rows .i64 t), .cfn g (.rows3 [t]) 0] (.new (.ints .i64 (ascV t.length P))) := mkQ Try.func71 (by decide +kernel) rfl (Nat.le_of_ble_eq_true rfl) fun _ => choose_k t g P hg h
end
/-! ### Idempotents -/
section
variable (t : List (List Int))
def idzB (t : List (List Int)) (x : Nat) : Bool := decide (en t x x = x)
theorem izC_k (h : Sh t) (x : Nat) (hx : x < t.length) : fnK TY SP Try.f72 [.int .i64 x, .rptr (.rows3 [t]) 0] (.bool (.v (idzB t x))) := by
  have rx := h.len hx
  have e1 := h.ent hx hx
  refine And.intro (show 0 ≤ (x : Int) ∧ (x : Int) < (t.length : Int) by omega) ?_
  refine And.intro (show 0 ≤ (x : Int) ∧ (x : Int) < ((t.getD x []).length : Int) by omega) ?_
  refine And.intro ?_ trivial
  show decide ((t.getD x []).getD x 0 = (x : Int)) = idzB t x
  unfold idzB
  exact decide_eq_decide.2 (by omega)
theorem izC_fn (h : Sh t) : WantP t 72 (idzB t) := fun x hx => mkQ Try.func72 (by decide +kernel) rfl (Nat.le_of_ble_eq_true rfl) fun _ => izC_k t h x hx
abbrev idzL (t : List (List Int)) : List Int := ascV t.length (idzB t)
theorem idm_k (h : validV t = 0) : fnK TY SP Try.f21 [.ro (.rows .i64 t)] (.new (.ints .i64 (idzL t))) := by
  have hs := (valid_zero.1 h).toSh
  refine Or.inr ?_
  refine Or.inl (cq (choose_fn t 72 (idzB t) (izC_fn t hs) h) (And.intro rfl (And.intro ⟨rfl, rfl, rfl⟩ trivial)) ?_)
  exact And.intro (And.intro (by omega) rfl) trivial
theorem idm_fn (h : validV t = 0) : QF 21 [.ro (.rows .i64 t)] (.new (.ints .i64 (idzL t))) := mkQ Try.func21 (by decide +kernel) rfl (Nat.le_of_ble_eq_true rfl) fun _ => idm_k t h
end
end Go.Proofs.Ytjlkhjgnfnfmgaa
end
section
/- Plain: congr.Generated makes the generated congruence. -/
namespace Go.Proofs.Ytjlkhjgnfnfmgaa
open Go Go.AM
structure GrI (t : List (List Int)) (gens : List Int) (side : Int) (l : List (Int × Int)) (i : Nat) (p : List Int) (r : Nat → Nat) : Prop where
  fo : Fo t.length p r
  ex : ∃ J : Nat → Nat → Prop, KerR t.length r J ∧ (∀ a b, J a b → a < t.length ∧ b < t.length ∧ Cgr t side (relP l) a b) ∧
    (∀ a b, J a b → ∀ g ∈ gens, (side ≠ 2 → Eg J (en t g.toNat a) (en t g.toNat b)) ∧ (side ≠ 1 → Eg J (en t a g.toNat) (en t b g.toNat))) ∧ ∀ q ∈ l.take i, Eg J q.1.toNat q.2.toNat
section
variable {t : List (List Int)} {gens : List Int} {side : Int} {l : List (Int × Int)} {i : Nat} {p : List Int} {r : Nat → Nat}
theorem GrI.start (t : List (List Int)) (gens : List Int) (side : Int) (l : List (Int × Int)) : GrI t gens side l 0 (disI t.length) id :=
  ⟨Fo.dis _, fun _ _ => False, KerR.dis _, fun _ _ h => h.elim, fun _ _ h => h.elim, fun q hq => by simp at hq⟩
theorem GrI.next (hs : Sh t) (hg : ∀ g ∈ gens, 0 ≤ g ∧ g < (t.length : Int)) (hl : inW t.length l) (h : GrI t gens side l i p r) (hi : i < l.length) {q : List Int} {u : Nat → Nat} {k : Nat} (hsp : Sp t gens side q u k p r [l.getD i (0, 0)]) : GrI t gens side l (i + 1) q u := by
  obtain ⟨J, h1, h2, h3, h4⟩ := h.ex
  have hm : l.getD i (0, 0) ∈ l := getD_mem hi
  have hq := hl _ hm
  have hrel : relP l (l.getD i (0, 0)).1.toNat (l.getD i (0, 0)).2.toNat := by
    show (_, _) ∈ l
    rw [Int.toNat_of_nonneg hq.1.1, Int.toNat_of_nonneg hq.2.1]; exact hm
  have up : ∀ {a b : Nat}, Eg J a b → Eg (fun a b => J a b ∨ ((a : Int), (b : Int)) ∈ [l.getD i (0, 0)]) a b := fun e => e.mono fun a b h => .rel (.inl h)
  obtain ⟨hfo, J', k1, k2, k3, k4, k5⟩ := hsp.law (Q := relP l) hs hg J h.fo (fun z hz => by rw [List.mem_singleton] at hz; subst hz; exact hq) h1 h2 (fun w hw => by rw [List.mem_singleton] at hw; subst hw; exact .rel hrel)
    fun a b hJ g hgm => ⟨fun h0 => up ((h3 a b hJ g hgm).1 h0), fun h0 => up ((h3 a b hJ g hgm).2 h0)⟩
  refine ⟨hfo, J', k1, k4, k5, fun z hz => ?_⟩
  rw [take_get (d := (0, 0)) hi] at hz
  rcases List.mem_append.1 hz with hz | hz
  · exact (h4 z hz).mono fun a b h => .rel (k2 a b h)
  · rw [List.mem_singleton] at hz
    subst hz
    exact k3 _ _ (by rw [Int.toNat_of_nonneg hq.1.1, Int.toNat_of_nonneg hq.2.1]; simp)
theorem GrI.done (hs : Semi t) (hg : Spans t gens) (hl : inW t.length l) (h : GrI t gens side l i p r) (hi : l.length ≤ i) : canon (rtL t.length r) = genP t side (relP l) := by
  obtain ⟨J, h1, h2, h3, h4⟩ := h.ex
  have hS := hs.toSh
  have key : ∀ a b, a < t.length → b < t.length → ((rtL t.length r).getD a 0 = (rtL t.length r).getD b 0 ↔ Eg J a b) := h1.ker.2
  refine genP_of (rtL_len _ _) (fun a b ha hb e => ?_) (fun a b hR => ?_) fun x y s hx hy hsl e => ?_
  · exact ((key a b ha hb).1 e).least .refl (fun _ _ => .symm) (fun _ _ _ => .trans) fun a b h => (h2 a b h).2.2
  · have hlt := relP_lt hl hR
    refine (key a b hlt.1 hlt.2).2 ?_
    have := h4 _ (by rw [List.take_of_length_le hi]; exact hR)
    simpa using this
  · have e := (key x y hx hy).1 e
    have hc := eg_gens hs (fun a b h => ⟨(h2 a b h).1, (h2 a b h).2.1⟩) hg.el h3 (hg.all s hsl) x y hx hy e
    exact ⟨fun h0 => (key _ _ (hS.ent hsl hx).2 (hS.ent hsl hy).2).2 (hc.1 h0), fun h0 => (key _ _ (hS.ent hx hsl).2 (hS.ent hy hsl).2).2 (hc.2 h0)⟩
end
end Go.Proofs.Ytjlkhjgnfnfmgaa
end
section
/- Package congr: spread: contract. -/
namespace Go.Proofs.Ytjlkhjgnfnfmgaa
open Go Go.AM
set_option maxRecDepth 100000
set_option maxHeartbeats 1000000 in
theorem cspr_k (t : List (List Int)) (gens : List Int) (side : Int) (hs : Sh t) (hg : ∀ g ∈ gens, 0 ≤ g ∧ g < (t.length : Int)) (hgl : gens.length ≤ t.length) (p q : List Int) (r u : Nat → Nat) (W : List (Int × Int)) (k : Nat) (hf : Fo t.length p r) (hW : inW t.length W) (hWl : W.length ≤ 1000) (h : Sp t gens side q u k p r W) :
    fnMK TY SP Try.f68 [.ptr 1000 0, .ro (.rows .i64 t), .ro (.ints .i64 gens), .vec 1002, .int .i64 side] (stk1 1002 ((1002, .vec 0 (.pairs W) []) :: foS p (cntR t.length r))) (.tup []) ((1002, .jnk W.length 2) :: foS q (cntR t.length u)) := by
  have hmost := hs.most
  have n10 : ¬ (1 : Int) = ((0 : Nat) : Int) := by omega
  have n01 : ¬ (0 : Int) = ((0 + 1 : Nat) : Int) := by omega
  have hb0 : W.length + 2 * gens.length * cntR t.length r ≤ 400000 := by
    have h1 := cnt_le t.length r
    have h2 : 2 * gens.length * cntR t.length r ≤ 800 * 400 := Nat.mul_le_mul (by omega) (by omega)
    omega
  refine Exists.intro [] <| lp4 (fun (_ : Nat) (_ : List Int) (_ : Nat → Nat) (_ : List (Int × Int)) => [(3, .vec 1002)]) (fun _ p r V => [(1002, .stk W.length (.pairs V)), (1000, .box [.vec 1001, .int .i64 (cntR t.length r)]), (1001, .vec 0 (.ints .i64 p) [])]) (fun k p r V => Sp t gens side q u k p r V ∧ Fo t.length p r ∧ inW t.length V ∧ V.length + 2 * gens.length * cntR t.length r ≤ 400000) (fun k _ _ _ => k) k p r W ⟨h, hf, hW, hb0⟩ (by repeat' first | refine And.intro ?_ ?_ | exact True.intro | (show (_ : Int) = (_ : Int); omega) | omega | exact rfl | (simp only [RO.len]; omega)) ?_
  rintro k p r V ⟨h, hf, hW, hb⟩
  refine And.intro (fun h1 => ?_) (fun h1 => ?_)
  · have h1 : (0 : Int) < (V.length : Int) := h1
    have hV0 : 0 < V.length := by omega
    obtain ⟨k2, hk2, hst⟩ := Sp.top h hV0
    have hlast := hW _ (getD_mem (d := ((0 : Int), (0 : Int))) (l := V) (i := V.length - 1) (by omega))
    obtain ⟨x, hxe⟩ : ∃ x : Nat, (x : Int) = (V.getD (V.length - 1) (0, 0)).1 := ⟨_, Int.toNat_of_nonneg hlast.1.1⟩
    obtain ⟨y, hye⟩ : ∃ y : Nat, (y : Int) = (V.getD (V.length - 1) (0, 0)).2 := ⟨_, Int.toNat_of_nonneg hlast.2.1⟩
    have hx : x < t.length := by omega
    have hy : y < t.length := by omega
    rw [← hxe, ← hye] at hst
    simp only [Int.toNat_natCast] at hst
    have hnl : ((V.length : Int) - 1).toNat = V.length - 1 := by omega
    have hx1 : pairJ 0 (V.getD ((V.length : Int) - 1).toNat (0, 0)) = (x : Int) := by rw [hnl]; exact hxe.symm
    have hy1 : pairJ (0 + 1) (V.getD ((V.length : Int) - 1).toNat (0, 0)) = (y : Int) := by rw [hnl]; exact hye.symm
    have hcut : (V.take ((V.length : Int) - 1).toNat).drop 0 = V.take (V.length - 1) := by rw [hnl]; rfl
    have hVt : inW t.length (V.take (V.length - 1)) := fun z hz => hW z (List.mem_of_mem_take hz)
    have hVl : (V.take (V.length - 1)).length = V.length - 1 := by rw [List.length_take]; omega
    have hc := jn_cnt hf hx hy
    have hfo := jn_fo hf hx hy
    refine Or.inl ?_
    refine Exists.intro [false, false, false, false, false, false, false, false, false, false, false, false, false, false, false, false] (And.intro (by decide +kernel) ?_)
    refine And.intro (by omega) ?_
    refine And.intro (show 0 ≤ (V.length : Int) - 1 ∧ (V.length : Int) - 1 < (V.length : Int) by omega) ?_
    refine And.intro (by omega) ?_
    refine And.intro (fun _ => ?_) (And.intro (fun h => absurd h n01) trivial)
    refine And.intro (by omega) ?_
    refine And.intro (show 0 ≤ (V.length : Int) - 1 ∧ (V.length : Int) - 1 < (V.length : Int) by omega) ?_
    refine And.intro (by omega) ?_
    refine And.intro (fun h => absurd h n10) (And.intro (fun _ => ?_) trivial)
    refine And.intro (by omega) ?_
    refine And.intro (show 0 ≤ (V.length : Int) - 1 ∧ (V.length : Int) - 1 ≤ (V.length : Int) by omega) ?_
    refine Or.inr (Or.inl (cm [] [(1000, 1000), (1001, 1001)] (cjoin_fn t.length p r x y hf hx hy (by omega)) ?_))
    refine And.intro (by repeat' first | refine And.intro ?_ ?_ | exact True.intro | exact hx1 | exact hy1 | (show (_ : Int) = (_ : Int); omega) | omega | exact rfl) ?_
    refine And.intro (fun h2 => ?_) (fun h2 => ?_)
    · have h2 : (!decide (r x ≠ r y)) = true := h2
      have h2 : r x = r y := by simpa using h2
      rw [if_pos h2, List.append_nil] at hst
      rw [if_pos h2] at hc
      exact nx (k2, jnP r p x y, jnR r x y, (V.take ((V.length : Int) - 1).toNat).drop 0) ⟨by rw [hcut]; exact hst, hfo, by rw [hcut]; exact hVt, by rw [hcut, hVl, ← Nat.add_zero (cntR t.length (jnR r x y)), hc]; omega⟩ (show k2 < k by omega) (by repeat' first | refine And.intro ?_ ?_ | exact True.intro | (show (_ : Int) = (_ : Int); omega) | omega | exact rfl | (simp only [RO.len]; omega))
    · have h2 : (!decide (r x ≠ r y)) = false := h2
      have h2 : r x ≠ r y := by simpa using h2
      rw [if_neg h2] at hst hc
      refine Exists.intro [10, 11, 14, 15, 16, 17, 18, 19, 20, 21, 22, 23, 24, 25, 26, 27, 28, 29, 30, 31, 32, 33, 34, 35, 36, 37, 38] <| lp2 (fun (j : Nat) (_ : List (Int × Int)) => [(43, .int .i64 j), (3, .vec 1002), (10, .int .i64 (x : Int)), (11, .int .i64 (y : Int))]) (fun _ B => [(1002, .stk W.length (.pairs B))]) (fun j B => j ≤ gens.length ∧ B = V.take (V.length - 1) ++ puL t side x y (gens.take j)) (fun j _ => gens.length - j) 0 ((V.take ((V.length : Int) - 1).toNat).drop 0) ⟨Nat.zero_le _, by rw [hcut]; simp [puL]⟩ (by repeat' first | refine And.intro ?_ ?_ | exact True.intro | exact hx1 | exact hy1 | (show (_ : Int) = (_ : Int); omega) | omega | exact rfl) ?_
      rintro j B ⟨hj, hB⟩
      have hpl := puL_len t side x y (gens.take j)
      have hBl : B.length ≤ 401000 := by
        have : (gens.take j).length ≤ gens.length := by rw [List.length_take]; omega
        rw [hB, List.length_append]; omega
      refine And.intro (fun h3 => ?_) (fun h3 => ?_)
      · have h3 : (j : Int) < (gens.length : Int) := h3
        have hjl : j < gens.length := by omega
        have htk := take_get (d := (0 : Int)) (l := gens) (i := j) hjl
        have hgr := hg _ (getD_mem (d := 0) hjl)
        have e1 := hs.ent (x := (gens.getD j 0).toNat) (y := x) (by omega) hx
        have e2 := hs.ent (x := (gens.getD j 0).toNat) (y := y) (by omega) hy
        have e3 := hs.ent (x := x) (y := (gens.getD j 0).toNat) hx (by omega)
        have e4 := hs.ent (x := y) (y := (gens.getD j 0).toNat) hy (by omega)
        have r1 := hs.len (x := (gens.getD j 0).toNat) (by omega)
        have r2 := hs.len hx
        have r3 := hs.len hy
        have hsn := puL_snoc t side x y (gens.take j) (gens.getD j 0)
        rw [← htk] at hsn
        refine And.intro (by omega) ?_
        refine And.intro (fun h4 => ?_) (fun h4 => ?_)
        · have h4 : side ≠ 2 := h4
          refine Or.inl ?_
          refine Exists.intro [false, false, false, false, false, false, false, false, false, false, false, false, false, false, false, false, false, true, true] (And.intro (by decide +kernel) ?_)
          refine And.intro (show 0 ≤ gens.getD j 0 ∧ gens.getD j 0 < (t.length : Int) by omega) ?_
          refine And.intro (show 0 ≤ (x : Int) ∧ (x : Int) < ((t.getD (gens.getD j 0).toNat []).length : Int) by omega) ?_
          refine And.intro (show 0 ≤ gens.getD j 0 ∧ gens.getD j 0 < (t.length : Int) by omega) ?_
          refine And.intro (show 0 ≤ (y : Int) ∧ (y : Int) < ((t.getD (gens.getD j 0).toNat []).length : Int) by omega) ?_
          refine And.intro (by simp; omega) ?_
          refine And.intro (fun h5 => ?_) (fun h5 => ?_)
          · have h5 : side ≠ 1 := h5
            refine Or.inl ?_
            refine Exists.intro [false, false, false, false, false, false, false, false, false, false, false, false, false, false, false, false, false, true, true] (And.intro (by decide +kernel) ?_)
            refine And.intro (show 0 ≤ (x : Int) ∧ (x : Int) < (t.length : Int) by omega) ?_
            refine And.intro (show 0 ≤ gens.getD j 0 ∧ gens.getD j 0 < ((t.getD x []).length : Int) by omega) ?_
            refine And.intro (show 0 ≤ (y : Int) ∧ (y : Int) < (t.length : Int) by omega) ?_
            refine And.intro (show 0 ≤ gens.getD j 0 ∧ gens.getD j 0 < ((t.getD y []).length : Int) by omega) ?_
            refine And.intro (by simp; omega) ?_
            refine And.intro (by omega) ?_
            refine nx (j + 1, (B ++ [((t.getD (gens.getD j 0).toNat []).getD x 0, (t.getD (gens.getD j 0).toNat []).getD y 0)]) ++ [((t.getD x []).getD (gens.getD j 0).toNat 0, (t.getD y []).getD (gens.getD j 0).toNat 0)]) ⟨by omega, ?_⟩ (show gens.length - (j + 1) < gens.length - j by omega) (by repeat' first | refine And.intro ?_ ?_ | exact True.intro | (show (_ : Int) = (_ : Int); omega) | omega | exact rfl | (simp only [RO.len]; omega))
            show (B ++ [((t.getD (gens.getD j 0).toNat []).getD x 0, (t.getD (gens.getD j 0).toNat []).getD y 0)]) ++ [((t.getD x []).getD (gens.getD j 0).toNat 0, (t.getD y []).getD (gens.getD j 0).toNat 0)] = _
            rw [hsn, hB, if_pos h4, if_pos h5, e1.1, e2.1, e3.1, e4.1]; simp
          · have h5 : side = 1 := h5
            refine And.intro (by omega) ?_
            refine nx (j + 1, B ++ [((t.getD (gens.getD j 0).toNat []).getD x 0, (t.getD (gens.getD j 0).toNat []).getD y 0)]) ⟨by omega, ?_⟩ (show gens.length - (j + 1) < gens.length - j by omega) (by repeat' first | refine And.intro ?_ ?_ | exact True.intro | (show (_ : Int) = (_ : Int); omega) | omega | exact rfl | (simp only [RO.len]; omega))
            show B ++ [((t.getD (gens.getD j 0).toNat []).getD x 0, (t.getD (gens.getD j 0).toNat []).getD y 0)] = _
            rw [hsn, hB, if_pos h4, if_neg (fun h => h h5), e1.1, e2.1]; simp
        · have h4 : side = 2 := h4
          refine And.intro (fun h5 => ?_) (fun h5 => ?_)
          · have h5 : side ≠ 1 := h5
            refine Or.inl ?_
            refine Exists.intro [false, false, false, false, false, false, false, false, false, false, false, false, false, false, false, false, false, true, true] (And.intro (by decide +kernel) ?_)
            refine And.intro (show 0 ≤ (x : Int) ∧ (x : Int) < (t.length : Int) by omega) ?_
            refine And.intro (show 0 ≤ gens.getD j 0 ∧ gens.getD j 0 < ((t.getD x []).length : Int) by omega) ?_
            refine And.intro (show 0 ≤ (y : Int) ∧ (y : Int) < (t.length : Int) by omega) ?_
            refine And.intro (show 0 ≤ gens.getD j 0 ∧ gens.getD j 0 < ((t.getD y []).length : Int) by omega) ?_
            refine And.intro (by simp; omega) ?_
            refine And.intro (by omega) ?_
            refine nx (j + 1, B ++ [((t.getD x []).getD (gens.getD j 0).toNat 0, (t.getD y []).getD (gens.getD j 0).toNat 0)]) ⟨by omega, ?_⟩ (show gens.length - (j + 1) < gens.length - j by omega) (by repeat' first | refine And.intro ?_ ?_ | exact True.intro | (show (_ : Int) = (_ : Int); omega) | omega | exact rfl | (simp only [RO.len]; omega))
            show B ++ [((t.getD x []).getD (gens.getD j 0).toNat 0, (t.getD y []).getD (gens.getD j 0).toNat 0)] = _
            rw [hsn, hB, if_neg (fun h => h h4), if_pos h5, e3.1, e4.1]; simp
          · have h5 : side = 1 := h5
            omega
      · have h3 : (gens.length : Int) ≤ (j : Int) := h3
        have hjg : gens.take j = gens := List.take_of_length_le (by omega)
        rw [hjg] at hB hpl
        exact nx (k2, jnP r p x y, jnR r x y, B) ⟨by rw [hB]; exact hst, hfo, by rw [hB]; exact inW_app.2 ⟨hVt, puL_in hs hg hx hy⟩, by rw [← hc, Nat.mul_add] at hb; rw [hB, List.length_append, hVl]; omega⟩ (show k2 < k by omega) (by repeat' first | refine And.intro ?_ ?_ | exact True.intro | (show (_ : Int) = (_ : Int); omega) | omega | exact rfl | (simp only [RO.len]; omega))
  · have h1 : (V.length : Int) ≤ (0 : Int) := h1
    have hbt := h.bot (by omega)
    refine And.intro (And.intro (And.intro (by omega) rfl) (And.intro (And.intro (by repeat' first | refine And.intro ?_ ?_ | exact True.intro | (show (_ : Int) = (_ : Int); omega) | omega | exact rfl | (simp only [RO.len]; omega)) (And.intro ?_ trivial)) (And.intro (And.intro (by omega) (congrArg (RO.ints .i64) hbt.1)) trivial))) trivial
    show (cntR t.length r : Int) = (cntR t.length u : Int)
    rw [hbt.2]
theorem cspr_fn (t : List (List Int)) (gens : List Int) (side : Int) (hs : Sh t) (hg : ∀ g ∈ gens, 0 ≤ g ∧ g < (t.length : Int)) (hgl : gens.length ≤ t.length) (p q : List Int) (r u : Nat → Nat) (W : List (Int × Int)) (k : Nat) (hf : Fo t.length p r) (hW : inW t.length W) (hWl : W.length ≤ 1000) (h : Sp t gens side q u k p r W) :
    MF 68 [.ptr 1000 0, .ro (.rows .i64 t), .ro (.ints .i64 gens), .vec 1002, .int .i64 side] ((1002, .vec 0 (.pairs W) []) :: foS p (cntR t.length r)) (.tup []) ((1002, .jnk W.length 2) :: foS q (cntR t.length u)) := mkS 1002 rfl Try.func68 (by decide +kernel) rfl fun _ => cspr_k t gens side hs hg hgl p q r u W k hf hW hWl h
end Go.Proofs.Ytjlkhjgnfnfmgaa
end
