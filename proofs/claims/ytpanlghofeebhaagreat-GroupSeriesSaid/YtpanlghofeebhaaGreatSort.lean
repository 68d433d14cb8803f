import Derived.Test.YtpanlghofeebhaaGreatThree
import Derived.Test.YtpanlghofeebhaaGreatJhHol
import Derived.Test.YtpanlghofeebhaaGreatMerge
import Derived.Test.YtpanlghofeebhaaGreatSol
import Derived.Test.YtpanlghofeebhaaGreatIdealLaw
import Derived.Test.YtpanlghofeebhaaGreatCenter
import Derived.Test.YtpanlghofeebhaaGreatEqvLaw
import Derived.Shelf.SlSortCmp.Whole1
import Derived.Test.YtpanlghofeebhaaGreatLay
import Derived.Test.YtpanlghofeebhaaGreatGrpLaw
section
/- The factors of the group of the permutations of three points. -/
namespace Go.Proofs.YtpanlghofeebhaaGreat
def A3 : List Int := [0, 3, 4]
def i6 (x : Nat) : Nat := if x = 3 then 4 else if x = 4 then 3 else x
theorem one6 : oneN T6 = 0 := by
  have ho := t6_grp.one
  have h1 := (ho.2.1 0 (by decide)).2
  have h2 : ∀ x, x < 6 → en T6 0 x = x := by decide
  have h3 := h2 (oneN T6) ho.1
  omega
theorem inv6 {x : Nat} (hx : x < 6) : invN T6 x = i6 x := by
  have h1 : ∀ x, x < 6 → i6 x < 6 ∧ en T6 x (i6 x) = 0 := by decide
  exact (t6_grp.inv_uniq (x := x) (y := i6 x) hx (h1 x hx).1 (by rw [one6]; exact (h1 x hx).2)).symm
theorem cj6 {x y : Nat} (hx : x < 6) : cjN T6 x y = en T6 (en T6 x y) (i6 x) := by unfold cjN; rw [inv6 hx]
theorem cm6 {x y : Nat} (hx : x < 6) (hy : y < 6) : cmN T6 x y = en T6 (en T6 (en T6 x y) (i6 x)) (i6 y) := by unfold cmN; rw [cj6 hx, inv6 hy]
theorem clA3 : ClL T6 A3 :=
  ⟨by decide, fun i hi => (by decide : ∀ i, i < 2 → A3.getD i 0 < A3.getD (i + 1) 0) i (by have : i + 1 < 3 := hi; omega), by decide,
    fun x y hx hy => (by decide : ∀ x, x < 6 → ∀ y, y < 6 → setI A3 x = true → setI A3 y = true → setI A3 (en T6 x y) = true) x hx y hy⟩
theorem nrA3 : NrmIn T6 (allI T6) A3 := fun x hx y hy => by
  have h1 := allI_in T6 x hx
  have h2 := clA3.ins y hy
  have h6 : (T6.length : Int) = 6 := rfl
  have hx6 : x.toNat < 6 := by omega
  have hy6 : y.toNat < 6 := by omega
  rw [cj6 hx6]
  exact (by decide : ∀ x, x < 6 → ∀ y, y < 6 → setI A3 y = true → setI A3 (en T6 (en T6 x y) (i6 x)) = true) _ hx6 _ hy6 (clA3.iset hy)
theorem nsA3 : NS T6 A3 := ⟨clA3, nrA3⟩
theorem sol6 : solB T6 = true := by
  have h := t6_grp
  refine (sol_iff h).1 (.step (S := pS A3) (sgT h clA3) (fun _ _ => trivial) ?_ (.step (S := pS [(oneN T6 : Int)]) (sgT h (one_ns h).cl) (fun x hx => ?_) ?_ (.one fun x hx => ?_)))
  · rw [← pS_all]
    refine (abT h (allI_cl h.toSh)).1 fun x y hx hy => ?_
    have hx6 : x < 6 := allI_set.1 hx
    have hy6 : y < 6 := allI_set.1 hy
    rw [cm6 hx6 hy6]
    exact (by decide : ∀ x, x < 6 → ∀ y, y < 6 → setI A3 (en T6 (en T6 (en T6 x y) (i6 x)) (i6 y)) = true) _ hx6 _ hy6
  · rw [pS_one h] at hx
    rw [hx]; exact (sgT h clA3).one
  · refine (abT h clA3).1 fun x y hx hy => ?_
    have hx6 : x < 6 := clA3.lt hx
    have hy6 : y < 6 := clA3.lt hy
    rw [cm6 hx6 hy6, one6]
    exact (by decide : ∀ x, x < 6 → ∀ y, y < 6 → setI A3 x = true → setI A3 y = true → setI [((0 : Nat) : Int)] (en T6 (en T6 (en T6 x y) (i6 x)) (i6 y)) = true) _ hx6 _ hy6 hx hy
  · rw [pS_one h] at hx; exact hx
theorem sim6 : (nsL T6).length ≠ 2 := fun e => by
  have h := t6_grp
  have m1 := nsL_mem.2 (all_ns h)
  have m2 := nsL_mem.2 (one_ns h)
  have m3 := nsL_mem.2 nsA3
  rw [one6] at m2
  have := (by decide : [allI T6, [((0 : Nat) : Int)], A3].Nodup).length_le_of_subset (l₂ := nsL T6) fun l hl => by
    simp only [List.mem_cons, List.not_mem_nil, or_false] at hl
    rcases hl with rfl | rfl | rfl <;> assumption
  simp at this
  omega
theorem two_six {l : List (Nat × Bool)} (h2 : ∀ f ∈ l, 2 ≤ f.1) (hp : prodL l = 6) (hl : l.length ≠ 1) (ht : ∀ f ∈ l, f.2 = true) : l = [(2, true), (3, true)] ∨ l = [(3, true), (2, true)] := by
  match l, h2, hp, hl, ht with
  | [], _, hp, _, _ => cases hp
  | [_], _, _, hl, _ => exact absurd rfl hl
  | [(a, x), (b, y)], h2, hp, _, ht =>
    have ha := h2 (a, x) (by simp)
    have hb := h2 (b, y) (by simp)
    have hx := ht (a, x) (by simp)
    have hy := ht (b, y) (by simp)
    have hp : a * (b * 1) = 6 := hp
    rw [Nat.mul_one] at hp
    have hx : x = true := hx
    have hy : y = true := hy
    subst hx; subst hy
    have ha : 2 ≤ a := ha
    have hb : 2 ≤ b := hb
    have ha3 : a ≤ 3 := by
      have := Nat.mul_le_mul_left a hb
      omega
    have : a = 2 ∨ a = 3 := by omega
    rcases this with rfl | rfl
    · left; have : b = 3 := by omega
      rw [this]
    · right; have : b = 2 := by omega
      rw [this]
  | a :: b :: c :: m, h2, hp, _, _ =>
    have e := two_pw h2
    rw [hp] at e
    have : 2 ^ 3 ≤ 2 ^ (a :: b :: c :: m).length := Nat.pow_le_pow_right (by omega) (by simp)
    omega
theorem fac6 {F : List (List Int)} (H : ChkS T6 F) : srt cmpF ((facL T6 F).map fI) = [(2, true), (3, true)] := by
  have hl : (facL T6 F).length ≠ 1 := fun e => sim6 (H.sim.2 (by rw [facL_len] at e; omega))
  have h3 := two_six H.two H.prod hl (H.sol.2 sol6)
  refine srt_uniq cmpF_tot (by decide) ?_
  rcases h3 with e | e <;> rw [e]
  · exact .refl _
  · exact .swap _ _ _
end Go.Proofs.YtpanlghofeebhaaGreat
end
section
/- Permutations: validity, products, texts: contracts. -/
namespace Go.Proofs.YtpanlghofeebhaaGreat
open Go Go.AM
set_option maxRecDepth 100000
def vldP (f : List Int) : Prop := (1 ≤ f.length ∧ f.length ≤ 32) ∧ ∀ x ∈ f, 0 ≤ x ∧ x < (f.length : Int)
noncomputable def vldB (f : List Int) : Bool := @decide (vldP f) (Classical.propDecidable _)
theorem vldB_true {f : List Int} : vldB f = true ↔ vldP f := by unfold vldB; exact @decide_eq_true_iff _ (Classical.propDecidable _)
theorem vldB_false {f : List Int} : vldB f = false ↔ ¬ vldP f := by unfold vldB; exact @decide_eq_false_iff_not _ (Classical.propDecidable _)
def prmP (f : List Int) : Prop := vldP f ∧ f.Nodup
noncomputable def prmB (f : List Int) : Bool := @decide (prmP f) (Classical.propDecidable _)
theorem prmB_true {f : List Int} : prmB f = true ↔ prmP f := by unfold prmB; exact @decide_eq_true_iff _ (Classical.propDecidable _)
theorem prmB_false {f : List Int} : prmB f = false ↔ ¬ prmP f := by unfold prmB; exact @decide_eq_false_iff_not _ (Classical.propDecidable _)
theorem prmP.perm {f : List Int} (h : prmP f) : Perm f.length f := ⟨rfl, h.1.2, h.2⟩
theorem len_nodup {A f : List Int} (hA : A.Nodup) (h : ∀ x, x ∈ A ↔ x ∈ f) : A.length = f.length ↔ f.Nodup := by
  constructor
  · intro e
    refine List.nodup_iff_pairwise_ne.2 (List.pairwise_iff_getElem.2 fun i j hi hj hij e2 => ?_)
    have := nodup_sub hA (B := f.eraseIdx j) fun x hx => by
      obtain ⟨k, hk, rfl⟩ := List.mem_iff_getElem.1 ((h x).1 hx)
      by_cases ek : k = j
      · subst ek
        rw [← e2, List.mem_eraseIdx_iff_getElem]
        exact ⟨i, hi, by omega, rfl⟩
      · rw [List.mem_eraseIdx_iff_getElem]
        exact ⟨k, hk, ek, rfl⟩
    rw [List.length_eraseIdx, if_pos hj] at this
    omega
  · intro hf
    exact Nat.le_antisymm (nodup_sub hA fun x hx => (h x).1 hx) (nodup_sub hf fun x hx => (h x).2 hx)
theorem tvalid_k (f : List Int) (hl : f.length ≤ 140737488355328) : fnK TY SP Tryz.f101 [.ro (.ints .i64 f)] (.bool (.v (vldB f))) := by
  have no : ¬ vldP f → (BE.lit false).val = (BE.v (vldB f)).val := fun h => (vldB_false.2 h).symm
  refine And.intro (fun h1 => ?_) (fun h1 => ?_)
  · have h1 : (f.length : Int) < 1 := h1
    exact And.intro (no fun h => by have := h.1; omega) trivial
  have h1 : 1 ≤ (f.length : Int) := h1
  refine And.intro (fun h2 => ?_) (fun h2 => ?_)
  · have h2 : 32 < (f.length : Int) := h2
    exact And.intro (no fun h => by have := h.1; omega) trivial
  have h2 : (f.length : Int) ≤ 32 := h2
  refine Exists.intro [] <| lp (X := Nat) (fun i => [(15, .int .i64 i)]) (fun _ => []) (fun i => i ≤ f.length ∧ ∀ j, j < i → 0 ≤ f.getD j 0 ∧ f.getD j 0 < (f.length : Int)) (fun i => f.length - i) 0 ⟨Nat.zero_le _, fun j h => absurd h (Nat.not_lt_zero _)⟩ (by repeat' first | refine And.intro ?_ ?_ | exact True.intro | (show (_ : Int) = (_ : Int); omega) | omega | exact rfl | (simp only [RO.len]; omega)) ?_
  rintro i ⟨hi, hI⟩
  refine And.intro (fun h3 => ?_) (fun h3 => ?_)
  · have h3 : (i : Int) < (f.length : Int) := h3
    have hm := getD_mem (d := 0) (l := f) (i := i) (by omega)
    refine And.intro (by omega) ?_
    refine And.intro (fun h4 => ?_) (fun h4 => ?_)
    · have h4 : f.getD i 0 < 0 := h4
      exact And.intro (no fun h => by have := h.2 _ hm; omega) trivial
    have h4 : 0 ≤ f.getD i 0 := h4
    refine And.intro (fun h5 => ?_) (fun h5 => ?_)
    · have h5 : (f.length : Int) ≤ f.getD i 0 := h5
      exact And.intro (no fun h => by have := h.2 _ hm; omega) trivial
    have h5 : f.getD i 0 < (f.length : Int) := h5
    refine And.intro (by omega) ?_
    refine nx (i + 1) ⟨by omega, fun j hj => ?_⟩ (show f.length - (i + 1) < f.length - i by omega) (by repeat' first | refine And.intro ?_ ?_ | exact True.intro | (show (_ : Int) = (_ : Int); omega) | omega | exact rfl | (simp only [RO.len]; omega))
    by_cases e : j = i
    · subst e; exact ⟨h4, h5⟩
    · exact hI j (by omega)
  · have h3 : (f.length : Int) ≤ (i : Int) := h3
    refine And.intro ?_ trivial
    refine (vldB_true.2 ⟨⟨by omega, by omega⟩, fun x hx => ?_⟩).symm
    obtain ⟨j, hj, rfl⟩ := mem_getD 0 hx
    exact hI j (by omega)
theorem tvalid_fn (f : List Int) : QF 101 [.ro (.ints .i64 f)] (.bool (.v (vldB f))) := mkQ Tryz.func101 (by decide +kernel) rfl (Nat.le_of_ble_eq_true rfl) fun hf => tvalid_k f hf.1.1
theorem timage_fn (f : List Int) (hv : vldP f) : QF 112 [.ro (.ints .i64 f)] (.new (.ints .i64 (cpI (srtI f)))) := mkQ Tryz.func112 (by decide +kernel) rfl (Nat.le_of_ble_eq_true rfl) fun _ => by
  have h1 := hv.1
  refine Or.inl (cq (tvalid_fn f) (And.intro rfl trivial) ?_)
  refine And.intro (fun h2 => ?_) (fun _ => ?_)
  · have h2 : (!vldB f) = true := h2
    rw [vldB_true.2 hv] at h2; exact absurd h2 (by decide)
  refine Or.inl (cq (cloneI_fn f (by omega)) (And.intro rfl trivial) ?_)
  refine Or.inr (Or.inl (cm [] [(1000, 8)] (sortI_m f (by omega)) ?_))
  refine And.intro (by repeat' first | refine And.intro ?_ ?_ | exact True.intro | (show (_ : Int) = (_ : Int); omega) | omega | exact rfl | (simp only [RO.len]; omega)) ?_
  refine Or.inr (Or.inl (cm [] [(1, 8)] (compactI_m (srtI f) (by rw [srtI_len]; omega)) ?_))
  refine And.intro (by repeat' first | refine And.intro ?_ ?_ | exact True.intro | (show (_ : Int) = (_ : Int); omega) | omega | exact rfl | (simp only [RO.len]; omega)) ?_
  exact And.intro (by repeat' first | refine And.intro ?_ ?_ | exact True.intro | (show (_ : Int) = (_ : Int); omega) | omega | exact rfl | (simp only [RO.len]; omega)) (by repeat' first | refine And.intro ?_ ?_ | exact True.intro | (show (_ : Int) = (_ : Int); omega) | omega | exact rfl | (simp only [RO.len]; omega))
theorem trank_fn (f : List Int) (hv : vldP f) : QF 102 [.ro (.ints .i64 f)] (.int .i64 ((cpI (srtI f)).length : Nat)) := mkQ Tryz.func102 (by decide +kernel) rfl (Nat.le_of_ble_eq_true rfl) fun _ => by
  refine Or.inl (cq (timage_fn f hv) (And.intro rfl trivial) ?_)
  exact And.intro rfl trivial
theorem cps_nodup (f : List Int) : (cpI (srtI f)).Nodup := (cp_spec (srtI_sorted f) _ (Nat.le_refl _)).1.imp fun {a b} h e => by omega
theorem tperm_fn (f : List Int) : QF 92 [.ro (.ints .i64 f)] (.bool (.v (prmB f))) := mkQ Tryz.func92 (by decide +kernel) rfl (Nat.le_of_ble_eq_true rfl) fun _ => by
  refine Or.inl (cq (tvalid_fn f) (And.intro rfl trivial) ?_)
  refine And.intro (fun h1 => ?_) (fun h1 => ?_)
  · have hv : vldP f := vldB_true.1 h1
    refine Or.inl (cq (trank_fn f hv) (And.intro rfl trivial) ?_)
    refine And.intro ?_ trivial
    show decide (((cpI (srtI f)).length : Int) = (f.length : Int)) = prmB f
    unfold prmB
    have e : ((cpI (srtI f)).length : Int) = (f.length : Int) ↔ prmP f := by
      rw [Int.ofNat_inj, len_nodup (cps_nodup f) (cpsrt_mem f)]
      exact ⟨fun h => ⟨hv, h⟩, fun h => h.2⟩
    by_cases hp : prmP f
    · rw [decide_eq_true (e.2 hp)]; exact (@decide_eq_true _ (Classical.propDecidable _) hp).symm
    · rw [decide_eq_false fun h => hp (e.1 h)]; exact (@decide_eq_false _ (Classical.propDecidable _) hp).symm
  · have hv : ¬ vldP f := vldB_false.1 h1
    exact And.intro (prmB_false.2 fun h => hv h.1).symm trivial
theorem gcomp_fn (f g : List Int) (hl : f.length ≤ 32) (hf : ∀ x ∈ f, 0 ≤ x ∧ x < (g.length : Int)) : QF 67 [.ro (.ints .i64 f), .ro (.ints .i64 g)] (.new (.ints .i64 (cmpP f g))) := mkQ Tryz.func67 (by decide +kernel) rfl (Nat.le_of_ble_eq_true rfl) fun _ => by
  refine And.intro (by omega) ?_
  refine And.intro (by omega) ?_
  refine Exists.intro [] <| lp2 (fun (i : Nat) (_ : List Int) => [(13, .int .i64 i)]) (fun _ L => [(10, .vec 0 (.ints .i64 L) [])]) (fun i L => i ≤ f.length ∧ L.length = f.length ∧ ∀ j, j < i → L.getD j 0 = (cmpP f g).getD j 0) (fun i _ => f.length - i) 0 (List.replicate f.length 0) ⟨Nat.zero_le _, by simp, fun j h => absurd h (Nat.not_lt_zero _)⟩ (by repeat' first | refine And.intro ?_ ?_ | exact True.intro | (show (_ : Int) = (_ : Int); omega) | omega | exact rfl | (simp only [RO.len]; omega)) ?_
  rintro i L ⟨hi, hL, hLj⟩
  refine And.intro (fun h1 => ?_) (fun h1 => ?_)
  · have h1 : (i : Int) < (f.length : Int) := h1
    have hil : i < f.length := by omega
    have hm := hf _ (getD_mem (d := 0) hil)
    refine And.intro (by omega) ?_
    refine And.intro (show 0 ≤ f.getD i 0 ∧ f.getD i 0 < (g.length : Int) from hm) ?_
    refine And.intro (by omega) ?_
    refine And.intro (by omega) ?_
    refine And.intro (by omega) ?_
    refine nx (i + 1, L.set i (g.getD (f.getD i 0).toNat 0)) ⟨by omega, by rw [List.length_set]; exact hL, fun j hj => ?_⟩ (show f.length - (i + 1) < f.length - i by omega) (by repeat' first | refine And.intro ?_ ?_ | exact True.intro | (show (_ : Int) = (_ : Int); omega) | omega | exact rfl | (simp only [RO.len]; omega))
    by_cases e : j = i
    · subst e; rw [getD_set_eq (by omega), cmpP_get hil]
    · rw [getD_set_ne (Ne.symm e)]; exact hLj j (by omega)
  · have h1 : (f.length : Int) ≤ (i : Int) := h1
    refine And.intro (And.intro (by omega) ?_) trivial
    exact congrArg (RO.ints .i64) (ext_getD 0 (by rw [cmpP_len]; exact hL) fun j hj => hLj j (by omega))
theorem gtext_fn (f : List Int) (hl : f.length ≤ 32) (hf : ∀ x ∈ f, 0 ≤ x ∧ x ≤ 255) : QF 66 [.ro (.ints .i64 f)] (.str f) := mkQ Tryz.func66 (by decide +kernel) rfl (Nat.le_of_ble_eq_true rfl) fun _ => by
  refine And.intro (by omega) ?_
  refine And.intro (by omega) ?_
  refine Exists.intro [] <| lp2 (fun (i : Nat) (_ : List Int) => [(11, .int .i64 i)]) (fun _ L => [(8, .vec 0 (.ints .u8 L) [])]) (fun i L => i ≤ f.length ∧ L.length = f.length ∧ ∀ j, j < i → L.getD j 0 = f.getD j 0) (fun i _ => f.length - i) 0 (List.replicate f.length 0) ⟨Nat.zero_le _, by simp, fun j h => absurd h (Nat.not_lt_zero _)⟩ (by repeat' first | refine And.intro ?_ ?_ | exact True.intro | (show (_ : Int) = (_ : Int); omega) | omega | exact rfl | (simp only [RO.len]; omega)) ?_
  rintro i L ⟨hi, hL, hLj⟩
  refine And.intro (fun h1 => ?_) (fun h1 => ?_)
  · have h1 : (i : Int) < (f.length : Int) := h1
    have hil : i < f.length := by omega
    have hm := hf _ (getD_mem (d := 0) hil)
    refine And.intro (by omega) ?_
    refine And.intro (show (0 : Int) ≤ f.getD i 0 ∧ f.getD i 0 ≤ 255 from hm) ?_
    refine And.intro (by omega) ?_
    refine And.intro (by omega) ?_
    refine And.intro (by omega) ?_
    refine nx (i + 1, L.set i (f.getD i 0)) ⟨by omega, by rw [List.length_set]; exact hL, fun j hj => ?_⟩ (show f.length - (i + 1) < f.length - i by omega) (by repeat' first | refine And.intro ?_ ?_ | exact True.intro | (show (_ : Int) = (_ : Int); omega) | omega | exact rfl | (simp only [RO.len]; omega))
    by_cases e : j = i
    · subst e; rw [getD_set_eq (by omega)]
    · rw [getD_set_ne (Ne.symm e)]; exact hLj j (by omega)
  · have h1 : (f.length : Int) ≤ (i : Int) := h1
    have e : L = f := ext_getD 0 hL fun j hj => hLj j (by omega)
    subst e
    exact And.intro rfl trivial
theorem tident_fn (n : Nat) (h1 : 1 ≤ n) (h2 : n ≤ 32) : QF 65 [.int .i64 n] (.new (.ints .i64 (disI n))) := mkQ Tryz.func65 (by decide +kernel) rfl (Nat.le_of_ble_eq_true rfl) fun _ => by
  refine And.intro (fun h => absurd (show (n : Int) < 1 from h) (by omega)) (fun _ => ?_)
  refine And.intro (fun h => absurd (show 32 < (n : Int) from h) (by omega)) (fun _ => ?_)
  refine And.intro (by omega) ?_
  refine And.intro (by omega) ?_
  refine Exists.intro [] <| lp2 (fun (i : Nat) (_ : List Int) => [(15, .int .i64 i)]) (fun _ L => [(12, .vec 0 (.ints .i64 L) [])]) (fun i L => i ≤ n ∧ L.length = n ∧ ∀ j, j < i → L.getD j 0 = (j : Int)) (fun i _ => n - i) 0 (List.replicate n 0) ⟨Nat.zero_le _, by simp, fun j h => absurd h (Nat.not_lt_zero _)⟩ (by repeat' first | refine And.intro ?_ ?_ | exact True.intro | (show (_ : Int) = (_ : Int); omega) | omega | exact rfl | (simp only [RO.len]; omega)) ?_
  rintro i L ⟨hi, hL, hLj⟩
  refine And.intro (fun h1 => ?_) (fun h1 => ?_)
  · have h1 : (i : Int) < ((List.replicate (n : Int).toNat (0 : Int)).length : Int) := h1
    rw [List.length_replicate] at h1
    refine And.intro (by omega) ?_
    refine And.intro (by omega) ?_
    refine And.intro (by omega) ?_
    refine nx (i + 1, L.set i (i : Int)) ⟨by omega, by rw [List.length_set]; exact hL, fun j hj => ?_⟩ (show n - (i + 1) < n - i by omega) (by repeat' first | refine And.intro ?_ ?_ | exact True.intro | (show (_ : Int) = (_ : Int); omega) | omega | exact rfl | (simp only [RO.len]; omega))
    by_cases e : j = i
    · subst e; rw [getD_set_eq (by omega)]
    · rw [getD_set_ne (Ne.symm e)]; exact hLj j (by omega)
  · have h1 : ((List.replicate (n : Int).toNat (0 : Int)).length : Int) ≤ (i : Int) := h1
    rw [List.length_replicate] at h1
    refine And.intro (And.intro (by omega) ?_) trivial
    exact congrArg (RO.ints .i64) (ext_getD 0 (by rw [disI_len]; exact hL) fun j hj => by rw [hLj j (by omega), disI_get (by omega)])
end Go.Proofs.YtpanlghofeebhaaGreat
end
section
/- Plain: how the elements of a group of permutations are found. -/
namespace Go.Proofs.YtpanlghofeebhaaGreat
open Go Go.AM
def setO (E : List (List Int)) : List (List Int × Int) := E.map fun p => (p, 1)
theorem getM_setO {p : List Int} : ∀ {E : List (List Int)}, getM (setO E) p = if p ∈ E then some 1 else none
  | [] => rfl
  | a :: E => by
    show (if a = p then some (1 : Int) else getM (setO E) p) = _
    by_cases h : a = p
    · rw [if_pos h, if_pos (by rw [h]; exact List.mem_cons_self ..)]
    · rw [if_neg h, getM_setO]
      by_cases hm : p ∈ E
      · rw [if_pos hm, if_pos (List.mem_cons_of_mem _ hm)]
      · rw [if_neg hm, if_neg fun hc => (List.mem_cons.1 hc).elim (fun e => h e.symm) hm]
theorem setM_setO {p : List Int} {E : List (List Int)} (h : p ∉ E) : setM (setO E) p 1 = setO (E ++ [p]) := by
  rw [setM_new (by rw [getM_setO, if_neg h])]
  simp [setO]
section
variable {n i l : Nat} {G U E : List (List Int)}
structure GnJ (n : Nat) (U E : List (List Int)) (i l : Nat) : Prop where
  wd : ∀ p ∈ E, Wd n U p
  nd : E.Nodup
  one : disI n ∈ E
  ol : ∀ j, j < i → ∀ g ∈ U, cmpP (E.getD j []) g ∈ E
  cu : ∀ m, m < l → cmpP (E.getD i []) (U.getD m []) ∈ E
theorem getD_snoc_lt {α : Type} {E : List α} {x d : α} {j : Nat} (h : j < E.length) : (E ++ [x]).getD j d = E.getD j d := by
  simp [List.getD, List.getElem?_append_left h]
theorem GnJ.add (h : GnJ n U E i l) (hi : i < E.length) (hl : l < U.length) (hno : cmpP (E.getD i []) (U.getD l []) ∉ E) : GnJ n U (E ++ [cmpP (E.getD i []) (U.getD l [])]) i (l + 1) := by
  refine ⟨fun p hp => ?_, ?_, List.mem_append_left _ h.one, fun j hj g hg => ?_, fun m hm => ?_⟩
  · rcases List.mem_append.1 hp with hp | hp
    · exact h.wd p hp
    · rw [List.mem_singleton.1 hp]; exact .mul (h.wd _ (getD_mem hi)) (getD_mem hl)
  · rw [List.nodup_append]
    exact ⟨h.nd, List.pairwise_singleton _ _, fun a ha b hb e => hno (by rw [List.mem_singleton] at hb; rw [← hb, ← e]; exact ha)⟩
  · rw [getD_snoc_lt (by omega)]; exact List.mem_append_left _ (h.ol j hj g hg)
  · rw [getD_snoc_lt hi]
    by_cases e : m = l
    · subst e; exact List.mem_append_right _ (List.mem_singleton.2 rfl)
    · exact List.mem_append_left _ (h.cu m (by omega))
theorem GnJ.old (h : GnJ n U E i l) (hin : cmpP (E.getD i []) (U.getD l []) ∈ E) : GnJ n U E i (l + 1) :=
  ⟨h.wd, h.nd, h.one, h.ol, fun m hm => if e : m = l then e ▸ hin else h.cu m (by omega)⟩
theorem GnJ.row (h : GnJ n U E i l) (hl : U.length ≤ l) : GnJ n U E (i + 1) 0 :=
  ⟨h.wd, h.nd, h.one, fun j hj g hg => by
    by_cases e : j = i
    · subst e
      obtain ⟨m, hm, rfl⟩ := mem_getD [] hg
      exact h.cu m (by omega)
    · exact h.ol j (by omega) g hg, fun m hm => absurd hm (Nat.not_lt_zero _)⟩
theorem GnJ.done (h : GnJ n U E i 0) (hi : E.length ≤ i) : ∀ e ∈ E, ∀ g ∈ U, cmpP e g ∈ E := fun e he g hg => by
  obtain ⟨j, hj, rfl⟩ := mem_getD [] he
  exact h.ol j (by omega) g hg
theorem GnJ.few (h : GnJ n U E i l) (hn : n ≤ 5) (hU : ∀ g ∈ U, Perm n g) : E.length ≤ 120 := perms_few hn h.nd fun p hp => (h.wd p hp).perm hU
structure GnI (n : Nat) (G U E : List (List Int)) (k : Nat) : Prop where
  us : ∀ g ∈ U, g ∈ G
  wd : ∀ p ∈ E, Wd n U p
  nd : E.Nodup
  one : disI n ∈ E
  cl : ∀ e ∈ E, ∀ g ∈ U, cmpP e g ∈ E
  met : ∀ j, j < k → G.getD j [] ∈ E
theorem GnI.start (n : Nat) (G : List (List Int)) : GnI n G [] [disI n] 0 :=
  ⟨fun _ h => absurd h List.not_mem_nil, fun p hp => by rw [List.mem_singleton.1 hp]; exact .one, List.pairwise_singleton _ _, List.mem_singleton.2 rfl, fun _ _ _ h => absurd h List.not_mem_nil, fun _ h => absurd h (Nat.not_lt_zero _)⟩
theorem GnI.skip (h : GnI n G U E i) (hin : G.getD i [] ∈ E) : GnI n G U E (i + 1) :=
  ⟨h.us, h.wd, h.nd, h.one, h.cl, fun j hj => if e : j = i then e ▸ hin else h.met j (by omega)⟩
theorem GnI.open (h : GnI n G U E i) : GnJ n (U ++ [G.getD i []]) E 0 0 :=
  ⟨fun p hp => (h.wd p hp).mono fun g hg => List.mem_append_left _ hg, h.nd, h.one, fun _ h => absurd h (Nat.not_lt_zero _), fun _ h => absurd h (Nat.not_lt_zero _)⟩
theorem GnI.shut {E' : List (List Int)} {k : Nat} (h : GnI n G U E i) (hi : i < G.length) (hG : ∀ g ∈ G, Perm n g) (h' : GnJ n (U ++ [G.getD i []]) E' k 0) (hk : E'.length ≤ k) (hs : ∀ p ∈ E, p ∈ E') : GnI n G (U ++ [G.getD i []]) E' (i + 1) :=
  ⟨fun g hg => (List.mem_append.1 hg).elim (h.us g) fun hg => by rw [List.mem_singleton.1 hg]; exact getD_mem hi, h'.wd, h'.nd, h'.one, h'.done hk, fun j hj => by
    by_cases e : j = i
    · subst e
      have := h'.done hk _ h'.one (G.getD j []) (List.mem_append_right _ (List.mem_singleton.2 rfl))
      rw [dis_cmp (hG _ (getD_mem hi))] at this; exact this
    · exact hs _ (h.met j (by omega))⟩
theorem GnI.fin (h : GnI n G U E i) (hi : G.length ≤ i) (hG : ∀ g ∈ G, Perm n g) : ∀ p, p ∈ E ↔ Wd n G p := fun p => by
  have hU : ∀ g ∈ U, Perm n g := fun g hg => hG g (h.us g hg)
  refine ⟨fun hp => (h.wd p hp).mono h.us, fun hp => Wd.all hU (fun f hf => (h.wd f hf).perm hU) h.one h.cl (fun g hg => ?_) hp⟩
  obtain ⟨j, hj, rfl⟩ := mem_getD [] hg
  exact h.wd _ (h.met j (by omega))
end
end Go.Proofs.YtpanlghofeebhaaGreat
end
section
/- slices.SortFunc over rows of integers: from the shelf's contract to the abstract machine's. -/
namespace Go.Proofs.YtpanlghofeebhaaGreat
open Go Go.AM Go.Sort Go.Lib
def RowV (w : World) (M : Msk) : Type := { v : Value // ∃ m : List Int, SlI w M .i64 m v }
instance (w : World) (M : Msk) : Inhabited (RowV w M) := ⟨⟨.slice none 0 0, [], Nat.zero_le _, none, 0, rfl, Nat.le_refl _, .inl rfl⟩⟩
noncomputable def RowV.row {w : World} {M : Msk} (x : RowV w M) : List Int := Classical.choose x.2
theorem RowV.reads {w : World} {M : Msk} (x : RowV w M) : SlI w M .i64 x.row x.1 := Classical.choose_spec x.2
theorem sli_inj {w : World} {M : Msk} {k : IntKind} {l m : List Int} {v : Value} (h : SlI w M k l v) (h' : SlI w M k m v) : l = m := by
  obtain ⟨_, a, cap, rfl, _, h1⟩ := h
  obtain ⟨_, a', cap', hv, _, h2⟩ := h'
  have hl : l.length = m.length := by injection hv
  have ha : a = a' := by injection hv
  subst ha
  refine List.ext_getElem hl fun i hi hi' => ?_
  rcases h1 with h1 | ⟨b, off, rfl, h1⟩
  · omega
  · rcases h2 with h2 | ⟨b', off', he, h2⟩
    · omega
    · cases he
      obtain ⟨c, g1, _, g2, _⟩ := h1 i hi
      obtain ⟨c', g3, _, g4, _⟩ := h2 i hi'
      rw [g1] at g3; cases g3
      rw [g2] at g4
      rw [getD_eq hi, getD_eq hi'] at g4
      injection g4
theorem stp_grow {w w' : World} (h : Stp (fun _ _ => False) w w') : ∃ q os, w' = grow (w.drewN q) os := by
  obtain ⟨hsz, hb, ⟨⟨ho1, ho2⟩, ht, hd⟩⟩ := h
  have heap : ∀ b, b < w.heap.size → w'.heap[b]? = w.heap[b]? := fun b hlt => by
    rcases hb b hlt with h | ⟨cs, cs', ty, h1, h2, h3, h4⟩ | ⟨_, _, _, _, _, _, h⟩
    · exact h
    · rw [h1, h2]
      have : cs' = cs := Array.ext_getElem? fun i => h4 i (by simp)
      rw [this]
    · exact h.elim
  refine ⟨w'.drawn - w.drawn, w'.heap.extract w.heap.size w'.heap.size, ?_⟩
  have e1 : w'.heap = w.heap ++ w'.heap.extract w.heap.size w'.heap.size := by
    apply Array.ext_getElem?
    intro i
    rw [Array.getElem?_append]
    split
    · rename_i hi; exact heap i hi
    · rename_i hi
      rw [Array.getElem?_extract]
      split
      · rename_i hi'
        rw [show w.heap.size + (i - w.heap.size) = i by omega]
      · rename_i hi'
        exact Array.getElem?_eq_none (by omega)
  have e2 : w'.drawn = w.drawn + (w'.drawn - w.drawn) := by omega
  cases w with
  | mk heap tape drawn os output =>
  cases w' with
  | mk heap' tape' drawn' os' output' =>
  simp only [grow, World.drewN] at *
  subst ho1; subst ho2; subst ht
  congr 1
section
variable {w : World} {M : Msk} {b : Nat} {cs : Array Value} {ty : TypeId} (hb : w.heap[b]? = some (.cells cs ty (0, 0)))
include hb
theorem lt_of_block : b < w.heap.size := by
  rcases Nat.lt_or_ge b w.heap.size with h | h
  · exact h
  · rw [Array.getElem?_eq_none h] at hb; cases hb
theorem sortW_block {α : Type} [Inhabited α] (enc : α → Value) (m : Nat) (dk : Array α) (os : Array Obj) : (sortWorld enc w b 0 m dk os).heap[b]? = some (.cells (putCells enc 0 dk cs) ty (0, 0)) := by
  have hlt := lt_of_block hb
  show ((putRow enc (Sort.ahead w m) b 0 dk).heap ++ os)[b]? = _
  rw [Array.getElem?_append_left (by rw [size_putRow]; exact hlt)]
  show ((w.heap.modify b (onCells (putCells enc 0 dk))))[b]? = _
  rw [Array.getElem?_modify, if_pos rfl, hb]; rfl
omit hb in
theorem sortW_other {α : Type} [Inhabited α] (enc : α → Value) (m : Nat) (dk : Array α) (os : Array Obj) {b' : Nat} (hne : b' ≠ b) (hlt : b' < w.heap.size) : (sortWorld enc w b 0 m dk os).heap[b']? = w.heap[b']? := by
  show ((putRow enc (Sort.ahead w m) b 0 dk).heap ++ os)[b']? = _
  rw [Array.getElem?_append_left (by rw [size_putRow]; exact hlt)]
  show ((w.heap.modify b (onCells (putCells enc 0 dk))))[b']? = _
  rw [Array.getElem?_modify, if_neg (Ne.symm hne)]
omit hb in
theorem sortW_size {α : Type} [Inhabited α] (enc : α → Value) (m : Nat) (dk : Array α) (os : Array Obj) : (sortWorld enc w b 0 m dk os).heap.size = w.heap.size + os.size := by
  show ((putRow enc (Sort.ahead w m) b 0 dk).heap ++ os).size = _
  rw [Array.size_append, size_putRow]; rfl
omit hb in
theorem putCells_size {α : Type} [Inhabited α] (enc : α → Value) (d : Array α) : (putCells enc 0 d cs).size = cs.size := by simp [putCells]
omit hb in
theorem putCells_at {α : Type} [Inhabited α] (enc : α → Value) (d : Array α) {q : Nat} (hq : q < d.size) (hc : q < cs.size) : (putCells enc 0 d cs)[q]? = some (enc d[q]!) := by
  simp [putCells, hq, hc]
theorem sortW_stp {α : Type} [Inhabited α] (enc : α → Value) (m : Nat) (dk : Array α) (os : Array Obj) (hM : ∀ off, M b off ↔ off < cs.size) : Stp (fun b' off => b' = b ∧ M b' off) w (sortWorld enc w b 0 m dk os) := by
  refine ⟨by rw [sortW_size]; omega, fun b' hb' => ?_, ⟨⟨rfl, rfl⟩, rfl, ?_⟩⟩
  · by_cases e : b' = b
    · subst e
      refine .inr (.inl ⟨cs, _, ty, hb, sortW_block hb enc m dk os, putCells_size enc dk, fun off hn => ?_⟩)
      have : ¬ off < cs.size := fun h => hn ⟨rfl, (hM off).2 h⟩
      rw [Array.getElem?_eq_none (by rw [putCells_size]; omega), Array.getElem?_eq_none (by omega)]
    · exact .inl (sortW_other enc m dk os e hb')
  · show w.drawn ≤ w.drawn + m
    omega
end
theorem sortRows_m {g : FuncId} {c : List Int → List Int → Int} (hc : TotC c) (hg : ∀ a b, QF g [.ro (.ints .i64 a), .ro (.ints .i64 b)] (.int .i64 (c a b))) (l : List (List Int)) (hl : 0 < l.length) :
    MF 68 [.vec 1000, .fn g []] [(1000, .vec 0 (.rows .i64 l) [])] (.tup []) [(1000, .vec 0 (.rows .i64 (srt c l)) [])] := by
  refine ⟨⟨_, Tryz.func68, by decide +kernel, rfl⟩, fun ρ M w vs st hv => ?_⟩
  obtain ⟨⟨o, ho, hlen, hsz, hlb, _, hblk⟩, _⟩ := st.blk 1000 _ rfl
  have hlen : o.len = l.length := hlen
  have hsz : o.sz = 1 := hsz
  cases hob : o.blk with
  | none =>
    simp only [hob] at hblk
    have : l.length = 0 := hblk.1
    omega
  | some b =>
  simp only [hob] at hblk
  obtain ⟨hcap, cs, ty, hb, hcs, hM, hcell⟩ := hblk
  have hM : ∀ off, M b off ↔ off < cs.size := fun off => by rw [hM off]; omega
  have hcell : ∀ q, q < l.length → ∃ v, cs[q]? = some v ∧ SlI w M .i64 (l.getD q []) v := fun q hq => hcell q (by simpa [RO.cells, RO.len, RO.sz] using hq)
  have hcsl : l.length ≤ cs.size := by rw [hcs, hsz]; omega
  match vs, hv with
  | [v0, v1], ⟨h0, h1, _⟩ =>
  obtain ⟨o', ho', rfl⟩ := h0
  rw [ho] at ho'; cases ho'
  obtain ⟨ca, rfl, hca⟩ := h1
  have hca : ca = #[] := by
    obtain ⟨k⟩ := ca
    cases k with
    | nil => rfl
    | cons => exact hca.elim
  subst hca
  let enc : RowV w M → Value := fun x => x.1
  let cf : RowV w M → RowV w M → Int := fun x y => c x.row y.row
  have hex : ∀ q, ∃ x : RowV w M, q < l.length → cs[q]? = some x.1 ∧ x.row = l.getD q [] := fun q => by
    by_cases hq : q < l.length
    · obtain ⟨v, g1, g2⟩ := hcell q hq
      exact ⟨⟨v, _, g2⟩, fun _ => ⟨g1, sli_inj (RowV.reads _) g2⟩⟩
    · exact ⟨default, fun h => absurd h hq⟩
  let d : Array (RowV w M) := ((List.range l.length).map fun q => Classical.choose (hex q)).toArray
  have hds : d.size = l.length := by simp [d]
  have hd : ∀ q, q < l.length → cs[q]? = some (enc d[q]!) ∧ (d[q]!).row = l.getD q [] := fun q hq => by
    have : d[q]! = Classical.choose (hex q) := by simp [d, hq]
    rw [this]
    exact Classical.choose_spec (hex q) hq
  have hO : SWO (ltOf cf) := by
    refine ⟨fun x => ?_, fun x y z h1 h2 => ?_, fun x y z h1 h2 => ?_⟩
    · exact decide_eq_false (by have := hc.self x.row; show ¬ c x.row x.row < 0; omega)
    · simp only [ltOf, cf] at *
      exact decide_eq_true (hc.trans _ _ _ (of_decide_eq_true h1) (of_decide_eq_true h2))
    · simp only [ltOf, cf] at *
      have h1 := of_decide_eq_false h1
      have h2 := of_decide_eq_false h2
      refine decide_eq_false ?_
      have s1 := hc.swap x.row y.row
      have s2 := hc.swap y.row z.row
      have s3 := hc.swap x.row z.row
      have := le_trans' hc (a := z.row) (b := y.row) (d := x.row) (by omega) (by omega)
      omega
  have hlt := lt_of_block hb
  have hone : OneCell enc := fun x => by
    obtain ⟨_, a, cap, he, _⟩ := x.reads
    show x.1.oneCell' = true
    rw [he]; rfl
  have hH : Holds enc w b 0 d := fun j hj => by
    rw [hds] at hj
    refine ⟨by rw [Nat.zero_add, cell_of_heap hb]; exact (hd j hj).1, ?_⟩
    simp [World.frozen?, hb]
  have keep : ∀ m dk os, Keep w M (sortWorld enc w b 0 m dk os) M := fun m dk os b' off v h1 h2 => ⟨(sortW_stp hb enc m dk os hM).cell h1 fun h => h2 h.2, h2⟩
  have hcmp : CmpLays1 Tryz.prog g #[] enc cf b 0 d.size w := fun m os dk _ x y => by
    have hk := keep m dk os
    have hreads : RepL (RepT noEnv (sortWorld enc w b 0 m dk os) M) [.ro (.ints .i64 x.row), .ro (.ints .i64 y.row)] [enc x, enc y] :=
      ⟨rep_ints.2 (x.reads.keep hk), rep_ints.2 (y.reads.keep hk), trivial⟩
    have := (hg x.row y.row).2 M (sortWorld enc w b 0 m dk os) [enc x, enc y] (fun b' off hm => by rw [sortW_size]; have := st.mlt b' off hm; omega) hreads
    refine Calls.mono this fun e w' ⟨v, he, hs, _, _, _, hv⟩ => ?_
    obtain ⟨rfl, _⟩ : v = .int .i64 (c x.row y.row) ∧ _ := hv
    exact ⟨he, stp_grow hs⟩
  have eg : ∀ args w, (callFunc g args).run Tryz.prog w = .ok (.enter g args) w := by
    obtain ⟨fn, h1, h2, h3⟩ := (hg [] []).1
    obtain ⟨cd, hcd⟩ := Option.isSome_iff_exists.1 h3
    exact enters_of h1 (by simpa using h2) hcd
  have hcall := Any.slices_SortFunc sortL enc hone cf hO g #[] b 0 o.cap d w eg hcmp hH hlt (by rw [hds]; have : l.length ≤ 140737488355328 := hlb; omega)
  have hv0 : o.val = .slice (some ⟨b, 0, none⟩) d.size o.cap := by rw [Sl.val, hob, hds, hlen]; rfl
  rw [hv0]
  refine Calls.mono hcall fun e w' ⟨he, d', n, os, hp, hsrt, hw⟩ => ?_
  subst hw
  refine ⟨_, ρ, M, he, ?_, ⟨#[], rfl, trivial⟩⟩
  have hds' : d'.size = l.length := by rw [hp.1, hds]
  have hperm : d'.toList.Perm d.toList := by
    have := hp.2.2
    rw [← hp.1, Array.extract_size] at this
    rw [hp.1, Array.extract_size] at this
    exact this
  have hrow : d.toList.map RowV.row = l := by
    refine List.ext_getElem (by simp [hds]) fun i h1 h2 => ?_
    have := (hd i h2).2
    rw [getD_eq h2, getElem!_pos d i (by omega)] at this
    simpa using this
  have hl' : (d'.toList.map RowV.row).Perm l := by rw [← hrow]; exact hperm.map _
  have hsorted : (d'.toList.map RowV.row).Pairwise fun a b => c a b ≤ 0 := by
    rw [List.pairwise_map, List.pairwise_iff_getElem]
    intro i j hi hj hij
    have hi' : i < d'.size := by simpa using hi
    have hj' : j < d'.size := by simpa using hj
    have := hsrt i j (Nat.zero_le _) hij (by rw [hds]; omega)
    rw [getElem!_pos d' i hi', getElem!_pos d' j hj'] at this
    have := of_decide_eq_false this
    have sw := hc.swap (d'[i].row) (d'[j].row)
    have this : ¬ c (d'[j].row) (d'[i].row) < 0 := this
    show c (d'[i].row) (d'[j].row) ≤ 0
    omega
  have heq : srt c l = d'.toList.map RowV.row := srt_uniq hc hsorted hl'
  have hget : ∀ q, q < l.length → (srt c l).getD q [] = (d'[q]!).row := fun q hq => by
    rw [heq, getD_eq (by simp; omega), getElem!_pos d' q (by omega)]
    simp
  have hk := keep n d' os
  have hstp := sortW_stp hb enc n d' os hM
  refine ⟨fun k => by rw [st.dom k, find_cons, find_cons]; split <;> rfl, fun k B hB => ?_, st.inj, fun b' off hm => by rw [sortW_size]; have := st.mlt b' off hm; omega, ?_, st.sub, st.old, st.fresh, st.pin⟩
  · have hk1 : k = 1000 ∧ B = .vec 0 (.rows .i64 (srt c l)) [] := by
      rw [find_cons] at hB
      split at hB
      · rename_i e; cases hB; exact ⟨e.symm, rfl⟩
      · cases hB
    obtain ⟨rfl, rfl⟩ := hk1
    refine ⟨⟨o, ho, by rw [hlen]; exact (srt_len l).symm, hsz, by show (srt c l).length ≤ LB; rw [srt_len]; exact hlb, Nat.zero_le _, ?_⟩, .inl rfl⟩
    simp only [hob]
    refine ⟨hcap, putCells enc 0 d' cs, ty, sortW_block hb enc n d' os, by rw [putCells_size]; exact hcs, fun off => by rw [putCells_size, hM off]; omega, fun q hq => ?_⟩
    have hq : q < l.length := by simpa [RO.cells, RO.len, RO.sz, srt_len] using hq
    refine ⟨enc d'[q]!, putCells_at enc d' (by omega) (by omega), ?_⟩
    show SlI _ M .i64 ((srt c l).getD q []) (enc d'[q]!)
    rw [hget q hq]
    exact (d'[q]!).reads.keep hk
  · refine hstp.weaken fun b' off he => ?_
    obtain ⟨rfl, hm⟩ := he
    exact ⟨⟨1000, by simp [hasB, ho, Own.has, hob]⟩, hm⟩
end Go.Proofs.YtpanlghofeebhaaGreat
end
