/- rees.Coordinates: contract. -/
import Derived.Test.YtfoemneboalddaaCooM
namespace Go.Proofs.Ytfoemneboalddaa
open Go Go.AM
set_option maxRecDepth 100000
set_option maxHeartbeats 1000000
theorem idmC_k (t : List (List Int)) (h : Sh t) (x : Int) (hx : 0 ≤ x) (hxt : x < t.length) :
    fnMK TY SP Try.f25 [.int .i64 x, .ptr 1000 0] [(1000, .box [.ro (.rows .i64 t)])] (.bool (.v (idmB t x))) [(1000, .box [.ro (.rows .i64 t)])] := by
  have e1 := h.ent (x := x.toNat) (y := x.toNat) (by omega) (by omega)
  have r1 := h.len (x := x.toNat) (by omega)
  refine And.intro (by omega) ?_
  refine And.intro (by omega) ?_
  refine And.intro (by repeat' first | refine And.intro ?_ ?_ | exact True.intro | (show (_ : Int) = (_ : Int); omega) | omega | exact rfl | (simp only [RO.len]; omega)) ?_
  show decide ((t.getD x.toNat []).getD x.toNat 0 = x) = idmB t x
  unfold idmB; rw [e1.1]
  exact decide_eq_decide.2 (by omega)
theorem idmC_fn (t : List (List Int)) (h : Sh t) (x : Int) (hx : 0 ≤ x) (hxt : x < t.length) : MF 25 [.int .i64 x, .ptr 1000 0] [(1000, .box [.ro (.rows .i64 t)])] (.bool (.v (idmB t x))) [(1000, .box [.ro (.rows .i64 t)])] :=
  mkM Try.func25 (by decide +kernel) rfl (Nat.le_of_ble_eq_true rfl) fun _ => idmC_k t h x hx hxt
theorem idxIdm_k (t : List (List Int)) (h : Sh t) (l : List Int) (hl : ∀ x ∈ l, 0 ≤ x ∧ x < (t.length : Int)) (hll : l.length ≤ 400) :
    fnMK TY SP Try.f24 [.ro (.ints .i64 l), .fn 25 [.ptr 1000 0]] [(1000, .box [.ro (.rows .i64 t)])] (.int .i64 (idxF (idmB t) l)) [(1000, .box [.ro (.rows .i64 t)])] := by
  refine Exists.intro [] <| lp (X := Nat) (fun y => [(8, .int .i64 y)]) (fun _ => []) (fun y => y ≤ l.length ∧ ∀ k, k < y → idmB t (l.getD k 0) = false) (fun y => l.length - y) 0 ⟨Nat.zero_le _, fun k hk => absurd hk (Nat.not_lt_zero _)⟩ (by repeat' first | refine And.intro ?_ ?_ | exact True.intro | (show (_ : Int) = (_ : Int); omega) | omega | exact rfl | (simp only [RO.len]; omega)) ?_
  rintro y ⟨hy, hn⟩
  refine And.intro (fun h1 => ?_) (fun h1 => ?_)
  · have h1 : (y : Int) < (l.length : Int) := h1
    have hyl : y < l.length := by omega
    have hm := hl _ (getD_mem (d := 0) hyl)
    refine And.intro (by omega) ?_
    refine Or.inr (cm [] [(1000, 1000)] (idmC_fn t h (l.getD y 0) hm.1 hm.2) ?_)
    refine And.intro (by repeat' first | refine And.intro ?_ ?_ | exact True.intro | (show (_ : Int) = (_ : Int); omega) | omega | exact rfl | (simp only [RO.len]; omega)) ?_
    refine And.intro (fun h2 => ?_) (fun h2 => ?_)
    · have h2 : idmB t (l.getD y 0) = true := h2
      refine And.intro (by repeat' first | refine And.intro ?_ ?_ | exact True.intro | (show (_ : Int) = (_ : Int); omega) | omega | exact rfl | (simp only [RO.len]; omega)) ?_
      show (y : Int) = idxF (idmB t) l
      exact (idxF_here hyl hn h2).symm
    · have h2 : idmB t (l.getD y 0) = false := h2
      refine And.intro (by omega) ?_
      refine nx (y + 1) ⟨by omega, fun k hk => ?_⟩ (show l.length - (y + 1) < l.length - y by omega) (by repeat' first | refine And.intro ?_ ?_ | exact True.intro | (show (_ : Int) = (_ : Int); omega) | omega | exact rfl | (simp only [RO.len]; omega))
      by_cases e : k = y
      · rw [e]; exact h2
      · exact hn k (by omega)
  · have h1 : (l.length : Int) ≤ (y : Int) := h1
    refine And.intro (by repeat' first | refine And.intro ?_ ?_ | exact True.intro | (show (_ : Int) = (_ : Int); omega) | omega | exact rfl | (simp only [RO.len]; omega)) ?_
    show (-1 : Int) = idxF (idmB t) l
    exact (idxF_no fun k hk => hn k (by omega)).symm
theorem idxIdm_fn (t : List (List Int)) (h : Sh t) (l : List Int) (hl : ∀ x ∈ l, 0 ≤ x ∧ x < (t.length : Int)) (hll : l.length ≤ 400) :
    MF 24 [.ro (.ints .i64 l), .fn 25 [.ptr 1000 0]] [(1000, .box [.ro (.rows .i64 t)])] (.int .i64 (idxF (idmB t) l)) [(1000, .box [.ro (.rows .i64 t)])] :=
  mkM Try.func24 (by decide +kernel) rfl (Nat.le_of_ble_eq_true rfl) fun _ => idxIdm_k t h l hl hll
abbrev ravN : AV := .agg [.nils, .int .i64 0, .int .i64 0, .nils, .bool (.lit false)]
theorem coo_no_k (t : List (List Int)) (j : Int) (h : ¬ (validV t = 0 ∧ 0 ≤ j ∧ j < numJ t)) : fnK TY SP Try.f8 [.ro (.rows .i64 t), .int .i64 j] (.tup [ravN, .nils, .int .i64 (openV t j)]) := by
  refine Or.inl (cq (copen_no t j h) (And.intro rfl (And.intro rfl trivial)) ?_)
  refine And.intro (fun h1 => ?_) (fun h1 => absurd h1 (openV_ne t j))
  exact And.intro (And.intro trivial (And.intro rfl (And.intro rfl (And.intro trivial (And.intro rfl trivial))))) (And.intro trivial (And.intro rfl trivial))
theorem coo_no (t : List (List Int)) (j : Int) (h : ¬ (validV t = 0 ∧ 0 ≤ j ∧ j < numJ t)) : QF 8 [.ro (.rows .i64 t), .int .i64 j] (.tup [ravN, .nils, .int .i64 (openV t j)]) := mkQ Try.func8 (by decide +kernel) rfl (Nat.le_of_ble_eq_true rfl) fun _ => coo_no_k t j h
theorem coo_none_k (t : List (List Int)) (h : Semi t) (j : Nat) (hj : j < numJ t) (hr : (regL t).getD j false = false) : fnK TY SP Try.f8 [.ro (.rows .i64 t), .int .i64 j] (.tup [ravN, .nils, .int .i64 9]) := by
  have hmost := h.most
  have hel := elems_le hj
  have hei : ∀ x ∈ elemsJ t j, 0 ≤ x ∧ x < (t.length : Int) := fun x hx => by have := (mem_elems hj).1 hx; omega
  refine Or.inl (cq (copen_fn t h j hj) (And.intro rfl (And.intro rfl trivial)) ?_)
  refine And.intro (fun h1 => absurd rfl h1) (fun h1 => ?_)
  refine Or.inr (Or.inl (cm [] [(1000, 2)] (idxIdm_fn t h.toSh (elemsJ t j) hei (by omega)) ?_))
  refine And.intro (by repeat' first | refine And.intro ?_ ?_ | exact True.intro | (show (_ : Int) = (_ : Int); omega) | omega | exact rfl | (simp only [RO.len]; omega)) ?_
  have e1 : idxF (idmB t) (elemsJ t j) = -1 := eI_no hj hr
  rw [e1]
  refine And.intro (fun _ => ?_) (fun h2 => ?_)
  · exact And.intro (And.intro trivial (And.intro rfl (And.intro rfl (And.intro trivial (And.intro rfl trivial))))) (And.intro trivial (And.intro rfl trivial))
  · exfalso; omega
theorem coo_none (t : List (List Int)) (h : Semi t) (j : Nat) (hj : j < numJ t) (hr : (regL t).getD j false = false) : QF 8 [.ro (.rows .i64 t), .int .i64 j] (.tup [ravN, .nils, .int .i64 9]) := mkQ Try.func8 (by decide +kernel) rfl (Nat.le_of_ble_eq_true rfl) fun _ => coo_none_k t h j hj hr
theorem coo_k (t : List (List Int)) (h : Semi t) (j : Nat) (hj : j < numJ t) (hr : (regL t).getD j false = true) : fnK TY SP Try.f8 [.ro (.rows .i64 t), .int .i64 j] (.tup [rav (cooG t j (eJ t j)) (cR t j) (cC t j) (cooP t j (eJ t j)) (!minJ t j), .ro (.ints .i64 (cooM t j (eJ t j))), .int .i64 0]) := by
  have hmost := h.most
  have hel := elems_le hj
  have hei : ∀ x ∈ elemsJ t j, 0 ≤ x ∧ x < (t.length : Int) := fun x hx => by have := (mem_elems hj).1 hx; omega
  have hE := eJ_ok h hj hr
  have c := hE.2.2.2.1
  have hrees : Rees (cooG t j (eJ t j)) (cR t j) (cC t j) (cooP t j (eJ t j)) (!minJ t j) := by have := c.rees; rw [cooP_len] at this; exact this
  refine Or.inl (cq (copen_fn t h j hj) (And.intro rfl (And.intro rfl trivial)) ?_)
  refine And.intro (fun h1 => absurd rfl h1) (fun h1 => ?_)
  refine Or.inr (Or.inl (cm [] [(1000, 2)] (idxIdm_fn t h.toSh (elemsJ t j) hei (by omega)) ?_))
  refine And.intro (by repeat' first | refine And.intro ?_ ?_ | exact True.intro | (show (_ : Int) = (_ : Int); omega) | omega | exact rfl | (simp only [RO.len]; omega)) ?_
  have e1 : idxF (idmB t) (elemsJ t j) = eI t j := rfl
  rw [e1]
  refine And.intro (fun h2 => ?_) (fun h2 => ?_)
  · exfalso
    have h2 : eI t j < 0 := h2
    omega
  refine Or.inl <| Exists.intro [false, false, false, false, false, false, false, false, false, false, false, false, false, false, true, true, true, true] (And.intro (by decide +kernel) ?_)
  refine And.intro (by omega) ?_
  refine cq (mat_fn t j (eJ t j) c) (And.intro (by repeat' first | refine And.intro ?_ ?_ | exact True.intro | (show (_ : Int) = (_ : Int); omega) | omega | exact rfl | (simp only [RO.len]; omega)) (And.intro rfl (And.intro hE.2.2.1 trivial))) ?_
  refine Or.inl (cq (sizeV _ _ _ _ _ hrees) (And.intro (by repeat' first | refine And.intro ?_ ?_ | exact True.intro | (show (_ : Int) = (_ : Int); omega) | omega | exact rfl | (simp only [RO.len]; omega)) trivial) ?_)
  have hsm := hrees.small
  refine And.intro (fun h3 => ?_) (fun h3 => ?_)
  · exfalso
    have h3 : 400 < sizeI (cooG t j (eJ t j)).length (cR t j) (cC t j) (!minJ t j) := h3
    omega
  refine And.intro (by omega) ?_
  refine And.intro (by omega) ?_
  refine Exists.intro [] <| lp2 (fun (k : Nat) (_ : List Int) => [(61, .int .i64 k)]) (fun _ P => [(58, .vec 0 (.ints .i64 P) [])]) (fun k P => k ≤ t.length ∧ P.length = t.length ∧ ∀ y, y < k → P.getD y 0 = -1) (fun k _ => t.length - k) 0 (List.replicate t.length 0) ⟨Nat.zero_le _, by simp, by omega⟩ (by repeat' first | refine And.intro ?_ ?_ | exact True.intro | (show (_ : Int) = (_ : Int); omega) | omega | exact rfl | (simp; omega)) ?_
  rintro k P ⟨hk, hP, hPy⟩
  refine And.intro (fun h4 => ?_) (fun h4 => ?_)
  · have h4 : (k : Int) < ((List.replicate ((t.length : Nat) : Int).toNat (0 : Int)).length : Int) := h4
    rw [List.length_replicate, Int.toNat_natCast] at h4
    have hkl : k < t.length := by omega
    refine And.intro (by omega) ?_
    refine And.intro (by omega) ?_
    refine And.intro (by omega) ?_
    refine nx (k + 1, P.set k (-1)) ⟨by omega, by rw [List.length_set]; exact hP, fun y hy => ?_⟩ (show t.length - (k + 1) < t.length - k by omega) (by repeat' first | refine And.intro ?_ ?_ | exact True.intro | (show (_ : Int) = (_ : Int); omega) | omega | exact rfl | (simp only [RO.len]; omega))
    by_cases e : y = k
    · subst e; rw [getD_set_eq (by omega)]
    · rw [getD_set_ne (Ne.symm e)]; exact hPy y (by omega)
  have h4 : ((List.replicate ((t.length : Nat) : Int).toNat (0 : Int)).length : Int) ≤ (k : Int) := h4
  rw [List.length_replicate, Int.toNat_natCast] at h4
  obtain ⟨E, hEE⟩ : ∃ E, E = eJ t j := ⟨_, rfl⟩
  rw [← hEE] at c hrees ⊢
  have hcr := cR_le c
  have hcc := cC_le c
  have hch := cH_le (t := t) (j := j) (e := E)
  have hrl := rIL_len t j E
  have hql := qIL_len t j E
  have kH : (hLs t j E).length = cH t j E := rfl
  refine Exists.intro [] <| lp2 (fun (i : Nat) (_ : List Int) => [(70, .int .i64 i)]) (fun _ M => [(58, .vec 0 (.ints .i64 M) [])]) (fun i M => i ≤ cR t j ∧ CooTo t j E M (fun a _ _ => a < i)) (fun i _ => cR t j - i) 0 P ⟨Nat.zero_le _, .start hP (fun x hx => hPy x (by omega)) (fun _ _ _ => Nat.not_lt_zero _)⟩ (by repeat' first | refine And.intro ?_ ?_ | exact True.intro | (show (_ : Int) = (_ : Int); omega) | omega | exact rfl | (simp only [RO.len]; omega)) ?_
  rintro i M ⟨hi, HM⟩
  refine And.intro (fun h5 => ?_) (fun h5 => ?_)
  · have h5 : (i : Int) < ((rIL t j E).length : Int) := h5
    have hic : i < cR t j := by omega
    have er := c.rI_ok hic
    have gr := rIL_get (j := j) (e := E) hic
    have er0 : ((rIL t j E).getD ((i : Nat) : Int).toNat 0).toNat = rI t j E i := by rw [Int.toNat_natCast, gr, Int.toNat_natCast]
    refine And.intro (by omega) ?_
    refine Exists.intro [] <| lp2 (fun (l : Nat) (_ : List Int) => [(77, .int .i64 l)]) (fun _ M => [(58, .vec 0 (.ints .i64 M) [])]) (fun l M => l ≤ cC t j ∧ CooTo t j E M (fun a _ d => a < i ∨ (a = i ∧ d < l))) (fun l _ => cC t j - l) 0 M ⟨Nat.zero_le _, HM.congr fun a b d _ _ _ => by omega⟩ (by repeat' first | refine And.intro ?_ ?_ | exact True.intro | (show (_ : Int) = (_ : Int); omega) | omega | exact rfl | (simp only [RO.len]; omega)) ?_
    rintro l M ⟨hl, HM⟩
    refine And.intro (fun h6 => ?_) (fun h6 => ?_)
    · have h6 : (l : Int) < ((qIL t j E).length : Int) := h6
      have hlc : l < cC t j := by omega
      have el := c.qI_ok hlc
      have gl := qIL_get (j := j) (e := E) hlc
      have el0 : ((qIL t j E).getD ((l : Nat) : Int).toNat 0).toNat = qI t j E l := by rw [Int.toNat_natCast, gl, Int.toNat_natCast]
      refine And.intro (by omega) ?_
      refine Exists.intro [] <| lp2 (fun (g : Nat) (_ : List Int) => [(84, .int .i64 g)]) (fun _ M => [(58, .vec 0 (.ints .i64 M) [])]) (fun g M => g ≤ cH t j E ∧ CooTo t j E M (fun a b d => a < i ∨ (a = i ∧ (d < l ∨ (d = l ∧ b < g))))) (fun g _ => cH t j E - g) 0 M ⟨Nat.zero_le _, HM.congr fun a b d _ _ _ => by omega⟩ (by repeat' first | refine And.intro ?_ ?_ | exact True.intro | (show (_ : Int) = (_ : Int); omega) | omega | exact rfl | (simp only [RO.len]; omega)) ?_
      rintro g M ⟨hg, HM⟩
      have hMl := HM.len
      refine And.intro (fun h7 => ?_) (fun h7 => ?_)
      · have h7 : (g : Int) < ((hLs t j E).length : Int) := h7
        have hgc : g < cH t j E := by omega
        have eg := c.gI_ok hgc
        have gg := hLs_get c hgc
        have eg0 : ((hLs t j E).getD ((g : Nat) : Int).toNat 0).toNat = gI t j E g := by rw [Int.toNat_natCast, gg, Int.toNat_natCast]
        have n1 := c.semi.toSh.ent er.1 eg.1
        have n2 := c.semi.toSh.ent n1.2 el.1
        have l1 := c.semi.toSh.len er.1
        have l2 := c.semi.toSh.len n1.2
        have v1 : (t.getD ((rIL t j E).getD ((i : Nat) : Int).toNat 0).toNat []).getD ((hLs t j E).getD ((g : Nat) : Int).toNat 0).toNat 0 = ((en t (rI t j E i) (gI t j E g) : Nat) : Int) := by rw [er0, eg0]; exact n1.1
        have v2 : (t.getD ((t.getD ((rIL t j E).getD ((i : Nat) : Int).toNat 0).toNat []).getD ((hLs t j E).getD ((g : Nat) : Int).toNat 0).toNat 0).toNat []).getD ((qIL t j E).getD ((l : Nat) : Int).toNat 0).toNat 0 = ((tri t j E i g l : Nat) : Int) := by rw [v1, Int.toNat_natCast, el0]; exact n2.1
        have hN : numI ((cooG t j E).length : Int) (cC t j : Int) (!minJ t j) i g l = cooN t j E i g l := by unfold cooN triI; rw [Coo.glen]
        have htri : tri t j E i g l < t.length := (c.tri_ok hic hgc hlc).1
        have hgl := Coo.glen (t := t) (j := j) (e := E)
        refine And.intro (by omega) ?_
        refine Or.inl <| Exists.intro [false, false, false, false, false, false, false, false, false, false, false, false, false, false, false, false, false, false, false, false, true] (And.intro (by decide +kernel) ?_)
        refine And.intro (by simp only [Int.toNat_natCast]; omega) ?_
        refine And.intro (by rw [er0]; simp only [Int.toNat_natCast]; omega) ?_
        refine And.intro (by rw [v1]; omega) ?_
        refine And.intro (by rw [v1, Int.toNat_natCast]; simp only [Int.toNat_natCast]; omega) ?_
        refine cq (num_fn _ _ _ _ _ hrees i g l ⟨by omega, by omega⟩ ⟨by omega, by omega⟩ ⟨by omega, by omega⟩) (by repeat' first | refine And.intro ?_ ?_ | exact True.intro | (show (_ : Int) = (_ : Int); omega) | omega | exact rfl | (simp only [RO.len]; omega)) ?_
        refine And.intro (by omega) ?_
        refine And.intro (by omega) ?_
        refine And.intro (by omega) ?_
        refine nx (g + 1, M.set ((t.getD ((t.getD ((rIL t j E).getD ((i : Nat) : Int).toNat 0).toNat []).getD ((hLs t j E).getD ((g : Nat) : Int).toNat 0).toNat 0).toNat []).getD ((qIL t j E).getD ((l : Nat) : Int).toNat 0).toNat 0).toNat (numI ((cooG t j E).length : Int) (cC t j : Int) (!minJ t j) i g l)) ⟨by omega, ?_⟩ (show cH t j E - (g + 1) < cH t j E - g by omega) (by repeat' first | refine And.intro ?_ ?_ | exact True.intro | (show (_ : Int) = (_ : Int); omega) | omega | exact rfl | (simp only [RO.len]; omega))
        rw [v2, Int.toNat_natCast, hN]
        exact HM.step c hic hgc hlc fun a b d _ _ _ => by omega
      · have h7 : ((hLs t j E).length : Int) ≤ (g : Int) := h7
        refine And.intro (by omega) ?_
        exact nx (l + 1, M) ⟨by omega, HM.congr fun a b d _ _ _ => by omega⟩ (show cC t j - (l + 1) < cC t j - l by omega) (by repeat' first | refine And.intro ?_ ?_ | exact True.intro | (show (_ : Int) = (_ : Int); omega) | omega | exact rfl | (simp only [RO.len]; omega))
    · have h6 : ((qIL t j E).length : Int) ≤ (l : Int) := h6
      refine And.intro (by omega) ?_
      exact nx (i + 1, M) ⟨by omega, HM.congr fun a b d _ _ _ => by omega⟩ (show cR t j - (i + 1) < cR t j - i by omega) (by repeat' first | refine And.intro ?_ ?_ | exact True.intro | (show (_ : Int) = (_ : Int); omega) | omega | exact rfl | (simp only [RO.len]; omega))
  · have h5 : ((rIL t j E).length : Int) ≤ (i : Int) := h5
    have hM : M = cooM t j E := HM.done c fun a b d ha _ _ => by omega
    rw [hM]
    refine And.intro (And.intro rfl (And.intro rfl (And.intro rfl (And.intro rfl (And.intro rfl trivial))))) ?_
    exact And.intro (And.intro trivial rfl) (And.intro rfl trivial)
theorem coo_fn (t : List (List Int)) (h : Semi t) (j : Nat) (hj : j < numJ t) (hr : (regL t).getD j false = true) : QF 8 [.ro (.rows .i64 t), .int .i64 j] (.tup [rav (cooG t j (eJ t j)) (cR t j) (cC t j) (cooP t j (eJ t j)) (!minJ t j), .ro (.ints .i64 (cooM t j (eJ t j))), .int .i64 0]) := mkQ Try.func8 (by decide +kernel) rfl (Nat.le_of_ble_eq_true rfl) fun _ => coo_k t h j hj hr
end Go.Proofs.Ytfoemneboalddaa
