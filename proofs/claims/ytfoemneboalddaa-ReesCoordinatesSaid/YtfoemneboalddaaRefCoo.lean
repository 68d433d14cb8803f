/- The reference's coordinates of a class: contract. -/
import Derived.Test.YtfoemneboalddaaRefSub
import Derived.Test.YtfoemneboalddaaBox
import Derived.Test.YtfoemneboalddaaRefClass
import Derived.Test.YtfoemneboalddaaRefRees
import Derived.Test.YtfoemneboalddaaCoo
namespace Go.Proofs.Ytfoemneboalddaa
open Go Go.AM
set_option maxRecDepth 100000
set_option maxHeartbeats 4000000
theorem hit_get {t : List (List Int)} {j : Nat} (hj : j < numJ t) {a b : Int} {k : Nat} (hk : k < (hitJ t j a b).length) : ∃ y : Nat, (hitJ t j a b).getD k 0 = (y : Int) ∧ y < t.length ∧ jcl t y = j ∧ rcl t y = a ∧ lcl t y = b := by
  have hm := getD_mem (d := 0) hk
  have h0 : 0 ≤ (hitJ t j a b).getD k 0 := by
    have h1 := hm
    rw [hit_flt] at h1 ⊢
    exact ((mem_elems hj).1 (List.mem_filter.1 h1).1).1
  have e : (hitJ t j a b).getD k 0 = (((hitJ t j a b).getD k 0).toNat : Int) := by omega
  rw [e] at hm
  have := (mem_hit hj).1 hm
  exact ⟨_, e, this⟩
theorem rcoo_no_k (t : List (List Int)) (j : Int) (h : ¬ (validV t = 0 ∧ 0 ≤ j ∧ j < numJ t)) : fnK TY SP Try.f9 [.ro (.rows .i64 t), .int .i64 j] (.tup [ravN, .nils, .int .i64 (openV t j)]) := by
  refine Or.inl (cq (rclass_no t j h) (And.intro rfl (And.intro rfl trivial)) ?_)
  refine And.intro (fun h1 => ?_) (fun h1 => absurd h1 (openV_ne t j))
  exact And.intro (And.intro trivial (And.intro rfl (And.intro rfl (And.intro trivial (And.intro rfl trivial))))) (And.intro trivial (And.intro rfl trivial))
theorem rcoo_no (t : List (List Int)) (j : Int) (h : ¬ (validV t = 0 ∧ 0 ≤ j ∧ j < numJ t)) : QF 9 [.ro (.rows .i64 t), .int .i64 j] (.tup [ravN, .nils, .int .i64 (openV t j)]) := mkQ Try.func9 (by decide +kernel) rfl (Nat.le_of_ble_eq_true rfl) fun _ => rcoo_no_k t j h
theorem rcoo_none_k (t : List (List Int)) (h : Semi t) (j : Nat) (hj : j < numJ t) (hr : (regL t).getD j false = false) : fnK TY SP Try.f9 [.ro (.rows .i64 t), .int .i64 j] (.tup [ravN, .nils, .int .i64 9]) := by
  have hmost := h.most
  have hle := rowsN_le h hj
  have hel := elems_le hj
  have hcl1 := cellsL_len t j
  refine Or.inl (cq (rclass_fn t h j hj) (And.intro rfl (And.intro rfl trivial)) ?_)
  refine And.intro (fun h1 => absurd rfl h1) (fun _ => ?_)
  refine Or.inl (cq (rbox_fn t h j hj) (And.intro rfl (And.intro rfl trivial)) ?_)
  refine Exists.intro [] <| lp2 (fun (i : Nat) (x : Int × Int × Int) => [(51, .int .i64 i), (11, .int .i64 x.1), (12, .int .i64 x.2.1), (13, .int .i64 x.2.2)]) (fun _ _ => []) (fun i x => i ≤ (rowsN t j).length ∧ MinTo t j (VisI t j i) x.1 x.2.1 x.2.2) (fun i _ => (rowsN t j).length - i) 0 (-1, 0, 0) ⟨Nat.zero_le _, .start t j fun x hx => by obtain ⟨_, _, a, ha, _⟩ := hx; omega⟩ (by repeat' first | refine And.intro ?_ ?_ | exact True.intro | (show (_ : Int) = (_ : Int); omega) | omega | exact rfl | (simp only [RO.len]; omega)) ?_
  rintro i ⟨x, x1, x2⟩ ⟨hi, HM⟩
  refine And.intro (fun h1 => ?_) (fun h1 => ?_)
  · have h1 : (i : Int) < ((cellsL t j).length : Int) := h1
    have hil : i < (rowsN t j).length := by omega
    have gi := cellsL_get (t := t) (j := j) hil
    have gl := cellR_len t j ((rowsN t j).getD i 0)
    refine And.intro (by omega) ?_
    refine Exists.intro [] <| lp2 (fun (l : Nat) (x : Int × Int × Int) => [(60, .int .i64 l), (11, .int .i64 x.1), (12, .int .i64 x.2.1), (13, .int .i64 x.2.2)]) (fun _ _ => []) (fun l x => l ≤ (colsN t j).length ∧ MinTo t j (VisL t j i l) x.1 x.2.1 x.2.2) (fun l _ => (colsN t j).length - l) 0 (x, x1, x2) ⟨Nat.zero_le _, HM.sub fun _ hv => visL_0 hv⟩ (by repeat' first | refine And.intro ?_ ?_ | exact True.intro | (show (_ : Int) = (_ : Int); omega) | omega | exact rfl | (simp only [RO.len]; omega)) ?_
    rintro l ⟨x, x1, x2⟩ ⟨hl, HM⟩
    refine And.intro (fun h2 => ?_) (fun h2 => ?_)
    · have h2 : (l : Int) < (((cellsL t j).getD i []).length : Int) := h2
      rw [gi, gl] at h2
      have hll : l < (colsN t j).length := by omega
      have gc := cellR_get (t := t) (j := j) (a := (rowsN t j).getD i 0) hll
      refine And.intro (by omega) ?_
      refine And.intro (by rw [Int.toNat_natCast, gi]; omega) ?_
      refine Exists.intro [] <| lp2 (fun (k : Nat) (x : Int × Int × Int) => [(72, .int .i64 k), (11, .int .i64 x.1), (12, .int .i64 x.2.1), (13, .int .i64 x.2.2)]) (fun _ _ => []) (fun k x => k ≤ (hitJ t j ((rowsN t j).getD i 0) ((colsN t j).getD l 0)).length ∧ MinTo t j (VisK t j i l k) x.1 x.2.1 x.2.2) (fun k _ => (hitJ t j ((rowsN t j).getD i 0) ((colsN t j).getD l 0)).length - k) 0 (x, x1, x2) ⟨Nat.zero_le _, HM.sub fun _ hv => visK_0 hv⟩ (by repeat' first | refine And.intro ?_ ?_ | exact True.intro | (show (_ : Int) = (_ : Int); omega) | omega | exact rfl | (simp only [RO.len]; omega)) ?_
      rintro k ⟨x, x1, x2⟩ ⟨hk, HM⟩
      refine And.intro (fun h3 => ?_) (fun h3 => ?_)
      · have h3 : (k : Int) < ((((cellsL t j).getD i []).getD l []).length : Int) := h3
        rw [gi, gc] at h3
        have hkl : k < (hitJ t j ((rowsN t j).getD i 0) ((colsN t j).getD l 0)).length := by omega
        have hhl := hit_le t j ((rowsN t j).getD i 0) ((colsN t j).getD l 0)
        refine Exists.elim (hit_get hj hkl) fun y hy => ?_
        have eY : (((cellsL t j).getD ((i : Nat) : Int).toNat []).getD ((l : Nat) : Int).toNat []).getD ((k : Nat) : Int).toNat 0 = (y : Int) := by simp only [Int.toNat_natCast]; rw [gi, gc, hy.1]
        have ry := h.toSh.len hy.2.1
        have ey := h.toSh.ent hy.2.1 hy.2.1
        have vs : ∀ x, VisK t j i l (k + 1) x → VisK t j i l k x ∨ x = y := fun x hv => visK_s hkl hy.1 hv
        refine And.intro (by rw [Int.toNat_natCast, Int.toNat_natCast, gi, gc]; omega) ?_
        refine And.intro (by rw [eY]; omega) ?_
        refine And.intro (by rw [eY, Int.toNat_natCast]; omega) ?_
        have tk : en t y y = y → (x < 0 ∨ (y : Int) < x) → MinTo t j (VisK t j i l (k + 1)) ((((cellsL t j).getD ((i : Nat) : Int).toNat []).getD ((l : Nat) : Int).toNat []).getD ((k : Nat) : Int).toNat 0) (i : Int) (l : Int) := fun hi hlt => by
          rw [eY]; exact HM.take vs hy.2.1 hy.2.2.1 hi hlt hil hy.2.2.2.1.symm hll hy.2.2.2.2.symm
        refine And.intro (fun h4 => ?_) (fun h4 => ?_)
        · have h4 : (t.getD ((((cellsL t j).getD ((i : Nat) : Int).toNat []).getD ((l : Nat) : Int).toNat []).getD ((k : Nat) : Int).toNat 0).toNat []).getD ((((cellsL t j).getD ((i : Nat) : Int).toNat []).getD ((l : Nat) : Int).toNat []).getD ((k : Nat) : Int).toNat 0).toNat 0 = (((cellsL t j).getD ((i : Nat) : Int).toNat []).getD ((l : Nat) : Int).toNat []).getD ((k : Nat) : Int).toNat 0 := h4
          rw [eY, Int.toNat_natCast, ey.1] at h4
          refine And.intro (fun h5 => ?_) (fun h5 => ?_)
          · have h5 : x < 0 := h5
            refine And.intro (by omega) ?_
            exact nx (k + 1, ((((cellsL t j).getD ((i : Nat) : Int).toNat []).getD ((l : Nat) : Int).toNat []).getD ((k : Nat) : Int).toNat 0, ((i : Nat) : Int), ((l : Nat) : Int))) ⟨by omega, tk (by omega) (.inl h5)⟩ (show (hitJ t j ((rowsN t j).getD i 0) ((colsN t j).getD l 0)).length - (k + 1) < (hitJ t j ((rowsN t j).getD i 0) ((colsN t j).getD l 0)).length - k by omega) (by repeat' first | refine And.intro ?_ ?_ | exact True.intro | (show (_ : Int) = (_ : Int); omega) | omega | exact rfl | (simp only [RO.len]; omega))
          · refine And.intro (fun h6 => ?_) (fun h6 => ?_)
            · have h6 : (((cellsL t j).getD ((i : Nat) : Int).toNat []).getD ((l : Nat) : Int).toNat []).getD ((k : Nat) : Int).toNat 0 < x := h6
              rw [eY] at h6
              refine And.intro (by omega) ?_
              exact nx (k + 1, ((((cellsL t j).getD ((i : Nat) : Int).toNat []).getD ((l : Nat) : Int).toNat []).getD ((k : Nat) : Int).toNat 0, ((i : Nat) : Int), ((l : Nat) : Int))) ⟨by omega, tk (by omega) (.inr h6)⟩ (show (hitJ t j ((rowsN t j).getD i 0) ((colsN t j).getD l 0)).length - (k + 1) < (hitJ t j ((rowsN t j).getD i 0) ((colsN t j).getD l 0)).length - k by omega) (by repeat' first | refine And.intro ?_ ?_ | exact True.intro | (show (_ : Int) = (_ : Int); omega) | omega | exact rfl | (simp only [RO.len]; omega))
            · have h5 : 0 ≤ x := h5
              have h6 : x ≤ (((cellsL t j).getD ((i : Nat) : Int).toNat []).getD ((l : Nat) : Int).toNat []).getD ((k : Nat) : Int).toNat 0 := h6
              rw [eY] at h6
              refine And.intro (by omega) ?_
              exact nx (k + 1, (x, x1, x2)) ⟨by omega, HM.skip vs fun _ => ⟨h5, h6⟩⟩ (show (hitJ t j ((rowsN t j).getD i 0) ((colsN t j).getD l 0)).length - (k + 1) < (hitJ t j ((rowsN t j).getD i 0) ((colsN t j).getD l 0)).length - k by omega) (by repeat' first | refine And.intro ?_ ?_ | exact True.intro | (show (_ : Int) = (_ : Int); omega) | omega | exact rfl | (simp only [RO.len]; omega))
        · have h4 : (t.getD ((((cellsL t j).getD ((i : Nat) : Int).toNat []).getD ((l : Nat) : Int).toNat []).getD ((k : Nat) : Int).toNat 0).toNat []).getD ((((cellsL t j).getD ((i : Nat) : Int).toNat []).getD ((l : Nat) : Int).toNat []).getD ((k : Nat) : Int).toNat 0).toNat 0 ≠ (((cellsL t j).getD ((i : Nat) : Int).toNat []).getD ((l : Nat) : Int).toNat []).getD ((k : Nat) : Int).toNat 0 := h4
          rw [eY, Int.toNat_natCast, ey.1] at h4
          refine And.intro (by omega) ?_
          exact nx (k + 1, (x, x1, x2)) ⟨by omega, HM.skip vs fun hh => absurd (congrArg Int.ofNat hh) h4⟩ (show (hitJ t j ((rowsN t j).getD i 0) ((colsN t j).getD l 0)).length - (k + 1) < (hitJ t j ((rowsN t j).getD i 0) ((colsN t j).getD l 0)).length - k by omega) (by repeat' first | refine And.intro ?_ ?_ | exact True.intro | (show (_ : Int) = (_ : Int); omega) | omega | exact rfl | (simp only [RO.len]; omega))
      · have h3 : ((((cellsL t j).getD i []).getD l []).length : Int) ≤ (k : Int) := h3
        rw [gi, gc] at h3
        refine And.intro (by omega) ?_
        exact nx (l + 1, (x, x1, x2)) ⟨by omega, HM.sub fun _ hv => visL_s hj (by omega) hv⟩ (show (colsN t j).length - (l + 1) < (colsN t j).length - l by omega) (by repeat' first | refine And.intro ?_ ?_ | exact True.intro | (show (_ : Int) = (_ : Int); omega) | omega | exact rfl | (simp only [RO.len]; omega))
    · have h2 : (((cellsL t j).getD i []).length : Int) ≤ (l : Int) := h2
      rw [gi, gl] at h2
      refine And.intro (by omega) ?_
      exact nx (i + 1, (x, x1, x2)) ⟨by omega, HM.sub fun _ hv => visI_s h hj (by omega) hv⟩ (show (rowsN t j).length - (i + 1) < (rowsN t j).length - i by omega) (by repeat' first | refine And.intro ?_ ?_ | exact True.intro | (show (_ : Int) = (_ : Int); omega) | omega | exact rfl | (simp only [RO.len]; omega))
  have h1 : ((cellsL t j).length : Int) ≤ (i : Int) := h1
  have HM : MinTo t j (VisI t j i) x x1 x2 := HM
  have HN := HM.none h hj (by omega) hr
  refine And.intro (fun _ => ?_) (fun h2 => absurd h2 (fun hh => by have hh : 0 ≤ x := hh; omega))
  exact And.intro (And.intro trivial (And.intro rfl (And.intro rfl (And.intro trivial (And.intro rfl trivial))))) (And.intro trivial (And.intro rfl trivial))
theorem rcoo_none (t : List (List Int)) (h : Semi t) (j : Nat) (hj : j < numJ t) (hr : (regL t).getD j false = false) : QF 9 [.ro (.rows .i64 t), .int .i64 j] (.tup [ravN, .nils, .int .i64 9]) := mkQ Try.func9 (by decide +kernel) rfl (Nat.le_of_ble_eq_true rfl) fun _ => rcoo_none_k t h j hj hr
theorem rcoo_k (t : List (List Int)) (h : Semi t) (j : Nat) (hj : j < numJ t) (hr : (regL t).getD j false = true) : fnK TY SP Try.f9 [.ro (.rows .i64 t), .int .i64 j] (.tup [rav (cooG t j (eJ t j)) (cR t j) (cC t j) (cooP t j (eJ t j)) (!minJ t j), .ro (.ints .i64 (cooM t j (eJ t j))), .int .i64 0]) := by
  have hmost := h.most
  have hle := rowsN_le h hj
  have hel := elems_le hj
  have hcl1 := cellsL_len t j
  refine Or.inl (cq (rclass_fn t h j hj) (And.intro rfl (And.intro rfl trivial)) ?_)
  refine And.intro (fun h1 => absurd rfl h1) (fun _ => ?_)
  refine Or.inl (cq (rbox_fn t h j hj) (And.intro rfl (And.intro rfl trivial)) ?_)
  refine Exists.intro [] <| lp2 (fun (i : Nat) (x : Int × Int × Int) => [(51, .int .i64 i), (11, .int .i64 x.1), (12, .int .i64 x.2.1), (13, .int .i64 x.2.2)]) (fun _ _ => []) (fun i x => i ≤ (rowsN t j).length ∧ MinTo t j (VisI t j i) x.1 x.2.1 x.2.2) (fun i _ => (rowsN t j).length - i) 0 (-1, 0, 0) ⟨Nat.zero_le _, .start t j fun x hx => by obtain ⟨_, _, a, ha, _⟩ := hx; omega⟩ (by repeat' first | refine And.intro ?_ ?_ | exact True.intro | (show (_ : Int) = (_ : Int); omega) | omega | exact rfl | (simp only [RO.len]; omega)) ?_
  rintro i ⟨x, x1, x2⟩ ⟨hi, HM⟩
  refine And.intro (fun h1 => ?_) (fun h1 => ?_)
  · have h1 : (i : Int) < ((cellsL t j).length : Int) := h1
    have hil : i < (rowsN t j).length := by omega
    have gi := cellsL_get (t := t) (j := j) hil
    have gl := cellR_len t j ((rowsN t j).getD i 0)
    refine And.intro (by omega) ?_
    refine Exists.intro [] <| lp2 (fun (l : Nat) (x : Int × Int × Int) => [(60, .int .i64 l), (11, .int .i64 x.1), (12, .int .i64 x.2.1), (13, .int .i64 x.2.2)]) (fun _ _ => []) (fun l x => l ≤ (colsN t j).length ∧ MinTo t j (VisL t j i l) x.1 x.2.1 x.2.2) (fun l _ => (colsN t j).length - l) 0 (x, x1, x2) ⟨Nat.zero_le _, HM.sub fun _ hv => visL_0 hv⟩ (by repeat' first | refine And.intro ?_ ?_ | exact True.intro | (show (_ : Int) = (_ : Int); omega) | omega | exact rfl | (simp only [RO.len]; omega)) ?_
    rintro l ⟨x, x1, x2⟩ ⟨hl, HM⟩
    refine And.intro (fun h2 => ?_) (fun h2 => ?_)
    · have h2 : (l : Int) < (((cellsL t j).getD i []).length : Int) := h2
      rw [gi, gl] at h2
      have hll : l < (colsN t j).length := by omega
      have gc := cellR_get (t := t) (j := j) (a := (rowsN t j).getD i 0) hll
      refine And.intro (by omega) ?_
      refine And.intro (by rw [Int.toNat_natCast, gi]; omega) ?_
      refine Exists.intro [] <| lp2 (fun (k : Nat) (x : Int × Int × Int) => [(72, .int .i64 k), (11, .int .i64 x.1), (12, .int .i64 x.2.1), (13, .int .i64 x.2.2)]) (fun _ _ => []) (fun k x => k ≤ (hitJ t j ((rowsN t j).getD i 0) ((colsN t j).getD l 0)).length ∧ MinTo t j (VisK t j i l k) x.1 x.2.1 x.2.2) (fun k _ => (hitJ t j ((rowsN t j).getD i 0) ((colsN t j).getD l 0)).length - k) 0 (x, x1, x2) ⟨Nat.zero_le _, HM.sub fun _ hv => visK_0 hv⟩ (by repeat' first | refine And.intro ?_ ?_ | exact True.intro | (show (_ : Int) = (_ : Int); omega) | omega | exact rfl | (simp only [RO.len]; omega)) ?_
      rintro k ⟨x, x1, x2⟩ ⟨hk, HM⟩
      refine And.intro (fun h3 => ?_) (fun h3 => ?_)
      · have h3 : (k : Int) < ((((cellsL t j).getD i []).getD l []).length : Int) := h3
        rw [gi, gc] at h3
        have hkl : k < (hitJ t j ((rowsN t j).getD i 0) ((colsN t j).getD l 0)).length := by omega
        have hhl := hit_le t j ((rowsN t j).getD i 0) ((colsN t j).getD l 0)
        refine Exists.elim (hit_get hj hkl) fun y hy => ?_
        have eY : (((cellsL t j).getD ((i : Nat) : Int).toNat []).getD ((l : Nat) : Int).toNat []).getD ((k : Nat) : Int).toNat 0 = (y : Int) := by simp only [Int.toNat_natCast]; rw [gi, gc, hy.1]
        have ry := h.toSh.len hy.2.1
        have ey := h.toSh.ent hy.2.1 hy.2.1
        have vs : ∀ x, VisK t j i l (k + 1) x → VisK t j i l k x ∨ x = y := fun x hv => visK_s hkl hy.1 hv
        refine And.intro (by rw [Int.toNat_natCast, Int.toNat_natCast, gi, gc]; omega) ?_
        refine And.intro (by rw [eY]; omega) ?_
        refine And.intro (by rw [eY, Int.toNat_natCast]; omega) ?_
        have tk : en t y y = y → (x < 0 ∨ (y : Int) < x) → MinTo t j (VisK t j i l (k + 1)) ((((cellsL t j).getD ((i : Nat) : Int).toNat []).getD ((l : Nat) : Int).toNat []).getD ((k : Nat) : Int).toNat 0) (i : Int) (l : Int) := fun hi hlt => by
          rw [eY]; exact HM.take vs hy.2.1 hy.2.2.1 hi hlt hil hy.2.2.2.1.symm hll hy.2.2.2.2.symm
        refine And.intro (fun h4 => ?_) (fun h4 => ?_)
        · have h4 : (t.getD ((((cellsL t j).getD ((i : Nat) : Int).toNat []).getD ((l : Nat) : Int).toNat []).getD ((k : Nat) : Int).toNat 0).toNat []).getD ((((cellsL t j).getD ((i : Nat) : Int).toNat []).getD ((l : Nat) : Int).toNat []).getD ((k : Nat) : Int).toNat 0).toNat 0 = (((cellsL t j).getD ((i : Nat) : Int).toNat []).getD ((l : Nat) : Int).toNat []).getD ((k : Nat) : Int).toNat 0 := h4
          rw [eY, Int.toNat_natCast, ey.1] at h4
          refine And.intro (fun h5 => ?_) (fun h5 => ?_)
          · have h5 : x < 0 := h5
            refine And.intro (by omega) ?_
            exact nx (k + 1, ((((cellsL t j).getD ((i : Nat) : Int).toNat []).getD ((l : Nat) : Int).toNat []).getD ((k : Nat) : Int).toNat 0, ((i : Nat) : Int), ((l : Nat) : Int))) ⟨by omega, tk (by omega) (.inl h5)⟩ (show (hitJ t j ((rowsN t j).getD i 0) ((colsN t j).getD l 0)).length - (k + 1) < (hitJ t j ((rowsN t j).getD i 0) ((colsN t j).getD l 0)).length - k by omega) (by repeat' first | refine And.intro ?_ ?_ | exact True.intro | (show (_ : Int) = (_ : Int); omega) | omega | exact rfl | (simp only [RO.len]; omega))
          · refine And.intro (fun h6 => ?_) (fun h6 => ?_)
            · have h6 : (((cellsL t j).getD ((i : Nat) : Int).toNat []).getD ((l : Nat) : Int).toNat []).getD ((k : Nat) : Int).toNat 0 < x := h6
              rw [eY] at h6
              refine And.intro (by omega) ?_
              exact nx (k + 1, ((((cellsL t j).getD ((i : Nat) : Int).toNat []).getD ((l : Nat) : Int).toNat []).getD ((k : Nat) : Int).toNat 0, ((i : Nat) : Int), ((l : Nat) : Int))) ⟨by omega, tk (by omega) (.inr h6)⟩ (show (hitJ t j ((rowsN t j).getD i 0) ((colsN t j).getD l 0)).length - (k + 1) < (hitJ t j ((rowsN t j).getD i 0) ((colsN t j).getD l 0)).length - k by omega) (by repeat' first | refine And.intro ?_ ?_ | exact True.intro | (show (_ : Int) = (_ : Int); omega) | omega | exact rfl | (simp only [RO.len]; omega))
            · have h5 : 0 ≤ x := h5
              have h6 : x ≤ (((cellsL t j).getD ((i : Nat) : Int).toNat []).getD ((l : Nat) : Int).toNat []).getD ((k : Nat) : Int).toNat 0 := h6
              rw [eY] at h6
              refine And.intro (by omega) ?_
              exact nx (k + 1, (x, x1, x2)) ⟨by omega, HM.skip vs fun _ => ⟨h5, h6⟩⟩ (show (hitJ t j ((rowsN t j).getD i 0) ((colsN t j).getD l 0)).length - (k + 1) < (hitJ t j ((rowsN t j).getD i 0) ((colsN t j).getD l 0)).length - k by omega) (by repeat' first | refine And.intro ?_ ?_ | exact True.intro | (show (_ : Int) = (_ : Int); omega) | omega | exact rfl | (simp only [RO.len]; omega))
        · have h4 : (t.getD ((((cellsL t j).getD ((i : Nat) : Int).toNat []).getD ((l : Nat) : Int).toNat []).getD ((k : Nat) : Int).toNat 0).toNat []).getD ((((cellsL t j).getD ((i : Nat) : Int).toNat []).getD ((l : Nat) : Int).toNat []).getD ((k : Nat) : Int).toNat 0).toNat 0 ≠ (((cellsL t j).getD ((i : Nat) : Int).toNat []).getD ((l : Nat) : Int).toNat []).getD ((k : Nat) : Int).toNat 0 := h4
          rw [eY, Int.toNat_natCast, ey.1] at h4
          refine And.intro (by omega) ?_
          exact nx (k + 1, (x, x1, x2)) ⟨by omega, HM.skip vs fun hh => absurd (congrArg Int.ofNat hh) h4⟩ (show (hitJ t j ((rowsN t j).getD i 0) ((colsN t j).getD l 0)).length - (k + 1) < (hitJ t j ((rowsN t j).getD i 0) ((colsN t j).getD l 0)).length - k by omega) (by repeat' first | refine And.intro ?_ ?_ | exact True.intro | (show (_ : Int) = (_ : Int); omega) | omega | exact rfl | (simp only [RO.len]; omega))
      · have h3 : ((((cellsL t j).getD i []).getD l []).length : Int) ≤ (k : Int) := h3
        rw [gi, gc] at h3
        refine And.intro (by omega) ?_
        exact nx (l + 1, (x, x1, x2)) ⟨by omega, HM.sub fun _ hv => visL_s hj (by omega) hv⟩ (show (colsN t j).length - (l + 1) < (colsN t j).length - l by omega) (by repeat' first | refine And.intro ?_ ?_ | exact True.intro | (show (_ : Int) = (_ : Int); omega) | omega | exact rfl | (simp only [RO.len]; omega))
    · have h2 : (((cellsL t j).getD i []).length : Int) ≤ (l : Int) := h2
      rw [gi, gl] at h2
      refine And.intro (by omega) ?_
      exact nx (i + 1, (x, x1, x2)) ⟨by omega, HM.sub fun _ hv => visI_s h hj (by omega) hv⟩ (show (rowsN t j).length - (i + 1) < (rowsN t j).length - i by omega) (by repeat' first | refine And.intro ?_ ?_ | exact True.intro | (show (_ : Int) = (_ : Int); omega) | omega | exact rfl | (simp only [RO.len]; omega))
  have h1 : ((cellsL t j).length : Int) ≤ (i : Int) := h1
  have HM : MinTo t j (VisI t j i) x x1 x2 := HM
  have HD := HM.done h hj (by omega) hr
  have c := (eJ_ok h hj hr).2.2.2.1
  refine And.intro (fun h2 => absurd h2 HD.1) (fun h2 => ?_)
  have g1 := cellsL_get (t := t) (j := j) (i := x1.toNat) (by have := HD.2.1; omega)
  have g2 := cellR_len t j ((rowsN t j).getD x1.toNat 0)
  have g3 := cellR_get (t := t) (j := j) (l := x2.toNat) (a := (rowsN t j).getD x1.toNat 0) (by have := HD.2.2; omega)
  have hcell : ((cellsL t j).getD x1.toNat []).getD x2.toNat [] = hLs t j (eJ t j) := by rw [g1, g3, HD.2.1.2.2, HD.2.2.2.2]; rfl
  refine And.intro (show 0 ≤ x1 ∧ x1 < ((cellsL t j).length : Int) by have := HD.2.1; omega) ?_
  refine And.intro (show 0 ≤ x2 ∧ x2 < (((cellsL t j).getD x1.toNat []).length : Int) by rw [g1, g2]; have := HD.2.2; omega) ?_
  refine Or.inl (cq (rsub_fn t h (hLs t j (eJ t j)) c.hCl c.hlen) (And.intro rfl (And.intro (congrArg (RO.ints .i64) hcell) trivial)) ?_)
  have hcr := cR_le c
  have hcc := cC_le c
  have hch := cH_le (t := t) (j := j) (e := eJ t j)
  have kR : (rowsN t j).length = cR t j := rfl
  have kC : (colsN t j).length = cC t j := rfl
  have kH : (hLs t j (eJ t j)).length = cH t j (eJ t j) := rfl
  have hrees : Rees (cooG t j (eJ t j)) (cR t j) (cC t j) (cooP t j (eJ t j)) (!minJ t j) := by have := c.rees; rw [cooP_len] at this; exact this
  have hx1 : 0 ≤ x1 ∧ x1 < ((cellsL t j).length : Int) := by have := HD.2.1; omega
  have hx2 : 0 ≤ x2 ∧ x2 < ((colsN t j).length : Int) := by have := HD.2.2; omega
  refine And.intro (fun h3 => absurd rfl h3) (fun _ => ?_)
  refine And.intro (by omega) ?_
  refine And.intro (by omega) ?_
  refine Exists.intro [] <| lp2 (fun (k : Nat) (_ : List Int) => [(136, .int .i64 k)]) (fun _ P => [(133, .vec 0 (.ints .i64 P) [])]) (fun k P => k ≤ t.length ∧ P.length = t.length ∧ ∀ y, y < k → P.getD y 0 = -1) (fun k _ => t.length - k) 0 (List.replicate t.length 0) ⟨Nat.zero_le _, by simp, by omega⟩ (by repeat' first | refine And.intro ?_ ?_ | exact True.intro | (show (_ : Int) = (_ : Int); omega) | omega | exact rfl | (simp; omega)) ?_
  rintro k P ⟨hk, hP, hPy⟩
  refine And.intro (fun h1 => ?_) (fun h1 => ?_)
  · have h1 : (k : Int) < ((List.replicate ((t.length : Nat) : Int).toNat (0 : Int)).length : Int) := h1
    rw [List.length_replicate, Int.toNat_natCast] at h1
    have hkl : k < t.length := by omega
    refine And.intro (by omega) ?_
    refine And.intro (by omega) ?_
    refine And.intro (by omega) ?_
    refine nx (k + 1, P.set k (-1)) ⟨by omega, by rw [List.length_set]; exact hP, fun y hy => ?_⟩ (show t.length - (k + 1) < t.length - k by omega) (by repeat' first | refine And.intro ?_ ?_ | exact True.intro | (show (_ : Int) = (_ : Int); omega) | omega | exact rfl | (simp only [RO.len]; omega))
    by_cases e : y = k
    · subst e; rw [getD_set_eq (by omega)]
    · rw [getD_set_ne (Ne.symm e)]; exact hPy y (by omega)
  have h1 : ((List.replicate ((t.length : Nat) : Int).toNat (0 : Int)).length : Int) ≤ (k : Int) := h1
  rw [List.length_replicate, Int.toNat_natCast] at h1
  refine Exists.intro [] <| lp2 (fun (k : Nat) (_ : List Int) => [(145, .int .i64 k)]) (fun _ P => [(133, .vec 0 (.ints .i64 P) [])]) (fun k P => k ≤ cH t j (eJ t j) ∧ P.length = t.length ∧ ∀ y, y < t.length → P.getD y 0 = posTo (hLs t j (eJ t j)) k y) (fun k _ => cH t j (eJ t j) - k) 0 P ⟨Nat.zero_le _, hP, fun y hy => hPy y (by omega)⟩ (by repeat' first | refine And.intro ?_ ?_ | exact True.intro | (show (_ : Int) = (_ : Int); omega) | omega | exact rfl | (simp only [RO.len]; omega)) ?_
  rintro k P ⟨hk, hP, hPy⟩
  refine And.intro (fun h2 => ?_) (fun h2 => ?_)
  · have h2 : (k : Int) < ((((cellsL t j).getD x1.toNat []).getD x2.toNat []).length : Int) := h2
    rw [hcell] at h2
    have hkc : k < cH t j (eJ t j) := by omega
    have ek := c.gI_ok hkc
    have gk := hLs_get c hkc
    have ek0 : (((cellsL t j).getD x1.toNat []).getD x2.toNat []).getD ((k : Nat) : Int).toNat 0 = (gI t j (eJ t j) k : Int) := by rw [hcell, Int.toNat_natCast, gk]
    refine And.intro (show 0 ≤ ((k : Nat) : Int) ∧ ((k : Nat) : Int) < ((((cellsL t j).getD x1.toNat []).getD x2.toNat []).length : Int) by rw [hcell]; omega) ?_
    refine And.intro (show 0 ≤ (((cellsL t j).getD x1.toNat []).getD x2.toNat []).getD ((k : Nat) : Int).toNat 0 ∧ (((cellsL t j).getD x1.toNat []).getD x2.toNat []).getD ((k : Nat) : Int).toNat 0 < (P.length : Int) by rw [ek0]; omega) ?_
    refine And.intro (show 0 ≤ (((cellsL t j).getD x1.toNat []).getD x2.toNat []).getD ((k : Nat) : Int).toNat 0 by rw [ek0]; omega) ?_
    refine And.intro (by omega) ?_
    refine nx (k + 1, P.set ((((cellsL t j).getD x1.toNat []).getD x2.toNat []).getD ((k : Nat) : Int).toNat 0).toNat ((k : Nat) : Int)) ⟨by omega, by rw [List.length_set]; exact hP, fun y hy => ?_⟩ (show cH t j (eJ t j) - (k + 1) < cH t j (eJ t j) - k by omega) (by repeat' first | refine And.intro ?_ ?_ | exact True.intro | (show (_ : Int) = (_ : Int); omega) | omega | exact rfl | (simp only [RO.len]; omega))
    rw [ek0, Int.toNat_natCast]
    simp only [posTo]
    by_cases e : y = gI t j (eJ t j) k
    · rw [if_pos (by omega), e, getD_set_eq (by omega)]
    · rw [if_neg (by omega), getD_set_ne (Ne.symm e), hPy y hy]
  have h2 : ((((cellsL t j).getD x1.toNat []).getD x2.toNat []).length : Int) ≤ (k : Int) := h2
  rw [hcell] at h2
  have hkH : k = (hLs t j (eJ t j)).length := by omega
  rw [hkH] at hPy
  have hpp := cooP_len t j (eJ t j)
  refine Exists.intro [] <| lp2 (fun (l : Nat) (_ : Nat) => [(158, .int .i64 l)]) (fun l _ => [(203, .vec 0 (.rows .i64 ((cooP t j (eJ t j)).take l)) []), (19, .box [.ro (.rows .i64 (cooG t j (eJ t j))), .int .i64 (cR t j), .int .i64 (cC t j), .vec 203, .bool (.v (!minJ t j))])]) (fun l _ => l ≤ cC t j) (fun l _ => cC t j - l) 0 0 (Nat.zero_le _) (by repeat' first | refine And.intro ?_ ?_ | exact True.intro | (show (_ : Int) = (_ : Int); omega) | omega | exact rfl | (simp only [RO.len]; omega)) ?_
  rintro l _ hl
  have hpl : ((cooP t j (eJ t j)).take l).length = l := by rw [List.length_take]; omega
  refine And.intro (fun h4 => ?_) (fun h4 => ?_)
  · have h4 : (l : Int) < ((colsN t j).length : Int) := h4
    have hlc : l < cC t j := by omega
    have el := c.qI_ok hlc
    have rl := c.semi.toSh.len el.1
    have ql := lst_of c.hj (c.col_meets (getD_mem (d := 0) hlc))
    have hrw := cooP_row (t := t) (j := j) (e := eJ t j) hlc
    have hrwl : ((cooP t j (eJ t j)).getD l []).length = cR t j := by rw [hrw]; simp
    have gc1 := cellR_get (t := t) (j := j) (a := (rowsN t j).getD x1.toNat 0) hlc
    refine Exists.intro [] <| lp2 (fun (i : Nat) (_ : Nat) => [(164, .int .i64 i), (25, .vec 197)]) (fun i _ => [(197, .vec 0 (.ints .i64 (((cooP t j (eJ t j)).getD l []).take i)) [])]) (fun i _ => i ≤ cR t j) (fun i _ => cR t j - i) 0 0 (Nat.zero_le _) (by repeat' first | refine And.intro ?_ ?_ | exact True.intro | (show (_ : Int) = (_ : Int); omega) | omega | exact rfl | (simp only [RO.len]; omega)) ?_
    rintro i _ hi
    have hil' : (((cooP t j (eJ t j)).getD l []).take i).length = i := by rw [List.length_take]; omega
    refine And.intro (fun h5 => ?_) (fun h5 => ?_)
    · have h5 : (i : Int) < ((rowsN t j).length : Int) := h5
      have hic : i < cR t j := by omega
      have er := c.rI_ok hic
      have rr := lst_of c.hj (c.row_meets (getD_mem (d := 0) hic))
      have e1Q : (((cellsL t j).getD x1.toNat []).getD ((l : Nat) : Int).toNat []).getD (Int.toNat 0) 0 = (qI t j (eJ t j) l : Int) := by
        rw [Int.toNat_natCast, g1, gc1, HD.2.1.2.2]; exact ql.2.1
      have e0Q : 0 < (((cellsL t j).getD x1.toNat []).getD ((l : Nat) : Int).toNat []).length := by
        rw [Int.toNat_natCast, g1, gc1, HD.2.1.2.2]; exact ql.1
      have gci := cellsL_get (t := t) (j := j) hic
      have gci2 := cellR_get (t := t) (j := j) (l := x2.toNat) (a := (rowsN t j).getD i 0) (by have := HD.2.2; omega)
      have e1R : (((cellsL t j).getD ((i : Nat) : Int).toNat []).getD x2.toNat []).getD (Int.toNat 0) 0 = (rI t j (eJ t j) i : Int) := by
        rw [Int.toNat_natCast, gci, gci2, HD.2.2.2.2]; exact rr.2.1
      have e0R : 0 < (((cellsL t j).getD ((i : Nat) : Int).toNat []).getD x2.toNat []).length := by
        rw [Int.toNat_natCast, gci, gci2, HD.2.2.2.2]; exact rr.1
      have hri := cellR_len t j ((rowsN t j).getD i 0)
      have hen := c.semi.toSh.ent el.1 er.1
      have v1 : (t.getD ((((cellsL t j).getD x1.toNat []).getD ((l : Nat) : Int).toNat []).getD (Int.toNat 0) 0).toNat []).getD ((((cellsL t j).getD ((i : Nat) : Int).toNat []).getD x2.toNat []).getD (Int.toNat 0) 0).toNat 0 = ((en t (qI t j (eJ t j) l) (rI t j (eJ t j) i) : Nat) : Int) := by
        rw [e1Q, e1R, Int.toNat_natCast, Int.toNat_natCast]; exact hen.1
      have v2 : P.getD ((t.getD ((((cellsL t j).getD x1.toNat []).getD ((l : Nat) : Int).toNat []).getD (Int.toNat 0) 0).toNat []).getD ((((cellsL t j).getD ((i : Nat) : Int).toNat []).getD x2.toNat []).getD (Int.toNat 0) 0).toNat 0).toNat 0 = posTo (hLs t j (eJ t j)) (hLs t j (eJ t j)).length (en t (qI t j (eJ t j) l) (rI t j (eJ t j) i)) := by
        rw [v1, Int.toNat_natCast, hPy _ hen.2]
      refine Or.inl <| Exists.intro [false, false, false, false, false, false, false, false, false, false, false, false, false, false, false, false, false, false, false, false, false, false, false, false, false, false, false, false, false, false, true, true] (And.intro (by decide +kernel) ?_)
      refine And.intro (show 0 ≤ x1 ∧ x1 < ((cellsL t j).length : Int) from hx1) ?_
      refine And.intro (show 0 ≤ ((l : Nat) : Int) ∧ ((l : Nat) : Int) < (((cellsL t j).getD x1.toNat []).length : Int) by rw [g1, g2]; omega) ?_
      refine And.intro (show 0 ≤ (0 : Int) ∧ (0 : Int) < ((((cellsL t j).getD x1.toNat []).getD ((l : Nat) : Int).toNat []).length : Int) by omega) ?_
      refine And.intro (show 0 ≤ (((cellsL t j).getD x1.toNat []).getD ((l : Nat) : Int).toNat []).getD (Int.toNat 0) 0 ∧ (((cellsL t j).getD x1.toNat []).getD ((l : Nat) : Int).toNat []).getD (Int.toNat 0) 0 < (t.length : Int) by rw [e1Q]; omega) ?_
      refine And.intro (by omega) ?_
      refine And.intro (show 0 ≤ x2 ∧ x2 < (((cellsL t j).getD ((i : Nat) : Int).toNat []).length : Int) by rw [Int.toNat_natCast, gci, hri]; omega) ?_
      refine And.intro (show 0 ≤ (0 : Int) ∧ (0 : Int) < ((((cellsL t j).getD ((i : Nat) : Int).toNat []).getD x2.toNat []).length : Int) by omega) ?_
      refine And.intro (show 0 ≤ (((cellsL t j).getD ((i : Nat) : Int).toNat []).getD x2.toNat []).getD (Int.toNat 0) 0 ∧ (((cellsL t j).getD ((i : Nat) : Int).toNat []).getD x2.toNat []).getD (Int.toNat 0) 0 < ((t.getD ((((cellsL t j).getD x1.toNat []).getD ((l : Nat) : Int).toNat []).getD (Int.toNat 0) 0).toNat []).length : Int) by rw [e1Q, e1R, Int.toNat_natCast]; omega) ?_
      refine And.intro (by rw [v1]; omega) ?_
      refine And.intro (by simp only [List.length_append, List.length_cons, List.length_nil, hil']; omega) ?_
      refine And.intro (by omega) ?_
      have e9 : ((cooP t j (eJ t j)).getD l []).take (i + 1) = ((cooP t j (eJ t j)).getD l []).take i ++ [P.getD ((t.getD ((((cellsL t j).getD x1.toNat []).getD ((l : Nat) : Int).toNat []).getD (Int.toNat 0) 0).toNat []).getD ((((cellsL t j).getD ((i : Nat) : Int).toNat []).getD x2.toNat []).getD (Int.toNat 0) 0).toNat 0).toNat 0] := by
        rw [take_snoc (d := 0) (by omega), v2, cooP_get hlc hic]
      refine nx (i + 1, 0) (show i + 1 ≤ cR t j by omega) (show cR t j - (i + 1) < cR t j - i by omega) ?_
      repeat' first | refine And.intro ?_ ?_ | exact True.intro | exact congrArg (RO.ints .i64) e9.symm | (show (_ : Int) = (_ : Int); omega) | omega | exact rfl
    have h5 : ((rowsN t j).length : Int) ≤ (i : Int) := h5
    have e8 : ((cooP t j (eJ t j)).getD l []).take i = (cooP t j (eJ t j)).getD l [] := List.take_of_length_le (by omega)
    have e9 : (cooP t j (eJ t j)).take (l + 1) = (cooP t j (eJ t j)).take l ++ [((cooP t j (eJ t j)).getD l []).take i] := by rw [e8]; exact take_snoc (d := []) (by omega)
    refine And.intro (by simp only [List.length_append, List.length_cons, List.length_nil, hpl]; omega) ?_
    refine And.intro (by omega) ?_
    refine nx (l + 1, 0) (show l + 1 ≤ cC t j by omega) (show cC t j - (l + 1) < cC t j - l by omega) ?_
    repeat' first | refine And.intro ?_ ?_ | exact True.intro | exact congrArg (RO.rows .i64) e9.symm | (show (_ : Int) = (_ : Int); omega) | omega | exact rfl
  have h4 : ((colsN t j).length : Int) ≤ (l : Int) := h4
  have hPP : (cooP t j (eJ t j)).take l = cooP t j (eJ t j) := List.take_of_length_le (by omega)
  have hvz := rees_zero.2 hrees
  refine Or.inl (cq (rval_fn (cooG t j (eJ t j)) (cR t j) (cC t j) (cooP t j (eJ t j)) (!minJ t j)) (And.intro (And.intro rfl (And.intro rfl (And.intro rfl (And.intro (congrArg (RO.rows .i64) hPP) (And.intro rfl trivial))))) trivial) ?_)
  refine And.intro (fun h6 => absurd hvz h6) (fun _ => ?_)
  refine And.intro (by omega) ?_
  refine And.intro (by omega) ?_
  refine Exists.intro [] <| lp2 (fun (k : Nat) (_ : List Int) => [(217, .int .i64 k)]) (fun _ P => [(214, .vec 0 (.ints .i64 P) [])]) (fun k P => k ≤ t.length ∧ P.length = t.length ∧ ∀ y, y < k → P.getD y 0 = -1) (fun k _ => t.length - k) 0 (List.replicate t.length 0) ⟨Nat.zero_le _, by simp, by omega⟩ (by repeat' first | refine And.intro ?_ ?_ | exact True.intro | (show (_ : Int) = (_ : Int); omega) | omega | exact rfl | (simp; omega)) ?_
  rintro k P2 ⟨hk, hP2, hPy2⟩
  refine And.intro (fun h1 => ?_) (fun h1 => ?_)
  · have h1 : (k : Int) < ((List.replicate ((t.length : Nat) : Int).toNat (0 : Int)).length : Int) := h1
    rw [List.length_replicate, Int.toNat_natCast] at h1
    have hkl : k < t.length := by omega
    refine And.intro (by omega) ?_
    refine And.intro (by omega) ?_
    refine And.intro (by omega) ?_
    refine nx (k + 1, P2.set k (-1)) ⟨by omega, by rw [List.length_set]; exact hP2, fun y hy => ?_⟩ (show t.length - (k + 1) < t.length - k by omega) (by repeat' first | refine And.intro ?_ ?_ | exact True.intro | (show (_ : Int) = (_ : Int); omega) | omega | exact rfl | (simp only [RO.len]; omega))
    by_cases e : y = k
    · subst e; rw [getD_set_eq (by omega)]
    · rw [getD_set_ne (Ne.symm e)]; exact hPy2 y (by omega)
  have h1 : ((List.replicate ((t.length : Nat) : Int).toNat (0 : Int)).length : Int) ≤ (k : Int) := h1
  rw [List.length_replicate, Int.toNat_natCast] at h1
  refine Exists.intro [] <| lp2 (fun (i : Nat) (_ : List Int) => [(227, .int .i64 i)]) (fun _ M => [(214, .vec 0 (.ints .i64 M) [])]) (fun i M => i ≤ cR t j ∧ CooTo t j (eJ t j) M (fun a _ _ => a < i)) (fun i _ => cR t j - i) 0 P2 ⟨Nat.zero_le _, .start hP2 (fun x hx => hPy2 x (by omega)) (fun _ _ _ => Nat.not_lt_zero _)⟩ (by repeat' first | refine And.intro ?_ ?_ | exact True.intro | (show (_ : Int) = (_ : Int); omega) | omega | exact rfl | (simp only [RO.len]; omega)) ?_
  rintro i M ⟨hi, HC⟩
  refine And.intro (fun h5 => ?_) (fun h5 => ?_)
  · have h5 : (i : Int) < ((rowsN t j).length : Int) := h5
    have hic : i < cR t j := by omega
    have er := c.rI_ok hic
    have rr := lst_of c.hj (c.row_meets (getD_mem (d := 0) hic))
    have gci := cellsL_get (t := t) (j := j) hic
    have gci2 := cellR_get (t := t) (j := j) (l := x2.toNat) (a := (rowsN t j).getD i 0) (by have := HD.2.2; omega)
    have e1R : (((cellsL t j).getD ((i : Nat) : Int).toNat []).getD x2.toNat []).getD (Int.toNat 0) 0 = (rI t j (eJ t j) i : Int) := by
      rw [Int.toNat_natCast, gci, gci2, HD.2.2.2.2]; exact rr.2.1
    have e0R : 0 < (((cellsL t j).getD ((i : Nat) : Int).toNat []).getD x2.toNat []).length := by
      rw [Int.toNat_natCast, gci, gci2, HD.2.2.2.2]; exact rr.1
    have hri := cellR_len t j ((rowsN t j).getD i 0)
    refine Exists.intro [] <| lp2 (fun (g : Nat) (_ : List Int) => [(232, .int .i64 g)]) (fun _ M => [(214, .vec 0 (.ints .i64 M) [])]) (fun g M => g ≤ cH t j (eJ t j) ∧ CooTo t j (eJ t j) M (fun a b _ => a < i ∨ (a = i ∧ b < g))) (fun g _ => cH t j (eJ t j) - g) 0 M ⟨Nat.zero_le _, HC.congr fun a b d _ _ _ => by omega⟩ (by repeat' first | refine And.intro ?_ ?_ | exact True.intro | (show (_ : Int) = (_ : Int); omega) | omega | exact rfl | (simp only [RO.len]; omega)) ?_
    rintro g M ⟨hg, HC⟩
    refine And.intro (fun h6 => ?_) (fun h6 => ?_)
    · have h6 : (g : Int) < ((((cellsL t j).getD x1.toNat []).getD x2.toNat []).length : Int) := h6
      rw [hcell] at h6
      have hgc : g < cH t j (eJ t j) := by omega
      have eg := c.gI_ok hgc
      have gg := hLs_get c hgc
      have eG : (((cellsL t j).getD x1.toNat []).getD x2.toNat []).getD ((g : Nat) : Int).toNat 0 = (gI t j (eJ t j) g : Int) := by rw [hcell, Int.toNat_natCast, gg]
      have n1 := c.semi.toSh.ent er.1 eg.1
      have l1 := c.semi.toSh.len er.1
      have l2 := c.semi.toSh.len n1.2
      have v1 : (t.getD ((((cellsL t j).getD ((i : Nat) : Int).toNat []).getD x2.toNat []).getD (Int.toNat 0) 0).toNat []).getD ((((cellsL t j).getD x1.toNat []).getD x2.toNat []).getD ((g : Nat) : Int).toNat 0).toNat 0 = ((en t (rI t j (eJ t j) i) (gI t j (eJ t j) g) : Nat) : Int) := by
        rw [e1R, eG, Int.toNat_natCast, Int.toNat_natCast]; exact n1.1
      refine And.intro (show 0 ≤ ((g : Nat) : Int) ∧ ((g : Nat) : Int) < ((((cellsL t j).getD x1.toNat []).getD x2.toNat []).length : Int) by rw [hcell]; omega) ?_
      refine Exists.intro [] <| lp2 (fun (l : Nat) (_ : List Int) => [(240, .int .i64 l)]) (fun _ M => [(214, .vec 0 (.ints .i64 M) [])]) (fun l M => l ≤ cC t j ∧ CooTo t j (eJ t j) M (fun a b d => a < i ∨ (a = i ∧ (b < g ∨ (b = g ∧ d < l))))) (fun l _ => cC t j - l) 0 M ⟨Nat.zero_le _, HC.congr fun a b d _ _ _ => by omega⟩ (by repeat' first | refine And.intro ?_ ?_ | exact True.intro | (show (_ : Int) = (_ : Int); omega) | omega | exact rfl | (simp only [RO.len]; omega)) ?_
      rintro l M ⟨hl, HC⟩
      have hMl := HC.len
      refine And.intro (fun h7 => ?_) (fun h7 => ?_)
      · have h7 : (l : Int) < ((colsN t j).length : Int) := h7
        have hlc : l < cC t j := by omega
        have el := c.qI_ok hlc
        have ql := lst_of c.hj (c.col_meets (getD_mem (d := 0) hlc))
        have gc1 := cellR_get (t := t) (j := j) (a := (rowsN t j).getD x1.toNat 0) hlc
        have e1Q : (((cellsL t j).getD x1.toNat []).getD ((l : Nat) : Int).toNat []).getD (Int.toNat 0) 0 = (qI t j (eJ t j) l : Int) := by
          rw [Int.toNat_natCast, g1, gc1, HD.2.1.2.2]; exact ql.2.1
        have e0Q : 0 < (((cellsL t j).getD x1.toNat []).getD ((l : Nat) : Int).toNat []).length := by
          rw [Int.toNat_natCast, g1, gc1, HD.2.1.2.2]; exact ql.1
        have n2 := c.semi.toSh.ent n1.2 el.1
        have htri : tri t j (eJ t j) i g l < t.length := (c.tri_ok hic hgc hlc).1
        have v2 : (t.getD ((t.getD ((((cellsL t j).getD ((i : Nat) : Int).toNat []).getD x2.toNat []).getD (Int.toNat 0) 0).toNat []).getD ((((cellsL t j).getD x1.toNat []).getD x2.toNat []).getD ((g : Nat) : Int).toNat 0).toNat 0).toNat []).getD ((((cellsL t j).getD x1.toNat []).getD ((l : Nat) : Int).toNat []).getD (Int.toNat 0) 0).toNat 0 = ((tri t j (eJ t j) i g l : Nat) : Int) := by
          rw [v1, e1Q, Int.toNat_natCast, Int.toNat_natCast]; exact n2.1
        have hN : numI ((cooG t j (eJ t j)).length : Int) (cC t j : Int) (!minJ t j) i g l = cooN t j (eJ t j) i g l := by unfold cooN triI; rw [Coo.glen]
        refine Or.inl <| Exists.intro [false, false, false, false, false, false, false, false, false, false, false, false, false, false, false, false, false, false, false, false, false, false, false, false, false, false, false, false, false, false, false, false, false, false, false, false, false, false, true] (And.intro (by decide +kernel) ?_)
        have rn := rnum_fn _ _ _ _ _ hrees i g l
        rw [if_pos ⟨⟨by omega, by omega⟩, ⟨by omega, by rw [Coo.glen]; omega⟩, ⟨by omega, by omega⟩⟩] at rn
        refine And.intro (by omega) ?_
        refine And.intro (show 0 ≤ x2 ∧ x2 < (((cellsL t j).getD ((i : Nat) : Int).toNat []).length : Int) by rw [Int.toNat_natCast, gci, hri]; omega) ?_
        refine And.intro (show 0 ≤ (0 : Int) ∧ (0 : Int) < ((((cellsL t j).getD ((i : Nat) : Int).toNat []).getD x2.toNat []).length : Int) by omega) ?_
        refine And.intro (show 0 ≤ (((cellsL t j).getD ((i : Nat) : Int).toNat []).getD x2.toNat []).getD (Int.toNat 0) 0 ∧ (((cellsL t j).getD ((i : Nat) : Int).toNat []).getD x2.toNat []).getD (Int.toNat 0) 0 < (t.length : Int) by rw [e1R]; omega) ?_
        refine And.intro (show 0 ≤ (((cellsL t j).getD x1.toNat []).getD x2.toNat []).getD ((g : Nat) : Int).toNat 0 ∧ (((cellsL t j).getD x1.toNat []).getD x2.toNat []).getD ((g : Nat) : Int).toNat 0 < ((t.getD ((((cellsL t j).getD ((i : Nat) : Int).toNat []).getD x2.toNat []).getD (Int.toNat 0) 0).toNat []).length : Int) by rw [e1R, eG, Int.toNat_natCast]; omega) ?_
        refine And.intro (show 0 ≤ (t.getD ((((cellsL t j).getD ((i : Nat) : Int).toNat []).getD x2.toNat []).getD (Int.toNat 0) 0).toNat []).getD ((((cellsL t j).getD x1.toNat []).getD x2.toNat []).getD ((g : Nat) : Int).toNat 0).toNat 0 ∧ (t.getD ((((cellsL t j).getD ((i : Nat) : Int).toNat []).getD x2.toNat []).getD (Int.toNat 0) 0).toNat []).getD ((((cellsL t j).getD x1.toNat []).getD x2.toNat []).getD ((g : Nat) : Int).toNat 0).toNat 0 < (t.length : Int) by rw [v1]; omega) ?_
        refine And.intro (show 0 ≤ x1 ∧ x1 < ((cellsL t j).length : Int) from hx1) ?_
        refine And.intro (show 0 ≤ ((l : Nat) : Int) ∧ ((l : Nat) : Int) < (((cellsL t j).getD x1.toNat []).length : Int) by rw [g1, g2]; omega) ?_
        refine And.intro (show 0 ≤ (0 : Int) ∧ (0 : Int) < ((((cellsL t j).getD x1.toNat []).getD ((l : Nat) : Int).toNat []).length : Int) by omega) ?_
        refine And.intro (show 0 ≤ (((cellsL t j).getD x1.toNat []).getD ((l : Nat) : Int).toNat []).getD (Int.toNat 0) 0 ∧ (((cellsL t j).getD x1.toNat []).getD ((l : Nat) : Int).toNat []).getD (Int.toNat 0) 0 < ((t.getD ((t.getD ((((cellsL t j).getD ((i : Nat) : Int).toNat []).getD x2.toNat []).getD (Int.toNat 0) 0).toNat []).getD ((((cellsL t j).getD x1.toNat []).getD x2.toNat []).getD ((g : Nat) : Int).toNat 0).toNat 0).toNat []).length : Int) by rw [v1, e1Q, Int.toNat_natCast]; omega) ?_
        refine cq rn (And.intro (And.intro rfl (And.intro rfl (And.intro rfl (And.intro (congrArg (RO.rows .i64) hPP) (And.intro rfl trivial))))) (And.intro rfl (And.intro rfl (And.intro rfl trivial)))) ?_
        refine And.intro (show 0 ≤ (t.getD ((t.getD ((((cellsL t j).getD ((i : Nat) : Int).toNat []).getD x2.toNat []).getD (Int.toNat 0) 0).toNat []).getD ((((cellsL t j).getD x1.toNat []).getD x2.toNat []).getD ((g : Nat) : Int).toNat 0).toNat 0).toNat []).getD ((((cellsL t j).getD x1.toNat []).getD ((l : Nat) : Int).toNat []).getD (Int.toNat 0) 0).toNat 0 ∧ (t.getD ((t.getD ((((cellsL t j).getD ((i : Nat) : Int).toNat []).getD x2.toNat []).getD (Int.toNat 0) 0).toNat []).getD ((((cellsL t j).getD x1.toNat []).getD x2.toNat []).getD ((g : Nat) : Int).toNat 0).toNat 0).toNat []).getD ((((cellsL t j).getD x1.toNat []).getD ((l : Nat) : Int).toNat []).getD (Int.toNat 0) 0).toNat 0 < (M.length : Int) by rw [v2]; omega) ?_
        refine And.intro (show 0 ≤ (t.getD ((t.getD ((((cellsL t j).getD ((i : Nat) : Int).toNat []).getD x2.toNat []).getD (Int.toNat 0) 0).toNat []).getD ((((cellsL t j).getD x1.toNat []).getD x2.toNat []).getD ((g : Nat) : Int).toNat 0).toNat 0).toNat []).getD ((((cellsL t j).getD x1.toNat []).getD ((l : Nat) : Int).toNat []).getD (Int.toNat 0) 0).toNat 0 by rw [v2]; omega) ?_
        refine And.intro (by omega) ?_
        refine nx (l + 1, M.set ((t.getD ((t.getD ((((cellsL t j).getD ((i : Nat) : Int).toNat []).getD x2.toNat []).getD (Int.toNat 0) 0).toNat []).getD ((((cellsL t j).getD x1.toNat []).getD x2.toNat []).getD ((g : Nat) : Int).toNat 0).toNat 0).toNat []).getD ((((cellsL t j).getD x1.toNat []).getD ((l : Nat) : Int).toNat []).getD (Int.toNat 0) 0).toNat 0).toNat (numI ((cooG t j (eJ t j)).length : Int) (cC t j : Int) (!minJ t j) i g l)) ⟨by omega, ?_⟩ (show cC t j - (l + 1) < cC t j - l by omega) (by repeat' first | refine And.intro ?_ ?_ | exact True.intro | (show (_ : Int) = (_ : Int); omega) | omega | exact rfl | (simp only [RO.len]; omega))
        rw [v2, Int.toNat_natCast, hN]
        exact HC.step c hic hgc hlc fun a b d _ _ _ => by omega
      · have h7 : ((colsN t j).length : Int) ≤ (l : Int) := h7
        refine And.intro (by omega) ?_
        exact nx (g + 1, M) ⟨by omega, HC.congr fun a b d _ _ _ => by omega⟩ (show cH t j (eJ t j) - (g + 1) < cH t j (eJ t j) - g by omega) (by repeat' first | refine And.intro ?_ ?_ | exact True.intro | (show (_ : Int) = (_ : Int); omega) | omega | exact rfl | (simp only [RO.len]; omega))
    · have h6 : ((((cellsL t j).getD x1.toNat []).getD x2.toNat []).length : Int) ≤ (g : Int) := h6
      rw [hcell] at h6
      refine And.intro (by omega) ?_
      exact nx (i + 1, M) ⟨by omega, HC.congr fun a b d _ _ _ => by omega⟩ (show cR t j - (i + 1) < cR t j - i by omega) (by repeat' first | refine And.intro ?_ ?_ | exact True.intro | (show (_ : Int) = (_ : Int); omega) | omega | exact rfl | (simp only [RO.len]; omega))
  · have h5 : ((rowsN t j).length : Int) ≤ (i : Int) := h5
    have hM : M = cooM t j (eJ t j) := HC.done c fun a b d ha _ _ => by omega
    refine And.intro (And.intro rfl (And.intro rfl (And.intro rfl (And.intro (And.intro trivial (congrArg (RO.rows .i64) hPP)) (And.intro rfl trivial))))) ?_
    exact And.intro (And.intro trivial (congrArg (RO.ints .i64) hM)) (And.intro rfl trivial)
theorem rcoo_fn (t : List (List Int)) (h : Semi t) (j : Nat) (hj : j < numJ t) (hr : (regL t).getD j false = true) : QF 9 [.ro (.rows .i64 t), .int .i64 j] (.tup [rav (cooG t j (eJ t j)) (cR t j) (cC t j) (cooP t j (eJ t j)) (!minJ t j), .ro (.ints .i64 (cooM t j (eJ t j))), .int .i64 0]) := mkQ Try.func9 (by decide +kernel) rfl (Nat.le_of_ble_eq_true rfl) fun _ => rcoo_k t h j hj hr
end Go.Proofs.Ytfoemneboalddaa
