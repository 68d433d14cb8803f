/- The matrix of a J-class with an idempotent: contract. -/
import Derived.Test.YtfoemneboalddaaCooW
import Derived.Test.YtfoemneboalddaaRees
namespace Go.Proofs.Ytfoemneboalddaa
open Go Go.AM
set_option maxRecDepth 100000
set_option maxHeartbeats 1000000
theorem mat_k (t : List (List Int)) (j e : Nat) (c : Coo t j e) : fnK TY SP Try.f26 [openA t j, .ro (.rows .i64 t), .int .i64 e]
    (.tup [rav (cooG t j e) (cR t j) (cC t j) (cooP t j e) (!minJ t j), .ro (.ints .i64 (rIL t j e)), .ro (.ints .i64 (qIL t j e)), .ro (.ints .i64 (hLs t j e))]) := by
  have hmost := c.semi.most
  have hel := elems_le c.hj
  have hep := elems_pos c.hj
  have hei := elems_in c.hj
  have hRl := classR_len t
  have hLl := classL_len t
  have he := c.he
  have hcr := cR_le c
  have hcc := cC_le c
  have hch := cH_le (t := t) (j := j) (e := e)
  have hrl := rIL_len t j e
  have hql := qIL_len t j e
  have kR : (rowsN t j).length = cR t j := rfl
  have kC : (colsN t j).length = cC t j := rfl
  have kH : (hLs t j e).length = cH t j e := rfl
  refine Or.inl <| Exists.intro [false, false, false, false, false, false, false, false] (And.intro (by decide +kernel) ?_)
  refine Or.inl (cq (numbers_fn (classR t) (elemsJ t j) hep (by omega) (fun x hx => ⟨(hei x hx).1, (hei x hx).2.1⟩)) (And.intro rfl (And.intro rfl trivial)) ?_)
  rw [num_rows c.semi c.hj]
  refine Exists.intro [] <| lp2 (fun (i : Nat) (_ : Nat) => [(41, .int .i64 i), (7, .vec 57)]) (fun i _ => [(57, .vec 0 (.ints .i64 ((rIL t j e).take i)) [])]) (fun i _ => i ≤ cR t j) (fun i _ => cR t j - i) 0 0 (Nat.zero_le _) (by repeat' first | refine And.intro ?_ ?_ | exact True.intro | (show (_ : Int) = (_ : Int); omega) | omega | exact rfl | (simp only [RO.len]; omega)) ?_
  rintro i _ hi
  have hil : ((rIL t j e).take i).length = i := by rw [List.length_take, hrl]; omega
  refine And.intro (fun h1 => ?_) (fun h1 => ?_)
  · have hk : i < cR t j := by have h1 : (i : Int) < ((rowsN t j).length : Int) := h1; omega
    have hli := lst_idx c.hj (c.row_meets (getD_mem (d := 0) hk))
    refine Exists.elim hli fun k hA => ?_
    refine And.intro (by omega) ?_
    refine Or.inl <| Exists.intro [false, false, false, false, false, false, false, false, false, false, false, false, true, true] (And.intro (by decide +kernel) ?_)
    refine And.intro (by omega) ?_
    refine cq (least_fn (classR t) (classL t) (elemsJ t j) ((rowsN t j).getD i 0) (lcl t e) hei (by omega) k hA.1 hA.2.1 hA.2.2.1) (by repeat' first | refine And.intro ?_ ?_ | exact True.intro | (show (_ : Int) = (_ : Int); omega) | omega | exact rfl | (simp only [RO.len]; omega)) ?_
    refine And.intro (by rw [List.length_append, hil]; simp; omega) ?_
    refine And.intro (by omega) ?_
    refine nx (i + 1, 0) (show i + 1 ≤ cR t j by omega) (show cR t j - (i + 1) < cR t j - i by omega) ?_
    have e1 : (rIL t j e).take (i + 1) = (rIL t j e).take i ++ [(elemsJ t j).getD k 0] := by rw [take_snoc (d := 0) (by omega), rIL_get hk, hA.2.2.2]; rfl
    repeat' first | refine And.intro ?_ ?_ | exact True.intro | exact congrArg (RO.ints .i64) e1.symm | (show (_ : Int) = (_ : Int); omega) | omega | exact rfl
  have h1 : ((rowsN t j).length : Int) ≤ (i : Int) := h1
  have hii : (rIL t j e).take i = rIL t j e := List.take_of_length_le (by omega)
  rw [hii]
  refine Or.inl (cq (numbers_fn (classL t) (elemsJ t j) hep (by omega) (fun x hx => ⟨(hei x hx).1, (hei x hx).2.2⟩)) (And.intro rfl (And.intro rfl trivial)) ?_)
  rw [num_cols c.semi c.hj]
  refine Exists.intro [] <| lp2 (fun (i : Nat) (_ : Nat) => [(64, .int .i64 i), (8, .vec 80)]) (fun i _ => [(80, .vec 0 (.ints .i64 ((qIL t j e).take i)) [])]) (fun i _ => i ≤ cC t j) (fun i _ => cC t j - i) 0 0 (Nat.zero_le _) (by repeat' first | refine And.intro ?_ ?_ | exact True.intro | (show (_ : Int) = (_ : Int); omega) | omega | exact rfl | (simp only [RO.len]; omega)) ?_
  rintro i _ hi
  have hil : ((qIL t j e).take i).length = i := by rw [List.length_take, hql]; omega
  refine And.intro (fun h1 => ?_) (fun h1 => ?_)
  · have hk : i < cC t j := by have h1 : (i : Int) < ((colsN t j).length : Int) := h1; omega
    have hli := lst_idx c.hj (c.col_meets (getD_mem (d := 0) hk))
    refine Exists.elim hli fun k hA => ?_
    refine And.intro (by omega) ?_
    refine Or.inl <| Exists.intro [false, false, false, false, false, false, false, false, false, false, false, false, true, true] (And.intro (by decide +kernel) ?_)
    refine And.intro (by omega) ?_
    refine cq (least_fn (classR t) (classL t) (elemsJ t j) (rcl t e) ((colsN t j).getD i 0) hei (by omega) k hA.1 hA.2.1 hA.2.2.1) (by repeat' first | refine And.intro ?_ ?_ | exact True.intro | (show (_ : Int) = (_ : Int); omega) | omega | exact rfl | (simp only [RO.len]; omega)) ?_
    refine And.intro (by rw [List.length_append, hil]; simp; omega) ?_
    refine And.intro (by omega) ?_
    refine nx (i + 1, 0) (show i + 1 ≤ cC t j by omega) (show cC t j - (i + 1) < cC t j - i by omega) ?_
    have e1 : (qIL t j e).take (i + 1) = (qIL t j e).take i ++ [(elemsJ t j).getD k 0] := by rw [take_snoc (d := 0) (by omega), qIL_get hk, hA.2.2.2]; rfl
    repeat' first | refine And.intro ?_ ?_ | exact True.intro | exact congrArg (RO.ints .i64) e1.symm | (show (_ : Int) = (_ : Int); omega) | omega | exact rfl
  have h1 : ((colsN t j).length : Int) ≤ (i : Int) := h1
  have hii : (qIL t j e).take i = qIL t j e := List.take_of_length_le (by omega)
  rw [hii]
  refine And.intro (by omega) ?_
  refine And.intro (by omega) ?_
  refine Exists.intro [] <| lp2 (fun (k : Nat) (_ : List Int) => [(87, .int .i64 k)]) (fun _ P => [(84, .vec 0 (.ints .i64 P) [])]) (fun k P => k ≤ t.length ∧ P.length = t.length ∧ ∀ y, y < k → P.getD y 0 = -1) (fun k _ => t.length - k) 0 (List.replicate t.length 0) ⟨Nat.zero_le _, by simp, by omega⟩ (by repeat' first | refine And.intro ?_ ?_ | exact True.intro | (show (_ : Int) = (_ : Int); omega) | omega | exact rfl | (simp; omega)) ?_
  rintro k P ⟨hk, hP, hPy⟩
  refine And.intro (fun h1 => ?_) (fun h1 => ?_)
  · have h1 : (k : Int) < ((List.replicate ((t.length : Nat) : Int).toNat (0 : Int)).length : Int) := h1
    rw [List.length_replicate, Int.toNat_natCast] at h1
    have hkl : k < t.length := by omega
    refine And.intro (by omega) ?_
    refine And.intro (by omega) ?_
    refine And.intro (by omega) ?_
    refine nx (k + 1, P.set k (-1)) ⟨by omega, by rw [List.length_set]; exact hP, fun y hy => ?_⟩ (show t.length - (k + 1) < t.length - k by omega) (by repeat' first | refine And.intro ?_ ?_ | exact True.intro | (show (_ : Int) = (_ : Int); omega) | omega | exact rfl | (simp only [RO.len]; omega))
    by_cases e : y = k
    · subst e; rw [getD_set_eq (by omega)]
    · rw [getD_set_ne (Ne.symm e)]; exact hPy y (by omega)
  have h1 : ((List.replicate ((t.length : Nat) : Int).toNat (0 : Int)).length : Int) ≤ (k : Int) := h1
  rw [List.length_replicate, Int.toNat_natCast] at h1
  have hF : hLs t j e = (elemsJ t j).filter (lstB (classR t) (classL t) (rcl t e) (lcl t e)) := rfl
  refine Exists.intro [] <| lp2 (fun (i : Nat) (_ : List Int) => [(97, .int .i64 i), (9, .vec 129)]) (fun i P => [(84, .vec 0 (.ints .i64 P) []), (129, .vec 0 (.ints .i64 ((hLs t j e).take (fltN (lstB (classR t) (classL t) (rcl t e) (lcl t e)) (elemsJ t j) i))) [])]) (fun i P => i ≤ (elemsJ t j).length ∧ P.length = t.length ∧ ∀ y, y < t.length → P.getD y 0 = posTo (hLs t j e) (fltN (lstB (classR t) (classL t) (rcl t e) (lcl t e)) (elemsJ t j) i) y) (fun i _ => (elemsJ t j).length - i) 0 P ⟨Nat.zero_le _, hP, fun y hy => hPy y (by omega)⟩ (by repeat' first | refine And.intro ?_ ?_ | exact True.intro | (show (_ : Int) = (_ : Int); omega) | omega | exact rfl | (simp only [RO.len]; omega)) ?_
  rintro i P ⟨hi, hP, hPy⟩
  have hfl := flt_le (lstB (classR t) (classL t) (rcl t e) (lcl t e)) (elemsJ t j) i
  have hfk : ((hLs t j e).take (fltN (lstB (classR t) (classL t) (rcl t e) (lcl t e)) (elemsJ t j) i)).length = fltN (lstB (classR t) (classL t) (rcl t e) (lcl t e)) (elemsJ t j) i := by rw [List.length_take]; rw [← hF] at hfl; omega
  rw [← hF] at hfl
  refine And.intro (fun h1 => ?_) (fun h1 => ?_)
  · have h1 : (i : Int) < ((elemsJ t j).length : Int) := h1
    have hil : i < (elemsJ t j).length := by omega
    have hm := hei _ (getD_mem (d := 0) hil)
    refine And.intro (by omega) ?_
    refine Or.inl <| Exists.intro [false, false, false, false, false, false, false, false, false, false, false, false, false, false, false, false, false, false, false, false] (And.intro (by decide +kernel) ?_)
    refine And.intro (by simp only [Int.toNat_natCast]; omega) ?_
    refine And.intro (by omega) ?_
    have miss : lstB (classR t) (classL t) (rcl t e) (lcl t e) ((elemsJ t j).getD i 0) = false → ((hLs t j e).take (fltN (lstB (classR t) (classL t) (rcl t e) (lcl t e)) (elemsJ t j) (i + 1))) = ((hLs t j e).take (fltN (lstB (classR t) (classL t) (rcl t e) (lcl t e)) (elemsJ t j) i)) ∧ ∀ y, y < t.length → P.getD y 0 = posTo (hLs t j e) (fltN (lstB (classR t) (classL t) (rcl t e) (lcl t e)) (elemsJ t j) (i + 1)) y := fun hf => by
      rw [flt_miss hil hf]; exact ⟨rfl, hPy⟩
    refine And.intro (fun h2 => ?_) (fun h2 => ?_)
    · have h2 : (classR t).getD ((elemsJ t j).getD i 0).toNat 0 = rcl t e := h2
      refine And.intro (by simp only [Int.toNat_natCast]; omega) ?_
      refine And.intro (by omega) ?_
      refine And.intro (fun h3 => ?_) (fun h3 => ?_)
      · have h3 : (classL t).getD ((elemsJ t j).getD i 0).toNat 0 = lcl t e := h3
        have hf : lstB (classR t) (classL t) (rcl t e) (lcl t e) ((elemsJ t j).getD i 0) = true := by unfold lstB; rw [decide_eq_true h2, decide_eq_true h3]; rfl
        have hh := flt_hit hil hf
        refine And.intro (by simp only [Int.toNat_natCast]; omega) ?_
        refine And.intro (by simp only [Int.toNat_natCast]; omega) ?_
        refine And.intro (by simp only [List.length_append, List.length_cons, List.length_nil, hfk]; omega) ?_
        refine And.intro (by omega) ?_
        have e1 : (hLs t j e).take (fltN (lstB (classR t) (classL t) (rcl t e) (lcl t e)) (elemsJ t j) (i + 1)) = (hLs t j e).take (fltN (lstB (classR t) (classL t) (rcl t e) (lcl t e)) (elemsJ t j) i) ++ [(elemsJ t j).getD i 0] := by
          have q1 : fltN (lstB (classR t) (classL t) (rcl t e) (lcl t e)) (elemsJ t j) i < (hLs t j e).length := hh.2.1
          have q2 : (hLs t j e).getD (fltN (lstB (classR t) (classL t) (rcl t e) (lcl t e)) (elemsJ t j) i) 0 = (elemsJ t j).getD i 0 := hh.2.2
          rw [hh.1, take_snoc (d := 0) q1, q2]
        have e2 := pos_hit hP (hF ▸ hPy) hil hf (by omega)
        rw [← hF] at e2
        refine nx (i + 1, P.set ((elemsJ t j).getD i 0).toNat (((hLs t j e).take (fltN (lstB (classR t) (classL t) (rcl t e) (lcl t e)) (elemsJ t j) i)).length : Int)) ⟨by omega, by rw [List.length_set]; exact hP, by rw [hfk]; exact e2⟩ (show (elemsJ t j).length - (i + 1) < (elemsJ t j).length - i by omega) ?_
        repeat' first | refine And.intro ?_ ?_ | exact True.intro | exact congrArg (RO.ints .i64) e1.symm | (show (_ : Int) = (_ : Int); omega) | omega | exact rfl
      · have h3 : (classL t).getD ((elemsJ t j).getD i 0).toNat 0 ≠ lcl t e := h3
        have mi := miss (by unfold lstB; rw [decide_eq_false h3, Bool.and_false])
        refine And.intro (by omega) ?_
        refine nx (i + 1, P) ⟨by omega, hP, mi.2⟩ (show (elemsJ t j).length - (i + 1) < (elemsJ t j).length - i by omega) ?_
        repeat' first | refine And.intro ?_ ?_ | exact True.intro | exact congrArg (RO.ints .i64) mi.1.symm | (show (_ : Int) = (_ : Int); omega) | omega | exact rfl
    · have h2 : (classR t).getD ((elemsJ t j).getD i 0).toNat 0 ≠ rcl t e := h2
      have mi := miss (by unfold lstB; rw [decide_eq_false h2, Bool.false_and])
      refine And.intro (by omega) ?_
      refine nx (i + 1, P) ⟨by omega, hP, mi.2⟩ (show (elemsJ t j).length - (i + 1) < (elemsJ t j).length - i by omega) ?_
      repeat' first | refine And.intro ?_ ?_ | exact True.intro | exact congrArg (RO.ints .i64) mi.1.symm | (show (_ : Int) = (_ : Int); omega) | omega | exact rfl
  have h1 : ((elemsJ t j).length : Int) ≤ (i : Int) := h1
  have hfe := flt_end (f := lstB (classR t) (classL t) (rcl t e) (lcl t e)) (l := elemsJ t j) (i := i) (by omega)
  rw [← hF] at hfe
  have hcell : (hLs t j e).take (fltN (lstB (classR t) (classL t) (rcl t e) (lcl t e)) (elemsJ t j) i) = hLs t j e := by rw [hfe]; exact List.take_of_length_le (Nat.le_refl _)
  rw [hfe] at hPy
  rw [hcell]
  refine Exists.intro [] <| lp2 (fun (g : Nat) (_ : Nat) => [(141, .int .i64 g)]) (fun g _ => [(173, .vec 0 (.rows .i64 ((cooG t j e).take g)) []), (6, .box [.vec 173, .int .i64 (cR t j), .int .i64 (cC t j), .nils, .bool (.v (!minJ t j))])]) (fun g _ => g ≤ cH t j e) (fun g _ => cH t j e - g) 0 0 (Nat.zero_le _) (by repeat' first | refine And.intro ?_ ?_ | exact True.intro | (show (_ : Int) = (_ : Int); omega) | omega | exact rfl | (simp only [RO.len]; omega)) ?_
  rintro g _ hg
  have hgl : ((cooG t j e).take g).length = g := by rw [List.length_take, Coo.glen]; omega
  refine And.intro (fun h2 => ?_) (fun h2 => ?_)
  · have h2 : (g : Int) < ((hLs t j e).length : Int) := h2
    have hgc : g < cH t j e := by omega
    have eg := c.gI_ok hgc
    have rg := c.semi.toSh.len eg.1
    have gg := hLs_get c hgc
    refine And.intro (by omega) ?_
    refine And.intro (by omega) ?_
    refine And.intro (by omega) ?_
    refine Exists.intro [] <| lp2 (fun (k : Nat) (_ : List Int) => [(150, .int .i64 k)]) (fun _ r => [(147, .vec 0 (.ints .i64 r) [])]) (fun k r => k ≤ cH t j e ∧ r.length = cH t j e ∧ ∀ y, y < k → r.getD y 0 = subV t (hLs t j e) g y) (fun k _ => cH t j e - k) 0 (List.replicate (cH t j e) 0) ⟨Nat.zero_le _, by simp, fun k hk => absurd hk (Nat.not_lt_zero _)⟩ (by repeat' first | refine And.intro ?_ ?_ | exact True.intro | (show (_ : Int) = (_ : Int); omega) | omega | exact rfl | (simp only [RO.len]; omega)) ?_
    rintro k r ⟨hk, hr, hrk⟩
    refine And.intro (fun h3 => ?_) (fun h3 => ?_)
    · have h3 : (k : Int) < ((hLs t j e).length : Int) := h3
      have hkc : k < cH t j e := by omega
      have ek := c.gI_ok hkc
      have gk := hLs_get c hkc
      have hen := c.semi.toSh.ent eg.1 ek.1
      have hen2 : (t.getD (gI t j e g) []).getD (gI t j e k) 0 = ((en t (gI t j e g) (gI t j e k) : Nat) : Int) := hen.1
      have eg0 : ((hLs t j e).getD ((g : Nat) : Int).toNat 0).toNat = gI t j e g := by rw [Int.toNat_natCast, gg, Int.toNat_natCast]
      have ek0 : ((hLs t j e).getD ((k : Nat) : Int).toNat 0).toNat = gI t j e k := by rw [Int.toNat_natCast, gk, Int.toNat_natCast]
      have hv : P.getD ((t.getD ((hLs t j e).getD ((g : Nat) : Int).toNat 0).toNat []).getD ((hLs t j e).getD ((k : Nat) : Int).toNat 0).toNat 0).toNat 0 = subV t (hLs t j e) g k := by
        rw [eg0, ek0, hen2, Int.toNat_natCast, hPy _ hen.2]; rfl
      refine And.intro (by omega) ?_
      refine And.intro (by simp only [Int.toNat_natCast]; omega) ?_
      refine And.intro (by rw [eg0]; simp only [Int.toNat_natCast]; omega) ?_
      refine And.intro (by rw [eg0, ek0, hen2]; omega) ?_
      refine And.intro (by omega) ?_
      refine And.intro (by omega) ?_
      refine And.intro (by omega) ?_
      refine nx (k + 1, r.set k (P.getD ((t.getD ((hLs t j e).getD ((g : Nat) : Int).toNat 0).toNat []).getD ((hLs t j e).getD ((k : Nat) : Int).toNat 0).toNat 0).toNat 0)) ⟨by omega, by rw [List.length_set]; exact hr, fun y hy => ?_⟩ (show cH t j e - (k + 1) < cH t j e - k by omega) (by repeat' first | refine And.intro ?_ ?_ | exact True.intro | (show (_ : Int) = (_ : Int); omega) | omega | exact rfl | (simp only [RO.len]; omega))
      by_cases e1 : y = k
      · rw [e1, getD_set_eq (by omega)]; exact hv
      · rw [getD_set_ne (Ne.symm e1)]; exact hrk y (by omega)
    have h3 : ((hLs t j e).length : Int) ≤ (k : Int) := h3
    have er : r = (cooG t j e).getD g [] := by
      have := subT_row (t := t) (l := hLs t j e) (i := g) hgc
      unfold cooG; rw [this]
      refine ext_getD 0 (by simp; exact hr) fun y hy => ?_
      rw [hrk y (by omega), map_range_getD _ _ _ _ (by omega)]
    have e1 : (cooG t j e).take (g + 1) = (cooG t j e).take g ++ [r] := by rw [er]; exact take_snoc (d := []) (by rw [Coo.glen]; exact hgc)
    refine And.intro (by simp only [List.length_append, List.length_cons, List.length_nil, hgl]; omega) ?_
    refine And.intro (by omega) ?_
    refine nx (g + 1, 0) (show g + 1 ≤ cH t j e by omega) (show cH t j e - (g + 1) < cH t j e - g by omega) ?_
    repeat' first | refine And.intro ?_ ?_ | exact True.intro | exact congrArg (RO.rows .i64) e1.symm | (show (_ : Int) = (_ : Int); omega) | omega | exact rfl
  have h2 : ((hLs t j e).length : Int) ≤ (g : Int) := h2
  have hGG : (cooG t j e).take g = cooG t j e := List.take_of_length_le (by rw [Coo.glen]; omega)
  rw [hGG]
  refine Exists.intro [] <| lp2 (fun (l : Nat) (_ : Nat) => [(178, .int .i64 l)]) (fun l _ => [(210, .vec 0 (.rows .i64 ((cooP t j e).take l)) []), (6, .box [.vec 173, .int .i64 (cR t j), .int .i64 (cC t j), .vec 210, .bool (.v (!minJ t j))])]) (fun l _ => l ≤ cC t j) (fun l _ => cC t j - l) 0 0 (Nat.zero_le _) (by repeat' first | refine And.intro ?_ ?_ | exact True.intro | (show (_ : Int) = (_ : Int); omega) | omega | exact rfl | (simp only [RO.len]; omega)) ?_
  rintro l _ hl
  have hpl : ((cooP t j e).take l).length = l := by rw [List.length_take, cooP_len]; omega
  refine And.intro (fun h4 => ?_) (fun h4 => ?_)
  · have h4 : (l : Int) < ((qIL t j e).length : Int) := h4
    have hlc : l < cC t j := by omega
    have el := c.qI_ok hlc
    have rl := c.semi.toSh.len el.1
    have gl := qIL_get (j := j) (e := e) hlc
    refine And.intro (by omega) ?_
    refine And.intro (by omega) ?_
    refine And.intro (by omega) ?_
    refine Exists.intro [] <| lp2 (fun (k : Nat) (_ : List Int) => [(187, .int .i64 k)]) (fun _ r => [(184, .vec 0 (.ints .i64 r) [])]) (fun k r => k ≤ cR t j ∧ r.length = cR t j ∧ ∀ y, y < k → r.getD y 0 = posTo (hLs t j e) (hLs t j e).length (en t (qI t j e l) (rI t j e y))) (fun k _ => cR t j - k) 0 (List.replicate (rIL t j e).length 0) ⟨Nat.zero_le _, by simp; exact hrl, fun k hk => absurd hk (Nat.not_lt_zero _)⟩ (by repeat' first | refine And.intro ?_ ?_ | exact True.intro | (show (_ : Int) = (_ : Int); omega) | omega | exact rfl | (simp only [RO.len]; omega)) ?_
    rintro k r ⟨hk, hr, hrk⟩
    refine And.intro (fun h3 => ?_) (fun h3 => ?_)
    · have h3 : (k : Int) < ((rIL t j e).length : Int) := h3
      have hkc : k < cR t j := by omega
      have ek := c.rI_ok hkc
      have gk := rIL_get (j := j) (e := e) hkc
      have hen := c.semi.toSh.ent el.1 ek.1
      have hen2 : (t.getD (qI t j e l) []).getD (rI t j e k) 0 = ((en t (qI t j e l) (rI t j e k) : Nat) : Int) := hen.1
      have eg0 : ((qIL t j e).getD ((l : Nat) : Int).toNat 0).toNat = qI t j e l := by rw [Int.toNat_natCast, gl, Int.toNat_natCast]
      have ek0 : ((rIL t j e).getD ((k : Nat) : Int).toNat 0).toNat = rI t j e k := by rw [Int.toNat_natCast, gk, Int.toNat_natCast]
      have hv : P.getD ((t.getD ((qIL t j e).getD ((l : Nat) : Int).toNat 0).toNat []).getD ((rIL t j e).getD ((k : Nat) : Int).toNat 0).toNat 0).toNat 0 = posTo (hLs t j e) (hLs t j e).length (en t (qI t j e l) (rI t j e k)) := by
        rw [eg0, ek0, hen2, Int.toNat_natCast, hPy _ hen.2]
      refine And.intro (by omega) ?_
      refine And.intro (by simp only [Int.toNat_natCast]; omega) ?_
      refine And.intro (by rw [eg0]; simp only [Int.toNat_natCast]; omega) ?_
      refine And.intro (by rw [eg0, ek0, hen2]; omega) ?_
      refine And.intro (by omega) ?_
      refine And.intro (by omega) ?_
      refine And.intro (by omega) ?_
      refine nx (k + 1, r.set k (P.getD ((t.getD ((qIL t j e).getD ((l : Nat) : Int).toNat 0).toNat []).getD ((rIL t j e).getD ((k : Nat) : Int).toNat 0).toNat 0).toNat 0)) ⟨by omega, by rw [List.length_set]; exact hr, fun y hy => ?_⟩ (show cR t j - (k + 1) < cR t j - k by omega) (by repeat' first | refine And.intro ?_ ?_ | exact True.intro | (show (_ : Int) = (_ : Int); omega) | omega | exact rfl | (simp only [RO.len]; omega))
      by_cases e1 : y = k
      · rw [e1, getD_set_eq (by omega)]; exact hv
      · rw [getD_set_ne (Ne.symm e1)]; exact hrk y (by omega)
    have h3 : ((rIL t j e).length : Int) ≤ (k : Int) := h3
    have er : r = (cooP t j e).getD l [] := by
      rw [cooP_row hlc]
      refine ext_getD 0 (by simp; exact hr) fun y hy => ?_
      rw [hrk y (by omega), map_range_getD _ _ _ _ (by omega)]
    have e1 : (cooP t j e).take (l + 1) = (cooP t j e).take l ++ [r] := by rw [er]; exact take_snoc (d := []) (by rw [cooP_len]; exact hlc)
    refine And.intro (by simp only [List.length_append, List.length_cons, List.length_nil, hpl]; omega) ?_
    refine And.intro (by omega) ?_
    refine nx (l + 1, 0) (show l + 1 ≤ cC t j by omega) (show cC t j - (l + 1) < cC t j - l by omega) ?_
    repeat' first | refine And.intro ?_ ?_ | exact True.intro | exact congrArg (RO.rows .i64) e1.symm | (show (_ : Int) = (_ : Int); omega) | omega | exact rfl
  have h4 : ((qIL t j e).length : Int) ≤ (l : Int) := h4
  have hPP : (cooP t j e).take l = cooP t j e := List.take_of_length_le (by rw [cooP_len]; omega)
  rw [hPP]
  refine And.intro (And.intro (And.intro trivial rfl) (And.intro rfl (And.intro rfl (And.intro (And.intro trivial rfl) (And.intro rfl trivial))))) ?_
  exact And.intro (And.intro trivial rfl) (And.intro (And.intro trivial rfl) (And.intro (And.intro trivial rfl) trivial))
theorem mat_fn (t : List (List Int)) (j e : Nat) (c : Coo t j e) : QF 26 [openA t j, .ro (.rows .i64 t), .int .i64 e]
    (.tup [rav (cooG t j e) (cR t j) (cC t j) (cooP t j e) (!minJ t j), .ro (.ints .i64 (rIL t j e)), .ro (.ints .i64 (qIL t j e)), .ro (.ints .i64 (hLs t j e))]) := mkQ Try.func26 (by decide +kernel) rfl (Nat.le_of_ble_eq_true rfl) fun _ => mat_k t j e c
end Go.Proofs.Ytfoemneboalddaa
