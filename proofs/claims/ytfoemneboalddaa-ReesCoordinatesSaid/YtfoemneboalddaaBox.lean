/- The reference's box of a class: contract. -/
import Derived.Test.YtfoemneboalddaaRefSub
import Derived.Test.YtfoemneboalddaaBoxLaw
import Derived.Test.YtfoemneboalddaaRefClass
namespace Go.Proofs.Ytfoemneboalddaa
open Go Go.AM
set_option maxRecDepth 100000
set_option maxHeartbeats 40000000
theorem rbox_k (t : List (List Int)) (h : Semi t) (j : Nat) (hj : j < numJ t) : fnK TY SP Try.f30 [.ro (.rows .i64 t), .int .i64 j]
    (.agg [.ro (.ints .i64 (rowsN t j)), .ro (.ints .i64 (colsN t j)), .ro (.rows3 (cellsL t j)), .ro (.brows (grpsL t j))]) := by
  have hmost := h.most
  have hpos := h.pos
  have hle := rowsN_le h hj
  have hel := elems_le hj
  have hei := elems_in hj
  have hRl := classR_len t
  have hLl := classL_len t
  have vR : validP (classR t) := clsL_valid (by omega)
  have vL : validP (classL t) := clsL_valid (by omega)
  have hcl := classes_length (classN (classJ t)) (classJ t)
  have hnj : classN (classJ t) = numJ t := rfl
  have nR : classN (classR t) ≤ 400 := by have := firsts_le (canon (repsL t.length (inRB t))); rw [canon_length, repsL_len] at this; exact Nat.le_trans this hmost
  have nL : classN (classL t) ≤ 400 := by have := firsts_le (canon (repsL t.length (inLB t))); rw [canon_length, repsL_len] at this; exact Nat.le_trans this hmost
  refine Or.inl (cq (rgreen_fn t h) (And.intro rfl trivial) ?_)
  refine Or.inl (cq (rclasses_fn (classJ t) (clsL_valid (by omega))) (And.intro rfl trivial) ?_)
  refine And.intro (by omega) ?_
  have eR : rowsN t j = ascV (classN (classR t)) (ofB (classR t) (elemsJ t j)) := rfl
  have eC : colsN t j = ascV (classN (classL t)) (ofB (classL t) (elemsJ t j)) := rfl
  have rw0 := rof_fn (classR t) (elemsJ t j) vR (canon_idem _) nR (fun x hx => ⟨(hei x hx).1, (hei x hx).2.1⟩) (by omega)
  have rw1 := rof_fn (classL t) (elemsJ t j) vL (canon_idem _) nL (fun x hx => ⟨(hei x hx).1, (hei x hx).2.2⟩) (by omega)
  rw [← eR] at rw0
  rw [← eC] at rw1
  refine Or.inl <| Exists.intro [false, false, false, false, false, false, false, false, false, false, true] (And.intro (by decide +kernel) ?_)
  refine cq rw0 (And.intro rfl (And.intro rfl trivial)) ?_
  refine cq rw1 (And.intro rfl (And.intro rfl trivial)) ?_
  rw [show (classes (classN (classJ t)) (classJ t)).getD ((j : Nat) : Int).toNat [] = elemsJ t j from rfl]
  have hcl1 := cellsL_len t j
  have hgl1 := grpsL_len t j
  refine Exists.intro [] <| lp2 (fun (i : Nat) (_ : Nat) => [(38, .int .i64 i)]) (fun i _ => [(101, .vec 0 (.rows3 ((cellsL t j).take i)) []), (106, .vec 0 (.brows ((grpsL t j).take i)) []), (7, .box [.vec 29, .vec 33, .vec 101, .vec 106])]) (fun i _ => i ≤ (rowsN t j).length) (fun i _ => (rowsN t j).length - i) 0 0 (Nat.zero_le _) (by repeat' first | refine And.intro ?_ ?_ | exact True.intro | (show (_ : Int) = (_ : Int); omega) | omega | exact rfl | (simp only [RO.len]; omega)) ?_
  rintro i _ hi
  refine And.intro (fun h1 => ?_) (fun h1 => ?_)
  · have h1 : (i : Int) < ((rowsN t j).length : Int) := h1
    have hil : i < (rowsN t j).length := by omega
    have hcr := cellR_len t j ((rowsN t j).getD i 0)
    have hgr := grpR_len t j ((rowsN t j).getD i 0)
    refine And.intro (by omega) ?_
    refine Exists.intro [] <| lp2 (fun (l : Nat) (_ : Nat) => [(45, .int .i64 l), (10, .vec 91), (11, .vec 95)]) (fun l _ => [(91, .vec 0 (.rows .i64 ((cellR t j ((rowsN t j).getD i 0)).take l)) []), (95, .vec 0 (.bools ((grpR t j ((rowsN t j).getD i 0)).take l)) [])]) (fun l _ => l ≤ (colsN t j).length) (fun l _ => (colsN t j).length - l) 0 0 (Nat.zero_le _) (by repeat' first | refine And.intro ?_ ?_ | exact True.intro | (show (_ : Int) = (_ : Int); omega) | omega | exact rfl | (simp only [RO.len]; omega)) ?_
    rintro l _ hl
    refine And.intro (fun h2 => ?_) (fun h2 => ?_)
    · have h2 : (l : Int) < ((colsN t j).length : Int) := h2
      have hll : l < (colsN t j).length := by omega
      refine And.intro (by omega) ?_
      refine Exists.elim (show ∃ F, F = lstB (classR t) (classL t) ((rowsN t j).getD i 0) ((colsN t j).getD l 0) from ⟨_, rfl⟩) fun F hF => ?_
      refine Exists.intro [] <| lp2 (fun (k : Nat) (b : Bool) => [(51, .int .i64 k), (14, .vec 74), (15, .bool (.v b))]) (fun k _ => [(74, .vec 0 (.ints .i64 ((hitJ t j ((rowsN t j).getD i 0) ((colsN t j).getD l 0)).take (fltN F (elemsJ t j) k))) [])]) (fun k b => k ≤ (elemsJ t j).length ∧ b = ((hitJ t j ((rowsN t j).getD i 0) ((colsN t j).getD l 0)).take (fltN F (elemsJ t j) k)).any (idmB t)) (fun k _ => (elemsJ t j).length - k) 0 false ⟨Nat.zero_le _, rfl⟩ (by repeat' first | refine And.intro ?_ ?_ | exact True.intro | (show (_ : Int) = (_ : Int); omega) | omega | exact rfl | (simp only [RO.len]; omega)) ?_
      rintro k b ⟨hk, hb⟩
      refine And.intro (fun h3 => ?_) (fun h3 => ?_)
      · have h3 : (k : Int) < ((elemsJ t j).length : Int) := h3
        have hkl : k < (elemsJ t j).length := by omega
        have hm := hei _ (getD_mem (d := 0) hkl)
        have hf1 := flt_le F (elemsJ t j) k
        have hfl : fltN F (elemsJ t j) k ≤ (hitJ t j ((rowsN t j).getD i 0) ((colsN t j).getD l 0)).length := by rw [hit_flt, ← hF]; exact hf1
        have hhl := hit_le t j ((rowsN t j).getD i 0) ((colsN t j).getD l 0)
        have hfk : ((hitJ t j ((rowsN t j).getD i 0) ((colsN t j).getD l 0)).take (fltN F (elemsJ t j) k)).length = fltN F (elemsJ t j) k := by rw [List.length_take]; omega
        have rk := h.toSh.len (x := ((elemsJ t j).getD k 0).toNat) (by omega)
        have ek := h.toSh.ent (x := ((elemsJ t j).getD k 0).toNat) (y := ((elemsJ t j).getD k 0).toNat) (by omega) (by omega)
        have miss : F ((elemsJ t j).getD k 0) = false → fltN F (elemsJ t j) (k + 1) = fltN F (elemsJ t j) k := flt_miss hkl
        have hit : F ((elemsJ t j).getD k 0) = true → (hitJ t j ((rowsN t j).getD i 0) ((colsN t j).getD l 0)).take (fltN F (elemsJ t j) (k + 1)) = (hitJ t j ((rowsN t j).getD i 0) ((colsN t j).getD l 0)).take (fltN F (elemsJ t j) k) ++ [(elemsJ t j).getD k 0] := fun hf => by
          have hh := flt_hit hkl hf
          rw [hit_flt, ← hF, hh.1, take_snoc (d := 0) hh.2.1, hh.2.2]
        refine And.intro (by omega) ?_
        refine And.intro (by simp only [Int.toNat_natCast]; omega) ?_
        have skip : F ((elemsJ t j).getD k 0) = false → (hitJ t j ((rowsN t j).getD i 0) ((colsN t j).getD l 0)).take (fltN F (elemsJ t j) k) = (hitJ t j ((rowsN t j).getD i 0) ((colsN t j).getD l 0)).take (fltN F (elemsJ t j) (k + 1)) ∧ b = ((hitJ t j ((rowsN t j).getD i 0) ((colsN t j).getD l 0)).take (fltN F (elemsJ t j) (k + 1))).any (idmB t) := fun hf => by rw [miss hf]; exact ⟨rfl, hb⟩
        refine And.intro (fun h4 => ?_) (fun h4 => ?_)
        · have h4 : (classR t).getD ((elemsJ t j).getD k 0).toNat 0 = (rowsN t j).getD i 0 := h4
          refine And.intro (by simp only [Int.toNat_natCast]; omega) ?_
          refine And.intro (fun h5 => ?_) (fun h5 => ?_)
          · have h5 : (classL t).getD ((elemsJ t j).getD k 0).toNat 0 = (colsN t j).getD l 0 := h5
            have hf : F ((elemsJ t j).getD k 0) = true := by rw [hF]; unfold lstB; rw [decide_eq_true h4, decide_eq_true h5]; rfl
            have e1 := hit hf
            have e2 : ((hitJ t j ((rowsN t j).getD i 0) ((colsN t j).getD l 0)).take (fltN F (elemsJ t j) (k + 1))).any (idmB t) = (b || idmB t ((elemsJ t j).getD k 0)) := by rw [e1, List.any_append, ← hb]; simp
            refine And.intro (by simp only [List.length_append, List.length_cons, List.length_nil, hfk]; omega) ?_
            refine And.intro (fun h6 => ?_) (fun h6 => ?_)
            · have h6 : b = true := h6
              refine And.intro (by omega) ?_
              refine nx (k + 1, true) ⟨by omega, by rw [e2, h6]; rfl⟩ (show (elemsJ t j).length - (k + 1) < (elemsJ t j).length - k by omega) ?_
              repeat' first | refine And.intro ?_ ?_ | exact True.intro | exact congrArg (RO.ints .i64) e1.symm | (show (_ : Int) = (_ : Int); omega) | omega | exact rfl
            · have h6 : b = false := h6
              refine And.intro (by simp only [Int.toNat_natCast]; omega) ?_
              refine And.intro (by simp only [Int.toNat_natCast]; omega) ?_
              refine And.intro (by omega) ?_
              refine nx (k + 1, idmB t ((elemsJ t j).getD k 0)) ⟨by omega, by rw [e2, h6]; rfl⟩ (show (elemsJ t j).length - (k + 1) < (elemsJ t j).length - k by omega) ?_
              have e3 : decide ((t.getD ((elemsJ t j).getD k 0).toNat []).getD ((elemsJ t j).getD k 0).toNat 0 = (elemsJ t j).getD k 0) = idmB t ((elemsJ t j).getD k 0) := by
                unfold idmB; rw [ek.1]; exact decide_eq_decide.2 (by omega)
              repeat' first | refine And.intro ?_ ?_ | exact True.intro | exact e3 | exact congrArg (RO.ints .i64) e1.symm | (show (_ : Int) = (_ : Int); omega) | omega | exact rfl
          · have h5 : (classL t).getD ((elemsJ t j).getD k 0).toNat 0 ≠ (colsN t j).getD l 0 := h5
            have sk := skip (by rw [hF]; unfold lstB; rw [decide_eq_false h5, Bool.and_false])
            refine And.intro (by omega) ?_
            refine nx (k + 1, b) ⟨by omega, sk.2⟩ (show (elemsJ t j).length - (k + 1) < (elemsJ t j).length - k by omega) ?_
            repeat' first | refine And.intro ?_ ?_ | exact True.intro | exact congrArg (RO.ints .i64) sk.1 | (show (_ : Int) = (_ : Int); omega) | omega | exact rfl
        · have h4 : (classR t).getD ((elemsJ t j).getD k 0).toNat 0 ≠ (rowsN t j).getD i 0 := h4
          have sk := skip (by rw [hF]; unfold lstB; rw [decide_eq_false h4, Bool.false_and])
          refine And.intro (by omega) ?_
          refine nx (k + 1, b) ⟨by omega, sk.2⟩ (show (elemsJ t j).length - (k + 1) < (elemsJ t j).length - k by omega) ?_
          repeat' first | refine And.intro ?_ ?_ | exact True.intro | exact congrArg (RO.ints .i64) sk.1 | (show (_ : Int) = (_ : Int); omega) | omega | exact rfl
      · have h3 : ((elemsJ t j).length : Int) ≤ (k : Int) := h3
        have hfe := flt_end (f := F) (l := elemsJ t j) (i := k) (by omega)
        have hcell : (hitJ t j ((rowsN t j).getD i 0) ((colsN t j).getD l 0)).take (fltN F (elemsJ t j) k) = hitJ t j ((rowsN t j).getD i 0) ((colsN t j).getD l 0) := List.take_of_length_le (by rw [hfe, hF, ← hit_flt]; exact Nat.le_refl _)
        have hc1 : ((cellR t j ((rowsN t j).getD i 0)).take l).length = l := by rw [List.length_take]; omega
        have hg1 : ((grpR t j ((rowsN t j).getD i 0)).take l).length = l := by rw [List.length_take]; omega
        have e1 : (cellR t j ((rowsN t j).getD i 0)).take (l + 1) = (cellR t j ((rowsN t j).getD i 0)).take l ++ [(hitJ t j ((rowsN t j).getD i 0) ((colsN t j).getD l 0)).take (fltN F (elemsJ t j) k)] := by rw [hcell, take_snoc (d := []) (by omega), cellR_get hll]
        have e2 : (grpR t j ((rowsN t j).getD i 0)).take (l + 1) = (grpR t j ((rowsN t j).getD i 0)).take l ++ [b] := by rw [take_snoc (d := false) (by omega), grpR_get hll, hb, hcell]
        refine And.intro (by simp only [List.length_append, List.length_cons, List.length_nil, hc1]; omega) ?_
        refine And.intro (by simp only [List.length_append, List.length_cons, List.length_nil, hg1]; omega) ?_
        refine And.intro (by omega) ?_
        refine nx (l + 1, 0) (show l + 1 ≤ (colsN t j).length by omega) (show (colsN t j).length - (l + 1) < (colsN t j).length - l by omega) ?_
        repeat' first | refine And.intro ?_ ?_ | exact True.intro | exact congrArg (RO.rows .i64) e1.symm | exact congrArg RO.bools e2.symm | (show (_ : Int) = (_ : Int); omega) | omega | exact rfl
    · have h2 : ((colsN t j).length : Int) ≤ (l : Int) := h2
      have hcr1 : (cellR t j ((rowsN t j).getD i 0)).take l = cellR t j ((rowsN t j).getD i 0) := List.take_of_length_le (by omega)
      have hgr1 : (grpR t j ((rowsN t j).getD i 0)).take l = grpR t j ((rowsN t j).getD i 0) := List.take_of_length_le (by omega)
      refine Or.inr (Exists.intro (.fst 0 (.fst 2 (.fst 5 (.fst 7 (.br 1 (.br 3 (.br 4 (.br 6 (.fst 10 (.br 8 (.br 9 (.br 11 (.fst 12 (.br 13 .done .no)) .no) .no) .no)) (.br 8 (.br 6 (.fst 10 (.br 9 (.br 11 (.fst 12 (.br 13 .done .no)) .no) .no)) .no) .no)) (.br 6 (.br 4 (.fst 10 (.br 8 (.br 9 (.br 11 (.fst 12 (.br 13 .done .no)) .no) .no) .no)) (.br 8 (.br 4 (.fst 10 (.br 9 (.br 11 (.fst 12 (.br 13 .done .no)) .no) .no)) .no) .no)) (.br 8 (.br 4 (.br 6 (.fst 10 (.br 9 (.br 11 (.fst 12 (.br 13 .done .no)) .no) .no)) .no) (.br 6 (.br 4 (.fst 10 (.br 9 (.br 11 (.fst 12 (.br 13 .done .no)) .no) .no)) .no) .no)) .no))) (.br 6 (.br 3 (.br 4 (.fst 10 (.br 8 (.br 9 (.br 11 (.fst 12 (.br 13 .done .no)) .no) .no) .no)) (.br 8 (.br 4 (.fst 10 (.br 9 (.br 11 (.fst 12 (.br 13 .done .no)) .no) .no)) .no) .no)) (.br 8 (.br 3 (.br 4 (.fst 10 (.br 9 (.br 11 (.fst 12 (.br 13 .done .no)) .no) .no)) .no) .no) .no)) (.br 8 (.br 3 (.br 4 (.br 6 (.fst 10 (.br 9 (.br 11 (.fst 12 (.br 13 .done .no)) .no) .no)) .no) (.br 6 (.br 4 (.fst 10 (.br 9 (.br 11 (.fst 12 (.br 13 .done .no)) .no) .no)) .no) .no)) (.br 6 (.br 3 (.br 4 (.fst 10 (.br 9 (.br 11 (.fst 12 (.br 13 .done .no)) .no) .no)) .no) .no) .no)) .no))) (.br 3 (.br 1 (.br 4 (.br 6 (.fst 10 (.br 8 (.br 9 (.br 11 (.fst 12 (.br 13 .done .no)) .no) .no) .no)) (.br 8 (.br 6 (.fst 10 (.br 9 (.br 11 (.fst 12 (.br 13 .done .no)) .no) .no)) .no) .no)) (.br 6 (.br 4 (.fst 10 (.br 8 (.br 9 (.br 11 (.fst 12 (.br 13 .done .no)) .no) .no) .no)) (.br 8 (.br 4 (.fst 10 (.br 9 (.br 11 (.fst 12 (.br 13 .done .no)) .no) .no)) .no) .no)) (.br 8 (.br 4 (.br 6 (.fst 10 (.br 9 (.br 11 (.fst 12 (.br 13 .done .no)) .no) .no)) .no) (.br 6 (.br 4 (.fst 10 (.br 9 (.br 11 (.fst 12 (.br 13 .done .no)) .no) .no)) .no) .no)) .no))) (.br 6 (.br 1 (.br 4 (.fst 10 (.br 8 (.br 9 (.br 11 (.fst 12 (.br 13 .done .no)) .no) .no) .no)) (.br 8 (.br 4 (.fst 10 (.br 9 (.br 11 (.fst 12 (.br 13 .done .no)) .no) .no)) .no) .no)) (.br 8 (.br 1 (.br 4 (.fst 10 (.br 9 (.br 11 (.fst 12 (.br 13 .done .no)) .no) .no)) .no) .no) .no)) (.br 8 (.br 1 (.br 4 (.br 6 (.fst 10 (.br 9 (.br 11 (.fst 12 (.br 13 .done .no)) .no) .no)) .no) (.br 6 (.br 4 (.fst 10 (.br 9 (.br 11 (.fst 12 (.br 13 .done .no)) .no) .no)) .no) .no)) (.br 6 (.br 1 (.br 4 (.fst 10 (.br 9 (.br 11 (.fst 12 (.br 13 .done .no)) .no) .no)) .no) .no) .no)) .no))) (.br 6 (.br 1 (.br 3 (.br 4 (.fst 10 (.br 8 (.br 9 (.br 11 (.fst 12 (.br 13 .done .no)) .no) .no) .no)) (.br 8 (.br 4 (.fst 10 (.br 9 (.br 11 (.fst 12 (.br 13 .done .no)) .no) .no)) .no) .no)) (.br 8 (.br 3 (.br 4 (.fst 10 (.br 9 (.br 11 (.fst 12 (.br 13 .done .no)) .no) .no)) .no) .no) .no)) (.br 3 (.br 1 (.br 4 (.fst 10 (.br 8 (.br 9 (.br 11 (.fst 12 (.br 13 .done .no)) .no) .no) .no)) (.br 8 (.br 4 (.fst 10 (.br 9 (.br 11 (.fst 12 (.br 13 .done .no)) .no) .no)) .no) .no)) (.br 8 (.br 1 (.br 4 (.fst 10 (.br 9 (.br 11 (.fst 12 (.br 13 .done .no)) .no) .no)) .no) .no) .no)) (.br 8 (.br 1 (.br 3 (.br 4 (.fst 10 (.br 9 (.br 11 (.fst 12 (.br 13 .done .no)) .no) .no)) .no) .no) (.br 3 (.br 1 (.br 4 (.fst 10 (.br 9 (.br 11 (.fst 12 (.br 13 .done .no)) .no) .no)) .no) .no) .no)) .no))) (.br 8 (.br 1 (.br 3 (.br 4 (.br 6 (.fst 10 (.br 9 (.br 11 (.fst 12 (.br 13 .done .no)) .no) .no)) .no) (.br 6 (.br 4 (.fst 10 (.br 9 (.br 11 (.fst 12 (.br 13 .done .no)) .no) .no)) .no) .no)) (.br 6 (.br 3 (.br 4 (.fst 10 (.br 9 (.br 11 (.fst 12 (.br 13 .done .no)) .no) .no)) .no) .no) .no)) (.br 3 (.br 1 (.br 4 (.br 6 (.fst 10 (.br 9 (.br 11 (.fst 12 (.br 13 .done .no)) .no) .no)) .no) (.br 6 (.br 4 (.fst 10 (.br 9 (.br 11 (.fst 12 (.br 13 .done .no)) .no) .no)) .no) .no)) (.br 6 (.br 1 (.br 4 (.fst 10 (.br 9 (.br 11 (.fst 12 (.br 13 .done .no)) .no) .no)) .no) .no) .no)) (.br 6 (.br 1 (.br 3 (.br 4 (.fst 10 (.br 9 (.br 11 (.fst 12 (.br 13 .done .no)) .no) .no)) .no) .no) (.br 3 (.br 1 (.br 4 (.fst 10 (.br 9 (.br 11 (.fst 12 (.br 13 .done .no)) .no) .no)) .no) .no) .no)) .no))) .no)))))))) (And.intro (by decide +kernel) ?_))
      have ec1 : (cellsL t j).take (i + 1) = (cellsL t j).take i ++ [(cellR t j ((rowsN t j).getD i 0)).take l] := by rw [hcr1, take_snoc (d := []) (by omega), cellsL_get hil]
      have eg1 : (grpsL t j).take (i + 1) = (grpsL t j).take i ++ [(grpR t j ((rowsN t j).getD i 0)).take l] := by rw [hgr1, take_snoc (d := []) (by omega), grpsL_get hil]
      have bA : ((((cellsL t j).take i ++ [(cellR t j ((rowsN t j).getD i 0)).take l]).length : Nat) : Int) ≤ 2199023255552 := by rw [← ec1, List.length_take]; omega
      have bB : ((((grpsL t j).take i ++ [(grpR t j ((rowsN t j).getD i 0)).take l]).length : Nat) : Int) ≤ 2199023255552 := by rw [← eg1, List.length_take]; omega
      refine (And.intro (And.intro (And.intro (And.intro bA (And.intro (And.intro (And.intro (And.intro bB (And.intro (And.intro ?_ trivial) trivial)) trivial) trivial) (And.intro (And.intro (And.intro (And.intro bB (And.intro (And.intro ?_ trivial) trivial)) trivial) trivial) trivial))) (And.intro (And.intro (And.intro bA (And.intro (And.intro (And.intro bB (And.intro (And.intro ?_ trivial) trivial)) trivial) trivial)) (And.intro (And.intro (And.intro bA (And.intro (And.intro bB (And.intro (And.intro ?_ trivial) trivial)) trivial)) trivial) trivial)) (And.intro (And.intro (And.intro bA (And.intro (And.intro (And.intro bB (And.intro (And.intro ?_ trivial) trivial)) trivial) trivial)) (And.intro (And.intro (And.intro bA (And.intro (And.intro bB (And.intro (And.intro ?_ trivial) trivial)) trivial)) trivial) trivial)) trivial))) (And.intro (And.intro (And.intro (And.intro bA (And.intro (And.intro (And.intro bB (And.intro (And.intro ?_ trivial) trivial)) trivial) trivial)) (And.intro (And.intro (And.intro bA (And.intro (And.intro bB (And.intro (And.intro ?_ trivial) trivial)) trivial)) trivial) trivial)) (And.intro (And.intro (And.intro (And.intro bA (And.intro (And.intro bB (And.intro (And.intro ?_ trivial) trivial)) trivial)) trivial) trivial) trivial)) (And.intro (And.intro (And.intro (And.intro bA (And.intro (And.intro (And.intro bB (And.intro (And.intro ?_ trivial) trivial)) trivial) trivial)) (And.intro (And.intro (And.intro bA (And.intro (And.intro bB (And.intro (And.intro ?_ trivial) trivial)) trivial)) trivial) trivial)) (And.intro (And.intro (And.intro (And.intro bA (And.intro (And.intro bB (And.intro (And.intro ?_ trivial) trivial)) trivial)) trivial) trivial) trivial)) trivial))) (And.intro (And.intro (And.intro (And.intro bA (And.intro (And.intro (And.intro (And.intro bB (And.intro (And.intro ?_ trivial) trivial)) trivial) trivial) (And.intro (And.intro (And.intro (And.intro bB (And.intro (And.intro ?_ trivial) trivial)) trivial) trivial) trivial))) (And.intro (And.intro (And.intro bA (And.intro (And.intro (And.intro bB (And.intro (And.intro ?_ trivial) trivial)) trivial) trivial)) (And.intro (And.intro (And.intro bA (And.intro (And.intro bB (And.intro (And.intro ?_ trivial) trivial)) trivial)) trivial) trivial)) (And.intro (And.intro (And.intro bA (And.intro (And.intro (And.intro bB (And.intro (And.intro ?_ trivial) trivial)) trivial) trivial)) (And.intro (And.intro (And.intro bA (And.intro (And.intro bB (And.intro (And.intro ?_ trivial) trivial)) trivial)) trivial) trivial)) trivial))) (And.intro (And.intro (And.intro (And.intro bA (And.intro (And.intro (And.intro bB (And.intro (And.intro ?_ trivial) trivial)) trivial) trivial)) (And.intro (And.intro (And.intro bA (And.intro (And.intro bB (And.intro (And.intro ?_ trivial) trivial)) trivial)) trivial) trivial)) (And.intro (And.intro (And.intro (And.intro bA (And.intro (And.intro bB (And.intro (And.intro ?_ trivial) trivial)) trivial)) trivial) trivial) trivial)) (And.intro (And.intro (And.intro (And.intro bA (And.intro (And.intro (And.intro bB (And.intro (And.intro ?_ trivial) trivial)) trivial) trivial)) (And.intro (And.intro (And.intro bA (And.intro (And.intro bB (And.intro (And.intro ?_ trivial) trivial)) trivial)) trivial) trivial)) (And.intro (And.intro (And.intro (And.intro bA (And.intro (And.intro bB (And.intro (And.intro ?_ trivial) trivial)) trivial)) trivial) trivial) trivial)) trivial))) (And.intro (And.intro (And.intro (And.intro (And.intro bA (And.intro (And.intro (And.intro bB (And.intro (And.intro ?_ trivial) trivial)) trivial) trivial)) (And.intro (And.intro (And.intro bA (And.intro (And.intro bB (And.intro (And.intro ?_ trivial) trivial)) trivial)) trivial) trivial)) (And.intro (And.intro (And.intro (And.intro bA (And.intro (And.intro bB (And.intro (And.intro ?_ trivial) trivial)) trivial)) trivial) trivial) trivial)) (And.intro (And.intro (And.intro (And.intro bA (And.intro (And.intro (And.intro bB (And.intro (And.intro ?_ trivial) trivial)) trivial) trivial)) (And.intro (And.intro (And.intro bA (And.intro (And.intro bB (And.intro (And.intro ?_ trivial) trivial)) trivial)) trivial) trivial)) (And.intro (And.intro (And.intro (And.intro bA (And.intro (And.intro bB (And.intro (And.intro ?_ trivial) trivial)) trivial)) trivial) trivial) trivial)) (And.intro (And.intro (And.intro (And.intro (And.intro bA (And.intro (And.intro bB (And.intro (And.intro ?_ trivial) trivial)) trivial)) trivial) trivial) (And.intro (And.intro (And.intro (And.intro bA (And.intro (And.intro bB (And.intro (And.intro ?_ trivial) trivial)) trivial)) trivial) trivial) trivial)) trivial))) (And.intro (And.intro (And.intro (And.intro (And.intro bA (And.intro (And.intro (And.intro bB (And.intro (And.intro ?_ trivial) trivial)) trivial) trivial)) (And.intro (And.intro (And.intro bA (And.intro (And.intro bB (And.intro (And.intro ?_ trivial) trivial)) trivial)) trivial) trivial)) (And.intro (And.intro (And.intro (And.intro bA (And.intro (And.intro bB (And.intro (And.intro ?_ trivial) trivial)) trivial)) trivial) trivial) trivial)) (And.intro (And.intro (And.intro (And.intro bA (And.intro (And.intro (And.intro bB (And.intro (And.intro ?_ trivial) trivial)) trivial) trivial)) (And.intro (And.intro (And.intro bA (And.intro (And.intro bB (And.intro (And.intro ?_ trivial) trivial)) trivial)) trivial) trivial)) (And.intro (And.intro (And.intro (And.intro bA (And.intro (And.intro bB (And.intro (And.intro ?_ trivial) trivial)) trivial)) trivial) trivial) trivial)) (And.intro (And.intro (And.intro (And.intro (And.intro bA (And.intro (And.intro bB (And.intro (And.intro ?_ trivial) trivial)) trivial)) trivial) trivial) (And.intro (And.intro (And.intro (And.intro bA (And.intro (And.intro bB (And.intro (And.intro ?_ trivial) trivial)) trivial)) trivial) trivial) trivial)) trivial))) trivial))))
      all_goals
        refine And.intro (by omega) ?_
        refine nx (i + 1, 0) (show i + 1 ≤ (rowsN t j).length by omega) (show (rowsN t j).length - (i + 1) < (rowsN t j).length - i by omega) ?_
        repeat' first | refine And.intro ?_ ?_ | exact True.intro | exact congrArg RO.rows3 ec1.symm | exact congrArg RO.brows eg1.symm | (show (_ : Int) = (_ : Int); omega) | omega | exact rfl
  · have h1 : ((rowsN t j).length : Int) ≤ (i : Int) := h1
    have e1 : (cellsL t j).take i = cellsL t j := List.take_of_length_le (by omega)
    have e2 : (grpsL t j).take i = grpsL t j := List.take_of_length_le (by omega)
    exact And.intro (And.intro (And.intro trivial rfl) (And.intro (And.intro trivial rfl) (And.intro (And.intro trivial (congrArg RO.rows3 e1)) (And.intro (And.intro trivial (congrArg RO.brows e2)) trivial)))) trivial
theorem rbox_fn (t : List (List Int)) (h : Semi t) (j : Nat) (hj : j < numJ t) : QF 30 [.ro (.rows .i64 t), .int .i64 j]
    (.agg [.ro (.ints .i64 (rowsN t j)), .ro (.ints .i64 (colsN t j)), .ro (.rows3 (cellsL t j)), .ro (.brows (grpsL t j))]) := mkQ Try.func30 (by decide +kernel) rfl (Nat.le_of_ble_eq_true rfl) fun _ => rbox_k t h j hj
end Go.Proofs.Ytfoemneboalddaa
