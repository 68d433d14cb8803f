import Derived.Test.YtpanlghofeebhaaChkLaw
import Derived.Test.YtpanlghofeebhaaReesAwake
/- rees.Check: is a numbering of a J-class an isomorphism onto a matrix semigroup? -/
namespace Go.Proofs.Ytpanlghofeebhaa
open Go Go.AM
set_option maxRecDepth 100000
theorem chk_size {S a : Int} {z : Bool} (h : a ≤ 400) (hz : zI z = 0 ∨ zI z = 1) (hs : S = a + zI z) : S ≤ 401 := by omega
theorem chk_ok {t : List (List Int)} {j : Nat} {G : List (List Int)} {R C : Int} {P : List (List Int)} {z : Bool} {m : List Int} (h : Semi t) (hj : j < numJ t) (hr : Rees G R C P z) (hz : z ≠ minJ t j) (hm : m.length = t.length) : ChkPre t (j : Int) G R C P z m :=
  ⟨⟨valid_zero.2 h, by omega, by omega⟩, rees_zero.2 hr, hz, hm⟩
set_option maxHeartbeats 1000000 in
theorem chk_ktrue (t : List (List Int)) (j : Nat) (G : List (List Int)) (R C : Int) (P : List (List Int)) (z : Bool) (m : List Int) (h : Semi t) (hj : j < numJ t) (hr : Rees G R C P z) (hz : z ≠ minJ t j) (hm : m.length = t.length) (hv : z = true) :
    fnK TY SP Try.f10 [.ro (.rows .i64 t), .int .i64 j, rav G R C P z, .ro (.ints .i64 m)] (.bool (.v (chkB t j G R C P z m))) := by
  refine Or.inl (cq (copen_fn t h j hj) (And.intro rfl (And.intro rfl trivial)) ?_)
  refine And.intro (fun h1 => absurd rfl h1) (fun _ => ?_)
  refine Or.inl (cq (rvalid2_fn G R C P z) (And.intro (by repeat' first | refine And.intro ?_ ?_ | exact True.intro | (show (_ : Int) = (_ : Int); omega) | omega | exact rfl | (simp only [RO.len]; omega)) trivial) ?_)
  rw [rees_zero.2 hr]
  refine And.intro (fun h1 => absurd rfl h1) (fun _ => ?_)
  refine And.intro (fun h1 => absurd (eq_of_beq (show (z == minJ t j) = true from h1)) hz) (fun _ => ?_)
  refine And.intro (fun h2 => absurd (show (m.length : Int) = t.length by omega) h2) (fun _ => ?_)
  refine Or.inl (cq (sizeV G R C P z hr) (And.intro (by repeat' first | refine And.intro ?_ ?_ | exact True.intro | (show (_ : Int) = (_ : Int); omega) | omega | exact rfl | (simp only [RO.len]; omega)) trivial) ?_)
  have hmost := h.most
  have hsz := hr.le
  have hzc := z_cases z
  have hsd : sizeI G.length R C z = G.length * R * C + zI z := rfl
  have hpos := size_pos (z := z) hsz.1 hsz.2.2.1 hsz.2.2.2.2.1
  have hel := elems_le hj
  have hil := inJ_len t j
  have hz0 : zI z = 1 := by rw [hv]; rfl
  have hS := chk_size hsz.2.2.2.2.2.2.2.2.2 hzc hsd
  clear hsz hsd
  refine And.intro (fun _ => ?_) (fun hw => absurd (hv.symm.trans (show z = false from hw)) (by decide))
  refine And.intro (by omega) ?_
  refine And.intro (by omega) ?_
  refine Exists.intro [] <| lp2 (fun (i : Nat) (_ : List Bool) => [(56, .int .i64 i)]) (fun _ q => [(53, .vec 0 (.bools q) [])]) (fun i q => ChkInv t j (zI z) (sizeI G.length R C z) m i q) (fun i _ => t.length - i) 0 (List.replicate (sizeI G.length R C z).toNat false) (.start _ (by omega)) (by repeat' first | refine And.intro ?_ ?_ | exact True.intro | (show (_ : Int) = (_ : Int); omega) | omega | exact rfl | (simp only [RO.len]; omega)) ?_
  intro i q H
  have hq := H.len
  have hle := H.le
  refine And.intro (fun h1 => ?_) (fun h1 => ?_)
  · have hi : i < t.length := by have h1 : (i : Int) < m.length := h1; omega
    have eg := inJ_get (j := j) hi
    refine And.intro (by omega) ?_
    refine And.intro (show 0 ≤ (i : Int) ∧ (i : Int) < ((inJ t j).length : Int) by omega) ?_
    refine And.intro (fun h2 => ?_) (fun h2 => ?_)
    · have h2 : (!(inJ t j).getD i false) = true := h2
      rw [eg] at h2
      have hc : (classJ t).getD i 0 ≠ (j : Int) := by simpa using h2
      refine And.intro (fun h3 => ?_) (fun h3 => ?_)
      · exact And.intro (chk_map hi (ChkInv.no1 hc (show m.getD i 0 ≠ -1 from h3))) trivial
      · refine And.intro (by omega) ?_
        exact nx (i + 1, q) (H.skip hi hc (show m.getD i 0 = -1 from h3)) (show t.length - (i + 1) < t.length - i by omega) (by repeat' first | refine And.intro ?_ ?_ | exact True.intro | (show (_ : Int) = (_ : Int); omega) | omega | exact rfl | (simp only [RO.len]; omega))
    · have h2 : (!(inJ t j).getD i false) = false := h2
      rw [eg] at h2
      have hc : (classJ t).getD i 0 = (j : Int) := by simpa using h2
      refine And.intro (fun h3 => ?_) (fun h3 => ?_)
      · have h3 : m.getD i 0 < 1 := h3
        exact And.intro (chk_map hi (ChkInv.no2 hc (Or.inl (by omega)))) trivial
      have h3 : 1 ≤ m.getD i 0 := h3
      refine And.intro (fun h4 => ?_) (fun h4 => ?_)
      · exact And.intro (chk_map hi (ChkInv.no2 hc (Or.inr (show sizeI G.length R C z ≤ m.getD i 0 from h4)))) trivial
      have h4 : m.getD i 0 < sizeI G.length R C z := h4
      refine And.intro (show 0 ≤ m.getD i 0 ∧ m.getD i 0 < (q.length : Int) by omega) ?_
      refine And.intro (fun h5 => ?_) (fun h5 => ?_)
      · exact And.intro (chk_map hi (H.no3 (by omega) hc (by omega) h4 h5)) trivial
      · refine And.intro (show 0 ≤ m.getD i 0 ∧ m.getD i 0 < (q.length : Int) by omega) ?_
        refine And.intro (by omega) ?_
        refine And.intro (by omega) ?_
        exact nx (i + 1, q.set (m.getD i 0).toNat true) (H.put (by omega) hi hc (by omega) h4 h5) (show t.length - (i + 1) < t.length - i by omega) (by repeat' first | refine And.intro ?_ ?_ | exact True.intro | (show (_ : Int) = (_ : Int); omega) | omega | exact rfl | (simp only [RO.len]; omega))
  · have hall : ∀ x, x < t.length → mapAt t j (zI z) (sizeI G.length R C z) m x := fun x hx => H.ok x (by have h1 : (m.length : Int) ≤ i := h1; omega)
    clear H hq hle
    refine And.intro (by omega) ?_
    refine And.intro (fun h2 => ?_) (fun h2 => ?_)
    · exact And.intro (chk_cnt (by have h2 : ((elemsJ t j).length : Int) ≠ sizeI G.length R C z - 1 := h2; omega)) trivial
    have hcn : ((elemsJ t j).length : Int) = sizeI G.length R C z - zI z := by have h2 : ((elemsJ t j).length : Int) = sizeI G.length R C z - 1 := h2; omega
    refine Exists.intro [] <| lp (X := Nat) (fun a => [(99, .int .i64 a)]) (fun _ => []) (fun a => a ≤ (elemsJ t j).length ∧ PairsTo t j G C P z m a) (fun a => (elemsJ t j).length - a) 0 ⟨Nat.zero_le _, fun k hk => absurd hk (Nat.not_lt_zero _)⟩ (by repeat' first | refine And.intro ?_ ?_ | exact True.intro | (show (_ : Int) = (_ : Int); omega) | omega | exact rfl | (simp only [RO.len]; omega)) ?_
    rintro a ⟨han, hps⟩
    refine And.intro (fun h3 => ?_) (fun h3 => ?_)
    · have ha : a < (elemsJ t j).length := by omega
      have ga := elems_get hj ha
      have ax : ((elemsJ t j).getD a 0).toNat < t.length := by omega
      have ma := (hall _ ax).2 ga.2.2
      refine And.intro (by omega) ?_
      refine Exists.intro [] <| lp (X := Nat) (fun b => [(106, .int .i64 b)]) (fun _ => []) (fun b => b ≤ (elemsJ t j).length ∧ ∀ c, c < b → pairAt t j G C P z m ((elemsJ t j).getD a 0).toNat ((elemsJ t j).getD c 0).toNat) (fun b => (elemsJ t j).length - b) 0 ⟨Nat.zero_le _, fun k hk => absurd hk (Nat.not_lt_zero _)⟩ (by repeat' first | refine And.intro ?_ ?_ | exact True.intro | (show (_ : Int) = (_ : Int); omega) | omega | exact rfl | (simp only [RO.len]; omega)) ?_
      rintro b ⟨hbn, hpc⟩
      refine And.intro (fun h4 => ?_) (fun h4 => ?_)
      · have hb : b < (elemsJ t j).length := by omega
        have gb := elems_get hj hb
        have ay : ((elemsJ t j).getD b 0).toNat < t.length := by omega
        have mb := (hall _ ay).2 gb.2.2
        have hrl := h.toSh.len ax
        have e1 := h.toSh.ent ax ay
        have eg := inJ_get (j := j) e1.2
        refine And.intro (by omega) ?_
        refine Or.inl <| Exists.intro [false, false, false, false, false, false, false, false, false, false, false] (And.intro (by decide +kernel) ?_)
        refine And.intro (show 0 ≤ ((elemsJ t j).getD a 0) ∧ ((elemsJ t j).getD a 0) < (t.length : Int) by omega) ?_
        refine And.intro (show 0 ≤ ((elemsJ t j).getD b 0) ∧ ((elemsJ t j).getD b 0) < ((t.getD ((elemsJ t j).getD a 0).toNat []).length : Int) by omega) ?_
        refine And.intro (show 0 ≤ (t.getD ((elemsJ t j).getD a 0).toNat []).getD ((elemsJ t j).getD b 0).toNat 0 ∧ (t.getD ((elemsJ t j).getD a 0).toNat []).getD ((elemsJ t j).getD b 0).toNat 0 < ((inJ t j).length : Int) by omega) ?_
        refine And.intro (fun h5 => ?_) (fun h5 => ?_)
        · have h5 : (inJ t j).getD (en t ((elemsJ t j).getD a 0).toNat ((elemsJ t j).getD b 0).toNat) false = true := h5
          rw [eg, decide_eq_true_eq] at h5
          refine And.intro (show 0 ≤ ((elemsJ t j).getD a 0) ∧ ((elemsJ t j).getD a 0) < (t.length : Int) by omega) ?_
          refine And.intro (show 0 ≤ ((elemsJ t j).getD b 0) ∧ ((elemsJ t j).getD b 0) < ((t.getD ((elemsJ t j).getD a 0).toNat []).length : Int) by omega) ?_
          refine And.intro (show 0 ≤ (t.getD ((elemsJ t j).getD a 0).toNat []).getD ((elemsJ t j).getD b 0).toNat 0 ∧ (t.getD ((elemsJ t j).getD a 0).toNat []).getD ((elemsJ t j).getD b 0).toNat 0 < (m.length : Int) by omega) ?_
          refine Or.inl <| Exists.intro [false, false, false, false, false, false, false, false, false, false, false, false] (And.intro (by decide +kernel) ?_)
          refine And.intro (show 0 ≤ ((elemsJ t j).getD a 0) ∧ ((elemsJ t j).getD a 0) < (m.length : Int) by omega) ?_
          refine And.intro (show 0 ≤ ((elemsJ t j).getD b 0) ∧ ((elemsJ t j).getD b 0) < (m.length : Int) by omega) ?_
          refine cq (prod_fn G R C P z hr (m.getD ((elemsJ t j).getD a 0).toNat 0) (m.getD ((elemsJ t j).getD b 0).toNat 0) (by omega) (by omega)) (And.intro (by repeat' first | refine And.intro ?_ ?_ | exact True.intro | (show (_ : Int) = (_ : Int); omega) | omega | exact rfl | (simp only [RO.len]; omega)) (And.intro rfl (And.intro rfl trivial))) ?_
          refine And.intro (fun h6 => ?_) (fun h6 => ?_)
          · exact And.intro (chk_pair ha hb fun hh => h6 (hh.1 h5)) trivial
          · refine And.intro (by omega) ?_
            refine nx (b + 1) ⟨by omega, fun c hc => ?_⟩ (show (elemsJ t j).length - (b + 1) < (elemsJ t j).length - b by omega) (by repeat' first | refine And.intro ?_ ?_ | exact True.intro | (show (_ : Int) = (_ : Int); omega) | omega | exact rfl | (simp only [RO.len]; omega))
            by_cases hcb : c = b
            · rw [hcb]; exact ⟨fun _ => h6, fun hh => absurd h5 hh⟩
            · exact hpc c (by omega)
        · have h5 : (inJ t j).getD (en t ((elemsJ t j).getD a 0).toNat ((elemsJ t j).getD b 0).toNat) false = false := h5
          rw [eg, decide_eq_false_iff_not] at h5
          refine And.intro (fun hw => absurd (show (!z) = true from hw) (by rw [hv]; decide)) (fun _ => ?_)
          refine Or.inl <| Exists.intro [false, false, false, false, false, false, false, false, false, false, false, false] (And.intro (by decide +kernel) ?_)
          refine And.intro (show 0 ≤ ((elemsJ t j).getD a 0) ∧ ((elemsJ t j).getD a 0) < (m.length : Int) by omega) ?_
          refine And.intro (show 0 ≤ ((elemsJ t j).getD b 0) ∧ ((elemsJ t j).getD b 0) < (m.length : Int) by omega) ?_
          refine cq (prod_fn G R C P z hr (m.getD ((elemsJ t j).getD a 0).toNat 0) (m.getD ((elemsJ t j).getD b 0).toNat 0) (by omega) (by omega)) (And.intro (by repeat' first | refine And.intro ?_ ?_ | exact True.intro | (show (_ : Int) = (_ : Int); omega) | omega | exact rfl | (simp only [RO.len]; omega)) (And.intro rfl (And.intro rfl trivial))) ?_
          refine And.intro (fun h6 => ?_) (fun h6 => ?_)
          · exact And.intro (chk_pair ha hb fun hh => h6 (hh.2 h5).2) trivial
          · refine And.intro (by omega) ?_
            refine nx (b + 1) ⟨by omega, fun c hc => ?_⟩ (show (elemsJ t j).length - (b + 1) < (elemsJ t j).length - b by omega) (by repeat' first | refine And.intro ?_ ?_ | exact True.intro | (show (_ : Int) = (_ : Int); omega) | omega | exact rfl | (simp only [RO.len]; omega))
            by_cases hcb : c = b
            · rw [hcb]; exact ⟨fun hh => absurd hh h5, fun _ => ⟨hv, h6⟩⟩
            · exact hpc c (by omega)
      · refine And.intro (by omega) ?_
        refine nx (a + 1) ⟨by omega, fun c hc => ?_⟩ (show (elemsJ t j).length - (a + 1) < (elemsJ t j).length - a by omega) (by repeat' first | refine And.intro ?_ ?_ | exact True.intro | (show (_ : Int) = (_ : Int); omega) | omega | exact rfl | (simp only [RO.len]; omega))
        by_cases hca : c = a
        · rw [hca]; exact fun d hd => hpc d (by omega)
        · exact hps c (by omega)
    · have hae : a = (elemsJ t j).length := by omega
      rw [hae] at hps
      exact And.intro (chk_yes (chk_ok h hj hr hz hm) ⟨hall, hcn, hps⟩) trivial
set_option maxHeartbeats 1000000 in
theorem chk_kfalse (t : List (List Int)) (j : Nat) (G : List (List Int)) (R C : Int) (P : List (List Int)) (z : Bool) (m : List Int) (h : Semi t) (hj : j < numJ t) (hr : Rees G R C P z) (hz : z ≠ minJ t j) (hm : m.length = t.length) (hv : z = false) :
    fnK TY SP Try.f10 [.ro (.rows .i64 t), .int .i64 j, rav G R C P z, .ro (.ints .i64 m)] (.bool (.v (chkB t j G R C P z m))) := by
  refine Or.inl (cq (copen_fn t h j hj) (And.intro rfl (And.intro rfl trivial)) ?_)
  refine And.intro (fun h1 => absurd rfl h1) (fun _ => ?_)
  refine Or.inl (cq (rvalid2_fn G R C P z) (And.intro (by repeat' first | refine And.intro ?_ ?_ | exact True.intro | (show (_ : Int) = (_ : Int); omega) | omega | exact rfl | (simp only [RO.len]; omega)) trivial) ?_)
  rw [rees_zero.2 hr]
  refine And.intro (fun h1 => absurd rfl h1) (fun _ => ?_)
  refine And.intro (fun h1 => absurd (eq_of_beq (show (z == minJ t j) = true from h1)) hz) (fun _ => ?_)
  refine And.intro (fun h2 => absurd (show (m.length : Int) = t.length by omega) h2) (fun _ => ?_)
  refine Or.inl (cq (sizeV G R C P z hr) (And.intro (by repeat' first | refine And.intro ?_ ?_ | exact True.intro | (show (_ : Int) = (_ : Int); omega) | omega | exact rfl | (simp only [RO.len]; omega)) trivial) ?_)
  have hmost := h.most
  have hsz := hr.le
  have hzc := z_cases z
  have hsd : sizeI G.length R C z = G.length * R * C + zI z := rfl
  have hpos := size_pos (z := z) hsz.1 hsz.2.2.1 hsz.2.2.2.2.1
  have hel := elems_le hj
  have hil := inJ_len t j
  have hz0 : zI z = 0 := by rw [hv]; rfl
  have hS := chk_size hsz.2.2.2.2.2.2.2.2.2 hzc hsd
  clear hsz hsd
  refine And.intro (fun hw => absurd (hv.symm.trans (show z = true from hw)) (by decide)) (fun _ => ?_)
  refine And.intro (by omega) ?_
  refine And.intro (by omega) ?_
  refine Exists.intro [] <| lp2 (fun (i : Nat) (_ : List Bool) => [(56, .int .i64 i)]) (fun _ q => [(53, .vec 0 (.bools q) [])]) (fun i q => ChkInv t j (zI z) (sizeI G.length R C z) m i q) (fun i _ => t.length - i) 0 (List.replicate (sizeI G.length R C z).toNat false) (.start _ (by omega)) (by repeat' first | refine And.intro ?_ ?_ | exact True.intro | (show (_ : Int) = (_ : Int); omega) | omega | exact rfl | (simp only [RO.len]; omega)) ?_
  intro i q H
  have hq := H.len
  have hle := H.le
  refine And.intro (fun h1 => ?_) (fun h1 => ?_)
  · have hi : i < t.length := by have h1 : (i : Int) < m.length := h1; omega
    have eg := inJ_get (j := j) hi
    refine And.intro (by omega) ?_
    refine And.intro (show 0 ≤ (i : Int) ∧ (i : Int) < ((inJ t j).length : Int) by omega) ?_
    refine And.intro (fun h2 => ?_) (fun h2 => ?_)
    · have h2 : (!(inJ t j).getD i false) = true := h2
      rw [eg] at h2
      have hc : (classJ t).getD i 0 ≠ (j : Int) := by simpa using h2
      refine And.intro (fun h3 => ?_) (fun h3 => ?_)
      · exact And.intro (chk_map hi (ChkInv.no1 hc (show m.getD i 0 ≠ -1 from h3))) trivial
      · refine And.intro (by omega) ?_
        exact nx (i + 1, q) (H.skip hi hc (show m.getD i 0 = -1 from h3)) (show t.length - (i + 1) < t.length - i by omega) (by repeat' first | refine And.intro ?_ ?_ | exact True.intro | (show (_ : Int) = (_ : Int); omega) | omega | exact rfl | (simp only [RO.len]; omega))
    · have h2 : (!(inJ t j).getD i false) = false := h2
      rw [eg] at h2
      have hc : (classJ t).getD i 0 = (j : Int) := by simpa using h2
      refine And.intro (fun h3 => ?_) (fun h3 => ?_)
      · have h3 : m.getD i 0 < 0 := h3
        exact And.intro (chk_map hi (ChkInv.no2 hc (Or.inl (by omega)))) trivial
      have h3 : 0 ≤ m.getD i 0 := h3
      refine And.intro (fun h4 => ?_) (fun h4 => ?_)
      · exact And.intro (chk_map hi (ChkInv.no2 hc (Or.inr (show sizeI G.length R C z ≤ m.getD i 0 from h4)))) trivial
      have h4 : m.getD i 0 < sizeI G.length R C z := h4
      refine And.intro (show 0 ≤ m.getD i 0 ∧ m.getD i 0 < (q.length : Int) by omega) ?_
      refine And.intro (fun h5 => ?_) (fun h5 => ?_)
      · exact And.intro (chk_map hi (H.no3 (by omega) hc (by omega) h4 h5)) trivial
      · refine And.intro (show 0 ≤ m.getD i 0 ∧ m.getD i 0 < (q.length : Int) by omega) ?_
        refine And.intro (by omega) ?_
        refine And.intro (by omega) ?_
        exact nx (i + 1, q.set (m.getD i 0).toNat true) (H.put (by omega) hi hc (by omega) h4 h5) (show t.length - (i + 1) < t.length - i by omega) (by repeat' first | refine And.intro ?_ ?_ | exact True.intro | (show (_ : Int) = (_ : Int); omega) | omega | exact rfl | (simp only [RO.len]; omega))
  · have hall : ∀ x, x < t.length → mapAt t j (zI z) (sizeI G.length R C z) m x := fun x hx => H.ok x (by have h1 : (m.length : Int) ≤ i := h1; omega)
    clear H hq hle
    refine And.intro (by omega) ?_
    refine And.intro (fun h2 => ?_) (fun h2 => ?_)
    · exact And.intro (chk_cnt (by have h2 : ((elemsJ t j).length : Int) ≠ sizeI G.length R C z - 0 := h2; omega)) trivial
    have hcn : ((elemsJ t j).length : Int) = sizeI G.length R C z - zI z := by have h2 : ((elemsJ t j).length : Int) = sizeI G.length R C z - 0 := h2; omega
    refine Exists.intro [] <| lp (X := Nat) (fun a => [(99, .int .i64 a)]) (fun _ => []) (fun a => a ≤ (elemsJ t j).length ∧ PairsTo t j G C P z m a) (fun a => (elemsJ t j).length - a) 0 ⟨Nat.zero_le _, fun k hk => absurd hk (Nat.not_lt_zero _)⟩ (by repeat' first | refine And.intro ?_ ?_ | exact True.intro | (show (_ : Int) = (_ : Int); omega) | omega | exact rfl | (simp only [RO.len]; omega)) ?_
    rintro a ⟨han, hps⟩
    refine And.intro (fun h3 => ?_) (fun h3 => ?_)
    · have ha : a < (elemsJ t j).length := by omega
      have ga := elems_get hj ha
      have ax : ((elemsJ t j).getD a 0).toNat < t.length := by omega
      have ma := (hall _ ax).2 ga.2.2
      refine And.intro (by omega) ?_
      refine Exists.intro [] <| lp (X := Nat) (fun b => [(106, .int .i64 b)]) (fun _ => []) (fun b => b ≤ (elemsJ t j).length ∧ ∀ c, c < b → pairAt t j G C P z m ((elemsJ t j).getD a 0).toNat ((elemsJ t j).getD c 0).toNat) (fun b => (elemsJ t j).length - b) 0 ⟨Nat.zero_le _, fun k hk => absurd hk (Nat.not_lt_zero _)⟩ (by repeat' first | refine And.intro ?_ ?_ | exact True.intro | (show (_ : Int) = (_ : Int); omega) | omega | exact rfl | (simp only [RO.len]; omega)) ?_
      rintro b ⟨hbn, hpc⟩
      refine And.intro (fun h4 => ?_) (fun h4 => ?_)
      · have hb : b < (elemsJ t j).length := by omega
        have gb := elems_get hj hb
        have ay : ((elemsJ t j).getD b 0).toNat < t.length := by omega
        have mb := (hall _ ay).2 gb.2.2
        have hrl := h.toSh.len ax
        have e1 := h.toSh.ent ax ay
        have eg := inJ_get (j := j) e1.2
        refine And.intro (by omega) ?_
        refine Or.inl <| Exists.intro [false, false, false, false, false, false, false, false, false, false, false] (And.intro (by decide +kernel) ?_)
        refine And.intro (show 0 ≤ ((elemsJ t j).getD a 0) ∧ ((elemsJ t j).getD a 0) < (t.length : Int) by omega) ?_
        refine And.intro (show 0 ≤ ((elemsJ t j).getD b 0) ∧ ((elemsJ t j).getD b 0) < ((t.getD ((elemsJ t j).getD a 0).toNat []).length : Int) by omega) ?_
        refine And.intro (show 0 ≤ (t.getD ((elemsJ t j).getD a 0).toNat []).getD ((elemsJ t j).getD b 0).toNat 0 ∧ (t.getD ((elemsJ t j).getD a 0).toNat []).getD ((elemsJ t j).getD b 0).toNat 0 < ((inJ t j).length : Int) by omega) ?_
        refine And.intro (fun h5 => ?_) (fun h5 => ?_)
        · have h5 : (inJ t j).getD (en t ((elemsJ t j).getD a 0).toNat ((elemsJ t j).getD b 0).toNat) false = true := h5
          rw [eg, decide_eq_true_eq] at h5
          refine And.intro (show 0 ≤ ((elemsJ t j).getD a 0) ∧ ((elemsJ t j).getD a 0) < (t.length : Int) by omega) ?_
          refine And.intro (show 0 ≤ ((elemsJ t j).getD b 0) ∧ ((elemsJ t j).getD b 0) < ((t.getD ((elemsJ t j).getD a 0).toNat []).length : Int) by omega) ?_
          refine And.intro (show 0 ≤ (t.getD ((elemsJ t j).getD a 0).toNat []).getD ((elemsJ t j).getD b 0).toNat 0 ∧ (t.getD ((elemsJ t j).getD a 0).toNat []).getD ((elemsJ t j).getD b 0).toNat 0 < (m.length : Int) by omega) ?_
          refine Or.inl <| Exists.intro [false, false, false, false, false, false, false, false, false, false, false, false] (And.intro (by decide +kernel) ?_)
          refine And.intro (show 0 ≤ ((elemsJ t j).getD a 0) ∧ ((elemsJ t j).getD a 0) < (m.length : Int) by omega) ?_
          refine And.intro (show 0 ≤ ((elemsJ t j).getD b 0) ∧ ((elemsJ t j).getD b 0) < (m.length : Int) by omega) ?_
          refine cq (prod_fn G R C P z hr (m.getD ((elemsJ t j).getD a 0).toNat 0) (m.getD ((elemsJ t j).getD b 0).toNat 0) (by omega) (by omega)) (And.intro (by repeat' first | refine And.intro ?_ ?_ | exact True.intro | (show (_ : Int) = (_ : Int); omega) | omega | exact rfl | (simp only [RO.len]; omega)) (And.intro rfl (And.intro rfl trivial))) ?_
          refine And.intro (fun h6 => ?_) (fun h6 => ?_)
          · exact And.intro (chk_pair ha hb fun hh => h6 (hh.1 h5)) trivial
          · refine And.intro (by omega) ?_
            refine nx (b + 1) ⟨by omega, fun c hc => ?_⟩ (show (elemsJ t j).length - (b + 1) < (elemsJ t j).length - b by omega) (by repeat' first | refine And.intro ?_ ?_ | exact True.intro | (show (_ : Int) = (_ : Int); omega) | omega | exact rfl | (simp only [RO.len]; omega))
            by_cases hcb : c = b
            · rw [hcb]; exact ⟨fun _ => h6, fun hh => absurd h5 hh⟩
            · exact hpc c (by omega)
        · have h5 : (inJ t j).getD (en t ((elemsJ t j).getD a 0).toNat ((elemsJ t j).getD b 0).toNat) false = false := h5
          rw [eg, decide_eq_false_iff_not] at h5
          refine And.intro (fun _ => ?_) (fun hw => absurd (show (!z) = false from hw) (by rw [hv]; decide))
          exact And.intro (chk_pair ha hb fun hh => by have := (hh.2 h5).1; rw [hv] at this; cases this) trivial
      · refine And.intro (by omega) ?_
        refine nx (a + 1) ⟨by omega, fun c hc => ?_⟩ (show (elemsJ t j).length - (a + 1) < (elemsJ t j).length - a by omega) (by repeat' first | refine And.intro ?_ ?_ | exact True.intro | (show (_ : Int) = (_ : Int); omega) | omega | exact rfl | (simp only [RO.len]; omega))
        by_cases hca : c = a
        · rw [hca]; exact fun d hd => hpc d (by omega)
        · exact hps c (by omega)
    · have hae : a = (elemsJ t j).length := by omega
      rw [hae] at hps
      exact And.intro (chk_yes (chk_ok h hj hr hz hm) ⟨hall, hcn, hps⟩) trivial
theorem chk_fn (t : List (List Int)) (j : Int) (G : List (List Int)) (R C : Int) (P : List (List Int)) (z : Bool) (m : List Int) :
    QF 10 [.ro (.rows .i64 t), .int .i64 j, rav G R C P z, .ro (.ints .i64 m)] (.bool (.v (chkB t j G R C P z m))) := mkQ Try.func10 (by decide +kernel) rfl (Nat.le_of_ble_eq_true rfl) fun _ => by
  by_cases hp : validV t = 0 ∧ 0 ≤ j ∧ j < numJ t
  · obtain ⟨k, rfl⟩ : ∃ k : Nat, j = (k : Int) := ⟨j.toNat, by omega⟩
    have h := valid_zero.1 hp.1
    have hj : k < numJ t := by omega
    by_cases hr : reesV G R C P z = 0
    · by_cases hz : z = minJ t k
      · refine Or.inl (cq (copen_fn t h k hj) (And.intro rfl (And.intro rfl trivial)) ?_)
        refine And.intro (fun h1 => absurd rfl h1) (fun _ => ?_)
        refine Or.inl (cq (rvalid2_fn G R C P z) (And.intro (by repeat' first | refine And.intro ?_ ?_ | exact True.intro | (show (_ : Int) = (_ : Int); omega) | omega | exact rfl | (simp only [RO.len]; omega)) trivial) ?_)
        refine And.intro (fun h1 => absurd hr h1) (fun _ => ?_)
        refine And.intro (fun _ => ?_) (fun h1 => absurd (show (z == minJ t k) = false from h1) (by rw [hz]; simp))
        exact And.intro (chk_pre fun hh => hh.2.2.1 hz) trivial
      · by_cases hm : m.length = t.length
        · rcases Bool.eq_false_or_eq_true z with hv | hv
          · exact chk_ktrue t k G R C P z m h hj (rees_zero.1 hr) hz hm hv
          · exact chk_kfalse t k G R C P z m h hj (rees_zero.1 hr) hz hm hv
        · refine Or.inl (cq (copen_fn t h k hj) (And.intro rfl (And.intro rfl trivial)) ?_)
          refine And.intro (fun h1 => absurd rfl h1) (fun _ => ?_)
          refine Or.inl (cq (rvalid2_fn G R C P z) (And.intro (by repeat' first | refine And.intro ?_ ?_ | exact True.intro | (show (_ : Int) = (_ : Int); omega) | omega | exact rfl | (simp only [RO.len]; omega)) trivial) ?_)
          refine And.intro (fun h1 => absurd hr h1) (fun _ => ?_)
          refine And.intro (fun h1 => absurd (eq_of_beq (show (z == minJ t k) = true from h1)) hz) (fun _ => ?_)
          refine And.intro (fun _ => ?_) (fun h1 => absurd (show (m.length : Int) = (t.length : Int) from h1) (by omega))
          exact And.intro (chk_pre fun hh => hm hh.2.2.2) trivial
    · refine Or.inl (cq (copen_fn t h k hj) (And.intro rfl (And.intro rfl trivial)) ?_)
      refine And.intro (fun h1 => absurd rfl h1) (fun _ => ?_)
      refine Or.inl (cq (rvalid2_fn G R C P z) (And.intro (by repeat' first | refine And.intro ?_ ?_ | exact True.intro | (show (_ : Int) = (_ : Int); omega) | omega | exact rfl | (simp only [RO.len]; omega)) trivial) ?_)
      refine And.intro (fun _ => ?_) (fun h1 => absurd h1 hr)
      exact And.intro (chk_pre fun hh => hr hh.2.1) trivial
  · refine Or.inl (cq (copen_no t j hp) (And.intro rfl (And.intro rfl trivial)) ?_)
    refine And.intro (fun _ => ?_) (fun h1 => absurd h1 (openV_ne t j))
    exact And.intro (chk_pre fun hh => hp hh.1) trivial
end Go.Proofs.Ytpanlghofeebhaa
