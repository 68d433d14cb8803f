import Derived.Test.YtpanlghofeebhaaMinsLaw
import Derived.Test.YtpanlghofeebhaaClone
import Derived.Test.YtpanlghofeebhaaCgFor
import Derived.Test.YtpanlghofeebhaaCgSyn
import Derived.Test.YtpanlghofeebhaaSort
section
/- The network of pairs: its edges, and the search's first step: contracts. -/
namespace Go.Proofs.Ytpanlghofeebhaa
open Go Go.AM
set_option maxRecDepth 100000
abbrev nwS (t : List (List Int)) (g c : List Int) (C : List (List Nat)) (lv : List Bool) : Store := [(1001, .box [.ro (.rows .i64 t), .vec 1006, .vec 1007, .vec 505, .vec 506]), (1006, .vec 0 (.ints .i64 g) []), (1007, .vec 0 (.ints .i64 c) []), (505, .vec 0 (.rows .i64 (csI C)) []), (506, .vec 0 (.bools lv) [])]
abbrev wkS (t : List (List Int)) (g : List Int) (o l c : List Int) (e : List Bool) (P : List (Nat × Nat)) (K : List Nat) (C : List (List Nat)) (lv : List Bool) (m : Nat) : Store := [(1000, .box [.ptr 1001 0, .vec 1002, .vec 1003, .vec 503, .vec 504, .vec 1005, .int .i64 m]), (1002, .vec 0 (.ints .i64 o) []), (1003, .vec 0 (.ints .i64 l) []), (503, .vec 0 (.pairs (pthI P)) []), (504, .vec 0 (.ints .i64 (stkI K)) []), (1005, .vec 0 (.bools e) []),
  (1001, .box [.ro (.rows .i64 t), .vec 1006, .vec 1007, .vec 505, .vec 506]), (1006, .vec 0 (.ints .i64 g) []), (1007, .vec 0 (.ints .i64 c) []), (505, .vec 0 (.rows .i64 (csI C)) []), (506, .vec 0 (.bools lv) [])]
theorem pr_int {n a b : Nat} : ((a : Int) = b → (-1 : Int) = prN n a b) ∧ ((a : Int) ≠ b → min (a : Int) b * n + max (a : Int) b = prN n a b) := by
  unfold prN
  constructor
  · intro h; rw [if_pos (by omega)]
  · intro h
    rw [if_neg (by omega), Int.natCast_add, Int.natCast_mul, show ((min a b : Nat) : Int) = min (a : Int) b by omega, show ((max a b : Nat) : Int) = max (a : Int) b by omega]
theorem ntg_fn (t : List (List Int)) (g c : List Int) (C : List (List Nat)) (lv : List Bool) (hs : Sh t) (hg : ∀ x ∈ g, 0 ≤ x ∧ x < (t.length : Int)) (v k : Nat) (hv : Gp t.length v) (hk : k < 2 * g.length) : MF 95 [.ptr 1001 0, .int .i64 v, .int .i64 k] (nwS t g c C lv) (.int .i64 (tgN t g v k)) (nwS t g c C lv) := mkM Try.func95 (by decide +kernel) rfl (Nat.le_of_ble_eq_true rfl) fun _ => by
  obtain ⟨v1, v2, v3⟩ := gp_le hv
  have hkl : k / 2 < g.length := by omega
  have hgz := hg _ (getD_mem (d := 0) hkl)
  have hmost := hs.most
  have ex : (v : Int) / (t.length : Int) = ((v / t.length : Nat) : Int) := rfl
  have ey : (v : Int) % (t.length : Int) = ((v % t.length : Nat) : Int) := rfl
  have ek : ((k : Int) / 2).toNat = k / 2 := by omega
  have hzl : (g.getD (k / 2) 0).toNat < t.length := by omega
  have rz := hs.len hzl
  have rx := hs.len v1
  have ry := hs.len v2
  have fin : ∀ a b : Nat, a < t.length → b < t.length → (-9223372036854775808 ≤ min (a : Int) b * (t.length : Int) ∧ min (a : Int) b * (t.length : Int) ≤ 9223372036854775807) ∧ -9223372036854775808 ≤ min (a : Int) b * (t.length : Int) + max (a : Int) b ∧ min (a : Int) b * (t.length : Int) + max (a : Int) b ≤ 9223372036854775807 := fun a b ha hb => by
    have h1 : min a b * t.length ≤ 400 * 400 := Nat.mul_le_mul (by omega) hmost
    have h2 : min (a : Int) b * (t.length : Int) = ((min a b * t.length : Nat) : Int) := by rw [Int.natCast_mul, show ((min a b : Nat) : Int) = min (a : Int) b by omega]
    omega
  refine Or.inl ?_
  refine Exists.intro [false, false, false, false, false, false, false, false, false, false, false, false, false, false, false, false, false] (And.intro (by decide +kernel) ?_)
  refine And.intro (by omega) ?_
  refine Or.inl ?_
  refine And.intro (by omega) ?_
  refine And.intro (by omega) ?_
  refine And.intro (by omega) ?_
  refine Or.inl ?_
  refine And.intro (by omega) ?_
  refine And.intro (fun h1 => ?_) (fun h1 => ?_)
  · have h1 : (k : Int) % 2 = 0 := h1
    have e1 := hs.ent hzl v1
    have e2 := hs.ent hzl v2
    have ea : tgA t (g.getD (k / 2) 0).toNat (v / t.length) k = en t (g.getD (k / 2) 0).toNat (v / t.length) := by unfold tgA; rw [if_pos (by omega)]
    have eb : tgA t (g.getD (k / 2) 0).toNat (v % t.length) k = en t (g.getD (k / 2) 0).toNat (v % t.length) := by unfold tgA; rw [if_pos (by omega)]
    have hp := @pr_int t.length (en t (g.getD (k / 2) 0).toNat (v / t.length)) (en t (g.getD (k / 2) 0).toNat (v % t.length))
    rw [← e1.1, ← e2.1] at hp
    have hf := fin _ _ e1.2 e2.2
    rw [← e1.1, ← e2.1] at hf
    unfold tgN
    rw [ea, eb]
    refine Or.inr (Exists.intro .txt (And.intro (by decide +kernel) ?_))
    refine And.intro (show 0 ≤ g.getD (k / 2) 0 ∧ g.getD (k / 2) 0 < (t.length : Int) from hgz) ?_
    refine And.intro ⟨Int.natCast_nonneg (v / t.length), show ((v / t.length : Nat) : Int) < ((t.getD (g.getD (k / 2) 0).toNat []).length : Int) from rz.symm ▸ Int.ofNat_lt.2 v1⟩ ?_
    refine And.intro (show 0 ≤ g.getD (k / 2) 0 ∧ g.getD (k / 2) 0 < (t.length : Int) from hgz) ?_
    refine And.intro ⟨Int.natCast_nonneg (v % t.length), show ((v % t.length : Nat) : Int) < ((t.getD (g.getD (k / 2) 0).toNat []).length : Int) from rz.symm ▸ Int.ofNat_lt.2 v2⟩ ?_
    refine And.intro (fun h2 => ?_) (fun h2 => ?_)
    · refine And.intro ?_ (hp.1 h2)
      repeat' first | refine And.intro ?_ ?_ | exact True.intro | (show (_ : Int) = (_ : Int); omega) | omega | exact rfl | (simp only [RO.len]; omega)
    · have h2 : (t.getD (g.getD (k / 2) 0).toNat []).getD (v / t.length) 0 ≠ (t.getD (g.getD (k / 2) 0).toNat []).getD (v % t.length) 0 := h2
      refine And.intro hf.1 ?_
      refine And.intro hf.2 ?_
      refine And.intro ?_ (hp.2 h2)
      repeat' first | refine And.intro ?_ ?_ | exact True.intro | (show (_ : Int) = (_ : Int); omega) | omega | exact rfl | (simp only [RO.len]; omega)
  · have h1 : (k : Int) % 2 ≠ 0 := h1
    have e1 := hs.ent v1 hzl
    have e2 := hs.ent v2 hzl
    have ea : tgA t (g.getD (k / 2) 0).toNat (v / t.length) k = en t (v / t.length) (g.getD (k / 2) 0).toNat := by unfold tgA; rw [if_neg (by omega)]
    have eb : tgA t (g.getD (k / 2) 0).toNat (v % t.length) k = en t (v % t.length) (g.getD (k / 2) 0).toNat := by unfold tgA; rw [if_neg (by omega)]
    have hp := @pr_int t.length (en t (v / t.length) (g.getD (k / 2) 0).toNat) (en t (v % t.length) (g.getD (k / 2) 0).toNat)
    rw [← e1.1, ← e2.1] at hp
    have hf := fin _ _ e1.2 e2.2
    rw [← e1.1, ← e2.1] at hf
    unfold tgN
    rw [ea, eb]
    refine Or.inr (Exists.intro .txt (And.intro (by decide +kernel) ?_))
    refine And.intro ⟨Int.natCast_nonneg (v / t.length), Int.ofNat_lt.2 v1⟩ ?_
    refine And.intro (show 0 ≤ g.getD (k / 2) 0 ∧ g.getD (k / 2) 0 < ((t.getD (v / t.length) []).length : Int) from rx.symm ▸ hgz) ?_
    refine And.intro ⟨Int.natCast_nonneg (v % t.length), Int.ofNat_lt.2 v2⟩ ?_
    refine And.intro (show 0 ≤ g.getD (k / 2) 0 ∧ g.getD (k / 2) 0 < ((t.getD (v % t.length) []).length : Int) from ry.symm ▸ hgz) ?_
    refine And.intro (fun h2 => ?_) (fun h2 => ?_)
    · refine And.intro ?_ (hp.1 h2)
      repeat' first | refine And.intro ?_ ?_ | exact True.intro | (show (_ : Int) = (_ : Int); omega) | omega | exact rfl | (simp only [RO.len]; omega)
    · have h2 : (t.getD (v / t.length) []).getD (g.getD (k / 2) 0).toNat 0 ≠ (t.getD (v % t.length) []).getD (g.getD (k / 2) 0).toNat 0 := h2
      refine And.intro hf.1 ?_
      refine And.intro hf.2 ?_
      refine And.intro ?_ (hp.2 h2)
      repeat' first | refine And.intro ?_ ?_ | exact True.intro | (show (_ : Int) = (_ : Int); omega) | omega | exact rfl | (simp only [RO.len]; omega)
theorem nent_k (t : List (List Int)) (g o l c : List Int) (e : List Bool) (P : List (Nat × Nat)) (K : List Nat) (C : List (List Nat)) (lv : List Bool) (m : Nat) (v : Nat) (hv : v < o.length) (hl : l.length = o.length) (_ho : o.length ≤ 160000) (hP : P.length ≤ 160000) (hK : K.length ≤ 160000) (hm : m ≤ 160000) : fnMK TY SP Try.f129 [.ptr 1000 0, .int .i64 v] (wkS t g o l c e P K C lv m) (.tup []) (wkS t g (o.set v ((m + 1 : Nat) : Int)) (l.set v ((m + 1 : Nat) : Int)) c e ((v, 0) :: P) (v :: K) C lv (m + 1)) := by
  have e1 : pthI P ++ [((v : Int), 0)] = pthI ((v, 0) :: P) := pth_cons (v, 0) P
  have e2 := stk_cons v K
  have h1 : (pthI P ++ [((v : Int), 0)]).length = P.length + 1 := by rw [e1, pth_len]; rfl
  have h2 : (stkI K ++ [(v : Int)]).length = K.length + 1 := by rw [e2, stk_len]; rfl
  refine And.intro (by omega) ?_
  refine Or.inl ?_
  refine Exists.intro [false, false, false, false, false, false, false, false, false, false, false, false, false, false, false, false, false, false, false, true, false, true] (And.intro (by decide +kernel) ?_)
  refine And.intro (by omega) ?_
  refine And.intro (by omega) ?_
  refine And.intro (by omega) ?_
  refine And.intro (by omega) ?_
  refine And.intro (show (((stkI K ++ [(v : Int)]).length : Nat) : Int) ≤ 17592186044416 by omega) ?_
  refine And.intro (show (((pthI P ++ [((v : Int), 0)]).length : Nat) : Int) ≤ 2199023255552 by omega) ?_
  refine And.intro ?_ trivial
  repeat' first | refine And.intro ?_ ?_ | exact True.intro | exact congrArg RO.pairs e1 | exact congrArg (RO.ints .i64) e2 | (show (_ : Int) = (_ : Int); omega) | omega | exact rfl | (simp only [RO.len]; omega)
theorem nent_fn (t : List (List Int)) (g o l c : List Int) (e : List Bool) (P : List (Nat × Nat)) (K : List Nat) (C : List (List Nat)) (lv : List Bool) (m : Nat) (v : Nat) (hv : v < o.length) (hl : l.length = o.length) (ho : o.length ≤ 160000) (hP : P.length ≤ 160000) (hK : K.length ≤ 160000) (hm : m ≤ 160000) : MF 129 [.ptr 1000 0, .int .i64 v] (wkS t g o l c e P K C lv m) (.tup []) (wkS t g (o.set v ((m + 1 : Nat) : Int)) (l.set v ((m + 1 : Nat) : Int)) c e ((v, 0) :: P) (v :: K) C lv (m + 1)) := mkM Try.func129 (by decide +kernel) rfl (Nat.le_of_ble_eq_true rfl) fun _ => nent_k t g o l c e P K C lv m v hv hl ho hP hK hm
end Go.Proofs.Ytpanlghofeebhaa
end
section
/- The search through the network: a component is closed: contract. -/
namespace Go.Proofs.Ytpanlghofeebhaa
open Go Go.AM
set_option maxRecDepth 100000
set_option maxHeartbeats 4000000 in
theorem nclose_fn (t : List (List Int)) (g o l c : List Int) (e : List Bool) (P : List (Nat × Nat)) (A : List Nat) (v : Nat) (B : List Nat) (C : List (List Nat)) (lv : List Bool) (m : Nat) (hA : v ∉ A) (hmem : ∀ u ∈ v :: A.reverse, u < c.length ∧ u < e.length) (hl : A.length + B.length < 4096) (hC : C.length ≤ 160000) (hlv : lv.length = C.length) :
    MF 130 [.ptr 1000 0, .int .i64 v] (wkS t g o l c e P (A ++ v :: B) C lv m) (.tup []) (wkS t g o l (setAll c C.length (v :: A.reverse)) e P B (C ++ [v :: A.reverse]) (lv ++ [anyE e (v :: A.reverse)]) m) := mkM Try.func130 (by decide +kernel) rfl (Nat.le_of_ble_eq_true rfl) fun _ => by
  have hlen : (stkI (A ++ v :: B)).length = A.length + B.length + 1 := by rw [stk_len]; simp; omega
  have hdr := stk_drop A v B
  have htk := stk_take A v B
  have hat : ∀ {j : Nat}, j ≤ A.length → (stkI (A ++ v :: B)).getD (B.length + j) 0 = (((v :: A.reverse).getD j 0 : Nat) : Int) := fun hj => stk_at A v B hj
  have hnl : (natI (v :: A.reverse)).length = A.length + 1 := by rw [nat_len]; simp
  refine And.intro (by omega) ?_
  refine Exists.intro [] <| lp (X := Nat) (fun j => [(4, .int .i64 ((B.length + j : Nat) : Int))]) (fun _ => []) (fun j => j ≤ A.length) (fun j => j) A.length (Nat.le_refl _) (by repeat' first | refine And.intro ?_ ?_ | exact True.intro | (show (_ : Int) = (_ : Int); omega) | omega | exact rfl) ?_
  intro j hj
  refine And.intro (by omega) ?_
  refine And.intro (fun h1 => ?_) (fun h1 => ?_)
  · have h1 : (stkI (A ++ v :: B)).getD (B.length + j) 0 ≠ (v : Int) := h1
    have hj0 : j ≠ 0 := fun e1 => by subst e1; rw [hat (Nat.zero_le _)] at h1; exact h1 rfl
    refine And.intro (by omega) ?_
    exact nx (j - 1) (show j - 1 ≤ A.length by omega) (show j - 1 < j by omega) (by repeat' first | refine And.intro ?_ ?_ | exact True.intro | (show (_ : Int) = (_ : Int); omega) | omega | exact rfl | (simp only [RO.len]; omega))
  · have h1 : (stkI (A ++ v :: B)).getD (B.length + j) 0 = (v : Int) := h1
    have hj0 : j = 0 := by
      rw [hat hj] at h1
      cases j with
      | zero => rfl
      | succ j =>
        exfalso
        have h2 : (v :: A.reverse).getD (j + 1) 0 = v := by omega
        have h3 : A.reverse.getD j 0 = v := h2
        have h4 : A.reverse.getD j 0 ∈ A.reverse := getD_mem (by rw [List.length_reverse]; omega)
        rw [h3] at h4
        exact hA (List.mem_reverse.1 h4)
    subst hj0
    have hraw : List.drop B.length (List.take (stkI (A ++ v :: B)).length (stkI (A ++ v :: B))) = natI (v :: A.reverse) := by rw [List.take_length]; exact hdr
    refine And.intro (by omega) ?_
    refine Or.inl ?_
    refine And.intro (by omega) ?_
    refine cq (cloneI_fn (natI (v :: A.reverse)) (by omega)) (And.intro (by exact congrArg (RO.ints .i64) hraw) trivial) ?_
    refine And.intro (by omega) ?_
    refine Or.inr ?_
    refine Exists.intro [] <| lp (X := Nat) (fun i => [(44, .int .i64 i), (6, .bool (.v (anyE e ((v :: A.reverse).take i))))]) (fun i => [(1007, .vec 0 (.ints .i64 (setAll c C.length ((v :: A.reverse).take i))) [])]) (fun i => i ≤ A.length + 1) (fun i => A.length + 1 - i) 0 (Nat.zero_le _) (by repeat' first | refine And.intro ?_ ?_ | exact True.intro | (show (_ : Int) = (_ : Int); omega) | omega | exact rfl) ?_
    intro i hi
    have hmi : ∀ i, i < A.length + 1 → (v :: A.reverse).getD i 0 ∈ v :: A.reverse := fun i hi => getD_mem (by simp; omega)
    refine And.intro (fun h2 => ?_) (fun h2 => ?_)
    · have h2 : (i : Int) < ((natI (v :: A.reverse)).length : Int) := h2
      have hil : i < A.length + 1 := by omega
      have hu := hmem _ (hmi i hil)
      have hg : (natI (v :: A.reverse)).getD i 0 = (((v :: A.reverse).getD i 0 : Nat) : Int) := nat_get (by simp; omega)
      have htk1 : (v :: A.reverse).take (i + 1) = (v :: A.reverse).take i ++ [(v :: A.reverse).getD i 0] := by
        rw [List.take_add_one, List.getElem?_eq_getElem (by simp; omega)]; simp [List.getD, hil]
      have hsl := setAll_len c C.length ((v :: A.reverse).take i)
      have es : (setAll c C.length ((v :: A.reverse).take i)).set ((natI (v :: A.reverse)).getD i 0).toNat ((csI C).length : Int) = setAll c C.length ((v :: A.reverse).take (i + 1)) := by rw [htk1, setAll_snoc, hg, cs_len]; rfl
      have ea : anyE e ((v :: A.reverse).take (i + 1)) = (anyE e ((v :: A.reverse).take i) || e.getD ((natI (v :: A.reverse)).getD i 0).toNat false) := by rw [htk1, anyE_snoc, hg]; rfl
      refine And.intro (by omega) ?_
      refine Or.inl ?_
      refine Exists.intro [false, false, false, false, false, false, false, false, false, false, false, false, false, false, false, false, false, true] (And.intro (by decide +kernel) ?_)
      refine And.intro (show 0 ≤ (natI (v :: A.reverse)).getD i 0 ∧ (natI (v :: A.reverse)).getD i 0 < ((setAll c C.length ((v :: A.reverse).take i)).length : Int) by omega) ?_
      refine And.intro (show ((0 : Nat) : Int) ≤ (natI (v :: A.reverse)).getD i 0 by omega) ?_
      refine And.intro (fun h3 => ?_) (fun h3 => ?_)
      · have h3 : anyE e ((v :: A.reverse).take i) = true := h3
        rw [h3, Bool.true_or] at ea
        refine And.intro (by omega) ?_
        exact nx (i + 1) (show i + 1 ≤ A.length + 1 by omega) (show A.length + 1 - (i + 1) < A.length + 1 - i by omega) (by repeat' first | refine And.intro ?_ ?_ | exact True.intro | exact congrArg (RO.ints .i64) es | exact ea.symm | (show (_ : Int) = (_ : Int); omega) | omega | exact rfl)
      · have h3 : anyE e ((v :: A.reverse).take i) = false := h3
        rw [h3, Bool.false_or] at ea
        refine And.intro (show 0 ≤ (natI (v :: A.reverse)).getD i 0 ∧ (natI (v :: A.reverse)).getD i 0 < (e.length : Int) by omega) ?_
        refine And.intro (by omega) ?_
        exact nx (i + 1) (show i + 1 ≤ A.length + 1 by omega) (show A.length + 1 - (i + 1) < A.length + 1 - i by omega) (by repeat' first | refine And.intro ?_ ?_ | exact True.intro | exact congrArg (RO.ints .i64) es | exact ea.symm | (show (_ : Int) = (_ : Int); omega) | omega | exact rfl)
    · have h2 : ((natI (v :: A.reverse)).length : Int) ≤ (i : Int) := h2
      have et : (v :: A.reverse).take i = v :: A.reverse := List.take_of_length_le (by simp; omega)
      have hc1 : ((csI C) ++ [natI (v :: A.reverse)]).length = C.length + 1 := by rw [List.length_append, cs_len]; rfl
      have hc2 : (lv ++ [anyE e ((v :: A.reverse).take i)]).length = C.length + 1 := by rw [List.length_append, hlv]; rfl
      refine Or.inr (Exists.intro (.fst 0 (.fst 1 (.fst 2 (.fst 4 (.fst 5 (.fst 6 (.fst 11 (.br 3 (.br 7 (.fst 8 (.fst 9 (.br 10 (.br 12 (.br 13 (.fst 14 (.fst 15 (.br 16 .done .no))) .no) .no) (.br 12 (.br 10 (.br 13 (.fst 14 (.fst 15 (.br 16 .done .no))) .no) .no) .no)))) (.br 12 (.br 7 (.fst 8 (.fst 9 (.br 10 (.br 13 (.fst 14 (.fst 15 (.br 16 .done .no))) .no) .no))) .no) .no)) (.br 7 (.fst 8 (.fst 9 (.br 3 (.br 10 (.br 12 (.br 13 (.fst 14 (.fst 15 (.br 16 .done .no))) .no) .no) (.br 12 (.br 10 (.br 13 (.fst 14 (.fst 15 (.br 16 .done .no))) .no) .no) .no)) (.br 10 (.br 3 (.br 12 (.br 13 (.fst 14 (.fst 15 (.br 16 .done .no))) .no) .no) (.br 12 (.br 3 (.br 13 (.fst 14 (.fst 15 (.br 16 .done .no))) .no) (.br 13 (.br 3 (.fst 14 (.fst 15 (.br 16 .done .no))) .no) .no)) .no)) (.br 12 (.br 3 (.br 10 (.br 13 (.fst 14 (.fst 15 (.br 16 .done .no))) .no) .no) (.br 10 (.br 3 (.br 13 (.fst 14 (.fst 15 (.br 16 .done .no))) .no) (.br 13 (.br 3 (.fst 14 (.fst 15 (.br 16 .done .no))) .no) .no)) .no)) .no))))) (.br 12 (.br 3 (.br 7 (.fst 8 (.fst 9 (.br 10 (.br 13 (.fst 14 (.fst 15 (.br 16 .done .no))) .no) .no))) .no) (.br 7 (.fst 8 (.fst 9 (.br 3 (.br 10 (.br 13 (.fst 14 (.fst 15 (.br 16 .done .no))) .no) .no) (.br 10 (.br 3 (.br 13 (.fst 14 (.fst 15 (.br 16 .done .no))) .no) (.br 13 (.br 3 (.fst 14 (.fst 15 (.br 16 .done .no))) .no) .no)) .no)))) .no)) .no)))))))))) (And.intro (by decide +kernel) ?_))
      apply schShr
      · intro K hK
        repeat' first | refine And.intro ?_ ?_ | exact True.intro | exact hK | (show (((csI C ++ [natI (v :: A.reverse)]).length : Nat) : Int) ≤ 2199023255552; omega)
      · refine Or.inr (Exists.intro (.fst 0 (.fst 1 (.fst 2 (.fst 4 (.fst 5 (.fst 6 (.fst 11 (.br 3 (.br 7 (.fst 8 (.fst 9 (.br 10 (.br 12 (.br 13 (.fst 14 (.fst 15 (.br 16 .done .no))) .no) .no) (.br 12 (.br 10 (.br 13 (.fst 14 (.fst 15 (.br 16 .done .no))) .no) .no) .no)))) (.br 12 (.br 7 (.fst 8 (.fst 9 (.br 10 (.br 13 (.fst 14 (.fst 15 (.br 16 .done .no))) .no) .no))) .no) .no)) (.br 7 (.fst 8 (.fst 9 (.br 3 (.br 10 (.br 12 (.br 13 (.fst 14 (.fst 15 (.br 16 .done .no))) .no) .no) (.br 12 (.br 10 (.br 13 (.fst 14 (.fst 15 (.br 16 .done .no))) .no) .no) .no)) (.br 10 (.br 3 (.br 12 (.br 13 (.fst 14 (.fst 15 (.br 16 .done .no))) .no) .no) (.br 12 (.br 3 (.br 13 (.fst 14 (.fst 15 (.br 16 .done .no))) .no) (.br 13 (.br 3 (.fst 14 (.fst 15 (.br 16 .done .no))) .no) .no)) .no)) (.br 12 (.br 3 (.br 10 (.br 13 (.fst 14 (.fst 15 (.br 16 .done .no))) .no) .no) (.br 10 (.br 3 (.br 13 (.fst 14 (.fst 15 (.br 16 .done .no))) .no) (.br 13 (.br 3 (.fst 14 (.fst 15 (.br 16 .done .no))) .no) .no)) .no)) .no))))) (.br 12 (.br 3 (.br 7 (.fst 8 (.fst 9 (.br 10 (.br 13 (.fst 14 (.fst 15 (.br 16 .done .no))) .no) .no))) .no) (.br 7 (.fst 8 (.fst 9 (.br 3 (.br 10 (.br 13 (.fst 14 (.fst 15 (.br 16 .done .no))) .no) .no) (.br 10 (.br 3 (.br 13 (.fst 14 (.fst 15 (.br 16 .done .no))) .no) (.br 13 (.br 3 (.fst 14 (.fst 15 (.br 16 .done .no))) .no) .no)) .no)))) .no)) .no)))))))))) (And.intro (by decide +kernel) ?_))
        apply schShr
        · intro K hK
          repeat' first | refine And.intro ?_ ?_ | exact True.intro | exact hK | (show (((lv ++ [anyE e ((v :: A.reverse).take i)]).length : Nat) : Int) ≤ 17592186044416; omega)
        · have q1 : setAll c C.length ((v :: A.reverse).take i) = setAll c C.length (v :: A.reverse) := by rw [et]
          have q2 : csI C ++ [natI (v :: A.reverse)] = csI (C ++ [v :: A.reverse]) := cs_snoc C _
          have q3 : lv ++ [anyE e ((v :: A.reverse).take i)] = lv ++ [anyE e (v :: A.reverse)] := by rw [et]
          refine And.intro ?_ trivial
          repeat' first | refine And.intro ?_ ?_ | exact True.intro | exact congrArg (RO.ints .i64) q1 | exact congrArg (RO.rows .i64) q2 | exact congrArg RO.bools q3 | exact congrArg (RO.ints .i64) htk | omega | exact rfl
end Go.Proofs.Ytpanlghofeebhaa
end
section
/- The search through the network from one pair: contract. -/
namespace Go.Proofs.Ytpanlghofeebhaa
open Go Go.AM
set_option maxRecDepth 100000
set_option maxHeartbeats 4000000 in
theorem nvis_fn (t : List (List Int)) (g o0 l0 c0 : List Int) (e0 : List Bool) (C0 : List (List Nat)) (lv0 : List Bool) (m0 v : Nat) (hs : Sh t) (ht : t.length ≤ 60) (hg : ∀ x ∈ g, 0 ≤ x ∧ x < (t.length : Int)) (hgl : g.length ≤ t.length) (h0 : Vs t g o0 l0 c0 e0 [] [] C0 lv0 m0) (hv : Gp t.length v) (hov : gIx o0 v = 0) :
    NF 91 [.ptr 1000 0, .int .i64 v] (wkS t g o0 l0 c0 e0 [] [] C0 lv0 m0) (fun _ : List Int × List Int × List Int × List Bool × List (List Nat) × List Bool × Nat => .tup []) (un7 fun o l c e C lv m => wkS t g o l c e [] [] C lv m) (un7 fun o l c e C lv m => VOk t g o0 v o l c e C lv m) := mkN Try.func91 (by decide +kernel) rfl (Nat.le_of_ble_eq_true rfl) fun _ => by
  have hnn : t.length * t.length ≤ 3600 := Nat.mul_le_mul ht ht
  have hol := h0.ol
  have hll := h0.ll
  have hb0 := h0.bnd
  have hvl := hv.1
  have h1 := h0.enter hv hov (.inl ⟨rfl, rfl⟩)
  refine Or.inr (Or.inl (cm [] [(1000, 1000), (1002, 1002), (1003, 1003), (503, 503), (504, 504), (1005, 1005), (1001, 1001), (1006, 1006), (1007, 1007), (505, 505), (506, 506)] (nent_fn t g o0 l0 c0 e0 [] [] C0 lv0 m0 v (by omega) (by omega) (by omega) (Nat.zero_le _) (Nat.zero_le _) (by omega)) ?_))
  refine And.intro (by repeat' first | refine And.intro ?_ ?_ | exact True.intro | (show (_ : Int) = (_ : Int); omega) | omega | exact rfl | (simp only [RO.len]; omega)) ?_
  refine Exists.intro [] <| lp9 (fun (_ _ _ : List Int) (_ : List Bool) (_ : List (Nat × Nat)) (_ : List Nat) (_ : List (List Nat)) (_ : List Bool) (_ : Nat) => []) (fun o l c e P K C lv m => wkS t g o l c e P K C lv m) (fun o l c e P K C lv m => Vs t g o l c e P K C lv m ∧ (∀ u, gIx o0 u ≠ 0 → gIx o u ≠ 0) ∧ gIx o v ≠ 0) (fun _ _ _ _ P _ _ _ m => muN (t.length * t.length) (2 * g.length) P m) _ _ c0 e0 [(v, 0)] [v] C0 lv0 (m0 + 1) ⟨h1, fun u hu => ?_, ?_⟩ (by repeat' first | refine And.intro ?_ ?_ | exact True.intro | (show (_ : Int) = (_ : Int); omega) | omega | exact rfl | (simp only [RO.len]; omega)) ?_
  · rw [gIx_set (by omega)]
    by_cases e1 : u = v
    · subst e1; rw [upd_eq]; omega
    · rw [upd_ne e1]; exact hu
  · rw [gIx_set (by omega), upd_eq]; omega
  intro o l c e P K C lv m hi
  have hVs := hi.1
  have hmono := hi.2.1
  have hvis := hi.2.2
  have hb := hVs.bnd
  have hol1 := hVs.ol
  have hll1 := hVs.ll
  have hcl1 := hVs.cl
  have hel1 := hVs.el
  refine And.intro (fun h1 => ?_) (fun h1 => ?_)
  · have h1 : (0 : Int) < ((pthI P).length : Int) := h1
    rw [pth_len] at h1
    have hP : ∃ p k r, P = (p, k) :: r := by
      cases P with
      | nil => simp at h1
      | cons q r => exact ⟨q.1, q.2, r, rfl⟩
    refine Exists.elim hP fun p hP => Exists.elim hP fun k hP => Exists.elim hP fun r hP => ?_
    have hVp : Vs t g o l c e ((p, k) :: r) K C lv m := hP ▸ hVs
    have hpl := hVp.gp
    have hkd := (hVp.tj.pst _ (List.mem_cons_self ..)).2
    have hkd : k ≤ 2 * g.length := hkd
    have hlen : (pthI P).length = r.length + 1 := by rw [hP, pth_len]; rfl
    have hlen2 : r.length + 1 = P.length := by rw [hP]; rfl
    have htop : (pthI P).getD r.length (0, 0) = ((p : Int), (k : Int)) := by rw [hP]; exact pth_last (p, k) r
    have etn : (((pthI P).length : Int) - 1).toNat = r.length := by omega
    refine Or.inl ?_
    refine Exists.intro [false, false, false, false, false, false, false, false, false, false, false, false] (And.intro (by decide +kernel) ?_)
    refine And.intro (show -9223372036854775808 ≤ ((pthI P).length : Int) - 1 ∧ ((pthI P).length : Int) - 1 ≤ 9223372036854775807 by omega) ?_
    refine And.intro (by omega) ?_
    have ek : pairJ 1 ((pthI P).getD r.length (0, 0)) = (k : Int) := by rw [htop]; rfl
    have ep : pairJ 0 ((pthI P).getD r.length (0, 0)) = (p : Int) := by rw [htop]; rfl
    have hnl : r.length < (pthI P).length := by omega
    have ek0 : pairJ 1 ((pthI P).getD (((pthI P).length : Int) - 1).toNat (0, 0)) = (k : Int) := by rw [etn]; exact ek
    have ep0 : pairJ 0 ((pthI P).getD (((pthI P).length : Int) - 1).toNat (0, 0)) = (p : Int) := by rw [etn]; exact ep
    refine Or.inl ?_
    refine Exists.intro [false, false, false, false, false, false, false, false, false, false, false, false, false, false] (And.intro (by decide +kernel) ?_)
    refine And.intro (by omega) ?_
    refine And.intro (fun h2 => ?_) (fun h2 => ?_)
    · have h2 : pairJ 1 ((pthI P).getD (((pthI P).length : Int) - 1).toNat (0, 0)) < 2 * (g.length : Int) := h2
      have hk : k < 2 * g.length := by omega
      refine Or.inr (Exists.intro (.fst 0 (.fst 1 (.fst 2 (.fst 4 (.fst 5 (.fst 6 (.fst 7 (.br 3 (.br 8 (.br 9 (.fst 10 .done) .no) .no) (.br 8 (.br 3 (.br 9 (.fst 10 .done) .no) .no) .no))))))))) (And.intro (by decide +kernel) ?_))
      apply schShr
      · intro K1 hK
        refine And.intro (And.intro (And.intro ?_ trivial) trivial) (And.intro (And.intro (And.intro ?_ trivial) trivial) trivial)
        all_goals
          refine Or.inr (Or.inl (cm [] [(1001, 1001), (1006, 1006), (1007, 1007), (505, 505), (506, 506)] (ntg_fn t g c C lv hs hg p k hpl.1 hk) ?_))
          refine And.intro (by repeat' first | refine And.intro ?_ ?_ | exact True.intro | exact ek0 | exact ep0 | (show (_ : Int) = (_ : Int); omega) | omega | exact rfl) ?_
          exact hK
      · have eset : (pthI P).set (((pthI P).length : Int) - 1).toNat (pairS 1 ((pthI P).getD (((pthI P).length : Int) - 1).toNat (0, 0)) (pairJ 1 ((pthI P).getD (((pthI P).length : Int) - 1).toNat (0, 0)) + 1)) = pthI ((p, k + 1) :: r) := by
          rw [ek0, etn, htop, hP]
          exact pth_set (p, k) (p, k + 1) r
        have epn : (pairJ 0 ((pthI P).getD (((pthI P).length : Int) - 1).toNat (0, 0))).toNat = p := by rw [ep0]; rfl
        have hme : muN (t.length * t.length) (2 * g.length) ((p, k + 1) :: r) m < muN (t.length * t.length) (2 * g.length) P m := by rw [hP]; exact muN_edge hk
        refine And.intro (by omega) ?_
        refine And.intro (by omega) ?_
        refine And.intro (fun h3 => ?_) (fun h3 => ?_)
        · have h3 : tgN t g p k < 0 := h3
          exact nx (o, l, c, e, (p, k + 1) :: r, K, C, lv, m) ⟨hVp.none hk h3, hmono, hvis⟩ hme (by repeat' first | refine And.intro ?_ ?_ | exact True.intro | exact congrArg RO.pairs eset | (show (_ : Int) = (_ : Int); omega) | omega | exact rfl)
        · have h3 : 0 ≤ tgN t g p k := h3
          refine Exists.elim (Int.eq_ofNat_of_zero_le h3) fun w hw => ?_
          have hgw := tg_gp hs hg hpl.1 hk hw
          have hwl := hgw.1
          have ewn : (tgN t g p k).toNat = w := by omega
          refine And.intro (show 0 ≤ tgN t g p k ∧ tgN t g p k < (o.length : Int) by omega) ?_
          refine And.intro (fun h4 => ?_) (fun h4 => ?_)
          · have h4 : o.getD (tgN t g p k).toNat 0 = 0 := h4
            rw [ewn] at h4
            have hVe := hVp.enter hgw h4 (.inr ⟨p, k, r, rfl, hk, hw, rfl⟩)
            have hmb := hb.2.1 w hgw h4
            refine Or.inr (Or.inl (cm [] [(1000, 1000), (1002, 1002), (1003, 1003), (503, 503), (504, 504), (1005, 1005), (1001, 1001), (1006, 1006), (1007, 1007), (505, 505), (506, 506)] (nent_fn t g o l c e ((p, k + 1) :: r) K C lv m w (by omega) (by omega) (by omega) (by simp only [List.length_cons]; omega) (by omega) (by omega)) ?_))
            refine And.intro (by repeat' first | refine And.intro ?_ ?_ | exact True.intro | exact hw | exact congrArg RO.pairs eset | (show (_ : Int) = (_ : Int); omega) | omega | exact rfl) ?_
            refine nx (o.set w ((m + 1 : Nat) : Int), l.set w ((m + 1 : Nat) : Int), c, e, (w, 0) :: (p, k + 1) :: r, w :: K, C, lv, m + 1) ⟨hVe, fun u hu => ?_, ?_⟩ (by show muN (t.length * t.length) (2 * g.length) ((w, 0) :: (p, k + 1) :: r) (m + 1) < muN (t.length * t.length) (2 * g.length) P m; rw [hP]; exact muN_enter hmb hk) (by repeat' first | refine And.intro ?_ ?_ | exact True.intro | (show (_ : Int) = (_ : Int); omega) | omega | exact rfl | (simp only [RO.len]; omega))
            · show gIx (o.set w _) u ≠ 0
              rw [gIx_set (by omega)]
              by_cases e1 : u = w
              · subst e1; rw [upd_eq]; omega
              · rw [upd_ne e1]; exact hmono u hu
            · show gIx (o.set w _) v ≠ 0
              rw [gIx_set (by omega)]
              by_cases e1 : v = w
              · subst e1; rw [upd_eq]; omega
              · rw [upd_ne e1]; exact hvis
          · have h4 : o.getD (tgN t g p k).toNat 0 ≠ 0 := h4
            rw [ewn] at h4
            refine And.intro (show 0 ≤ tgN t g p k ∧ tgN t g p k < (c.length : Int) by omega) ?_
            refine And.intro (fun h5 => ?_) (fun h5 => ?_)
            · have h5 : c.getD (tgN t g p k).toNat 0 < 0 := h5
              rw [ewn, gC_in (by omega)] at h5
              have hVb := hVp.back hk hw h4 h5
              have eb : l.set (pairJ 0 ((pthI P).getD (((pthI P).length : Int) - 1).toNat (0, 0))).toNat (min (l.getD (pairJ 0 ((pthI P).getD (((pthI P).length : Int) - 1).toNat (0, 0))).toNat 0) (o.getD (tgN t g p k).toNat 0)) = l.set p (min (l.getD p 0) (o.getD w 0)) := by rw [epn, ewn]
              refine Or.inl ?_
              refine Exists.intro [false, false, false, false, false, false, false, false, false, false, false, false, false, false, false, false, false, false, false, false, false, true] (And.intro (by decide +kernel) ?_)
              refine And.intro (by omega) ?_
              refine And.intro (show 0 ≤ tgN t g p k ∧ tgN t g p k < (o.length : Int) by omega) ?_
              refine And.intro (by omega) ?_
              refine And.intro (by omega) ?_
              exact nx (o, l.set p (min (l.getD p 0) (o.getD w 0)), c, e, (p, k + 1) :: r, K, C, lv, m) ⟨hVb, hmono, hvis⟩ hme (by repeat' first | refine And.intro ?_ ?_ | exact True.intro | exact congrArg RO.pairs eset | exact congrArg (RO.ints .i64) eb | (show (_ : Int) = (_ : Int); omega) | omega | exact rfl)
            · have h5 : 0 ≤ c.getD (tgN t g p k).toNat 0 := h5
              rw [ewn, gC_in (by omega)] at h5
              have hVa := hVp.away hk hw h5
              have ea : e.set (pairJ 0 ((pthI P).getD (((pthI P).length : Int) - 1).toNat (0, 0))).toNat true = e.set p true := by rw [epn]
              refine And.intro (by omega) ?_
              refine And.intro (by omega) ?_
              exact nx (o, l, c, e.set p true, (p, k + 1) :: r, K, C, lv, m) ⟨hVa, hmono, hvis⟩ hme (by repeat' first | refine And.intro ?_ ?_ | exact True.intro | exact congrArg RO.pairs eset | exact congrArg RO.bools ea | (show (_ : Int) = (_ : Int); omega) | omega | exact rfl)
    · have h2 : 2 * (g.length : Int) ≤ pairJ 1 ((pthI P).getD (((pthI P).length : Int) - 1).toNat (0, 0)) := h2
      have hk : 2 * g.length ≤ k := by omega
      refine Or.inl ?_
      refine Exists.intro [false, false, false, false, false, false, false, false, false, false, false, true, false, false, true] (And.intro (by decide +kernel) ?_)
      have epn : (pairJ 0 ((pthI P).getD (((pthI P).length : Int) - 1).toNat (0, 0))).toNat = p := by rw [ep0]; rfl
      have epop : (List.drop 0 (List.take (((pthI P).length : Int) - 1).toNat (pthI P))) = pthI r := by rw [etn, hP]; exact pth_pop (p, k) r
      have hml : muN (t.length * t.length) (2 * g.length) r m < muN (t.length * t.length) (2 * g.length) P m := by rw [hP]; exact muN_pop (by omega)
      refine And.intro (by omega) ?_
      refine And.intro (by omega) ?_
      refine Or.inr ?_
      refine Or.inl ?_
      refine Exists.intro [false, false, false, false, false, false, false, false, false, false, false, false, false, false, false] (And.intro (by decide +kernel) ?_)
      refine And.intro (by omega) ?_
      refine And.intro (by omega) ?_
      refine And.intro (fun h3 => ?_) (fun h3 => ?_)
      · have h3 : l.getD (pairJ 0 ((pthI P).getD (((pthI P).length : Int) - 1).toNat (0, 0))).toNat 0 = o.getD (pairJ 0 ((pthI P).getD (((pthI P).length : Int) - 1).toNat (0, 0))).toNat 0 := h3
        rw [epn] at h3
        refine Exists.elim hVp.split fun A hA => Exists.elim hA fun B hAB => ?_
        have eK := hAB.1
        have hVk : Vs t g o l c e ((p, k) :: r) (A ++ p :: B) C lv m := eK ▸ hVp
        have hVc := hVk.close hk h3 hAB.2.2.2.1 (by rw [← eK]; exact hAB.2.2.2.2.1) hAB.2.2.2.2.2 hAB.2.2.1
        have hKl : K.length = A.length + B.length + 1 := by rw [eK, List.length_append, List.length_cons]; omega
        have ecl : (setAll c C.length (p :: A.reverse)).length = t.length * t.length := hVc.cl
        have hcp : (setAll c C.length (p :: A.reverse)).getD p 0 = (C.length : Int) := by
          rw [gC_in (by omega), setAll_get fun u hu => (hAB.2.2.1 u hu).1, if_pos (List.mem_cons_self ..)]
        refine Or.inr (Or.inl (cm [] [(1000, 1000), (1002, 1002), (1003, 1003), (503, 503), (504, 504), (1005, 1005), (1001, 1001), (1006, 1006), (1007, 1007), (505, 505), (506, 506)] (nclose_fn t g o l c e r A p B C lv m hAB.2.1 hAB.2.2.1 (by omega) (by omega) hb.2.2.2.2.2) ?_))
        refine And.intro (by repeat' first | refine And.intro ?_ ?_ | exact True.intro | exact ep0 | exact congrArg RO.pairs epop | exact congrArg (fun z => RO.ints .i64 (stkI z)) eK | (show (_ : Int) = (_ : Int); omega) | omega | exact rfl) ?_
        refine And.intro (fun h4 => ?_) (fun h4 => ?_)
        · have h4 : (0 : Int) < ((pthI r).length : Int) := h4
          rw [pth_len] at h4
          have hR : ∃ p2 j r2, r = (p2, j) :: r2 := by
            cases r with
            | nil => simp at h4
            | cons q r => exact ⟨q.1, q.2, r, rfl⟩
          refine Exists.elim hR fun p2 hR => Exists.elim hR fun j hR => Exists.elim hR fun r2 hR => ?_
          have hlr : (pthI r).length = r2.length + 1 := by rw [hR, pth_len]; rfl
          have hlr2 : r2.length + 1 = r.length := by rw [hR]; rfl
          have epar : pairJ 0 ((pthI r).getD (((pthI r).length : Int) - 1).toNat (0, 0)) = (p2 : Int) := by
            rw [show (((pthI r).length : Int) - 1).toNat = r2.length by omega, hR, pth_last (p2, j) r2]; rfl
          have hp2 : p2 < t.length * t.length := by
            have := hVp.tj.od _ (hVp.tj.pst (p2, j) (by rw [hR]; exact List.mem_cons_of_mem _ (List.mem_cons_self ..))).1.1
            exact this.1
          have eex : e.set (pairJ 0 ((pthI r).getD (((pthI r).length : Int) - 1).toNat (0, 0))).toNat true = exL e r := by rw [epar, hR]; rfl
          refine Or.inl ?_
          refine Exists.intro [false, false, false, false, false, false, false, false, false, false, false, false, false, false] (And.intro (by decide +kernel) ?_)
          refine And.intro (by omega) ?_
          refine And.intro (by omega) ?_
          refine And.intro (show 0 ≤ pairJ 0 ((pthI P).getD (((pthI P).length : Int) - 1).toNat (0, 0)) ∧ pairJ 0 ((pthI P).getD (((pthI P).length : Int) - 1).toNat (0, 0)) < ((setAll c C.length (p :: A.reverse)).length : Int) by omega) ?_
          refine And.intro (fun h5 => ?_) (fun h5 => ?_)
          · have h5 : (setAll c C.length (p :: A.reverse)).getD (pairJ 0 ((pthI P).getD (((pthI P).length : Int) - 1).toNat (0, 0))).toNat 0 < 0 := h5
            rw [epn, hcp] at h5; exact absurd h5 (by omega)
          · refine And.intro (show 0 ≤ pairJ 0 ((pthI r).getD (((pthI r).length : Int) - 1).toNat (0, 0)) ∧ pairJ 0 ((pthI r).getD (((pthI r).length : Int) - 1).toNat (0, 0)) < (e.length : Int) by omega) ?_
            refine And.intro (show ((0 : Nat) : Int) ≤ pairJ 0 ((pthI r).getD (((pthI r).length : Int) - 1).toNat (0, 0)) by omega) ?_
            exact nx (o, l, setAll c C.length (p :: A.reverse), exL e r, r, B, C ++ [p :: A.reverse], lv ++ [anyE e (p :: A.reverse)], m) ⟨hVc, hmono, hvis⟩ hml (by repeat' first | refine And.intro ?_ ?_ | exact True.intro | exact congrArg RO.bools eex | (show (_ : Int) = (_ : Int); omega) | omega | exact rfl)
        · have h4 : ((pthI r).length : Int) ≤ 0 := h4
          rw [pth_len] at h4
          have eex : e = exL e r := by
            cases r with
            | nil => rfl
            | cons q r => simp at h4; omega
          exact nx (o, l, setAll c C.length (p :: A.reverse), exL e r, r, B, C ++ [p :: A.reverse], lv ++ [anyE e (p :: A.reverse)], m) ⟨hVc, hmono, hvis⟩ hml (by repeat' first | refine And.intro ?_ ?_ | exact True.intro | exact congrArg RO.bools eex | (show (_ : Int) = (_ : Int); omega) | omega | exact rfl)
      · have h3 : l.getD (pairJ 0 ((pthI P).getD (((pthI P).length : Int) - 1).toNat (0, 0))).toNat 0 ≠ o.getD (pairJ 0 ((pthI P).getD (((pthI P).length : Int) - 1).toNat (0, 0))).toNat 0 := h3
        rw [epn] at h3
        refine Exists.elim (hVp.fall hk h3) fun p2 hf => Exists.elim hf fun j hf => Exists.elim hf fun r2 hf => ?_
        have hR := hf.1
        have hp2 := hf.2.2.1
        have hVf := hf.2.2.2
        have hlr : (List.drop 0 (List.take (((pthI P).length : Int) - 1).toNat (pthI P))).length = r2.length + 1 := by rw [epop, hR, pth_len]; rfl
        have hlr2 : r2.length + 1 = r.length := by rw [hR]; rfl
        have epar : pairJ 0 ((List.drop 0 (List.take (((pthI P).length : Int) - 1).toNat (pthI P))).getD (((List.drop 0 (List.take (((pthI P).length : Int) - 1).toNat (pthI P))).length : Int) - 1).toNat (0, 0)) = (p2 : Int) := by
          rw [show (((List.drop 0 (List.take (((pthI P).length : Int) - 1).toNat (pthI P))).length : Int) - 1).toNat = r2.length by omega, epop, hR, pth_last (p2, j) r2]; rfl
        have epan : (pairJ 0 ((List.drop 0 (List.take (((pthI P).length : Int) - 1).toNat (pthI P))).getD (((List.drop 0 (List.take (((pthI P).length : Int) - 1).toNat (pthI P))).length : Int) - 1).toNat (0, 0))).toNat = p2 := by rw [epar]; rfl
        have hcp : c.getD p 0 < 0 := by rw [gC_in (by omega)]; exact (hVp.tj.pst _ (List.mem_cons_self ..)).1.2
        have elo : l.set (pairJ 0 ((List.drop 0 (List.take (((pthI P).length : Int) - 1).toNat (pthI P))).getD (((List.drop 0 (List.take (((pthI P).length : Int) - 1).toNat (pthI P))).length : Int) - 1).toNat (0, 0))).toNat (min (l.getD (pairJ 0 ((List.drop 0 (List.take (((pthI P).length : Int) - 1).toNat (pthI P))).getD (((List.drop 0 (List.take (((pthI P).length : Int) - 1).toNat (pthI P))).length : Int) - 1).toNat (0, 0))).toNat 0) (l.getD (pairJ 0 ((pthI P).getD (((pthI P).length : Int) - 1).toNat (0, 0))).toNat 0)) = l.set p2 (min (l.getD p2 0) (l.getD p 0)) := by rw [epan, epn]
        refine And.intro (fun h4 => ?_) (fun h4 => ?_)
        · refine Or.inl ?_
          refine Exists.intro [false, false, false, false, false, false, false, false, false, false, false, false, false, false] (And.intro (by decide +kernel) ?_)
          refine And.intro (show -9223372036854775808 ≤ ((List.drop 0 (List.take (((pthI P).length : Int) - 1).toNat (pthI P))).length : Int) - 1 ∧ ((List.drop 0 (List.take (((pthI P).length : Int) - 1).toNat (pthI P))).length : Int) - 1 ≤ 9223372036854775807 by omega) ?_
          refine And.intro (show 0 ≤ ((List.drop 0 (List.take (((pthI P).length : Int) - 1).toNat (pthI P))).length : Int) - 1 ∧ ((List.drop 0 (List.take (((pthI P).length : Int) - 1).toNat (pthI P))).length : Int) - 1 < ((List.drop 0 (List.take (((pthI P).length : Int) - 1).toNat (pthI P))).length : Int) by omega) ?_
          refine And.intro (by omega) ?_
          refine And.intro (fun h5 => ?_) (fun h5 => ?_)
          · refine Or.inl ?_
            refine Exists.intro [false, false, false, false, false, false, false, false, false, false, false, false, false, false, false, false, false, false, false, false, false, true] (And.intro (by decide +kernel) ?_)
            refine And.intro (by omega) ?_
            refine And.intro (by omega) ?_
            refine And.intro (by omega) ?_
            refine And.intro (by omega) ?_
            exact nx (o, l.set p2 (min (l.getD p2 0) (l.getD p 0)), c, e, r, K, C, lv, m) ⟨hVf, hmono, hvis⟩ hml (by repeat' first | refine And.intro ?_ ?_ | exact True.intro | exact congrArg RO.pairs epop | exact congrArg (RO.ints .i64) elo | (show (_ : Int) = (_ : Int); omega) | omega | exact rfl)
          · have h5 : 0 ≤ c.getD (pairJ 0 ((pthI P).getD (((pthI P).length : Int) - 1).toNat (0, 0))).toNat 0 := h5
            rw [epn] at h5; exact absurd h5 (by omega)
        · have h4 : ((List.drop 0 (List.take (((pthI P).length : Int) - 1).toNat (pthI P))).length : Int) ≤ 0 := h4
          exact absurd h4 (by omega)
  · have h1 : ((pthI P).length : Int) ≤ 0 := h1
    rw [pth_len] at h1
    have hP : P = [] := List.eq_nil_of_length_eq_zero (by omega)
    have hK : K = [] := (Tj.fin0 (hP ▸ hVs.tj)).1
    have hVn : Vs t g o l c e [] [] C lv m := by rw [← hP]; exact (hK ▸ hVs : Vs t g o l c e P [] C lv m)
    have eP : pthI P = pthI [] := by rw [hP]
    have eK : stkI K = stkI [] := by rw [hK]
    refine Exists.intro (o, l, c, e, C, lv, m) (And.intro ⟨hVn, hmono, hvis⟩ ?_)
    refine And.intro ?_ trivial
    repeat' first | refine And.intro ?_ ?_ | exact True.intro | exact congrArg RO.pairs eP | exact congrArg (RO.ints .i64) eK | (show (_ : Int) = (_ : Int); omega) | omega | exact rfl
end Go.Proofs.Ytpanlghofeebhaa
end
section
/- The whole network of a table: contract. -/
namespace Go.Proofs.Ytpanlghofeebhaa
open Go Go.AM
set_option maxRecDepth 100000
theorem schShrX2 {TY : List TyE} {F : Go.AM.Spec} {ops : List Oper} {t : Sch} {X : Type} {ok : X → Prop} {T0 : List AV} {S0 : Store} {T T' : X → List AV} {S S' : X → Store} {Q : List AV → Store → Prop} (h : ∀ K : List AV → Store → Prop, (∀ z, ok z → K (T z) (S z)) → (∀ z, ok z → K (T' z) (S' z)) → schK TY F ops t T0 S0 K) (hq : ∀ z, ok z → Q (T z) (S z)) (hq' : ∀ z, ok z → Q (T' z) (S' z)) : schK TY F ops t T0 S0 Q := h Q hq hq'
abbrev nwF (k : Nat) (t : List (List Int)) (g c : List Int) (C : List (List Nat)) (lv : List Bool) : Store := [(k, .box [.ro (.rows .i64 t), .ro (.ints .i64 g), .ro (.ints .i64 c), .ro (.rows .i64 (csI C)), .ro (.bools lv)])]
set_option maxHeartbeats 4000000 in
theorem nnew_fn (t : List (List Int)) (hs : Sh t) (ht : t.length ≤ 60) : NF 47 [.ro (.rows .i64 t)] [] (fun _ : List Int × List Int × List (List Nat) × List Bool => .ptr 19 0) (un4 fun g c C lv => nwF 19 t g c C lv) (un4 fun g c C lv => NetOk t g c C lv) := mkN Try.func47 (by decide +kernel) rfl (Nat.le_of_ble_eq_true rfl) fun _ => by
  have hnn : t.length * t.length ≤ 3600 := Nat.mul_le_mul ht ht
  have hmul : (t.length : Int) * (t.length : Int) = ((t.length * t.length : Nat) : Int) := by rw [Int.natCast_mul]
  refine Or.inr (Exists.intro (.fst 0 (.fst 1 (.fst 3 (.fst 4 (.br 2 (.br 5 (.br 6 (.br 7 (.br 8 (.fst 9 .done) .no) .no) .no) .no) (.br 5 (.br 2 (.br 6 (.br 7 (.br 8 (.fst 9 .done) .no) .no) .no) (.br 6 (.br 2 (.br 7 (.br 8 (.fst 9 .done) .no) .no) .no) .no)) .no)))))) (And.intro (by decide +kernel) ?_))
  have hm1 : -9223372036854775808 ≤ (t.length : Int) * (t.length : Int) ∧ (t.length : Int) * (t.length : Int) ≤ 9223372036854775807 := by omega
  have hm2 : 0 ≤ (t.length : Int) * (t.length : Int) ∧ (t.length : Int) * (t.length : Int) ≤ (t.length : Int) * (t.length : Int) := by omega
  have hm3 : (t.length : Int) * (t.length : Int) ≤ 17592186044416 := by omega
  apply schShrX2 (X := List Int) (ok := fun l => Spans t l ∧ l.length ≤ t.length)
  · intro K1 hK hK'
    refine And.intro ?_ (And.intro ?_ trivial)
    · refine Or.inr (Or.inr (ce (cgens_fn t hs) (And.intro rfl trivial) ?_))
      intro g hg
      refine And.intro (And.intro hm1 ?_) trivial
      refine And.intro (And.intro hm2 (And.intro hm3 ?_)) trivial
      refine And.intro (And.intro ?_ trivial) trivial
      exact hK g hg
    · refine And.intro hm1 (And.intro ?_ (And.intro ?_ trivial))
      · refine Or.inr (Or.inr (ce (cgens_fn t hs) (And.intro rfl trivial) ?_))
        intro g hg
        refine And.intro (And.intro hm2 (And.intro hm3 ?_)) trivial
        refine And.intro (And.intro ?_ trivial) trivial
        exact hK g hg
      · refine And.intro hm2 (And.intro hm3 ?_)
        refine And.intro ?_ trivial
        refine Or.inr (Or.inr (ce (cgens_fn t hs) (And.intro rfl trivial) ?_))
        intro g hg
        refine And.intro (And.intro ?_ trivial) trivial
        exact hK' g hg
  all_goals
    intro g hg
    have hgr := hg.1.el
    refine Exists.intro [] <| lp2 (fun (k : Nat) (_ : List Int) => [(25, .int .i64 k)]) (fun _ q => [(17, .vec 0 (.ints .i64 q) [])]) (fun k q => k ≤ t.length * t.length ∧ q.length = t.length * t.length ∧ ∀ j, j < k → q.getD j 0 = -1) (fun k _ => t.length * t.length - k) 0 (List.replicate ((t.length : Int) * (t.length : Int)).toNat 0) ⟨Nat.zero_le _, by rw [List.length_replicate]; omega, fun j h => absurd h (Nat.not_lt_zero _)⟩ (by repeat' first | refine And.intro ?_ ?_ | exact True.intro | (show (_ : Int) = (_ : Int); omega) | omega | exact rfl | (simp only [RO.len]; omega)) ?_
    rintro k q ⟨hk, hql, hqj⟩
    refine And.intro (fun h1 => ?_) (fun h1 => ?_)
    · have h1 : (k : Int) < ((List.replicate ((t.length : Int) * (t.length : Int)).toNat (0 : Int)).length : Int) := h1
      rw [List.length_replicate] at h1
      refine And.intro (by omega) ?_
      refine And.intro (by omega) ?_
      refine And.intro (by omega) ?_
      refine nx (k + 1, q.set k (-1)) ⟨by omega, by rw [List.length_set]; exact hql, fun j hj => ?_⟩ (show t.length * t.length - (k + 1) < t.length * t.length - k by omega) (by repeat' first | refine And.intro ?_ ?_ | exact True.intro | (show (_ : Int) = (_ : Int); omega) | omega | exact rfl | (simp only [RO.len]; omega))
      by_cases e1 : j = k
      · subst e1; exact getD_set_eq (by omega)
      · rw [getD_set_ne (Ne.symm e1)]; exact hqj j (by omega)
    · have h1 : ((List.replicate ((t.length : Int) * (t.length : Int)).toNat (0 : Int)).length : Int) ≤ (k : Int) := h1
      rw [List.length_replicate] at h1
      have hc0 : gC q = fun _ => -1 := funext fun v => by
        by_cases hv : v < q.length
        · rw [← gC_in hv]; exact hqj v (by omega)
        · unfold gC; rw [List.getD, List.getElem?_eq_none (by omega)]; rfl
      have zr : ∀ (n v : Nat), (List.replicate n (0 : Int)).getD v 0 = 0 := fun n v => by simp only [List.getD, List.getElem?_replicate]; split <;> rfl
      have zb : ∀ (n v : Nat), (List.replicate n false).getD v false = false := fun n v => by simp only [List.getD, List.getElem?_replicate]; split <;> rfl
      have hV0 : Vs t g (List.replicate ((t.length : Int) * (t.length : Int)).toNat 0) (List.replicate ((t.length : Int) * (t.length : Int)).toNat 0) q (List.replicate ((t.length : Int) * (t.length : Int)).toNat false) [] [] [] [] 0 :=
        ⟨by rw [List.length_replicate]; omega, by rw [List.length_replicate]; omega, hql, by rw [List.length_replicate]; omega, by
          have e1 : gIx (List.replicate ((t.length : Int) * (t.length : Int)).toNat 0) = fun _ => 0 := funext fun v => zr _ v
          have e2 : gB (List.replicate ((t.length : Int) * (t.length : Int)).toNat false) = fun _ => false := funext fun v => zb _ v
          rw [e1, e2, hc0]
          exact Tj.start⟩
      refine Or.inl ?_
      refine Exists.intro [false, false, false, false, false, false, false, false, false, false, false, false, false, false, false, true] (And.intro (by decide +kernel) ?_)
      refine And.intro (by omega) ?_
      refine And.intro (by omega) ?_
      refine And.intro (by omega) ?_
      refine And.intro (by omega) ?_
      refine And.intro (by omega) ?_
      refine And.intro (by omega) ?_
      refine And.intro (by omega) ?_
      refine And.intro (by omega) ?_
      refine And.intro (by omega) ?_
      refine Exists.intro [] <| lp8 (fun (x : Nat) (_ _ _ : List Int) (_ : List Bool) (_ : List (List Nat)) (_ : List Bool) (_ : Nat) => [(50, .int .i64 x)]) (fun _ o l c e C lv m => [(6, .box [.ptr 19 0, .vec 39, .vec 43, .vec 501, .vec 502, .vec 47, .int .i64 m]), (39, .vec 0 (.ints .i64 o) []), (43, .vec 0 (.ints .i64 l) []), (501, .vec 0 (.pairs (pthI [])) []), (502, .vec 0 (.ints .i64 (stkI [])) []), (47, .vec 0 (.bools e) []), (19, .box [.ro (.rows .i64 t), .vec 13, .vec 17, .vec 503, .vec 504]), (13, .vec 0 (.ints .i64 g) []), (17, .vec 0 (.ints .i64 c) []), (503, .vec 0 (.rows .i64 (csI C)) []), (504, .vec 0 (.bools lv) [])]) (fun x o l c e C lv m => x ≤ t.length ∧ Vs t g o l c e [] [] C lv m ∧ ∀ a b, a < b → b < t.length → a < x → gIx o (a * t.length + b) ≠ 0) (fun x _ _ _ _ _ _ _ => t.length - x) 0 _ _ q _ [] [] 0 ⟨Nat.zero_le _, hV0, fun a b _ _ h => absurd h (Nat.not_lt_zero _)⟩ (by repeat' first | refine And.intro ?_ ?_ | exact True.intro | (show (_ : Int) = (_ : Int); omega) | omega | exact rfl | (simp only [RO.len]; omega)) ?_
      intro x o l c e C lv m hi
      have hV := hi.2.1
      refine And.intro (fun h2 => ?_) (fun h2 => ?_)
      · have h2 : (x : Int) < (t.length : Int) := h2
        refine And.intro (by omega) ?_
        refine Exists.intro [] <| lp8 (fun (y : Nat) (_ _ _ : List Int) (_ : List Bool) (_ : List (List Nat)) (_ : List Bool) (_ : Nat) => [(8, .int .i64 y)]) (fun _ o l c e C lv m => [(6, .box [.ptr 19 0, .vec 39, .vec 43, .vec 501, .vec 502, .vec 47, .int .i64 m]), (39, .vec 0 (.ints .i64 o) []), (43, .vec 0 (.ints .i64 l) []), (501, .vec 0 (.pairs (pthI [])) []), (502, .vec 0 (.ints .i64 (stkI [])) []), (47, .vec 0 (.bools e) []), (19, .box [.ro (.rows .i64 t), .vec 13, .vec 17, .vec 503, .vec 504]), (13, .vec 0 (.ints .i64 g) []), (17, .vec 0 (.ints .i64 c) []), (503, .vec 0 (.rows .i64 (csI C)) []), (504, .vec 0 (.bools lv) [])]) (fun y o l c e C lv m => x < y ∧ Vs t g o l c e [] [] C lv m ∧ ∀ a b, a < b → b < t.length → (a < x ∨ (a = x ∧ b < y)) → gIx o (a * t.length + b) ≠ 0) (fun y _ _ _ _ _ _ _ => t.length - y) (x + 1) o l c e C lv m ⟨by omega, hV, fun a b h3 h4 h5 => hi.2.2 a b h3 h4 (by omega)⟩ (by repeat' first | refine And.intro ?_ ?_ | exact True.intro | (show (_ : Int) = (_ : Int); omega) | omega | exact rfl | (simp only [RO.len]; omega)) ?_
        intro y o l c e C lv m hi
        have hV := hi.2.1
        have hol := hV.ol
        have hb := hV.bnd
        refine And.intro (fun h3 => ?_) (fun h3 => ?_)
        · have h3 : (y : Int) < (t.length : Int) := h3
          have hxy := gp_of (n := t.length) hi.1 (y := y) (by omega)
          have hvl := hxy.1.1
          have hcast : (x : Int) * (t.length : Int) + (y : Int) = ((x * t.length + y : Nat) : Int) := by rw [Int.natCast_add, Int.natCast_mul]
          have hcas2 : (x : Int) * (t.length : Int) = ((x * t.length : Nat) : Int) := by rw [Int.natCast_mul]
          have etn : ((x : Int) * (t.length : Int) + (y : Int)).toNat = x * t.length + y := by omega
          have step : ∀ {o' : List Int}, (∀ u, gIx o u ≠ 0 → gIx o' u ≠ 0) → gIx o' (x * t.length + y) ≠ 0 → ∀ a b, a < b → b < t.length → (a < x ∨ (a = x ∧ b < y + 1)) → gIx o' (a * t.length + b) ≠ 0 := fun h4 h5 a b h6 h7 h8 => by
            by_cases e1 : a = x ∧ b = y
            · rw [e1.1, e1.2]; exact h5
            · exact h4 _ (hi.2.2 a b h6 h7 (by omega))
          refine And.intro (by omega) ?_
          refine And.intro (by omega) ?_
          refine And.intro (by omega) ?_
          refine And.intro (fun h4 => ?_) (fun h4 => ?_)
          · have h4 : o.getD ((x : Int) * (t.length : Int) + (y : Int)).toNat 0 = 0 := h4
            rw [etn] at h4
            refine And.intro (by omega) ?_
            refine And.intro (by omega) ?_
            refine Or.inr (Or.inl (cn [] [(1000, 6), (1002, 39), (1003, 43), (503, 501), (504, 502), (1005, 47), (1001, 19), (1006, 13), (1007, 17), (505, 503), (506, 504)] (nvis_fn t g o l c e C lv m (x * t.length + y) hs ht hgr hg.2 hV hxy.1 h4) ?_))
            refine And.intro (by repeat' first | refine And.intro ?_ ?_ | exact True.intro | (show (_ : Int) = (_ : Int); omega) | omega | exact rfl | (simp only [RO.len]; omega)) ?_
            refine all7 fun o2 l2 c2 e2 C2 lv2 m2 hz => ?_
            refine And.intro (by omega) ?_
            exact nx (y + 1, o2, l2, c2, e2, C2, lv2, m2) ⟨by omega, hz.1, step hz.2.1 hz.2.2⟩ (show t.length - (y + 1) < t.length - y by omega) (by repeat' first | refine And.intro ?_ ?_ | exact True.intro | (show (_ : Int) = (_ : Int); omega) | omega | exact rfl | (simp only [RO.len]; omega))
          · have h4 : o.getD ((x : Int) * (t.length : Int) + (y : Int)).toNat 0 ≠ 0 := h4
            rw [etn] at h4
            refine And.intro (by omega) ?_
            exact nx (y + 1, o, l, c, e, C, lv, m) ⟨by omega, hV, step (fun _ h => h) h4⟩ (show t.length - (y + 1) < t.length - y by omega) (by repeat' first | refine And.intro ?_ ?_ | exact True.intro | (show (_ : Int) = (_ : Int); omega) | omega | exact rfl | (simp only [RO.len]; omega))
        · have h3 : (t.length : Int) ≤ (y : Int) := h3
          refine And.intro (by omega) ?_
          exact nx (x + 1, o, l, c, e, C, lv, m) ⟨by omega, hV, fun a b h4 h5 h6 => hi.2.2 a b h4 h5 (by omega)⟩ (show t.length - (x + 1) < t.length - x by omega) (by repeat' first | refine And.intro ?_ ?_ | exact True.intro | (show (_ : Int) = (_ : Int); omega) | omega | exact rfl | (simp only [RO.len]; omega))
      · have h2 : (t.length : Int) ≤ (x : Int) := h2
        refine Exists.intro (g, c, C, lv) (And.intro ⟨hg.1, hg.2, hV.cl, hV.tj.toCl, fun v hv => hV.tj.fin0.2 v ?_⟩ ?_)
        · have h3 := gp_le hv
          have h4 := hi.2.2 (v / t.length) (v % t.length) hv.2 h3.2.1 (by omega)
          rw [show v / t.length * t.length + v % t.length = v by rw [Nat.mul_comm]; exact Nat.div_add_mod v _] at h4
          have h5 := hV.tj.o0 v
          omega
        · refine And.intro ?_ ?_
          all_goals (repeat' first | refine And.intro ?_ ?_ | exact True.intro | (show (_ : Int) = (_ : Int); omega) | omega | exact rfl | (simp only [RO.len]; omega))
end Go.Proofs.Ytpanlghofeebhaa
end
section
/- The pairs of a component, joined: contracts. -/
namespace Go.Proofs.Ytpanlghofeebhaa
open Go Go.AM
set_option maxRecDepth 100000
theorem nend_fn (t : List (List Int)) (g c : List Int) (C : List (List Nat)) (lv : List Bool) (hp : 0 < t.length) (v : Nat) : MF 97 [.ptr 1001 0, .int .i64 v] (nwF 1001 t g c C lv) (.agg [.int .i64 ((v / t.length : Nat) : Int), .int .i64 ((v % t.length : Nat) : Int)]) (nwF 1001 t g c C lv) := mkM Try.func97 (by decide +kernel) rfl (Nat.le_of_ble_eq_true rfl) fun _ => by
  refine Or.inl ?_
  refine Exists.intro [false, false, false, false, false, false, false, false, false, false, false, false, false, false, false, true] (And.intro (by decide +kernel) ?_)
  refine And.intro (by omega) ?_
  refine Or.inl ?_
  refine And.intro (by omega) ?_
  repeat' first | refine And.intro ?_ ?_ | exact True.intro | (show (_ : Int) = (_ : Int); omega) | omega | exact rfl | (simp only [RO.len]; omega)
abbrev nfS (t : List (List Int)) (g c : List Int) (C : List (List Nat)) (lv : List Bool) (p : List Int) (m : Int) : Store := [(1000, .box [.vec 1002, .int .i64 m]), (1002, .vec 0 (.ints .i64 p) []), (1001, .box [.ro (.rows .i64 t), .ro (.ints .i64 g), .ro (.ints .i64 c), .ro (.rows .i64 (csI C)), .ro (.bools lv)])]
theorem nspan_fn (t : List (List Int)) (g c : List Int) (C : List (List Nat)) (lv : List Bool) (hs : Sh t) (i : Nat) (hi : i < C.length) (hm : ∀ v ∈ C.getD i [], Gp t.length v) (hcl2 : (C.getD i []).length ≤ 160000) (p : List Int) (m : Int) (hpl : p.length = t.length) : MF 94 [.ptr 1001 0, .ptr 1000 0, .int .i64 i] (nfS t g c C lv p m) (.vec 37)
    ((37, .vec 0 (.pairs (snS t.length (C.getD i [])).2) []) :: nfS t g c C lv (snP t.length (C.getD i [])) (cntR t.length (snS t.length (C.getD i [])).1)) := mkM Try.func94 (by decide +kernel) rfl (Nat.le_of_ble_eq_true rfl) fun _ => by
  have hpos := hs.pos
  have hmost := hs.most
  have hcl := cs_len C
  have hci : (csI C).getD i [] = natI (C.getD i []) := by simp [csI, List.getD, hi]
  refine Or.inr (Or.inl (cm [] [(1000, 1000), (1001, 1002)] (creset_fn t.length p m hpl (by omega)) ?_))
  refine And.intro (by repeat' first | refine And.intro ?_ ?_ | exact True.intro | (show (_ : Int) = (_ : Int); omega) | omega | exact rfl | (simp only [RO.len]; omega)) ?_
  refine And.intro (by omega) ?_
  refine Exists.intro [] <| lp (X := Nat) (fun j => [(21, .int .i64 j), (7, .vec 37)]) (fun j => [(37, .vec 0 (.pairs (snS t.length ((C.getD i []).take j)).2) []), (1000, .box [.vec 1002, .int .i64 (cntR t.length (snS t.length ((C.getD i []).take j)).1 : Nat)]), (1002, .vec 0 (.ints .i64 (snP t.length ((C.getD i []).take j))) [])]) (fun j => j ≤ (C.getD i []).length) (fun j => (C.getD i []).length - j) 0 (Nat.zero_le _) (by repeat' first | refine And.intro ?_ ?_ | exact True.intro | exact congrArg (Nat.cast (R := Int)) (cnt_id t.length).symm | (show (_ : Int) = (_ : Int); omega) | omega | exact rfl) ?_
  intro j hj
  have hgl : ((csI C).getD i []).length = (C.getD i []).length := by rw [hci, nat_len]
  refine And.intro (fun h1 => ?_) (fun h1 => ?_)
  · have h1 : (j : Int) < (((csI C).getD i []).length : Int) := h1
    have hjl : j < (C.getD i []).length := by omega
    have hv := hm _ (getD_mem (d := 0) hjl)
    obtain ⟨v1, v2, _⟩ := gp_le hv
    have hgv : ((csI C).getD i []).getD j 0 = (((C.getD i []).getD j 0 : Nat) : Int) := by rw [hci]; exact nat_get hjl
    have htk : (C.getD i []).take (j + 1) = (C.getD i []).take j ++ [(C.getD i []).getD j 0] := take_get hjl
    have hO := snO (n := t.length) ((C.getD i []).take j) fun v hv => hm v (List.mem_of_mem_take hv)
    have hcn := hO.cnt
    have e1 : snP t.length ((C.getD i []).take (j + 1)) = jnP (snS t.length ((C.getD i []).take j)).1 (snP t.length ((C.getD i []).take j)) ((C.getD i []).getD j 0 / t.length) ((C.getD i []).getD j 0 % t.length) := by rw [htk, snP_snoc]
    have e2 : (snS t.length ((C.getD i []).take (j + 1))).1 = jnR (snS t.length ((C.getD i []).take j)).1 ((C.getD i []).getD j 0 / t.length) ((C.getD i []).getD j 0 % t.length) := by rw [htk, snS_snoc]
    have e2c : ((cntR t.length (jnR (snS t.length ((C.getD i []).take j)).1 ((C.getD i []).getD j 0 / t.length) ((C.getD i []).getD j 0 % t.length)) : Nat) : Int) = ((cntR t.length (snS t.length ((C.getD i []).take (j + 1))).1 : Nat) : Int) := by rw [e2]
    have e3 : (snS t.length ((C.getD i []).take (j + 1))).2 = if (snS t.length ((C.getD i []).take j)).1 ((C.getD i []).getD j 0 / t.length) = (snS t.length ((C.getD i []).take j)).1 ((C.getD i []).getD j 0 % t.length) then (snS t.length ((C.getD i []).take j)).2 else (snS t.length ((C.getD i []).take j)).2 ++ [((((C.getD i []).getD j 0 / t.length : Nat) : Int), (((C.getD i []).getD j 0 % t.length : Nat) : Int))] := by rw [htk, snS_snoc]
    refine And.intro (by omega) ?_
    refine Or.inr (Or.inl (cm [] [(1001, 1001)] (nend_fn t g c C lv hpos ((C.getD i []).getD j 0)) ?_))
    refine And.intro (by repeat' first | refine And.intro ?_ ?_ | exact True.intro | exact hgv | (show (_ : Int) = (_ : Int); omega) | omega | exact rfl) ?_
    refine And.intro (by omega) ?_
    refine And.intro (fun _ => ?_) (And.intro (fun h9 => absurd (show (0 : Int) = 1 from h9) (by decide)) trivial)
    refine And.intro (by omega) ?_
    refine And.intro (fun h9 => absurd (show (1 : Int) = 0 from h9) (by decide)) (And.intro (fun _ => ?_) trivial)
    refine Or.inr (Or.inl (cm [] [(1000, 1000), (1001, 1002)] (cjoin_fn t.length (snP t.length ((C.getD i []).take j)) (snS t.length ((C.getD i []).take j)).1 ((C.getD i []).getD j 0 / t.length) ((C.getD i []).getD j 0 % t.length) hO.fo v1 v2 (by omega)) ?_))
    refine And.intro (by repeat' first | refine And.intro ?_ ?_ | exact True.intro | (show (_ : Int) = (_ : Int); omega) | omega | exact rfl | (simp only [RO.len]; omega)) ?_
    refine And.intro (fun h2 => ?_) (fun h2 => ?_)
    · have h2 : decide ((snS t.length ((C.getD i []).take j)).1 ((C.getD i []).getD j 0 / t.length) ≠ (snS t.length ((C.getD i []).take j)).1 ((C.getD i []).getD j 0 % t.length)) = true := h2
      rw [if_neg (of_decide_eq_true h2)] at e3
      refine And.intro (by rw [List.length_append, List.length_singleton]; omega) ?_
      refine And.intro (by omega) ?_
      exact nx (j + 1) (show j + 1 ≤ (C.getD i []).length by omega) (show (C.getD i []).length - (j + 1) < (C.getD i []).length - j by omega) (by repeat' first | refine And.intro ?_ ?_ | exact True.intro | exact congrArg RO.pairs e3.symm | exact congrArg (RO.ints .i64) e1.symm | exact e2c | (show (_ : Int) = (_ : Int); omega) | omega | exact rfl)
    · have h2 : decide ((snS t.length ((C.getD i []).take j)).1 ((C.getD i []).getD j 0 / t.length) ≠ (snS t.length ((C.getD i []).take j)).1 ((C.getD i []).getD j 0 % t.length)) = false := h2
      rw [if_pos (Classical.byContradiction fun hne => of_decide_eq_false h2 hne)] at e3
      refine And.intro (by omega) ?_
      exact nx (j + 1) (show j + 1 ≤ (C.getD i []).length by omega) (show (C.getD i []).length - (j + 1) < (C.getD i []).length - j by omega) (by repeat' first | refine And.intro ?_ ?_ | exact True.intro | exact congrArg RO.pairs e3.symm | exact congrArg (RO.ints .i64) e1.symm | exact e2c | (show (_ : Int) = (_ : Int); omega) | omega | exact rfl)
  · have h1 : (((csI C).getD i []).length : Int) ≤ (j : Int) := h1
    have et : (C.getD i []).take j = C.getD i [] := List.take_of_length_le (by omega)
    have q1 : (snS t.length ((C.getD i []).take j)).2 = (snS t.length (C.getD i [])).2 := by rw [et]
    have q2 : ((cntR t.length (snS t.length ((C.getD i []).take j)).1 : Nat) : Int) = ((cntR t.length (snS t.length (C.getD i [])).1 : Nat) : Int) := by rw [et]
    have q3 : snP t.length ((C.getD i []).take j) = snP t.length (C.getD i []) := by rw [et]
    refine And.intro ?_ ?_
    all_goals (repeat' first | refine And.intro ?_ ?_ | exact True.intro | exact congrArg RO.pairs q1 | exact congrArg (RO.ints .i64) q3 | exact q2 | (show (_ : Int) = (_ : Int); omega) | omega | exact rfl)
end Go.Proofs.Ytpanlghofeebhaa
end
section
/- Is a component's congruence minimal, and the first of its kind: contract. -/
namespace Go.Proofs.Ytpanlghofeebhaa
open Go Go.AM
set_option maxRecDepth 100000
def enL (n : Nat) (ms : List Nat) : List Int := ms.flatMap fun v => [((v / n : Nat) : Int), ((v % n : Nat) : Int)]
theorem enL_snoc (n : Nat) (ms : List Nat) (v : Nat) : enL n (ms ++ [v]) = enL n ms ++ [((v / n : Nat) : Int), ((v % n : Nat) : Int)] := by simp [enL]
def setM1 (T : List Int) : List (List Int × Int) := T.map fun x => ([x], 1)
theorem getM_set (T : List Int) (x : Int) : getM (setM1 T) [x] = if x ∈ T then some 1 else none := by
  induction T with
  | nil => rfl
  | cons a T ih =>
    show (if ([a] : List Int) = [x] then some 1 else getM (setM1 T) [x]) = _
    by_cases e : a = x
    · rw [if_pos (by rw [e]), if_pos (by rw [e]; exact List.mem_cons_self ..)]
    · rw [if_neg (fun h => e (List.cons.inj h).1), ih]
      by_cases h : x ∈ T
      · rw [if_pos h, if_pos (List.mem_cons_of_mem _ h)]
      · rw [if_neg h, if_neg fun h2 => (List.mem_cons.1 h2).elim (fun h3 => e h3.symm) h]
theorem setM_set {T : List Int} {x : Int} (h : x ∉ T) : setM (setM1 T) [x] 1 = setM1 (T ++ [x]) := by
  rw [setM_new (by rw [getM_set, if_neg h])]
  simp [setM1]
theorem fst_new {L : List Int} {x : Int} (h : x ∉ firsts L) : firsts (L ++ [x]) = firsts L ++ [x] := by rw [firsts_snoc, if_neg fun h2 => h (mem_firsts.2 h2)]
theorem fst_old {L : List Int} {x : Int} (h : x ∈ firsts L) : firsts (L ++ [x]) = firsts L := by rw [firsts_snoc, if_pos (mem_firsts.1 h)]
theorem enL_len (n : Nat) (ms : List Nat) : (enL n ms).length = 2 * ms.length := by
  unfold enL
  induction ms with
  | nil => rfl
  | cons a ms ih => rw [List.flatMap_cons, List.length_append, ih]; simp; omega
theorem en_len {n : Nat} {ms : List Nat} (h : ∀ v ∈ ms, Gp n v) : (firsts (enL n ms)).length ≤ n := by
  have := nodup_sub (firsts_nodup (enL n ms)) (B := (List.range n).map fun i : Nat => (i : Int)) fun x hx => by
    have hx := mem_firsts.1 hx
    unfold enL at hx
    obtain ⟨v, hv, hx⟩ := List.mem_flatMap.1 hx
    have h1 := gp_le (h v hv)
    rcases List.mem_cons.1 hx with rfl | hx
    · exact List.mem_map.2 ⟨_, List.mem_range.2 h1.1, rfl⟩
    · rw [List.mem_singleton] at hx; subst hx
      exact List.mem_map.2 ⟨_, List.mem_range.2 h1.2.1, rfl⟩
  simpa using this
theorem en_mem {n : Nat} {ms : List Nat} {a b : Nat} (h : Eg (relP (endsL n ms)) a b) : a = b ∨ ((a : Int) ∈ enL n ms ∧ (b : Int) ∈ enL n ms) := by
  refine h.least (Q := fun a b => a = b ∨ ((a : Int) ∈ enL n ms ∧ (b : Int) ∈ enL n ms)) (fun _ => .inl rfl) (fun _ _ h => h.imp Eq.symm fun h => ⟨h.2, h.1⟩) (fun a b c h h' => ?_) fun a b e => .inr ?_
  · rcases h with rfl | h
    · exact h'
    · rcases h' with rfl | h'
      · exact .inr h
      · exact .inr ⟨h.1, h'.2⟩
  · obtain ⟨v, hv, rfl, rfl⟩ := mem_ends.1 e
    exact ⟨List.mem_flatMap.2 ⟨v, hv, List.mem_cons_self ..⟩, List.mem_flatMap.2 ⟨v, hv, List.mem_cons_of_mem _ (List.mem_cons_self ..)⟩⟩
set_option maxHeartbeats 4000000 in
theorem nmin_fn (t : List (List Int)) (g c : List Int) (C : List (List Nat)) (lv : List Bool) (hN : NetOk t g c C lv) (hs : Sh t) (ht : t.length ≤ 60) (i : Nat) (hi : i < C.length) (hl : lv.getD i false = false) (R : List Int) (hR : R.length = C.length) (hRk : ∀ d, d < C.length → lv.getD d false = false → R.getD d 0 = (rkN t C d : Int)) :
    NF 107 [.ptr 1001 0, .ptr 1000 0, .int .i64 i, .ro (.ints .i64 R)] (nfS t g c C lv (snP t.length (C.getD i [])) (cntR t.length (snS t.length (C.getD i [])).1)) (fun _ : List Int => .bool (.v (selB t c C lv i))) (fun p => nfS t g c C lv p (cntR t.length (snS t.length (C.getD i [])).1)) (fun p => Fo t.length p (snS t.length (C.getD i [])).1) := mkN Try.func107 (by decide +kernel) rfl (Nat.le_of_ble_eq_true rfl) fun _ => by
  have hO := hN.sO hi
  have hnn : t.length * t.length ≤ 3600 := Nat.mul_le_mul ht ht
  have hml := hN.ml hi
  have hcl := cs_len C
  have hpos := hs.pos
  have hci : (csI C).getD i [] = natI (C.getD i []) := by simp [csI, List.getD, hi]
  have hgl : ((csI C).getD i []).length = (C.getD i []).length := by rw [hci, nat_len]
  refine And.intro (by omega) ?_
  refine Exists.intro [] <| lp (X := Nat) (fun j => [(35, .int .i64 j), (11, .vec 54)]) (fun j => [(26, .map (.int .i64) none (setM1 (firsts (enL t.length ((C.getD i []).take j))))), (54, .vec 0 (.ints .i64 (firsts (enL t.length ((C.getD i []).take j)))) [])]) (fun j => j ≤ (C.getD i []).length) (fun j => (C.getD i []).length - j) 0 (Nat.zero_le _) (by repeat' first | refine And.intro ?_ ?_ | exact True.intro | (show (_ : Int) = (_ : Int); omega) | omega | exact rfl | (simp only [RO.len]; omega)) ?_
  intro j hj
  refine And.intro (fun h1 => ?_) (fun h1 => ?_)
  · have h1 : (j : Int) < (((csI C).getD i []).length : Int) := h1
    have hjl : j < (C.getD i []).length := by omega
    have hv := (hN.gp hi (getD_mem (d := 0) hjl)).1
    obtain ⟨v1, v2, _⟩ := gp_le hv
    have hgv : ((csI C).getD i []).getD j 0 = (((C.getD i []).getD j 0 : Nat) : Int) := by rw [hci]; exact nat_get hjl
    have htk : (C.getD i []).take (j + 1) = (C.getD i []).take j ++ [(C.getD i []).getD j 0] := take_get hjl
    refine And.intro (by omega) ?_
    refine Or.inr (Or.inl (cm [] [(1001, 1001)] (nend_fn t g c C lv hpos ((C.getD i []).getD j 0)) ?_))
    refine And.intro (by repeat' first | refine And.intro ?_ ?_ | exact True.intro | exact hgv | (show (_ : Int) = (_ : Int); omega) | omega | exact rfl) ?_
    obtain ⟨E, hE⟩ : ∃ E, E = [((((C.getD i []).getD j 0) / t.length : Nat) : Int), ((((C.getD i []).getD j 0) % t.length : Nat) : Int)] := ⟨_, rfl⟩
    refine Exists.intro [] <| lp (X := Nat) (fun q => [(42, .int .i64 q), (11, .vec 54)]) (fun q => [(26, .map (.int .i64) none (setM1 (firsts (enL t.length ((C.getD i []).take j) ++ E.take q)))), (54, .vec 0 (.ints .i64 (firsts (enL t.length ((C.getD i []).take j) ++ E.take q))) [])]) (fun q => q ≤ 2) (fun q => 2 - q) 0 (Nat.zero_le _) (by repeat' first | refine And.intro ?_ ?_ | exact True.intro | exact congrArg (fun z => RO.ints .i64 (firsts z)) (List.append_nil _).symm | exact congrArg (fun z => setM1 (firsts z)) (List.append_nil _).symm | (show (_ : Int) = (_ : Int); omega) | omega | exact rfl) ?_
    intro q hq
    have hlq : (enL t.length ((C.getD i []).take j) ++ E.take q).length ≤ 2 * j + 2 := by
      rw [List.length_append, enL_len, List.length_take, List.length_take, hE]; simp; omega
    have hlf := firsts_le (enL t.length ((C.getD i []).take j) ++ E.take q)
    have hS : ∀ x, q < 2 → E.getD q 0 = x → enL t.length ((C.getD i []).take j) ++ E.take (q + 1) = (enL t.length ((C.getD i []).take j) ++ E.take q) ++ [x] := fun x hq2 hx => by
      rw [take_get (d := (0 : Int)) (by rw [hE]; exact hq2), hx, List.append_assoc]
    have hNew : ∀ x, q < 2 → E.getD q 0 = x → (getM (setM1 (firsts (enL t.length ((C.getD i []).take j) ++ E.take q))) [x]).getD 0 = 0 → firsts (enL t.length ((C.getD i []).take j) ++ E.take q) ++ [x] = firsts (enL t.length ((C.getD i []).take j) ++ E.take (q + 1)) ∧ setM (setM1 (firsts (enL t.length ((C.getD i []).take j) ++ E.take q))) [x] 1 = setM1 (firsts (enL t.length ((C.getD i []).take j) ++ E.take (q + 1))) := fun x hq2 hx h3 => by
      have hno : x ∉ firsts (enL t.length ((C.getD i []).take j) ++ E.take q) := fun hm => by rw [getM_set, if_pos hm] at h3; exact absurd h3 (by decide)
      have eT := fst_new hno
      rw [hS x hq2 hx, eT]
      exact ⟨rfl, setM_set hno⟩
    have hOld : ∀ x, q < 2 → E.getD q 0 = x → (getM (setM1 (firsts (enL t.length ((C.getD i []).take j) ++ E.take q))) [x]).getD 0 ≠ 0 → firsts (enL t.length ((C.getD i []).take j) ++ E.take q) = firsts (enL t.length ((C.getD i []).take j) ++ E.take (q + 1)) := fun x hq2 hx h3 => by
      have hin : x ∈ firsts (enL t.length ((C.getD i []).take j) ++ E.take q) := Classical.byContradiction fun hm => by rw [getM_set, if_neg hm] at h3; exact h3 rfl
      rw [hS x hq2 hx, fst_old hin]
    refine And.intro (fun h2 => ?_) (fun h2 => ?_)
    · have h2 : (q : Int) < 2 := h2
      refine And.intro (by omega) ?_
      refine And.intro (fun hq0 => ?_) (And.intro (fun hq1 => ?_) trivial)
      · have hq0 : (q : Int) = 0 := hq0
        have hx : E.getD q 0 = (((C.getD i []).getD j 0 / t.length : Nat) : Int) := by rw [hE, show q = 0 by omega]; rfl
        refine And.intro (fun h3 => ?_) (fun h3 => ?_)
        · have hn := hNew _ (by omega) hx h3
          refine And.intro (by rw [List.length_append, List.length_singleton]; omega) ?_
          refine And.intro (by omega) ?_
          exact nx (q + 1) (show q + 1 ≤ 2 by omega) (show 2 - (q + 1) < 2 - q by omega) (by repeat' first | refine And.intro ?_ ?_ | exact True.intro | exact congrArg (RO.ints .i64) hn.1 | exact hn.2 | (show (_ : Int) = (_ : Int); omega) | omega | exact rfl)
        · have hn := hOld _ (by omega) hx h3
          have hn2 := congrArg setM1 hn
          refine And.intro (by omega) ?_
          exact nx (q + 1) (show q + 1 ≤ 2 by omega) (show 2 - (q + 1) < 2 - q by omega) (by repeat' first | refine And.intro ?_ ?_ | exact True.intro | exact congrArg (RO.ints .i64) hn | exact hn2 | (show (_ : Int) = (_ : Int); omega) | omega | exact rfl)
      · have hq1 : (q : Int) = 1 := hq1
        have hx : E.getD q 0 = (((C.getD i []).getD j 0 % t.length : Nat) : Int) := by rw [hE, show q = 1 by omega]; rfl
        refine And.intro (fun h3 => ?_) (fun h3 => ?_)
        · have hn := hNew _ (by omega) hx h3
          refine And.intro (by rw [List.length_append, List.length_singleton]; omega) ?_
          refine And.intro (by omega) ?_
          exact nx (q + 1) (show q + 1 ≤ 2 by omega) (show 2 - (q + 1) < 2 - q by omega) (by repeat' first | refine And.intro ?_ ?_ | exact True.intro | exact congrArg (RO.ints .i64) hn.1 | exact hn.2 | (show (_ : Int) = (_ : Int); omega) | omega | exact rfl)
        · have hn := hOld _ (by omega) hx h3
          have hn2 := congrArg setM1 hn
          refine And.intro (by omega) ?_
          exact nx (q + 1) (show q + 1 ≤ 2 by omega) (show 2 - (q + 1) < 2 - q by omega) (by repeat' first | refine And.intro ?_ ?_ | exact True.intro | exact congrArg (RO.ints .i64) hn | exact hn2 | (show (_ : Int) = (_ : Int); omega) | omega | exact rfl)
    · have h2 : (2 : Int) ≤ (q : Int) := h2
      have e2 : enL t.length ((C.getD i []).take j) ++ E.take q = enL t.length ((C.getD i []).take (j + 1)) := by
        rw [htk, enL_snoc, show q = 2 by omega, hE]; rfl
      have e3 := congrArg firsts e2
      have e4 := congrArg setM1 e3
      refine And.intro (by omega) ?_
      exact nx (j + 1) (show j + 1 ≤ (C.getD i []).length by omega) (show (C.getD i []).length - (j + 1) < (C.getD i []).length - j by omega) (by repeat' first | refine And.intro ?_ ?_ | exact True.intro | exact congrArg (RO.ints .i64) e3 | exact e4 | (show (_ : Int) = (_ : Int); omega) | omega | exact rfl)
  · have h1 : (((csI C).getD i []).length : Int) ≤ (j : Int) := h1
    obtain ⟨X, hX⟩ : ∃ X, X = srtI (firsts (enL t.length ((C.getD i []).take j))) := ⟨_, rfl⟩
    have et : (C.getD i []).take j = C.getD i [] := List.take_of_length_le (by omega)
    have hT0 : 0 < (firsts (enL t.length ((C.getD i []).take j))).length := by
      rw [et]
      obtain ⟨v, hv, _⟩ := hN.some hi
      exact List.length_pos_of_mem (mem_firsts.2 (List.mem_flatMap.2 ⟨v, hv, List.mem_cons_self ..⟩))
    refine Or.inr (Or.inl (cm [] [(1000, 54)] (sortI_m (firsts (enL t.length ((C.getD i []).take j))) hT0) ?_))
    refine And.intro (by repeat' first | refine And.intro ?_ ?_ | exact True.intro | (show (_ : Int) = (_ : Int); omega) | omega | exact rfl | (simp only [RO.len]; omega)) ?_
    have hXl : X.length = (firsts (enL t.length ((C.getD i []).take j))).length := by rw [hX, srtI_len]
    have hXle : X.length ≤ t.length := by rw [hXl, et]; exact en_len fun v hv => (hN.gp hi hv).1
    have hXm : ∀ x, x ∈ X ↔ x ∈ enL t.length (C.getD i []) := fun x => by rw [hX, (srtI_perm _).mem_iff, mem_firsts, et]
    have hXn : X.Pairwise (· < ·) := by
      have h2 := srtI_sorted (firsts (enL t.length ((C.getD i []).take j)))
      have h3 : (srtI (firsts (enL t.length ((C.getD i []).take j)))).Nodup := (srtI_perm _).nodup_iff.2 (firsts_nodup _)
      rw [← hX] at h2 h3
      exact (List.pairwise_and_iff.2 ⟨h2, List.nodup_iff_pairwise_ne.1 h3⟩).imp fun h => by omega
    have hXr : ∀ a, a < X.length → 0 ≤ X.getD a 0 ∧ X.getD a 0 < (t.length : Int) := fun a ha => by
      have h2 := (hXm _).1 (getD_mem (d := 0) ha)
      obtain ⟨v, hv, h2⟩ := List.mem_flatMap.1 h2
      have h3 := gp_le (hN.gp hi hv).1
      rcases List.mem_cons.1 h2 with h2 | h2
      · rw [h2]; exact ⟨Int.natCast_nonneg _, Int.ofNat_lt.2 h3.1⟩
      · rw [List.mem_singleton] at h2; rw [h2]; exact ⟨Int.natCast_nonneg _, Int.ofNat_lt.2 h3.2.1⟩
    have hXlt : ∀ a b, a < b → b < X.length → X.getD a 0 < X.getD b 0 := fun a b hab hb => by
      have := List.pairwise_iff_getElem.1 hXn a b (by omega) hb hab
      simpa [List.getD, hb, show a < X.length by omega] using this
    have hgood : ∀ G : Nat → Nat → Prop, (∀ a b, G a b ↔ ((snS t.length (C.getD i [])).1 (X.getD a 0).toNat = (snS t.length (C.getD i [])).1 (X.getD b 0).toNat → lv.getD (gC c ((X.getD a 0).toNat * t.length + (X.getD b 0).toNat)).toNat false = true ∨ ((i : Int) ≤ gC c ((X.getD a 0).toNat * t.length + (X.getD b 0).toNat) ∧ rkN t C (gC c ((X.getD a 0).toNat * t.length + (X.getD b 0).toNat)).toNat = rkN t C i))) → ((∀ a b, a < b → b < X.length → G a b) ↔ SelP t c C lv i) := fun G hG => by
      constructor
      · intro h2
        refine ⟨hl, fun x y hxy hy e => ?_⟩
        have e := (eqP_iff (by omega) hy).1 e
        have hm := (en_mem e).resolve_left (by omega)
        obtain ⟨a, ha, hax⟩ := mem_getD 0 ((hXm _).2 hm.1)
        obtain ⟨b, hb, hby⟩ := mem_getD 0 ((hXm _).2 hm.2)
        have hab : a < b := by
          rcases Nat.lt_trichotomy a b with h3 | h3 | h3
          · exact h3
          · subst h3; omega
          · have := hXlt b a h3 ha; omega
        have h4 := (hG a b).1 (h2 a b hab hb)
        rw [hax, hby, Int.toNat_natCast, Int.toNat_natCast] at h4
        exact h4 ((hO.ker x y (by omega) hy).2 e)
      · intro h2 a b hab hb
        rw [hG]
        intro e
        have ra := hXr a (by omega)
        have rb := hXr b hb
        have hlt := hXlt a b hab hb
        exact h2.2 _ _ (by omega) (by omega) ((eqP_iff (by omega) (by omega)).2 ((hO.ker _ _ (by omega) (by omega)).1 e))
    obtain ⟨G, hG⟩ : ∃ G : Nat → Nat → Prop, ∀ a b, G a b ↔ ((snS t.length (C.getD i [])).1 (X.getD a 0).toNat = (snS t.length (C.getD i [])).1 (X.getD b 0).toNat → lv.getD (gC c ((X.getD a 0).toNat * t.length + (X.getD b 0).toNat)).toNat false = true ∨ ((i : Int) ≤ gC c ((X.getD a 0).toNat * t.length + (X.getD b 0).toNat) ∧ rkN t C (gC c ((X.getD a 0).toNat * t.length + (X.getD b 0).toNat)).toNat = rkN t C i)) := ⟨_, fun _ _ => Iff.rfl⟩
    have hsel := hgood G hG
    refine Exists.intro [10054, 54, 57, 11, 59] <| lp2 (fun (a : Nat) (_ : List Int) => [(61, .int .i64 a), (11, .ro (.ints .i64 X)), (59, .ro (.ints .i64 X))]) (fun _ p => [(1002, .vec 0 (.ints .i64 p) [])]) (fun a p => a ≤ X.length ∧ Fo t.length p (snS t.length (C.getD i [])).1 ∧ ∀ a' b, a' < a → a' < b → b < X.length → G a' b) (fun a _ => X.length - a) 0 (snP t.length (C.getD i [])) ⟨Nat.zero_le _, hO.fo, fun _ _ h => absurd h (Nat.not_lt_zero _)⟩ (by repeat' first | refine And.intro ?_ ?_ | exact True.intro | exact congrArg (RO.ints .i64) hX.symm | (show (_ : Int) = (_ : Int); omega) | omega | exact rfl) ?_
    rintro a p ⟨ha, hFo, hGa⟩
    refine And.intro (fun h2 => ?_) (fun h2 => ?_)
    · have h2 : (a : Int) < ((srtI (firsts (enL t.length ((C.getD i []).take j)))).length : Int) := h2
      rw [← hX] at h2
      have hal : a < X.length := by omega
      have hra := hXr a hal
      refine And.intro (by omega) ?_
      refine And.intro (by omega) ?_
      refine And.intro (by omega) ?_
      have hdl : (List.drop (a + 1) (List.take X.length X)).length = X.length - (a + 1) := by rw [List.length_drop, List.length_take]; omega
      refine Exists.intro [] <| lp2 (fun (q : Nat) (_ : List Int) => [(71, .int .i64 q)]) (fun _ p => [(1002, .vec 0 (.ints .i64 p) [])]) (fun q p => q ≤ X.length - (a + 1) ∧ Fo t.length p (snS t.length (C.getD i [])).1 ∧ ∀ b, a < b → b < a + 1 + q → G a b) (fun q _ => X.length - q) 0 p ⟨Nat.zero_le _, hFo, fun b h3 h4 => by omega⟩ (by repeat' first | refine And.intro ?_ ?_ | exact True.intro | (show (_ : Int) = (_ : Int); omega) | omega | exact rfl | (simp only [RO.len]; omega)) ?_
      rintro q p ⟨hq, hFo, hGq⟩
      refine And.intro (fun h3 => ?_) (fun h3 => ?_)
      · have h3 : (q : Int) < ((List.drop (a + 1) (List.take X.length X)).length : Int) := h3
        have hql : a + 1 + q < X.length := by omega
        have hrb := hXr (a + 1 + q) hql
        have hy : (List.drop (a + 1) (List.take X.length X)).getD q 0 = X.getD (a + 1 + q) 0 := by
          rw [List.take_length]; simp [List.getD]
        have hxc : X.getD a 0 = (((X.getD a 0).toNat : Nat) : Int) := by omega
        have hyc : (List.drop (a + 1) (List.take X.length X)).getD q 0 = (((X.getD (a + 1 + q) 0).toNat : Nat) : Int) := by omega
        have hxy := hXlt a (a + 1 + q) (by omega) hql
        have hFo1 := fndL_fo ((X.getD a 0).toNat + 1) hFo (i := (X.getD a 0).toNat) (by omega)
        have hFo2 := fndL_fo ((X.getD (a + 1 + q) 0).toNat + 1) hFo1 (i := (X.getD (a + 1 + q) 0).toNat) (by omega)
        refine And.intro (by omega) ?_
        refine Or.inr (Or.inl (cm [] [(1000, 1000), (1001, 1002)] (cfind_fn t.length p (snS t.length (C.getD i [])).1 (cntR t.length (snS t.length (C.getD i [])).1) (X.getD a 0).toNat hFo (by omega) (by omega)) ?_))
        refine And.intro (by repeat' first | refine And.intro ?_ ?_ | exact True.intro | exact hxc | (show (_ : Int) = (_ : Int); omega) | omega | exact rfl) ?_
        refine Or.inr (Or.inl (cm [] [(1000, 1000), (1001, 1002)] (cfind_fn t.length _ (snS t.length (C.getD i [])).1 (cntR t.length (snS t.length (C.getD i [])).1) (X.getD (a + 1 + q) 0).toNat hFo1 (by omega) (by omega)) ?_))
        refine And.intro (by repeat' first | refine And.intro ?_ ?_ | exact True.intro | exact hyc | (show (_ : Int) = (_ : Int); omega) | omega | exact rfl) ?_
        have stepG : G a (a + 1 + q) → ∀ b, a < b → b < a + 1 + (q + 1) → G a b := fun hg b h5 h6 => by
          by_cases e1 : b = a + 1 + q
          · rw [e1]; exact hg
          · exact hGq b h5 (by omega)
        refine And.intro (fun h4 => ?_) (fun h4 => ?_)
        · have h4 : (((snS t.length (C.getD i [])).1 (X.getD a 0).toNat : Nat) : Int) ≠ (((snS t.length (C.getD i [])).1 (X.getD (a + 1 + q) 0).toNat : Nat) : Int) := h4
          have hg : G a (a + 1 + q) := (hG _ _).2 fun e => absurd (congrArg (Nat.cast (R := Int)) e) h4
          refine And.intro (by omega) ?_
          exact nx (q + 1, _) ⟨by omega, hFo2, stepG hg⟩ (show X.length - (q + 1) < X.length - q by omega) (by repeat' first | refine And.intro ?_ ?_ | exact True.intro | (show (_ : Int) = (_ : Int); omega) | omega | exact rfl | (simp only [RO.len]; omega))
        · have h4 : (((snS t.length (C.getD i [])).1 (X.getD a 0).toNat : Nat) : Int) = (((snS t.length (C.getD i [])).1 (X.getD (a + 1 + q) 0).toNat : Nat) : Int) := h4
          have h4 : (snS t.length (C.getD i [])).1 (X.getD a 0).toNat = (snS t.length (C.getD i [])).1 (X.getD (a + 1 + q) 0).toNat := by omega
          have hgp := gp_of (n := t.length) (x := (X.getD a 0).toNat) (y := (X.getD (a + 1 + q) 0).toNat) (by omega) (by omega)
          have hvl := hgp.1.1
          have hccl := hN.cl
          have hcd := gC_in (L := c) (v := (X.getD a 0).toNat * t.length + (X.getD (a + 1 + q) 0).toNat) (by omega)
          have hd0 := hN.all _ hgp.1
          have hd1 := (hN.net.dom _ hd0).2
          have hcast : X.getD a 0 * (t.length : Int) = (((X.getD a 0).toNat * t.length : Nat) : Int) := by rw [Int.natCast_mul, ← hxc]
          have hidx : (X.getD a 0 * (t.length : Int) + (List.drop (a + 1) (List.take X.length X)).getD q 0).toNat = (X.getD a 0).toNat * t.length + (X.getD (a + 1 + q) 0).toNat := by omega
          have hcv : c.getD (X.getD a 0 * (t.length : Int) + (List.drop (a + 1) (List.take X.length X)).getD q 0).toNat 0 = gC c ((X.getD a 0).toNat * t.length + (X.getD (a + 1 + q) 0).toNat) := by rw [hidx]; exact hcd
          have hlvl := hN.net.lvl
          have hRi := hRk i hi hl
          have bad : ¬ G a (a + 1 + q) → selB t c C lv i = false := fun hg => Bool.eq_false_iff.2 fun h5 => hg (hsel.2 (selB_true.1 h5) a (a + 1 + q) (by omega) hql)
          refine And.intro (show -9223372036854775808 ≤ X.getD a 0 * (t.length : Int) ∧ X.getD a 0 * (t.length : Int) ≤ 9223372036854775807 by omega) ?_
          refine And.intro (show -9223372036854775808 ≤ (X.getD a 0 * (t.length : Int) + (List.drop (a + 1) (List.take X.length X)).getD q 0) ∧ (X.getD a 0 * (t.length : Int) + (List.drop (a + 1) (List.take X.length X)).getD q 0) ≤ 9223372036854775807 by omega) ?_
          refine And.intro (show 0 ≤ (X.getD a 0 * (t.length : Int) + (List.drop (a + 1) (List.take X.length X)).getD q 0) ∧ (X.getD a 0 * (t.length : Int) + (List.drop (a + 1) (List.take X.length X)).getD q 0) < (c.length : Int) by omega) ?_
          refine Or.inl ?_
          refine Exists.intro [false, false, false, false, false, false, false, false, false, false, false, false, false, false, false, false, false, false, false, false, false, false, false, false] (And.intro (by decide +kernel) ?_)
          refine And.intro (show 0 ≤ (c.getD (X.getD a 0 * (t.length : Int) + (List.drop (a + 1) (List.take X.length X)).getD q 0).toNat 0) ∧ (c.getD (X.getD a 0 * (t.length : Int) + (List.drop (a + 1) (List.take X.length X)).getD q 0).toNat 0) < (lv.length : Int) by omega) ?_
          refine And.intro (fun h5 => ?_) (fun h5 => ?_)
          · have h5 : (!lv.getD (c.getD (X.getD a 0 * (t.length : Int) + (List.drop (a + 1) (List.take X.length X)).getD q 0).toNat 0).toNat false) = true := h5
            rw [Bool.not_eq_true', hcv] at h5
            refine And.intro (fun h6 => ?_) (fun h6 => ?_)
            · have h6 : (c.getD (X.getD a 0 * (t.length : Int) + (List.drop (a + 1) (List.take X.length X)).getD q 0).toNat 0) < (i : Int) := h6
              rw [hcv] at h6
              have hs0 := bad fun hg => by
                have h7 := (hG _ _).1 hg h4
                rw [h5] at h7
                have := h7.resolve_left (by decide)
                omega
              refine Exists.intro _ (And.intro hFo2 ?_)
              refine And.intro ?_ hs0.symm
              repeat' first | refine And.intro ?_ ?_ | exact True.intro | (show (_ : Int) = (_ : Int); omega) | omega | exact rfl | (simp only [RO.len]; omega)
            · have h6 : (i : Int) ≤ (c.getD (X.getD a 0 * (t.length : Int) + (List.drop (a + 1) (List.take X.length X)).getD q 0).toNat 0) := h6
              rw [hcv] at h6
              have hRd := hRk (gC c ((X.getD a 0).toNat * t.length + (X.getD (a + 1 + q) 0).toNat)).toNat (by omega) h5
              refine And.intro (show 0 ≤ (c.getD (X.getD a 0 * (t.length : Int) + (List.drop (a + 1) (List.take X.length X)).getD q 0).toNat 0) ∧ (c.getD (X.getD a 0 * (t.length : Int) + (List.drop (a + 1) (List.take X.length X)).getD q 0).toNat 0) < (R.length : Int) by omega) ?_
              refine And.intro (by omega) ?_
              refine And.intro (fun h7 => ?_) (fun h7 => ?_)
              · have h7 : R.getD (c.getD (X.getD a 0 * (t.length : Int) + (List.drop (a + 1) (List.take X.length X)).getD q 0).toNat 0).toNat 0 ≠ R.getD i 0 := h7
                rw [hcv, hRd, hRi] at h7
                have hs0 := bad fun hg => by
                  have h8 := (hG _ _).1 hg h4
                  rw [h5] at h8
                  have := (h8.resolve_left (by decide)).2
                  omega
                refine Exists.intro _ (And.intro hFo2 ?_)
                refine And.intro ?_ hs0.symm
                repeat' first | refine And.intro ?_ ?_ | exact True.intro | (show (_ : Int) = (_ : Int); omega) | omega | exact rfl | (simp only [RO.len]; omega)
              · have h7 : R.getD (c.getD (X.getD a 0 * (t.length : Int) + (List.drop (a + 1) (List.take X.length X)).getD q 0).toNat 0).toNat 0 = R.getD i 0 := h7
                rw [hcv, hRd, hRi] at h7
                refine And.intro (by omega) ?_
                exact nx (q + 1, _) ⟨by omega, hFo2, stepG ((hG _ _).2 fun _ => .inr ⟨h6, by omega⟩)⟩ (show X.length - (q + 1) < X.length - q by omega) (by repeat' first | refine And.intro ?_ ?_ | exact True.intro | (show (_ : Int) = (_ : Int); omega) | omega | exact rfl | (simp only [RO.len]; omega))
          · have h5 : (!lv.getD (c.getD (X.getD a 0 * (t.length : Int) + (List.drop (a + 1) (List.take X.length X)).getD q 0).toNat 0).toNat false) = false := h5
            rw [Bool.not_eq_false', hcv] at h5
            refine And.intro (by omega) ?_
            exact nx (q + 1, _) ⟨by omega, hFo2, stepG ((hG _ _).2 fun _ => .inl h5)⟩ (show X.length - (q + 1) < X.length - q by omega) (by repeat' first | refine And.intro ?_ ?_ | exact True.intro | (show (_ : Int) = (_ : Int); omega) | omega | exact rfl | (simp only [RO.len]; omega))
      · have h3 : ((List.drop (a + 1) (List.take X.length X)).length : Int) ≤ (q : Int) := h3
        refine And.intro (by omega) ?_
        refine nx (a + 1, p) ⟨by omega, hFo, fun a' b h4 h5 h6 => ?_⟩ (show X.length - (a + 1) < X.length - a by omega) (by repeat' first | refine And.intro ?_ ?_ | exact True.intro | (show (_ : Int) = (_ : Int); omega) | omega | exact rfl | (simp only [RO.len]; omega))
        by_cases e1 : a' = a
        · rw [e1] at h5 ⊢; exact hGq b h5 (by omega)
        · exact hGa a' b (by omega) h5 h6
    · have h2 : ((srtI (firsts (enL t.length ((C.getD i []).take j)))).length : Int) ≤ (a : Int) := h2
      rw [← hX] at h2
      have hs1 : selB t c C lv i = true := selB_true.2 (hsel.1 fun a' b h3 h4 => hGa a' b (by omega) h3 h4)
      refine Exists.intro p (And.intro hFo ?_)
      refine And.intro ?_ hs1.symm
      repeat' first | refine And.intro ?_ ?_ | exact True.intro | (show (_ : Int) = (_ : Int); omega) | omega | exact rfl | (simp only [RO.len]; omega)
end Go.Proofs.Ytpanlghofeebhaa
end
section
/- congr.Atoms: the minimal congruences: contract. -/
namespace Go.Proofs.Ytpanlghofeebhaa
open Go Go.AM
set_option maxRecDepth 100000
set_option maxHeartbeats 4000000 in
theorem atoms_fn (t : List (List Int)) (hs : Semi t) (ht : t.length ≤ 60) : EF 66 [.ro (.rows .i64 t)] (fun L : List (List (Int × Int)) => .ro (.prows L)) (fun L => AtomsOk t L) := mkE Try.func66 (by decide +kernel) rfl (Nat.le_of_ble_eq_true rfl) fun _ => by
  have hS := hs.toSh
  have hnn : t.length * t.length ≤ 3600 := Nat.mul_le_mul ht ht
  refine Or.inl (cq (csq_fn t hS) (And.intro rfl trivial) ?_)
  refine Or.inr (Or.inl (cn [] [(19, 14)] (nnew_fn t hS ht) ?_))
  refine And.intro (by repeat' first | refine And.intro ?_ ?_ | exact True.intro | (show (_ : Int) = (_ : Int); omega) | omega | exact rfl | (simp only [RO.len]; omega)) ?_
  refine all4 fun g c C lv hN => ?_
  have hN : NetOk t g c C lv := hN
  have hcl := cs_len C
  have hCl := hN.net.num_le (N := t.length * t.length) fun v hv => hv.1
  have hlvl := hN.net.lvl
  refine Or.inr (Or.inl (cm [] [(7, 517), (5, 515)] (cnew_fn t.length (by omega)) ?_))
  refine And.intro (by repeat' first | refine And.intro ?_ ?_ | exact True.intro | (show (_ : Int) = (_ : Int); omega) | omega | exact rfl | (simp only [RO.len]; omega)) ?_
  refine And.intro (by omega) ?_
  refine And.intro (by omega) ?_
  have zr : ∀ n, (List.replicate n (0 : Int)).length = n := fun n => List.length_replicate
  refine Exists.intro [] <| lp4 (fun (k : Nat) (_ _ : List Int) (_ : Int) => [(29, .int .i64 k)]) (fun _ R p m => [(23, .vec 0 (.ints .i64 R) []), (517, .box [.vec 515, .int .i64 m]), (515, .vec 0 (.ints .i64 p) [])]) (fun k R p _ => k ≤ C.length ∧ R.length = C.length ∧ p.length = t.length ∧ ∀ d, d < k → lv.getD d false = false → R.getD d 0 = (rkN t C d : Int)) (fun k _ _ _ => C.length - k) 0 (List.replicate (csI C).length 0) (disI t.length) t.length ⟨Nat.zero_le _, by rw [zr]; exact hcl, disI_len _, fun d h => absurd h (Nat.not_lt_zero _)⟩ (by repeat' first | refine And.intro ?_ ?_ | exact True.intro | (show (_ : Int) = (_ : Int); omega) | omega | exact rfl | (simp only [RO.len]; omega)) ?_
  intro k R p m hk
  have hRl := hk.2.1
  have hpl := hk.2.2.1
  refine And.intro (fun h1 => ?_) (fun h1 => ?_)
  · have h1 : (k : Int) < ((csI C).length : Int) := h1
    have hkl : k < C.length := by omega
    have hml := hN.ml hkl
    have hspl : (snS t.length (C.getD k [])).2.length ≤ t.length := by have := (hN.sO hkl).cnt; omega
    refine And.intro (by omega) ?_
    refine And.intro (fun h2 => ?_) (fun h2 => ?_)
    · have h2 : (!lv.getD k false) = true := h2
      rw [Bool.not_eq_true'] at h2
      refine Or.inr (Or.inl (cm [] [(1000, 517), (1002, 515), (1001, 14), (37, 545)] (nspan_fn t g c C lv hS k hkl (fun v hv => (hN.gp hkl hv).1) (by omega) p m hpl) ?_))
      refine And.intro (by repeat' first | refine And.intro ?_ ?_ | exact True.intro | (show (_ : Int) = (_ : Int); omega) | omega | exact rfl | (simp only [RO.len]; omega)) ?_
      have hO := hN.sO hkl
      refine And.intro (by omega) ?_
      refine And.intro (by omega) ?_
      refine And.intro (by omega) ?_
      refine nx (k + 1, R.set k (((snS t.length (C.getD k [])).2.length : Nat) : Int), _, _) ⟨by omega, by rw [List.length_set]; exact hRl, hO.fo.len, fun d hd hld => ?_⟩ (show C.length - (k + 1) < C.length - k by omega) (by repeat' first | refine And.intro ?_ ?_ | exact True.intro | (show (_ : Int) = (_ : Int); omega) | omega | exact rfl | (simp only [RO.len]; omega))
      by_cases e1 : d = k
      · rw [e1, getD_set_eq (by omega)]; rfl
      · rw [getD_set_ne (Ne.symm e1)]; exact hk.2.2.2 d (by omega) hld
    · have h2 : (!lv.getD k false) = false := h2
      rw [Bool.not_eq_false'] at h2
      refine And.intro (by omega) ?_
      refine nx (k + 1, R, p, m) ⟨by omega, hRl, hpl, fun d hd hld => ?_⟩ (show C.length - (k + 1) < C.length - k by omega) (by repeat' first | refine And.intro ?_ ?_ | exact True.intro | (show (_ : Int) = (_ : Int); omega) | omega | exact rfl | (simp only [RO.len]; omega))
      by_cases e1 : d = k
      · rw [e1, h2] at hld; cases hld
      · exact hk.2.2.2 d (by omega) hld
  · have h1 : ((csI C).length : Int) ≤ (k : Int) := h1
    refine Exists.intro [10023, 23, 5] <| lp3 (fun (i : Nat) (_ : List Int) (_ : Int) => [(54, .int .i64 i), (7, .vec 76), (5, .ro (.ints .i64 R))]) (fun i p m => [(76, .vec 0 (.prows (atmL t c C lv i)) []), (517, .box [.vec 515, .int .i64 m]), (515, .vec 0 (.ints .i64 p) [])]) (fun i p _ => i ≤ C.length ∧ p.length = t.length) (fun i _ _ => C.length - i) 0 p m ⟨Nat.zero_le _, hpl⟩ (by repeat' first | refine And.intro ?_ ?_ | exact True.intro | (show (_ : Int) = (_ : Int); omega) | omega | exact rfl | (simp only [RO.len]; omega)) ?_
    intro i p m hi
    have hpl := hi.2
    refine And.intro (fun h2 => ?_) (fun h2 => ?_)
    · have h2 : (i : Int) < ((csI C).length : Int) := h2
      have hil : i < C.length := by omega
      have hml := hN.ml hil
      refine And.intro (by omega) ?_
      refine And.intro (fun h3 => ?_) (fun h3 => ?_)
      · have h3 : lv.getD i false = true := h3
        have hno : selB t c C lv i = false := Bool.eq_false_iff.2 fun h4 => by have := (selB_true.1 h4).1; rw [h3] at this; cases this
        have e1 : atmL t c C lv (i + 1) = atmL t c C lv i := by unfold atmL; rw [List.range_succ, List.filter_append]; simp [hno]
        refine And.intro (by omega) ?_
        exact nx (i + 1, p, m) ⟨by omega, hpl⟩ (show C.length - (i + 1) < C.length - i by omega) (by repeat' first | refine And.intro ?_ ?_ | exact True.intro | exact congrArg RO.prows e1.symm | (show (_ : Int) = (_ : Int); omega) | omega | exact rfl | (simp only [RO.len]; omega))
      · have h3 : lv.getD i false = false := h3
        refine Or.inr (Or.inl (cm [] [(1000, 517), (1002, 515), (1001, 14), (37, 545)] (nspan_fn t g c C lv hS i hil (fun v hv => (hN.gp hil hv).1) (by omega) p m hpl) ?_))
        refine And.intro (by repeat' first | refine And.intro ?_ ?_ | exact True.intro | (show (_ : Int) = (_ : Int); omega) | omega | exact rfl | (simp only [RO.len]; omega)) ?_
        refine Or.inr (Or.inl (cn [] [(1000, 517), (1002, 515), (1001, 14)] (nmin_fn t g c C lv hN hS ht i hil h3 R hRl (fun d hd => hk.2.2.2 d (by omega))) ?_))
        refine And.intro (by repeat' first | refine And.intro ?_ ?_ | exact True.intro | (show (_ : Int) = (_ : Int); omega) | omega | exact rfl | (simp only [RO.len]; omega)) ?_
        intro p2 hp2
        have hp2 : Fo t.length p2 (snS t.length (C.getD i [])).1 := hp2
        have hle : (atmL t c C lv i).length ≤ i := by unfold atmL; rw [List.length_map]; exact Nat.le_trans (List.length_filter_le _ _) (by rw [List.length_range]; exact Nat.le_refl _)
        have hst : ∀ b, selB t c C lv i = b → atmL t c C lv (i + 1) = if b then atmL t c C lv i ++ [(snS t.length (C.getD i [])).2] else atmL t c C lv i := fun b hb => by unfold atmL; rw [List.range_succ, List.filter_append]; cases b <;> simp [hb]
        refine And.intro (fun h4 => ?_) (fun h4 => ?_)
        · have h4 : selB t c C lv i = true := h4
          have e1 : atmL t c C lv (i + 1) = atmL t c C lv i ++ [(snS t.length (C.getD i [])).2] := hst true h4
          refine And.intro (by rw [List.length_append, List.length_singleton]; omega) ?_
          refine And.intro (by omega) ?_
          exact nx (i + 1, p2, _) ⟨by omega, hp2.len⟩ (show C.length - (i + 1) < C.length - i by omega) (by repeat' first | refine And.intro ?_ ?_ | exact True.intro | exact congrArg RO.prows e1.symm | (show (_ : Int) = (_ : Int); omega) | omega | exact rfl | (simp only [RO.len]; omega))
        · have h4 : selB t c C lv i = false := h4
          have e1 : atmL t c C lv (i + 1) = atmL t c C lv i := hst false h4
          refine And.intro (by omega) ?_
          exact nx (i + 1, p2, _) ⟨by omega, hp2.len⟩ (show C.length - (i + 1) < C.length - i by omega) (by repeat' first | refine And.intro ?_ ?_ | exact True.intro | exact congrArg RO.prows e1.symm | (show (_ : Int) = (_ : Int); omega) | omega | exact rfl | (simp only [RO.len]; omega))
    · have h2 : ((csI C).length : Int) ≤ (i : Int) := h2
      have ei : i = C.length := by omega
      refine Exists.intro (atmL t c C lv C.length) (And.intro (hN.atoms hs) ?_)
      have ea : atmL t c C lv i = atmL t c C lv C.length := by rw [ei]
      repeat' first | refine And.intro ?_ ?_ | exact True.intro | exact congrArg RO.prows ea | omega | exact rfl
end Go.Proofs.Ytpanlghofeebhaa
end
section
/- congr.Minimal: contract. -/
namespace Go.Proofs.Ytpanlghofeebhaa
open Go Go.AM
set_option maxRecDepth 100000
set_option maxHeartbeats 2000000 in
theorem cminE_fn (t : List (List Int)) (hs : Semi t) (h2 : 2 ≤ t.length) (ht : t.length ≤ 60) : EF 21 [.ro (.rows .i64 t)] (fun _ : Unit => .ro (.rows .i64 (minsL t))) (fun _ => MinsOk t) := mkE Try.func21 (by decide +kernel) rfl (Nat.le_of_ble_eq_true rfl) fun _ => by
  have hS := hs.toSh
  refine Or.inl (cq (valid_fn t) (And.intro rfl trivial) ?_)
  refine And.intro (fun h1 => absurd (valid_zero.2 hs) h1) (fun _ => ?_)
  refine Or.inr (Or.inl (cm [] [(7, 507), (5, 505)] (cnew_fn t.length (by omega)) ?_))
  refine And.intro (by repeat' first | refine And.intro ?_ ?_ | exact True.intro | (show (_ : Int) = (_ : Int); omega) | omega | exact rfl | (simp only [RO.len]; omega)) ?_
  refine Or.inr (Or.inr (ce (atoms_fn t hs ht) (And.intro rfl trivial) ?_))
  intro L hL
  have hL : AtomsOk t L := hL
  have hLl := hL.le
  have hnn : t.length * t.length ≤ 3600 := Nat.mul_le_mul ht ht
  obtain ⟨E, hE⟩ : ∃ E : List (Int × Int) → List Int, E = fun l => eqP t.length (relP l) := ⟨_, rfl⟩
  refine Exists.intro [] <| lp3 (fun (i : Nat) (_ : List Int) (_ : Int) => [(18, .int .i64 i), (4, .vec 41)]) (fun i p m => [(41, .vec 0 (.rows .i64 ((L.take i).map E)) []), (507, .box [.vec 505, .int .i64 m]), (505, .vec 0 (.ints .i64 p) [])]) (fun i p _ => i ≤ L.length ∧ p.length = t.length) (fun i _ _ => L.length - i) 0 (disI t.length) t.length ⟨Nat.zero_le _, disI_len _⟩ (by repeat' first | refine And.intro ?_ ?_ | exact True.intro | (show (_ : Int) = (_ : Int); omega) | omega | exact rfl | (simp only [RO.len]; omega)) ?_
  intro i p m hi
  have hpl := hi.2
  refine And.intro (fun h3 => ?_) (fun h3 => ?_)
  · have h3 : (i : Int) < (L.length : Int) := h3
    have hil : i < L.length := by omega
    have hlm := getD_mem (d := []) hil
    have hin := hL.inw _ hlm
    have hll := hL.ll _ hlm
    refine And.intro (by omega) ?_
    refine Or.inr (Or.inl (cm [] [(1000, 507), (1001, 505)] (creset_fn t.length p m hpl (by omega)) ?_))
    refine And.intro (by repeat' first | refine And.intro ?_ ?_ | exact True.intro | (show (_ : Int) = (_ : Int); omega) | omega | exact rfl | (simp only [RO.len]; omega)) ?_
    refine Exists.intro [] <| lp3 (fun (j : Nat) (_ : List Int) (_ : Nat → Nat) => [(26, .int .i64 j)]) (fun _ p r => [(507, .box [.vec 505, .int .i64 (cntR t.length r : Nat)]), (505, .vec 0 (.ints .i64 p) [])]) (fun j p r => j ≤ (L.getD i []).length ∧ Fo t.length p r ∧ KerR t.length r (relP ((L.getD i []).take j))) (fun j _ _ => (L.getD i []).length - j) 0 (disI t.length) id ⟨Nat.zero_le _, Fo.dis _, (KerR.dis _).congr (fun _ _ h => h.elim) fun a b h => by simp [relP] at h⟩ (by repeat' first | refine And.intro ?_ ?_ | exact True.intro | exact congrArg (Nat.cast (R := Int)) (cnt_id t.length).symm | (show (_ : Int) = (_ : Int); omega) | omega | exact rfl) ?_
    intro j p r hj
    refine And.intro (fun h4 => ?_) (fun h4 => ?_)
    · have h4 : (j : Int) < ((L.getD i []).length : Int) := h4
      have hjl : j < (L.getD i []).length := by omega
      have hq := hin _ (getD_mem (d := ((0 : Int), (0 : Int))) hjl)
      have hc1 : ((L.getD i []).getD j (0, 0)).1 = ((((L.getD i []).getD j (0, 0)).1.toNat : Nat) : Int) := by omega
      have hc2 : ((L.getD i []).getD j (0, 0)).2 = ((((L.getD i []).getD j (0, 0)).2.toNat : Nat) : Int) := by omega
      refine And.intro (by omega) ?_
      refine And.intro (by omega) ?_
      refine And.intro (fun _ => ?_) (And.intro (fun h9 => absurd (show (0 : Int) = 1 from h9) (by decide)) trivial)
      refine And.intro (by omega) ?_
      refine And.intro (fun h9 => absurd (show (1 : Int) = 0 from h9) (by decide)) (And.intro (fun _ => ?_) trivial)
      refine Or.inr (Or.inl (cm [] [(1000, 507), (1001, 505)] (cjoin_fn t.length p r ((L.getD i []).getD j (0, 0)).1.toNat ((L.getD i []).getD j (0, 0)).2.toNat hj.2.1 (by omega) (by omega) (by omega)) ?_))
      refine And.intro (by repeat' first | refine And.intro ?_ ?_ | exact True.intro | exact hc1 | exact hc2 | (show (_ : Int) = (_ : Int); omega) | omega | exact rfl) ?_
      refine And.intro (by omega) ?_
      have hk2 := jn_ker hj.2.2 (i := ((L.getD i []).getD j (0, 0)).1.toNat) (j := ((L.getD i []).getD j (0, 0)).2.toNat) (by omega) (by omega)
      have etk : (L.getD i []).take (j + 1) = (L.getD i []).take j ++ [(L.getD i []).getD j (0, 0)] := take_get hjl
      refine nx (j + 1, _, _) ⟨by omega, jn_fo hj.2.1 (by omega) (by omega), hk2.congr (fun a b e => ?_) fun a b e => ?_⟩ (show (L.getD i []).length - (j + 1) < (L.getD i []).length - j by omega) (by repeat' first | refine And.intro ?_ ?_ | exact True.intro | (show (_ : Int) = (_ : Int); omega) | omega | exact rfl | (simp only [RO.len]; omega))
      · rw [etk]
        refine .rel ?_
        rcases e with e | ⟨rfl, rfl⟩
        · exact List.mem_append_left _ e
        · refine List.mem_append_right _ (List.mem_singleton.2 ?_)
          rw [← hc1, ← hc2]
      · rw [etk] at e
        refine .rel ?_
        rcases List.mem_append.1 e with e | e
        · exact .inl e
        · have e := List.mem_singleton.1 e
          rw [← e]; exact .inr ⟨rfl, rfl⟩
    · have h4 : ((L.getD i []).length : Int) ≤ (j : Int) := h4
      have et : (L.getD i []).take j = L.getD i [] := List.take_of_length_le (by omega)
      have hker : KerR t.length r (relP (L.getD i [])) := by have := hj.2.2; rw [et] at this; exact this
      have ec : canon (rtL t.length r) = E (L.getD i []) := by rw [hE]; exact eqP_of hker.ker
      have em : (L.take i).map E ++ [canon (rtL t.length r)] = (L.take (i + 1)).map E := by rw [take_get (d := []) hil, List.map_append, ec]; rfl
      have eml : ((L.take i).map E ++ [canon (rtL t.length r)]).length = i + 1 := by rw [List.length_append, List.length_map, List.length_take, List.length_singleton]; omega
      refine Or.inr (Or.inl (cm [] [(1000, 507), (1001, 505), (12, 539)] (cpart_fn t.length p r (cntR t.length r) hj.2.1 (by omega)) ?_))
      refine And.intro (by repeat' first | refine And.intro ?_ ?_ | exact True.intro | (show (_ : Int) = (_ : Int); omega) | omega | exact rfl | (simp only [RO.len]; omega)) ?_
      refine And.intro (show (((L.take i).map E ++ [canon (rtL t.length r)]).length : Int) ≤ 2199023255552 by omega) ?_
      refine And.intro (by omega) ?_
      have hfl := (fndA_fo hj.2.1 t.length (Nat.le_refl _)).len
      exact nx (i + 1, _, _) ⟨by omega, hfl⟩ (show L.length - (i + 1) < L.length - i by omega) (by repeat' first | refine And.intro ?_ ?_ | exact True.intro | exact congrArg (RO.rows .i64) em | (show (_ : Int) = (_ : Int); omega) | omega | exact rfl | (simp only [RO.len]; omega))
  · have h3 : (L.length : Int) ≤ (i : Int) := h3
    have et : (L.take i).map E = L.map E := by rw [List.take_of_length_le (by omega)]
    have hpos : 0 < ((L.take i).map E).length := by
      rw [et, List.length_map]
      exact hL.pos hs h2
    refine Or.inr (Or.inl (cm [] [(1000, 41)] (sortRows_m cmpL_tot compareL_fn ((L.take i).map E) hpos) (And.intro (by repeat' first | refine And.intro ?_ ?_ | exact True.intro | (show (_ : Int) = (_ : Int); omega) | omega | exact rfl | (simp only [RO.len]; omega)) ?_)))
    have em : Go.Proofs.Ytpanlghofeebhaa.srt cmpL ((L.take i).map E) = minsL t := by rw [et, hL.mins, hE]
    refine Exists.intro () (And.intro hL.ok ?_)
    repeat' first | refine And.intro ?_ ?_ | exact True.intro | exact congrArg (RO.rows .i64) em | omega | exact rfl
end Go.Proofs.Ytpanlghofeebhaa
end
