import Derived.Test.YtpanlghofeebhaaCgMin
import Derived.Test.YtpanlghofeebhaaColl
section
namespace Go.Proofs.Ytpanlghofeebhaa
open Go Go.AM
set_option maxRecDepth 100000
set_option maxHeartbeats 8000000
theorem ntgF_fn (t : List (List Int)) (g c : List Int) (C : List (List Nat)) (lv : List Bool) (hs : Sh t) (hg : ∀ x ∈ g, 0 ≤ x ∧ x < (t.length : Int)) (v k : Nat) (hv : Gp t.length v) (hk : k < 2 * g.length) : MF 95 [.ptr 1001 0, .int .i64 v, .int .i64 k] (nwF 1001 t g c C lv) (.int .i64 (tgN t g v k)) (nwF 1001 t g c C lv) := mkM Try.func95 (by decide +kernel) rfl (Nat.le_of_ble_eq_true rfl) fun _ => by
  obtain ⟨v1, v2, v3⟩ := gp_le hv
  have hkl : k / 2 < g.length := by omega
  have hgz := hg _ (getD_mem (d := 0) hkl)
  have hmost := hs.most
  have ex : (v : Int) / (t.length : Int) = ((v / t.length : Nat) : Int) := rfl
  have ey : (v : Int) % (t.length : Int) = ((v % t.length : Nat) : Int) := rfl
  have ek : ((k : Int) / 2).toNat = k / 2 := by omega
  have hzl : (g.getD (k / 2) 0).toNat < t.length := by omega
  have rz := hs.len hzl
  have rx := hs.len v1
  have ry := hs.len v2
  have fin : ∀ a b : Nat, a < t.length → b < t.length → (-9223372036854775808 ≤ min (a : Int) b * (t.length : Int) ∧ min (a : Int) b * (t.length : Int) ≤ 9223372036854775807) ∧ -9223372036854775808 ≤ min (a : Int) b * (t.length : Int) + max (a : Int) b ∧ min (a : Int) b * (t.length : Int) + max (a : Int) b ≤ 9223372036854775807 := fun a b ha hb => by
    have h1 : min a b * t.length ≤ 400 * 400 := Nat.mul_le_mul (by omega) hmost
    have h2 : min (a : Int) b * (t.length : Int) = ((min a b * t.length : Nat) : Int) := by rw [Int.natCast_mul, show ((min a b : Nat) : Int) = min (a : Int) b by omega]
    omega
  refine Or.inl ?_
  refine Exists.intro [false, false, false, false, false, false, false, false, false, false, false, false, false, false, false, false, false] (And.intro (by decide +kernel) ?_)
  refine And.intro (by omega) ?_
  refine Or.inl ?_
  refine And.intro (by omega) ?_
  refine And.intro (by omega) ?_
  refine And.intro (by omega) ?_
  refine Or.inl ?_
  refine And.intro (by omega) ?_
  refine And.intro (fun h1 => ?_) (fun h1 => ?_)
  · have h1 : (k : Int) % 2 = 0 := h1
    have e1 := hs.ent hzl v1
    have e2 := hs.ent hzl v2
    have ea : tgA t (g.getD (k / 2) 0).toNat (v / t.length) k = en t (g.getD (k / 2) 0).toNat (v / t.length) := by unfold tgA; rw [if_pos (by omega)]
    have eb : tgA t (g.getD (k / 2) 0).toNat (v % t.length) k = en t (g.getD (k / 2) 0).toNat (v % t.length) := by unfold tgA; rw [if_pos (by omega)]
    have hp := @pr_int t.length (en t (g.getD (k / 2) 0).toNat (v / t.length)) (en t (g.getD (k / 2) 0).toNat (v % t.length))
    rw [← e1.1, ← e2.1] at hp
    have hf := fin _ _ e1.2 e2.2
    rw [← e1.1, ← e2.1] at hf
    unfold tgN
    rw [ea, eb]
    refine Or.inr (Exists.intro .txt (And.intro (by decide +kernel) ?_))
    refine And.intro (show 0 ≤ g.getD (k / 2) 0 ∧ g.getD (k / 2) 0 < (t.length : Int) from hgz) ?_
    refine And.intro ⟨Int.natCast_nonneg (v / t.length), show ((v / t.length : Nat) : Int) < ((t.getD (g.getD (k / 2) 0).toNat []).length : Int) from rz.symm ▸ Int.ofNat_lt.2 v1⟩ ?_
    refine And.intro (show 0 ≤ g.getD (k / 2) 0 ∧ g.getD (k / 2) 0 < (t.length : Int) from hgz) ?_
    refine And.intro ⟨Int.natCast_nonneg (v % t.length), show ((v % t.length : Nat) : Int) < ((t.getD (g.getD (k / 2) 0).toNat []).length : Int) from rz.symm ▸ Int.ofNat_lt.2 v2⟩ ?_
    refine And.intro (fun h2 => ?_) (fun h2 => ?_)
    · refine And.intro ?_ (hp.1 h2)
      repeat' first | refine And.intro ?_ ?_ | exact True.intro | (show (_ : Int) = (_ : Int); omega) | omega | exact rfl | (simp only [RO.len]; omega)
    · have h2 : (t.getD (g.getD (k / 2) 0).toNat []).getD (v / t.length) 0 ≠ (t.getD (g.getD (k / 2) 0).toNat []).getD (v % t.length) 0 := h2
      refine And.intro hf.1 ?_
      refine And.intro hf.2 ?_
      refine And.intro ?_ (hp.2 h2)
      repeat' first | refine And.intro ?_ ?_ | exact True.intro | (show (_ : Int) = (_ : Int); omega) | omega | exact rfl | (simp only [RO.len]; omega)
  · have h1 : (k : Int) % 2 ≠ 0 := h1
    have e1 := hs.ent v1 hzl
    have e2 := hs.ent v2 hzl
    have ea : tgA t (g.getD (k / 2) 0).toNat (v / t.length) k = en t (v / t.length) (g.getD (k / 2) 0).toNat := by unfold tgA; rw [if_neg (by omega)]
    have eb : tgA t (g.getD (k / 2) 0).toNat (v % t.length) k = en t (v % t.length) (g.getD (k / 2) 0).toNat := by unfold tgA; rw [if_neg (by omega)]
    have hp := @pr_int t.length (en t (v / t.length) (g.getD (k / 2) 0).toNat) (en t (v % t.length) (g.getD (k / 2) 0).toNat)
    rw [← e1.1, ← e2.1] at hp
    have hf := fin _ _ e1.2 e2.2
    rw [← e1.1, ← e2.1] at hf
    unfold tgN
    rw [ea, eb]
    refine Or.inr (Exists.intro .txt (And.intro (by decide +kernel) ?_))
    refine And.intro ⟨Int.natCast_nonneg (v / t.length), Int.ofNat_lt.2 v1⟩ ?_
    refine And.intro (show 0 ≤ g.getD (k / 2) 0 ∧ g.getD (k / 2) 0 < ((t.getD (v / t.length) []).length : Int) from rx.symm ▸ hgz) ?_
    refine And.intro ⟨Int.natCast_nonneg (v % t.length), Int.ofNat_lt.2 v2⟩ ?_
    refine And.intro (show 0 ≤ g.getD (k / 2) 0 ∧ g.getD (k / 2) 0 < ((t.getD (v % t.length) []).length : Int) from ry.symm ▸ hgz) ?_
    refine And.intro (fun h2 => ?_) (fun h2 => ?_)
    · refine And.intro ?_ (hp.1 h2)
      repeat' first | refine And.intro ?_ ?_ | exact True.intro | (show (_ : Int) = (_ : Int); omega) | omega | exact rfl | (simp only [RO.len]; omega)
    · have h2 : (t.getD (v / t.length) []).getD (g.getD (k / 2) 0).toNat 0 ≠ (t.getD (v % t.length) []).getD (g.getD (k / 2) 0).toNat 0 := h2
      refine And.intro hf.1 ?_
      refine And.intro hf.2 ?_
      refine And.intro ?_ (hp.2 h2)
      repeat' first | refine And.intro ?_ ?_ | exact True.intro | (show (_ : Int) = (_ : Int); omega) | omega | exact rfl | (simp only [RO.len]; omega)
theorem cg_small {t : List (List Int)} {q : List Int} (h : IsCg t q 0) (hn : t.length ≤ 6) : q.length ≤ 400 ∧ ∀ c ∈ q, 0 ≤ c ∧ c < 256 := by
  have hl := h.len
  refine ⟨by omega, fun c hc => ?_⟩
  obtain ⟨i, hi, rfl⟩ := mem_getD 0 hc
  have := canon_le h.val.2 hi
  omega
theorem idx_old {α : Type} [DecidableEq α] {key : α → List Int} (hk : ∀ a b, key a = key b → a = b) {x : α} {fs : List α} (h : x ∈ fs) : ∃ i : Nat, getM (mapOf key 0 fs) (key x) = some (i : Int) ∧ i < fs.length ∧ fs[i]? = some x := by
  have h1 := getM_mapOf (key := key) hk (x := x) (fs := fs) (n := 0)
  rw [if_pos h, Nat.zero_add] at h1
  have h2 := List.idxOf_lt_length_of_mem h
  exact ⟨fs.idxOf x, h1, h2, by rw [List.getElem?_eq_getElem h2, List.getElem_idxOf]⟩
theorem pr_old {L : List Prn} {q : List Int} (h : q ∈ L.map fun e => e.2.1) : ∃ i : Nat, getM (mapOf txtL 0 (L.map fun e => e.2.1)) (txtL q) = some (i : Int) ∧ i < L.length ∧ (L.getD i prn0).2.1 = q := by
  obtain ⟨i, h1, h2, h3⟩ := idx_old (key := txtL) (fun _ _ => txt_inj) h
  refine ⟨i, h1, by simpa using h2, ?_⟩
  rw [List.getElem?_map] at h3
  simp only [List.getD]
  cases h4 : L[i]? with
  | none => rw [h4] at h3; cases h3
  | some e => rw [h4] at h3; exact Option.some.inj h3
theorem pr_new {L : List Prn} {q : List Int} (h : q ∉ L.map fun e => e.2.1) : getM (mapOf txtL 0 (L.map fun e => e.2.1)) (txtL q) = none := by
  have h1 := getM_mapOf (key := txtL) (fun _ _ => txt_inj) (x := q) (fs := L.map fun e => e.2.1) (n := 0)
  rw [if_neg h] at h1; exact h1
theorem pr_add {L : List Prn} {e : Prn} (h : e.2.1 ∉ L.map fun e => e.2.1) : setM (mapOf txtL 0 (L.map fun e => e.2.1)) (txtL e.2.1) L.length = mapOf txtL 0 ((L ++ [e]).map fun e => e.2.1) := by
  rw [setM_new (pr_new h), List.map_append]
  show _ = mapOf txtL 0 ((L.map fun e => e.2.1) ++ [e.2.1])
  rw [mapOf_snoc, List.length_map]
abbrev prM (L : List Prn) : List (List Int × Int) := mapOf txtL 0 (L.map fun e => e.2.1)
abbrev prV (_t : List (List Int)) (N J : List Int) (L : List Prn) (p : List Int) (m : Int) : Store :=
  [(22, .box [.fn 93 [], .ptr 504 0, .vec 506]), (504, .map .str (some .i64) (prM L)), (506, .vec 0 (.prins L) []), (28, .vec 0 (.ints .i64 N) []), (168, .vec 0 (.ints .i64 J) []), (34, .box [.vec 505, .int .i64 m]), (505, .vec 0 (.ints .i64 p) [])]
theorem prc_fn (t : List (List Int)) (g c : List Int) (C : List (List Nat)) (lv : List Bool) (hN : NetOk t g c C lv) (hs : Semi t) (hn : t.length ≤ 6) :
    NF 48 [.ptr 1001 0, .int .i64 2000] (nwF 1001 t g c C lv) (fun _ : List Prn => .tup [.vec 506, .bool (.lit true)]) (fun L => (506, .vec 0 (.prins L) []) :: nwF 1001 t g c C lv) (fun L => PrL t L) := mkN Try.func48 (by decide +kernel) rfl (Nat.le_of_ble_eq_true rfl) fun _ => by
  have hS := hs.toSh
  have hcl := cs_len C
  have hCl := hN.net.num_le (N := t.length * t.length) fun v hv => hv.1
  have hnn : t.length * t.length ≤ 36 := Nat.mul_le_mul hn hn
  have zr : ∀ n, (List.replicate n (0 : Int)).length = n := fun n => List.length_replicate
  refine Or.inr (Or.inl (cm [] [(6, 22), (4, 504)] (nCollP_fn 93) ?_))
  refine And.intro (by repeat' first | refine And.intro ?_ ?_ | exact True.intro | (show (_ : Int) = (_ : Int); omega) | omega | exact rfl | (simp only [RO.len]; omega)) ?_
  refine And.intro (by omega) ?_
  refine And.intro (by omega) ?_
  refine Or.inr (Or.inl (cm [] [(7, 34), (5, 505)] (cnew_fn t.length (by omega)) ?_))
  refine And.intro (by repeat' first | refine And.intro ?_ ?_ | exact True.intro | (show (_ : Int) = (_ : Int); omega) | omega | exact rfl | (simp only [RO.len]; omega)) ?_
  refine Exists.intro [] <| lp6 (fun (i : Nat) (_ _ : List Int) (_ : List Prn) (_ : List Int) (_ : Int) => [(40, .int .i64 i), (8, .vec 168)]) (fun _ N J L p m => prV t N J L p m) (fun i N J L p _ => i ≤ C.length ∧ PcI t C i N J L ∧ p.length = t.length) (fun i _ _ _ _ _ => C.length - i) 0 (List.replicate (csI C).length 0) [] [] (disI t.length) t.length ⟨Nat.zero_le _, by rw [hcl]; exact PcI.start C, disI_len _⟩ (by repeat' first | refine And.intro ?_ ?_ | exact True.intro | (show (_ : Int) = (_ : Int); omega) | omega | exact rfl | (simp only [RO.len]; omega)) ?_
  rintro ci N J L p m ⟨hci, hI, hpl⟩
  have hfew := hI.few hs hn
  refine And.intro (fun h1 => ?_) (fun h1 => ?_)
  · have h1 : (ci : Int) < ((csI C).length : Int) := h1
    have hcil : ci < C.length := by omega
    have hml := hN.ml hcil
    refine And.intro (by omega) ?_
    refine Or.inr (Or.inl (cm [] [(1000, 34), (1002, 505), (1001, 1001), (37, 48)] (nspan_fn t g c C lv hS ci hcil (fun v hv => (hN.gp hcil hv).1) (by omega) p m hpl) ?_))
    refine And.intro (by repeat' first | refine And.intro ?_ ?_ | exact True.intro | (show (_ : Int) = (_ : Int); omega) | omega | exact rfl | (simp only [RO.len]; omega)) ?_
    have hgl : ((csI C).getD ci []).length = (C.getD ci []).length := by simp [csI, natI, List.getD, hcil]
    have hgi : (csI C).getD ci [] = natI (C.getD ci []) := by simp [csI, List.getD, hcil]
    refine Exists.intro [48] <| lp5 (fun (a : Nat) (_ : List Int) (_ : Nat → Nat) (_ : List Int) (_ : List (Int × Int)) => [(51, .int .i64 a), (12, .vec 48)]) (fun _ J r p W => [(168, .vec 0 (.ints .i64 J) []), (34, .box [.vec 505, .int .i64 (cntR t.length r : Nat)]), (505, .vec 0 (.ints .i64 p) []), (48, .vec 0 (.pairs W) [])]) (fun a J r p W => a ≤ (C.getD ci []).length ∧ PcW t g C ci L a 0 L.length 0 J r p W) (fun a _ _ _ _ => (C.getD ci []).length - a) 0 J (snS t.length (C.getD ci [])).1 (snP t.length (C.getD ci [])) (snS t.length (C.getD ci [])).2 ⟨Nat.zero_le _, PcW.start hN hs hcil hI⟩ (by repeat' first | refine And.intro ?_ ?_ | exact True.intro | (show (_ : Int) = (_ : Int); omega) | omega | exact rfl | (simp only [RO.len]; omega)) ?_
    rintro a J1 r p1 W ⟨ha, hW⟩
    refine And.intro (fun h2 => ?_) (fun h2 => ?_)
    · have h2 : (a : Int) < (((csI C).getD ci []).length : Int) := h2
      have hal : a < (C.getD ci []).length := by omega
      have hvm : (C.getD ci []).getD a 0 ∈ C.getD ci [] := getD_mem hal
      have hvg := (hN.gp hcil hvm).1
      have hgv : ((csI C).getD ci []).getD a 0 = (((C.getD ci []).getD a 0 : Nat) : Int) := by rw [hgi]; exact nat_get hal
      have hgll := hN.gl
      refine And.intro (by omega) ?_
      refine And.intro (by omega) ?_
      refine Exists.intro [48] <| lp5 (fun (k : Nat) (_ : List Int) (_ : Nat → Nat) (_ : List Int) (_ : List (Int × Int)) => [(61, .int .i64 k), (12, .vec 48)]) (fun _ J r p W => [(168, .vec 0 (.ints .i64 J) []), (34, .box [.vec 505, .int .i64 (cntR t.length r : Nat)]), (505, .vec 0 (.ints .i64 p) []), (48, .vec 0 (.pairs W) [])]) (fun k J r p W => k ≤ 2 * g.length ∧ PcW t g C ci L a k L.length 0 J r p W) (fun k _ _ _ _ => 2 * g.length - k) 0 J1 r p1 W ⟨Nat.zero_le _, hW⟩ (by repeat' first | refine And.intro ?_ ?_ | exact True.intro | (show (_ : Int) = (_ : Int); omega) | omega | exact rfl | (simp only [RO.len]; omega)) ?_
      rintro k J2 r2 p2 W2 ⟨hk, hW2⟩
      refine And.intro (fun h3 => ?_) (fun h3 => ?_)
      · have h3 : (k : Int) < 2 * (g.length : Int) := h3
        have hkl : k < 2 * g.length := by omega
        refine Or.inr (Or.inl (cm [] [(1001, 1001)] (ntgF_fn t g c C lv hS hN.sp.el ((C.getD ci []).getD a 0) k hvg hkl) ?_))
        refine And.intro (by repeat' first | refine And.intro ?_ ?_ | exact True.intro | exact hgv | (show (_ : Int) = (_ : Int); omega) | omega | exact rfl | (simp only [RO.len]; omega)) ?_
        have hgw : ∀ w : Nat, tgN t g ((C.getD ci []).getD a 0) k = (w : Int) → w / t.length < t.length ∧ w % t.length < t.length := fun w hw => by
          have := gp_le (tg_gp hS hN.sp.el hvg hkl hw)
          exact ⟨this.1, this.2.1⟩
        refine And.intro (fun h4 => ?_) (fun h4 => ?_)
        · have h4 : ((cntR t.length r2 : Nat) : Int) = 1 := h4
          refine And.intro (by omega) ?_
          exact nx (k + 1, J2, r2, p2, W2) ⟨by omega, hW2.edge fun w hw => cnt_one hW2.fo (by omega) (hgw w hw).1 (hgw w hw).2⟩ (show 2 * g.length - (k + 1) < 2 * g.length - k by omega) (by repeat' first | refine And.intro ?_ ?_ | exact True.intro | (show (_ : Int) = (_ : Int); omega) | omega | exact rfl | (simp only [RO.len]; omega))
        refine And.intro (fun h5 => ?_) (fun h5 => ?_)
        · have h5 : tgN t g ((C.getD ci []).getD a 0) k < 0 := h5
          refine And.intro (by omega) ?_
          exact nx (k + 1, J2, r2, p2, W2) ⟨by omega, hW2.edge fun w hw => by omega⟩ (show 2 * g.length - (k + 1) < 2 * g.length - k by omega) (by repeat' first | refine And.intro ?_ ?_ | exact True.intro | (show (_ : Int) = (_ : Int); omega) | omega | exact rfl | (simp only [RO.len]; omega))
        have h5 : 0 ≤ tgN t g ((C.getD ci []).getD a 0) k := h5
        have hw : tgN t g ((C.getD ci []).getD a 0) k = ((tgN t g ((C.getD ci []).getD a 0) k).toNat : Int) := by omega
        have hT := hW2.tgt (N := N) hN hs hcil hI hal hkl hw
        have hX : c.getD (tgN t g ((C.getD ci []).getD a 0) k).toNat 0 = gC c (tgN t g ((C.getD ci []).getD a 0) k).toNat := gC_in hT.1
        have hT1 := hT.1
        have hNl := hI.nl
        have hJl := hW2.jl
        refine And.intro (show 0 ≤ tgN t g ((C.getD ci []).getD a 0) k ∧ tgN t g ((C.getD ci []).getD a 0) k < (c.length : Int) by omega) ?_
        refine And.intro (fun h6 => ?_) (fun h6 => ?_)
        · have h6 : c.getD (tgN t g ((C.getD ci []).getD a 0) k).toNat 0 = (ci : Int) := h6
          refine And.intro (by omega) ?_
          refine nx (k + 1, J2, r2, p2, W2) ⟨by omega, hW2.edge fun w hw2 => ?_⟩ (show 2 * g.length - (k + 1) < 2 * g.length - k by omega) (by repeat' first | refine And.intro ?_ ?_ | exact True.intro | (show (_ : Int) = (_ : Int); omega) | omega | exact rfl | (simp only [RO.len]; omega))
          obtain rfl : w = (tgN t g ((C.getD ci []).getD a 0) k).toNat := by omega
          exact hT.2.2.2.1 (by omega)
        have h6 : c.getD (tgN t g ((C.getD ci []).getD a 0) k).toNat 0 ≠ (ci : Int) := h6
        have hlt : gC c (tgN t g ((C.getD ci []).getD a 0) k).toNat < (ci : Int) := by have := hT.2.2.1; omega
        have hX0 : 0 ≤ c.getD (tgN t g ((C.getD ci []).getD a 0) k).toNat 0 := by have := hT.2.1; omega
        have hi3 : N.getD (c.getD (tgN t g ((C.getD ci []).getD a 0) k).toNat 0).toNat 0 = ((N.getD (c.getD (tgN t g ((C.getD ci []).getD a 0) k).toNat 0).toNat 0).toNat : Int) ∧ (N.getD (c.getD (tgN t g ((C.getD ci []).getD a 0) k).toNat 0).toNat 0).toNat < L.length ∧
            (L.getD (N.getD (c.getD (tgN t g ((C.getD ci []).getD a 0) k).toNat 0).toNat 0).toNat prn0).2.1.getD ((tgN t g ((C.getD ci []).getD a 0) k).toNat / t.length) 0 = (L.getD (N.getD (c.getD (tgN t g ((C.getD ci []).getD a 0) k).toNat 0).toNat 0).toNat prn0).2.1.getD ((tgN t g ((C.getD ci []).getD a 0) k).toNat % t.length) 0 ∧
            ∀ x y, x < t.length → y < t.length → (L.getD (N.getD (c.getD (tgN t g ((C.getD ci []).getD a 0) k).toNat 0).toNat 0).toNat prn0).2.1.getD x 0 = (L.getD (N.getD (c.getD (tgN t g ((C.getD ci []).getD a 0) k).toNat 0).toNat 0).toNat prn0).2.1.getD y 0 → (qC t C ci).getD x 0 = (qC t C ci).getD y 0 := by
          rw [hX]
          obtain ⟨i, e1, e2, e3, e4⟩ := hT.2.2.2.2 hlt
          have : (N.getD (gC c (tgN t g ((C.getD ci []).getD a 0) k).toNat).toNat 0).toNat = i := by omega
          rw [this]; exact ⟨e1, e2, e3, e4⟩
        have hY0 : 0 ≤ (N.getD (c.getD (tgN t g ((C.getD ci []).getD a 0) k).toNat 0).toNat 0) ∧ (N.getD (c.getD (tgN t g ((C.getD ci []).getD a 0) k).toNat 0).toNat 0) < (L.length : Int) := by have := hi3.1; have := hi3.2.1; omega
        refine And.intro (show 0 ≤ tgN t g ((C.getD ci []).getD a 0) k ∧ tgN t g ((C.getD ci []).getD a 0) k < (c.length : Int) by omega) ?_
        refine And.intro (show 0 ≤ c.getD (tgN t g ((C.getD ci []).getD a 0) k).toNat 0 ∧ c.getD (tgN t g ((C.getD ci []).getD a 0) k).toNat 0 < (N.length : Int) by omega) ?_
        refine And.intro (show 0 ≤ N.getD (c.getD (tgN t g ((C.getD ci []).getD a 0) k).toNat 0).toNat 0 ∧ N.getD (c.getD (tgN t g ((C.getD ci []).getD a 0) k).toNat 0).toNat 0 < (J2.length : Int) by omega) ?_
        refine And.intro (by omega) ?_
        refine And.intro (fun h7 => ?_) (fun h7 => ?_)
        · have h7 : J2.getD (N.getD (c.getD (tgN t g ((C.getD ci []).getD a 0) k).toNat 0).toNat 0).toNat 0 = (ci : Int) + 1 := h7
          refine And.intro (by omega) ?_
          refine nx (k + 1, J2, r2, p2, W2) ⟨by omega, hW2.edge fun w hw2 => ?_⟩ (show 2 * g.length - (k + 1) < 2 * g.length - k by omega) (by repeat' first | refine And.intro ?_ ?_ | exact True.intro | (show (_ : Int) = (_ : Int); omega) | omega | exact rfl | (simp only [RO.len]; omega))
          obtain rfl : w = (tgN t g ((C.getD ci []).getD a 0) k).toNat := by omega
          exact hW2.cls hI.ok hi3.2.1 h7 _ _ (hgw _ hw).1 (hgw _ hw).2 hi3.2.2.1
        have h7 : J2.getD (N.getD (c.getD (tgN t g ((C.getD ci []).getD a 0) k).toNat 0).toNat 0).toNat 0 ≠ (ci : Int) + 1 := h7
        refine And.intro (show 0 ≤ tgN t g ((C.getD ci []).getD a 0) k ∧ tgN t g ((C.getD ci []).getD a 0) k < (c.length : Int) by omega) ?_
        refine And.intro (show 0 ≤ c.getD (tgN t g ((C.getD ci []).getD a 0) k).toNat 0 ∧ c.getD (tgN t g ((C.getD ci []).getD a 0) k).toNat 0 < (N.length : Int) by omega) ?_
        refine And.intro (by omega) ?_
        refine And.intro (show 0 ≤ (N.getD (c.getD (tgN t g ((C.getD ci []).getD a 0) k).toNat 0).toNat 0) ∧ (N.getD (c.getD (tgN t g ((C.getD ci []).getD a 0) k).toNat 0).toNat 0) < (J2.length : Int) by omega) ?_
        refine And.intro (by omega) ?_
        refine And.intro (show 0 ≤ (N.getD (c.getD (tgN t g ((C.getD ci []).getD a 0) k).toNat 0).toNat 0) ∧ (N.getD (c.getD (tgN t g ((C.getD ci []).getD a 0) k).toNat 0).toNat 0) < (L.length : Int) by omega) ?_
        have hPo := hI.ok _ (getD_mem (d := prn0) hi3.2.1)
        have hPl := hPo.pl
        have hJs : (J2.set (N.getD (c.getD (tgN t g ((C.getD ci []).getD a 0) k).toNat 0).toNat 0).toNat ((ci : Int) + 1)).getD (N.getD (c.getD (tgN t g ((C.getD ci []).getD a 0) k).toNat 0).toNat 0).toNat 0 = (ci : Int) + 1 := getD_set_eq (by omega)
        refine Exists.intro [48] <| lp4 (fun (s : Nat) (_ : Nat → Nat) (_ : List Int) (_ : List (Int × Int)) => [(130, .int .i64 s), (12, .vec 48)]) (fun _ r p W => [(34, .box [.vec 505, .int .i64 (cntR t.length r : Nat)]), (505, .vec 0 (.ints .i64 p) []), (48, .vec 0 (.pairs W) [])]) (fun s r p W => s ≤ (L.getD (N.getD (c.getD (tgN t g ((C.getD ci []).getD a 0) k).toNat 0).toNat 0).toNat prn0).2.2.length ∧ PcW t g C ci L a k (N.getD (c.getD (tgN t g ((C.getD ci []).getD a 0) k).toNat 0).toNat 0).toNat s (J2.set (N.getD (c.getD (tgN t g ((C.getD ci []).getD a 0) k).toNat 0).toNat 0).toNat ((ci : Int) + 1)) r p W) (fun s _ _ _ => (L.getD (N.getD (c.getD (tgN t g ((C.getD ci []).getD a 0) k).toNat 0).toNat 0).toNat prn0).2.2.length - s) 0 r2 p2 W2 ⟨Nat.zero_le _, hW2.open hi3.2.1 h7⟩ (by repeat' first | refine And.intro ?_ ?_ | exact True.intro | (show (_ : Int) = (_ : Int); omega) | omega | exact rfl | (simp only [RO.len]; omega)) ?_
        rintro s r3 p3 W3 ⟨hsl, hW3⟩
        refine And.intro (fun h8 => ?_) (fun h8 => ?_)
        · have h8 : (s : Int) < ((L.getD (N.getD (c.getD (tgN t g ((C.getD ci []).getD a 0) k).toNat 0).toNat 0).toNat prn0).2.2.length : Int) := h8
          have hsl2 : s < (L.getD (N.getD (c.getD (tgN t g ((C.getD ci []).getD a 0) k).toNat 0).toNat 0).toNat prn0).2.2.length := by omega
          have hin := hPo.inw _ (getD_mem (d := (0, 0)) hsl2)
          have he : (L.getD (N.getD (c.getD (tgN t g ((C.getD ci []).getD a 0) k).toNat 0).toNat 0).toNat prn0).2.2.getD s (0, 0) = ((((L.getD (N.getD (c.getD (tgN t g ((C.getD ci []).getD a 0) k).toNat 0).toNat 0).toNat prn0).2.2.getD s (0, 0)).1.toNat : Int), (((L.getD (N.getD (c.getD (tgN t g ((C.getD ci []).getD a 0) k).toNat 0).toNat 0).toNat prn0).2.2.getD s (0, 0)).2.toNat : Int)) := by
            rw [Int.toNat_of_nonneg hin.1.1, Int.toNat_of_nonneg hin.2.1]
          have hP := hW3.pair hI.ok hi3.2.1 hJs hsl2 hi3.2.2.2 he
          have e1 : ((L.getD (N.getD (c.getD (tgN t g ((C.getD ci []).getD a 0) k).toNat 0).toNat 0).toNat prn0).2.2.getD s (0, 0)).1 = (((L.getD (N.getD (c.getD (tgN t g ((C.getD ci []).getD a 0) k).toNat 0).toNat 0).toNat prn0).2.2.getD s (0, 0)).1.toNat : Int) := (Int.toNat_of_nonneg hin.1.1).symm
          have e2 : ((L.getD (N.getD (c.getD (tgN t g ((C.getD ci []).getD a 0) k).toNat 0).toNat 0).toNat prn0).2.2.getD s (0, 0)).2 = (((L.getD (N.getD (c.getD (tgN t g ((C.getD ci []).getD a 0) k).toNat 0).toNat 0).toNat prn0).2.2.getD s (0, 0)).2.toNat : Int) := (Int.toNat_of_nonneg hin.2.1).symm
          have hwl := hW3.wl
          refine And.intro (by omega) ?_
          refine And.intro (by omega) ?_
          refine And.intro (fun _ => ?_) (And.intro (fun h => absurd h (by omega)) trivial)
          refine And.intro (by omega) ?_
          refine And.intro (fun h => absurd h (by omega)) (And.intro (fun _ => ?_) trivial)
          refine Or.inr (Or.inl (cm [] [(1000, 34), (1001, 505)] (cjoin_fn t.length p3 r3 ((L.getD (N.getD (c.getD (tgN t g ((C.getD ci []).getD a 0) k).toNat 0).toNat 0).toNat prn0).2.2.getD s (0, 0)).1.toNat ((L.getD (N.getD (c.getD (tgN t g ((C.getD ci []).getD a 0) k).toNat 0).toNat 0).toNat prn0).2.2.getD s (0, 0)).2.toNat hW3.fo hP.1 hP.2.1 (by omega)) ?_))
          refine And.intro (by repeat' first | refine And.intro ?_ ?_ | exact True.intro | exact e1 | exact e2 | (show (_ : Int) = (_ : Int); omega) | omega | exact rfl | (simp only [RO.len]; omega)) ?_
          refine And.intro (fun h9 => ?_) (fun h9 => ?_)
          · have h9 : r3 ((L.getD (N.getD (c.getD (tgN t g ((C.getD ci []).getD a 0) k).toNat 0).toNat 0).toNat prn0).2.2.getD s (0, 0)).1.toNat ≠ r3 ((L.getD (N.getD (c.getD (tgN t g ((C.getD ci []).getD a 0) k).toNat 0).toNat 0).toNat prn0).2.2.getD s (0, 0)).2.toNat := of_decide_eq_true h9
            have hP2 := hP.2.2
            rw [if_neg h9] at hP2
            have hW4 : RO.pairs (W3 ++ [(((L.getD (N.getD (c.getD (tgN t g ((C.getD ci []).getD a 0) k).toNat 0).toNat 0).toNat prn0).2.2.getD s (0, 0)).1, ((L.getD (N.getD (c.getD (tgN t g ((C.getD ci []).getD a 0) k).toNat 0).toNat 0).toNat prn0).2.2.getD s (0, 0)).2)]) = RO.pairs (W3 ++ [((((L.getD (N.getD (c.getD (tgN t g ((C.getD ci []).getD a 0) k).toNat 0).toNat 0).toNat prn0).2.2.getD s (0, 0)).1.toNat : Int), (((L.getD (N.getD (c.getD (tgN t g ((C.getD ci []).getD a 0) k).toNat 0).toNat 0).toNat prn0).2.2.getD s (0, 0)).2.toNat : Int))]) := by rw [← e1, ← e2]
            refine And.intro (show ((W3 ++ [(((L.getD (N.getD (c.getD (tgN t g ((C.getD ci []).getD a 0) k).toNat 0).toNat 0).toNat prn0).2.2.getD s (0, 0)).1, ((L.getD (N.getD (c.getD (tgN t g ((C.getD ci []).getD a 0) k).toNat 0).toNat 0).toNat prn0).2.2.getD s (0, 0)).2)]).length : Int) ≤ 2199023255552 by rw [List.length_append, List.length_singleton]; omega) ?_
            refine And.intro (by omega) ?_
            exact nx (s + 1, jnR r3 ((L.getD (N.getD (c.getD (tgN t g ((C.getD ci []).getD a 0) k).toNat 0).toNat 0).toNat prn0).2.2.getD s (0, 0)).1.toNat ((L.getD (N.getD (c.getD (tgN t g ((C.getD ci []).getD a 0) k).toNat 0).toNat 0).toNat prn0).2.2.getD s (0, 0)).2.toNat, jnP r3 p3 ((L.getD (N.getD (c.getD (tgN t g ((C.getD ci []).getD a 0) k).toNat 0).toNat 0).toNat prn0).2.2.getD s (0, 0)).1.toNat ((L.getD (N.getD (c.getD (tgN t g ((C.getD ci []).getD a 0) k).toNat 0).toNat 0).toNat prn0).2.2.getD s (0, 0)).2.toNat, W3 ++ [((((L.getD (N.getD (c.getD (tgN t g ((C.getD ci []).getD a 0) k).toNat 0).toNat 0).toNat prn0).2.2.getD s (0, 0)).1.toNat : Int), (((L.getD (N.getD (c.getD (tgN t g ((C.getD ci []).getD a 0) k).toNat 0).toNat 0).toNat prn0).2.2.getD s (0, 0)).2.toNat : Int))]) ⟨by omega, hP2⟩ (show (L.getD (N.getD (c.getD (tgN t g ((C.getD ci []).getD a 0) k).toNat 0).toNat 0).toNat prn0).2.2.length - (s + 1) < (L.getD (N.getD (c.getD (tgN t g ((C.getD ci []).getD a 0) k).toNat 0).toNat 0).toNat prn0).2.2.length - s by omega) (by repeat' first | refine And.intro ?_ ?_ | exact True.intro | exact hW4 | (show (_ : Int) = (_ : Int); omega) | omega | exact rfl | (simp only [RO.len]; omega))
          · have h9 : r3 ((L.getD (N.getD (c.getD (tgN t g ((C.getD ci []).getD a 0) k).toNat 0).toNat 0).toNat prn0).2.2.getD s (0, 0)).1.toNat = r3 ((L.getD (N.getD (c.getD (tgN t g ((C.getD ci []).getD a 0) k).toNat 0).toNat 0).toNat prn0).2.2.getD s (0, 0)).2.toNat := Classical.byContradiction fun hne => by
              have := (decide_eq_true hne).symm.trans h9
              cases this
            have hP2 := hP.2.2
            rw [if_pos h9] at hP2
            refine And.intro (by omega) ?_
            exact nx (s + 1, jnR r3 ((L.getD (N.getD (c.getD (tgN t g ((C.getD ci []).getD a 0) k).toNat 0).toNat 0).toNat prn0).2.2.getD s (0, 0)).1.toNat ((L.getD (N.getD (c.getD (tgN t g ((C.getD ci []).getD a 0) k).toNat 0).toNat 0).toNat prn0).2.2.getD s (0, 0)).2.toNat, jnP r3 p3 ((L.getD (N.getD (c.getD (tgN t g ((C.getD ci []).getD a 0) k).toNat 0).toNat 0).toNat prn0).2.2.getD s (0, 0)).1.toNat ((L.getD (N.getD (c.getD (tgN t g ((C.getD ci []).getD a 0) k).toNat 0).toNat 0).toNat prn0).2.2.getD s (0, 0)).2.toNat, W3) ⟨by omega, hP2⟩ (show (L.getD (N.getD (c.getD (tgN t g ((C.getD ci []).getD a 0) k).toNat 0).toNat 0).toNat prn0).2.2.length - (s + 1) < (L.getD (N.getD (c.getD (tgN t g ((C.getD ci []).getD a 0) k).toNat 0).toNat 0).toNat prn0).2.2.length - s by omega) (by repeat' first | refine And.intro ?_ ?_ | exact True.intro | (show (_ : Int) = (_ : Int); omega) | omega | exact rfl | (simp only [RO.len]; omega))
        · have h8 : ((L.getD (N.getD (c.getD (tgN t g ((C.getD ci []).getD a 0) k).toNat 0).toNat 0).toNat prn0).2.2.length : Int) ≤ (s : Int) := h8
          have hsh := hW3.shut hi3.2.1 (by omega)
          refine And.intro (by omega) ?_
          refine nx (k + 1, J2.set (N.getD (c.getD (tgN t g ((C.getD ci []).getD a 0) k).toNat 0).toNat 0).toNat ((ci : Int) + 1), r3, p3, W3) ⟨by omega, hsh.edge fun w hw2 => ?_⟩ (show 2 * g.length - (k + 1) < 2 * g.length - k by omega) (by repeat' first | refine And.intro ?_ ?_ | exact True.intro | (show (_ : Int) = (_ : Int); omega) | omega | exact rfl | (simp only [RO.len]; omega))
          obtain rfl : w = (tgN t g ((C.getD ci []).getD a 0) k).toNat := by omega
          exact hsh.cls hI.ok hi3.2.1 hJs _ _ (hgw _ hw).1 (hgw _ hw).2 hi3.2.2.1
      · have h3 : 2 * (g.length : Int) ≤ (k : Int) := h3
        have hke : k = 2 * g.length := by omega
        refine And.intro (by omega) ?_
        refine nx (a + 1, J2, r2, p2, W2) ⟨by omega, hW2.row (by omega)⟩ (show (C.getD ci []).length - (a + 1) < (C.getD ci []).length - a by omega) (by repeat' first | refine And.intro ?_ ?_ | exact True.intro | (show (_ : Int) = (_ : Int); omega) | omega | exact rfl | (simp only [RO.len]; omega))
    · have h2 : (((csI C).getD ci []).length : Int) ≤ (a : Int) := h2
      have hae : (C.getD ci []).length ≤ a := by omega
      have hne := hN.net.ne ci hcil
      have hcpos : 0 < (C.getD ci []).length := List.length_pos_iff.2 hne
      have hhd : ((csI C).getD ci []).getD 0 0 = ((hdC C ci : Nat) : Int) := by rw [hgi]; exact nat_get hcpos
      have hdn := hW.done hN hs hcil hI.ok hae
      have hQi := qC_is (C := C) hs ci
      have hsm := cg_small hQi hn
      have hwl := hW.wl
      have hfl := (fndA_fo hW.fo t.length (Nat.le_refl _)).len
      have hNl := hI.nl
      have hJl := hW.jl
      refine And.intro (show (0 : Int) ≤ 0 ∧ (0 : Int) < (((csI C).getD ci []).length : Int) by omega) ?_
      refine Or.inr (Or.inl (cm [] [(1001, 1001)] (nend_fn t g c C lv (by have := hS.pos; omega) (hdC C ci)) ?_))
      refine And.intro (by repeat' first | refine And.intro ?_ ?_ | exact True.intro | exact hhd | (show (_ : Int) = (_ : Int); omega) | omega | exact rfl | (simp only [RO.len]; omega)) ?_
      refine Or.inr (Or.inl (cm [] [(1000, 34), (1001, 505), (12, 155)] (cpart_fn t.length p1 r (cntR t.length r : Nat) hW.fo (by omega)) ?_))
      refine And.intro (by repeat' first | refine And.intro ?_ ?_ | exact True.intro | (show (_ : Int) = (_ : Int); omega) | omega | exact rfl | (simp only [RO.len]; omega)) ?_
      by_cases hmem : qC t C ci ∈ L.map fun e => e.2.1
      · have hold := pr_old hmem
        have hoi : ((hold.choose : Nat) : Int) = hold.choose := rfl
        have ho1 := hold.choose_spec.1
        have ho2 := hold.choose_spec.2.1
        have ho3 := hold.choose_spec.2.2
        refine Or.inr (Or.inl (cm [155, 48] [(1000, 22), (1001, 504), (502, 506)] (collP_old_fn (prM L) L (itC t C ci (qC t C ci) W) hsm.1 hsm.2 (hold.choose : Nat) ho1) ?_))
        refine And.intro (by repeat' first | refine And.intro ?_ ?_ | exact True.intro | exact congrArg (RO.ints .i64) hdn.2 | (show (_ : Int) = (_ : Int); omega) | omega | exact rfl | (simp only [RO.len]; omega)) ?_
        refine And.intro (by omega) ?_
        refine And.intro (by omega) ?_
        refine And.intro (fun h => absurd (show (2000 : Int) ≤ (L.length : Int) from h) (by have := ho2; omega)) (fun _ => ?_)
        refine And.intro (by omega) ?_
        exact nx (ci + 1, N.set ci ((hold.choose : Nat) : Int), J1, L, fndA p1 t.length, ((cntR t.length r : Nat) : Int)) ⟨by omega, hW.old hI hcil ho2 ho3, hfl⟩ (show C.length - (ci + 1) < C.length - ci by omega) (by repeat' first | refine And.intro ?_ ?_ | exact True.intro | exact pr_add hmem | (show (_ : Int) = (_ : Int); omega) | omega | exact rfl | (simp only [RO.len]; omega))
      · refine Or.inr (Or.inl (cm [155, 48] [(1000, 22), (1001, 504), (502, 506)] (collP_new_fn (prM L) L (itC t C ci (qC t C ci) W) hsm.1 hsm.2 (by omega) (pr_new hmem)) ?_))
        refine And.intro (by repeat' first | refine And.intro ?_ ?_ | exact True.intro | exact congrArg (RO.ints .i64) hdn.2 | (show (_ : Int) = (_ : Int); omega) | omega | exact rfl | (simp only [RO.len]; omega)) ?_
        refine And.intro (by omega) ?_
        refine And.intro (by omega) ?_
        refine And.intro (show (((J1 ++ [0]).length : Nat) : Int) ≤ 17592186044416 by rw [List.length_append, List.length_singleton]; omega) ?_
        refine And.intro (fun h => absurd (show (2000 : Int) ≤ (((L ++ [itC t C ci (qC t C ci) W]).length : Nat) : Int) from h) (by rw [List.length_append, List.length_singleton]; omega)) (fun _ => ?_)
        refine And.intro (by omega) ?_
        exact nx (ci + 1, N.set ci ((L.length : Nat) : Int), J1 ++ [0], L ++ [itC t C ci (qC t C ci) W], fndA p1 t.length, ((cntR t.length r : Nat) : Int)) ⟨by omega, hW.new hN hs hI hcil hae hmem, hfl⟩ (show C.length - (ci + 1) < C.length - ci by omega) (by repeat' first | refine And.intro ?_ ?_ | exact True.intro | exact congrArg (BV.map .str (some .i64)) (pr_add hmem) | exact pr_add hmem | (show (_ : Int) = (_ : Int); omega) | omega | exact rfl | (simp only [RO.len]; omega))
  · have h1 : ((csI C).length : Int) ≤ (ci : Int) := h1
    have hce : ci = C.length := by omega
    have hd : PrL t L := PcI.done hN hs (hce ▸ hI)
    refine Exists.intro L (And.intro hd ?_)
    repeat' first | refine And.intro ?_ ?_ | exact True.intro | (show (_ : Int) = (_ : Int); omega) | omega | exact rfl | (simp only [RO.len]; omega)
end Go.Proofs.Ytpanlghofeebhaa
end
section
/- Plain: a partition in canonical form as a forest: each member's parent is the first of its class. -/
namespace Go.Proofs.Ytpanlghofeebhaa
open Go Go.AM
def frI (p : List Int) (x : Nat) : Nat := p.idxOf (p.getD x 0)
theorem idx_le : ∀ {p : List Int} {x : Nat}, x < p.length → p.idxOf (p.getD x 0) ≤ x
  | [], x, h => by simp at h
  | a :: p, 0, _ => by simp
  | a :: p, x + 1, h => by
    have h : x < p.length := by simpa using h
    have e : (a :: p).getD (x + 1) 0 = p.getD x 0 := rfl
    rw [e]
    have ih := idx_le h
    rw [List.idxOf_cons]
    cases a == p.getD x 0
    · simpa using ih
    · simp
theorem frI_le {p : List Int} {x : Nat} (h : x < p.length) : frI p x ≤ x := idx_le h
theorem frI_get {p : List Int} {x : Nat} (h : x < p.length) : p.getD (frI p x) 0 = p.getD x 0 := by
  have hm : p.getD x 0 ∈ p := getD_mem h
  have h1 : p.idxOf (p.getD x 0) < p.length := List.idxOf_lt_length_of_mem hm
  have h2 : p[p.idxOf (p.getD x 0)]? = some (p.getD x 0) := by rw [List.getElem?_eq_getElem h1, List.getElem_idxOf]
  unfold frI
  show (p[p.idxOf (p.getD x 0)]?).getD 0 = _
  rw [h2]; rfl
theorem frI_eq {p : List Int} {x y : Nat} (e : p.getD x 0 = p.getD y 0) : frI p x = frI p y := by unfold frI; rw [e]
theorem frI_iff {p : List Int} {x y : Nat} (hx : x < p.length) (hy : y < p.length) : frI p x = frI p y ↔ p.getD x 0 = p.getD y 0 :=
  ⟨fun e => by rw [← frI_get hx, e, frI_get hy], frI_eq⟩
theorem cntR_succ (k : Nat) (r : Nat → Nat) : cntR (k + 1) r = cntR k r + if r k = k then 1 else 0 := by
  unfold cntR
  rw [List.range_succ, List.filter_append, List.length_append]
  congr 1
  by_cases h : r k = k
  · rw [if_pos h]; simp [rtB, h]
  · rw [if_neg h]; simp [rtB, h]
structure LdI (p : List Int) (k : Nat) (F P : List Int) : Prop where
  cl : F.length = cntR k (frI p)
  fl : F.length = (firsts (p.take k)).length
  fs : ∀ x, x < k → F.getD (p.getD x 0).toNat 0 = (frI p x : Nat)
  pl : P.length = p.length
  ps : ∀ x, x < k → P.getD x 0 = (frI p x : Nat)
theorem LdI.start {p P : List Int} (h : P.length = p.length) : LdI p 0 [] P :=
  ⟨by simp [cntR], by simp [firsts], fun x hx => absurd hx (Nat.not_lt_zero _), h, fun x hx => absurd hx (Nat.not_lt_zero _)⟩
section
variable {p F P : List Int} {k : Nat}
theorem LdI.le (h : LdI p k F P) (hc : canon p = p) (hk : k < p.length) : 0 ≤ p.getD k 0 ∧ p.getD k 0 ≤ (F.length : Int) := by
  have h1 := canon_fix.1 hc k hk
  unfold stepOk at h1
  rw [← h.fl] at h1
  exact h1
theorem LdI.lt (h : LdI p k F P) (hc : canon p = p) (hk : k < p.length) {x : Nat} (hx : x < k) : 0 ≤ p.getD x 0 ∧ p.getD x 0 < (F.length : Int) := by
  have h1 := firsts_mono (canon_fix.1 hc) (i := k) (Nat.le_of_lt hk) hx
  rw [← h.fl] at h1
  exact ⟨(canon_le hc (by omega : x < p.length)).1, h1⟩
theorem LdI.new (h : LdI p k F P) (hc : canon p = p) (hk : k < p.length) (e : p.getD k 0 = (F.length : Int)) : LdI p (k + 1) (F ++ [(k : Int)]) (P.set k (k : Int)) := by
  have hr : frI p k = k := by
    have h1 := frI_le hk
    have h2 := frI_get hk
    by_cases e1 : frI p k = k
    · exact e1
    · have := (h.lt hc hk (x := frI p k) (by omega)).2
      omega
  have hn := valid_upto hk (canon_fix.1 hc)
  rw [← h.fl, if_pos e] at hn
  refine ⟨by rw [List.length_append, cntR_succ, if_pos hr, h.cl]; rfl, by rw [List.length_append, hn]; rfl, fun x hx => ?_, by rw [List.length_set]; exact h.pl, fun x hx => ?_⟩
  · by_cases e1 : x = k
    · subst e1
      rw [e, hr, getD_app, if_neg (by omega)]
      have : ((F.length : Nat) : Int).toNat - F.length = 0 := by omega
      rw [this]; rfl
    · have h1 := h.lt hc hk (x := x) (by omega)
      rw [getD_app, if_pos (by omega)]
      exact h.fs x (by omega)
  · by_cases e1 : x = k
    · subst e1; rw [getD_set_eq (by rw [h.pl]; exact hk), hr]
    · rw [getD_set_ne (Ne.symm e1)]; exact h.ps x (by omega)
theorem LdI.old (h : LdI p k F P) (hc : canon p = p) (hk : k < p.length) (e : p.getD k 0 ≠ (F.length : Int)) : LdI p (k + 1) F (P.set k (F.getD (p.getD k 0).toNat 0)) ∧ p.getD k 0 < (F.length : Int) ∧ 0 ≤ F.getD (p.getD k 0).toNat 0 ∧ F.getD (p.getD k 0).toNat 0 < (p.length : Int) := by
  have hle := h.le hc hk
  have hf := firsts_valid (Nat.le_of_lt hk) fun j hj => canon_fix.1 hc j (by omega)
  have hm : p.getD k 0 ∈ p.take k := (firsts_range hf _).1 ⟨hle.1, by rw [← h.fl]; omega⟩
  obtain ⟨x, hx, ex⟩ := mem_getD 0 hm
  rw [List.length_take] at hx
  have hxk : x < k := by omega
  have ex2 : p.getD x 0 = p.getD k 0 := by
    rw [← ex]
    simp [List.getD, hxk]
  have hr : frI p k = frI p x := frI_eq ex2.symm
  have hrx := frI_le (p := p) (x := x) (by omega)
  have hF : F.getD (p.getD k 0).toNat 0 = (frI p k : Nat) := by rw [← ex2, hr]; exact h.fs x hxk
  have hn := valid_upto hk (canon_fix.1 hc)
  rw [← h.fl, if_neg e] at hn
  refine ⟨⟨by rw [cntR_succ, if_neg (by omega), h.cl]; rfl, hn.symm, fun y hy => ?_, by rw [List.length_set]; exact h.pl, fun y hy => ?_⟩, by omega, by omega, by rw [hF]; omega⟩
  · by_cases e1 : y = k
    · subst e1; exact hF
    · exact h.fs y (by omega)
  · by_cases e1 : y = k
    · subst e1; rw [getD_set_eq (by rw [h.pl]; exact hk), hF]
    · rw [getD_set_ne (Ne.symm e1)]; exact h.ps y (by omega)
def ldP (p : List Int) : List Int := (List.range p.length).map fun x => (frI p x : Nat)
theorem ldP_len : (ldP p).length = p.length := by simp [ldP]
theorem ldP_get {x : Nat} (h : x < p.length) : (ldP p).getD x 0 = (frI p x : Nat) := by simp [ldP, List.getD, h]
theorem LdI.done (h : LdI p k F P) (hk : p.length ≤ k) : P = ldP p :=
  ext_getD 0 (by rw [h.pl, ldP_len]) fun x hx => by rw [h.pl] at hx; rw [h.ps x (by omega), ldP_get hx]
theorem ld_fo : Fo p.length (ldP p) (frI p) := by
  refine ⟨ldP_len, fun i hi => ?_, fun i hi => ?_, fun i hi e => ?_⟩
  · rw [ldP_get hi]; have := frI_le hi; omega
  · rw [ldP_get hi, Int.toNat_natCast]
    exact frI_eq (frI_get hi)
  · rw [ldP_get hi] at e; omega
theorem ld_ker : KerR p.length (frI p) (fun a b => a < p.length ∧ b < p.length ∧ p.getD a 0 = p.getD b 0) := fun a b ha hb => by
  rw [frI_iff ha hb]
  refine ⟨fun e => .rel ⟨ha, hb, e⟩, fun e => ?_⟩
  exact Eg.least (Q := fun a b => p.getD a 0 = p.getD b 0) (fun _ => rfl) (fun _ _ h => h.symm) (fun _ _ _ h h' => h.trans h') (fun _ _ h => h.2.2) e
end
end Go.Proofs.Ytpanlghofeebhaa
end
section
namespace Go.Proofs.Ytpanlghofeebhaa
open Go Go.AM
set_option maxRecDepth 100000
theorem load_fn (p P : List Int) (c : Int) (hl : P.length = p.length) (hc : canon p = p) (hn : p.length ≤ 4096) : MF 54 [.ptr 1000 0, .ro (.ints .i64 p)] (foS P c) (.tup []) (foS (ldP p) (cntR p.length (frI p) : Nat)) := mkM Try.func54 (by decide +kernel) rfl (Nat.le_of_ble_eq_true rfl) fun _ => by
  refine And.intro (by omega) ?_
  refine And.intro (by omega) ?_
  refine Exists.intro [12] <| lp3 (fun (k : Nat) (_ _ : List Int) => [(15, .int .i64 k), (4, .vec 12)]) (fun _ F P => [(12, .vec 0 (.ints .i64 F) []), (1000, .box [.vec 1001, .int .i64 (F.length : Nat)]), (1001, .vec 0 (.ints .i64 P) [])]) (fun k F P => k ≤ p.length ∧ LdI p k F P) (fun k _ _ => p.length - k) 0 [] P ⟨Nat.zero_le _, LdI.start hl⟩ (by repeat' first | refine And.intro ?_ ?_ | exact True.intro | (show (_ : Int) = (_ : Int); omega) | omega | exact rfl | (simp only [RO.len]; omega)) ?_
  rintro k F P ⟨hk, hI⟩
  have hcl := hI.cl
  have hpl := hI.pl
  have hfl := hI.fl
  have hle2 := firsts_le (p.take k)
  rw [List.length_take] at hle2
  refine And.intro (fun h1 => ?_) (fun h1 => ?_)
  · have h1 : (k : Int) < (p.length : Int) := h1
    have hkl : k < p.length := by omega
    have hle := hI.le hc hkl
    refine And.intro (by omega) ?_
    refine And.intro (fun h2 => ?_) (fun h2 => ?_)
    · have h2 : p.getD k 0 = (F.length : Int) := h2
      have hv : (F ++ [(k : Int)]).getD (p.getD k 0).toNat 0 = (k : Int) := by
        rw [h2, getD_app, if_neg (by omega)]
        have : ((F.length : Nat) : Int).toNat - F.length = 0 := by omega
        rw [this]; rfl
      have hal : (F ++ [(k : Int)]).length = F.length + 1 := by rw [List.length_append]; rfl
      refine And.intro (show (((F ++ [(k : Int)]).length : Nat) : Int) ≤ 17592186044416 by omega) ?_
      refine And.intro (by omega) ?_
      refine Or.inl ?_
      refine Exists.intro [false, false, false, false, false, false, false, false, false, false, true] (And.intro (by decide +kernel) ?_)
      refine And.intro (show 0 ≤ p.getD k 0 ∧ p.getD k 0 < (((F ++ [(k : Int)]).length : Nat) : Int) by omega) ?_
      refine And.intro (by omega) ?_
      refine And.intro (by omega) ?_
      refine And.intro (by omega) ?_
      have hn := hI.new hc hkl h2
      exact nx (k + 1, F ++ [(k : Int)], P.set k (k : Int)) ⟨by omega, hn⟩ (show p.length - (k + 1) < p.length - k by omega) (by repeat' first | refine And.intro ?_ ?_ | exact True.intro | exact congrArg (fun v => RO.ints .i64 (P.set k v)) hv | (show (_ : Int) = (_ : Int); omega) | omega | exact rfl | (simp only [RO.len]; omega))
    · have h2 : p.getD k 0 ≠ (F.length : Int) := h2
      have ho := hI.old hc hkl h2
      refine Or.inl ?_
      refine Exists.intro [false, false, false, false, false, false, false, false, false, false, true] (And.intro (by decide +kernel) ?_)
      refine And.intro (show 0 ≤ p.getD k 0 ∧ p.getD k 0 < (F.length : Int) by omega) ?_
      refine And.intro (by omega) ?_
      refine And.intro (by omega) ?_
      refine And.intro (by omega) ?_
      exact nx (k + 1, F, P.set k (F.getD (p.getD k 0).toNat 0)) ⟨by omega, ho.1⟩ (show p.length - (k + 1) < p.length - k by omega) (by repeat' first | refine And.intro ?_ ?_ | exact True.intro | (show (_ : Int) = (_ : Int); omega) | omega | exact rfl | (simp only [RO.len]; omega))
  · have h1 : (p.length : Int) ≤ (k : Int) := h1
    have e : k = p.length := by omega
    have hd := hI.done (by omega)
    subst e
    repeat' first | refine And.intro ?_ ?_ | exact True.intro | exact congrArg (RO.ints .i64) hd | (show (_ : Int) = (_ : Int); omega) | omega | exact rfl | (simp only [RO.len]; omega)
end Go.Proofs.Ytpanlghofeebhaa
end
