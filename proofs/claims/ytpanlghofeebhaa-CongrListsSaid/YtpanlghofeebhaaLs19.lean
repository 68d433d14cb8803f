import Derived.Test.YtpanlghofeebhaaLod
import Derived.Test.YtpanlghofeebhaaClone
import Derived.Test.YtpanlghofeebhaaIdealLaw
import Derived.Test.YtpanlghofeebhaaCgFor
import Derived.Test.YtpanlghofeebhaaAllLaw
import Derived.Test.YtpanlghofeebhaaCgSyn
import Derived.Test.YtpanlghofeebhaaGroup
import Derived.Test.YtpanlghofeebhaaEqvLaw
section
/- congr.All: the walk. -/
namespace Go.Proofs.Ytpanlghofeebhaa
open Go Go.AM
set_option maxRecDepth 100000
set_option maxHeartbeats 8000000
theorem map_no {α : Type} [DecidableEq α] {key : α → List Int} (hk : ∀ a b, key a = key b → a = b) {x : α} {fs : List α} (h : x ∉ fs) : getM (mapOf key 0 fs) (key x) = none := by
  have h1 := getM_mapOf (key := key) hk (x := x) (fs := fs) (n := 0)
  rw [if_neg h] at h1; exact h1
theorem all_fn (t : List (List Int)) (hs : Semi t) (hn : t.length ≤ 6) : EF 14 [.ro (.rows .i64 t)] (fun _ : Unit => .tup [.ro (.rows .i64 (cgsL t)), .int .i64 0]) (fun _ => True) := mkE Try.func14 (by decide +kernel) rfl (Nat.le_of_ble_eq_true rfl) fun _ => by
  have hS := hs.toSh
  refine Or.inl (cq (valid_fn t) (And.intro rfl trivial) ?_)
  have hv : validV t = 0 := valid_zero.2 hs
  refine And.intro (fun h1 => absurd hv h1) (fun _ => ?_)
  refine Or.inr (Or.inl (cn [] [(19, 23)] (nnew_fn t hS (by omega)) ?_))
  refine And.intro (by repeat' first | refine And.intro ?_ ?_ | exact True.intro | (show (_ : Int) = (_ : Int); omega) | omega | exact rfl | (simp only [RO.len]; omega)) ?_
  refine all4 fun g c C lv hN => ?_
  have hN : NetOk t g c C lv := hN
  refine Or.inr (Or.inl (cn [] [(1001, 23), (506, 506)] (prc_fn t g c C lv hN hs hn) ?_))
  refine And.intro (by repeat' first | refine And.intro ?_ ?_ | exact True.intro | (show (_ : Int) = (_ : Int); omega) | omega | exact rfl | (simp only [RO.len]; omega)) ?_
  intro L hL
  refine Or.inr (Or.inl (cm [] [(7, 31), (5, 505)] (cnew_fn t.length (by omega)) ?_))
  refine And.intro (by repeat' first | refine And.intro ?_ ?_ | exact True.intro | (show (_ : Int) = (_ : Int); omega) | omega | exact rfl | (simp only [RO.len]; omega)) ?_
  refine Or.inr (Or.inl (cm [] [(6, 32), (4, 504)] (nColl_fn 51) ?_))
  refine And.intro (by repeat' first | refine And.intro ?_ ?_ | exact True.intro | (show (_ : Int) = (_ : Int); omega) | omega | exact rfl | (simp only [RO.len]; omega)) ?_
  refine Or.inr (Or.inl (cm [] [(1000, 31), (1001, 505), (12, 35)] (cpart_fn t.length (disI t.length) id t.length (Fo.dis _) (by omega)) ?_))
  refine And.intro (by repeat' first | refine And.intro ?_ ?_ | exact True.intro | (show (_ : Int) = (_ : Int); omega) | omega | exact rfl | (simp only [RO.len]; omega)) ?_
  have hLf : L.length ≤ 720 := by
    have := ptns_few hn hL.nd fun p hp => by
      obtain ⟨e, he, rfl⟩ := List.mem_map.1 hp
      have h := (hL.ok e he).is hs
      exact ⟨h.len, h.val.2⟩
    rwa [List.length_map] at this
  have hd0 := dis_cg hs
  have e0 : canon (rtL t.length id) = disI t.length := by
    have e1 : rtL t.length id = disI t.length := ext_getD 0 (by rw [rtL_len, disI_len]) fun k hk => by rw [rtL_len] at hk; rw [rtL_get hk, disI_get hk]; rfl
    rw [e1]; exact hd0.val.2
  have hd1 := cg_small hd0 hn
  refine Or.inr (Or.inl (cm [35] [(1000, 32), (1001, 504), (502, 507)] (coll_new_fn [] [] (disI t.length) hd1.1 hd1.2 (Nat.zero_le _) rfl) ?_))
  refine And.intro (by repeat' first | refine And.intro ?_ ?_ | exact True.intro | exact congrArg (RO.ints .i64) e0 | (show (_ : Int) = (_ : Int); omega) | omega | exact rfl | (simp only [RO.len]; omega)) ?_
  refine Exists.intro [35] <| lp4 (fun (i : Nat) (_ : List (List Int)) (_ : List Int) (_ : Int) => [(9, .int .i64 i)]) (fun _ F p m => [(32, .box [.fn 51 [], .ptr 504 0, .vec 507]), (504, .map .str (some .i64) (mapOf txtL 0 F)), (507, .vec 0 (.rows .i64 F) []), (31, .box [.vec 505, .int .i64 m]), (505, .vec 0 (.ints .i64 p) [])]) (fun i F p _ => i ≤ F.length ∧ AlI t L i 0 F ∧ p.length = t.length) (fun i _ _ _ => 721 - i) 0 [disI t.length] (fndA (disI t.length) t.length) t.length ⟨Nat.zero_le _, AlI.start hs L, (fndA_fo (Fo.dis _) t.length (Nat.le_refl _)).len⟩ (by repeat' first | refine And.intro ?_ ?_ | exact True.intro | (show (_ : Int) = (_ : Int); omega) | omega | exact rfl | (simp only [RO.len]; omega)) ?_
  rintro i F p m ⟨hi, hI, hpl⟩
  have hfew := hI.few hn
  refine And.intro (fun h1 => ?_) (fun h1 => ?_)
  · have h1 : (i : Int) < (F.length : Int) := h1
    have hil : i < F.length := by omega
    have hq := hI.is _ (getD_mem (d := []) hil)
    have hql := hq.len
    refine And.intro (by omega) ?_
    refine Exists.intro [41, 49, 51] <| lp4 (fun (k : Nat) (_ : List (List Int)) (_ : List Int) (_ : Int) => [(55, .int .i64 k)]) (fun _ F p m => [(32, .box [.fn 51 [], .ptr 504 0, .vec 507]), (504, .map .str (some .i64) (mapOf txtL 0 F)), (507, .vec 0 (.rows .i64 F) []), (31, .box [.vec 505, .int .i64 m]), (505, .vec 0 (.ints .i64 p) [])]) (fun k F' p _ => k ≤ L.length ∧ AlI t L i k F' ∧ p.length = t.length ∧ i < F'.length ∧ F'.getD i [] = F.getD i []) (fun k _ _ _ => L.length - k) 0 F p m ⟨Nat.zero_le _, hI, hpl, hil, rfl⟩ (by repeat' first | refine And.intro ?_ ?_ | exact True.intro | (show (_ : Int) = (_ : Int); omega) | omega | exact rfl | (simp only [RO.len]; omega)) ?_
    rintro k F2 p2 m2 ⟨hk, hI2, hpl2, hil2, hrow⟩
    have hfew2 := hI2.few hn
    refine And.intro (fun h2 => ?_) (fun h2 => ?_)
    · have h2 : (k : Int) < (L.length : Int) := h2
      have hkl : k < L.length := by omega
      have hP := hL.ok _ (getD_mem (d := prn0) hkl)
      have hPl := hP.pl
      have hPx : ∃ x y : Nat, (L.getD k prn0).1.1 = (x : Int) ∧ (L.getD k prn0).1.2 = (y : Int) ∧ x < y ∧ y < t.length := by
        obtain ⟨x, y, e1, hxy, hy, _⟩ := hP.gen
        exact ⟨x, y, by rw [e1], by rw [e1], hxy, hy⟩
      obtain ⟨x, y, ex, ey, hxy, hy⟩ := hPx
      refine And.intro (by omega) ?_
      refine Or.inl ?_
      refine Exists.intro [false, false, false, false, false, false, false, false, false, false, false, false, false] (And.intro (by decide +kernel) ?_)
      refine And.intro (by omega) ?_
      refine And.intro (fun _ => ?_) (And.intro (fun h => absurd (show (0 : Int) = 1 from h) (by decide)) trivial)
      refine And.intro (show 0 ≤ (L.getD k prn0).1.1 ∧ (L.getD k prn0).1.1 < (((F.getD i []).length : Nat) : Int) by omega) ?_
      refine And.intro (by omega) ?_
      refine And.intro (fun h => absurd (show (1 : Int) = 0 from h) (by decide)) (And.intro (fun _ => ?_) trivial)
      refine And.intro (show 0 ≤ (L.getD k prn0).1.2 ∧ (L.getD k prn0).1.2 < (((F.getD i []).length : Nat) : Int) by omega) ?_
      refine And.intro (fun h4 => ?_) (fun h4 => ?_)
      · have h4 : (F.getD i []).getD (L.getD k prn0).1.1.toNat 0 = (F.getD i []).getD (L.getD k prn0).1.2.toNat 0 := h4
        refine And.intro (by omega) ?_
        exact nx (k + 1, F2, p2, m2) ⟨by omega, hI2.skip hL hil2 hkl (by rw [hrow]; exact h4), hpl2, hil2, hrow⟩ (show L.length - (k + 1) < L.length - k by omega) (by repeat' first | refine And.intro ?_ ?_ | exact True.intro | (show (_ : Int) = (_ : Int); omega) | omega | exact rfl | (simp only [RO.len]; omega))
      refine Or.inr (Or.inl (cm [] [(1000, 31), (1001, 505)] (load_fn (F.getD i []) p2 m2 (by omega) hq.val.2 (by omega)) ?_))
      refine And.intro (by repeat' first | refine And.intro ?_ ?_ | exact True.intro | (show (_ : Int) = (_ : Int); omega) | omega | exact rfl | (simp only [RO.len]; omega)) ?_
      refine Exists.intro [] <| lp3 (fun (s : Nat) (_ : List Int) (_ : Nat → Nat) => [(78, .int .i64 s)]) (fun _ P r => [(31, .box [.vec 505, .int .i64 (cntR (F.getD i []).length r : Nat)]), (505, .vec 0 (.ints .i64 P) [])]) (fun s P r => s ≤ (L.getD k prn0).2.2.length ∧ Fo (F.getD i []).length P r ∧ KerR (F.getD i []).length r (orR (fun a b => a < (F.getD i []).length ∧ b < (F.getD i []).length ∧ (F.getD i []).getD a 0 = (F.getD i []).getD b 0) ((L.getD k prn0).2.2.take s))) (fun s _ _ => (L.getD k prn0).2.2.length - s) 0 (ldP (F.getD i [])) (frI (F.getD i [])) ⟨Nat.zero_le _, ld_fo, ld_ker.congr (fun a b h => .rel (.inl h)) fun a b h => .rel (h.elim (fun h => h) fun h => by simp [relP] at h)⟩ (by repeat' first | refine And.intro ?_ ?_ | exact True.intro | (show (_ : Int) = (_ : Int); omega) | omega | exact rfl | (simp only [RO.len]; omega)) ?_
      rintro s P r ⟨hsl, hfo, hker⟩
      refine And.intro (fun h5 => ?_) (fun h5 => ?_)
      · have h5 : (s : Int) < ((L.getD k prn0).2.2.length : Int) := h5
        have hsl2 : s < (L.getD k prn0).2.2.length := by omega
        have hin := hP.inw _ (getD_mem (d := (0, 0)) hsl2)
        have e1 : ((L.getD k prn0).2.2.getD s (0, 0)).1 = (((L.getD k prn0).2.2.getD s (0, 0)).1.toNat : Int) := (Int.toNat_of_nonneg hin.1.1).symm
        have e2 : ((L.getD k prn0).2.2.getD s (0, 0)).2 = (((L.getD k prn0).2.2.getD s (0, 0)).2.toNat : Int) := (Int.toNat_of_nonneg hin.2.1).symm
        have hi1 : ((L.getD k prn0).2.2.getD s (0, 0)).1.toNat < (F.getD i []).length := by omega
        have hi2 : ((L.getD k prn0).2.2.getD s (0, 0)).2.toNat < (F.getD i []).length := by omega
        refine And.intro (by omega) ?_
        refine And.intro (by omega) ?_
        refine And.intro (fun _ => ?_) (And.intro (fun h => absurd (show (0 : Int) = 1 from h) (by decide)) trivial)
        refine And.intro (by omega) ?_
        refine And.intro (fun h => absurd (show (1 : Int) = 0 from h) (by decide)) (And.intro (fun _ => ?_) trivial)
        refine Or.inr (Or.inl (cm [] [(1000, 31), (1001, 505)] (cjoin_fn (F.getD i []).length P r ((L.getD k prn0).2.2.getD s (0, 0)).1.toNat ((L.getD k prn0).2.2.getD s (0, 0)).2.toNat hfo hi1 hi2 (by omega)) ?_))
        refine And.intro (by repeat' first | refine And.intro ?_ ?_ | exact True.intro | exact e1 | exact e2 | (show (_ : Int) = (_ : Int); omega) | omega | exact rfl | (simp only [RO.len]; omega)) ?_
        refine And.intro (by omega) ?_
        have hk2 := jn_ker hker (i := ((L.getD k prn0).2.2.getD s (0, 0)).1.toNat) (j := ((L.getD k prn0).2.2.getD s (0, 0)).2.toNat) hi1 hi2
        have etk : (L.getD k prn0).2.2.take (s + 1) = (L.getD k prn0).2.2.take s ++ [(L.getD k prn0).2.2.getD s (0, 0)] := take_get hsl2
        refine nx (s + 1, jnP r P ((L.getD k prn0).2.2.getD s (0, 0)).1.toNat ((L.getD k prn0).2.2.getD s (0, 0)).2.toNat, jnR r ((L.getD k prn0).2.2.getD s (0, 0)).1.toNat ((L.getD k prn0).2.2.getD s (0, 0)).2.toNat) ⟨by omega, jn_fo hfo hi1 hi2, hk2.congr (fun u v e => ?_) fun u v e => ?_⟩ (show (L.getD k prn0).2.2.length - (s + 1) < (L.getD k prn0).2.2.length - s by omega) (by repeat' first | refine And.intro ?_ ?_ | exact True.intro | (show (_ : Int) = (_ : Int); omega) | omega | exact rfl | (simp only [RO.len]; omega))
        · rw [etk]
          refine .rel ?_
          rcases e with (e | e) | ⟨rfl, rfl⟩
          · exact .inl e
          · exact .inr (List.mem_append_left _ e)
          · refine .inr (List.mem_append_right _ (List.mem_singleton.2 ?_))
            rw [← e1, ← e2]
        · rw [etk] at e
          refine .rel ?_
          rcases e with e | e
          · exact .inl (.inl e)
          · rcases List.mem_append.1 e with e | e
            · exact .inl (.inr e)
            · have e := List.mem_singleton.1 e
              rw [← e]; exact .inr ⟨rfl, rfl⟩
      · have h5 : ((L.getD k prn0).2.2.length : Int) ≤ (s : Int) := h5
        have et : (L.getD k prn0).2.2.take s = (L.getD k prn0).2.2 := List.take_of_length_le (by omega)
        have hker2 : KerR (F.getD i []).length r (orR (fun a b => a < (F.getD i []).length ∧ b < (F.getD i []).length ∧ (F.getD i []).getD a 0 = (F.getD i []).getD b 0) (L.getD k prn0).2.2) := by have := hker; rw [et] at this; exact this
        have hJ : canon (rtL (F.getD i []).length r) = joP t.length (F.getD i []) (L.getD k prn0).2.1 := by
          rw [join_item hker2 (by rw [hql]; exact hP.inw), hql, hP.cls]
        have hfl3 := (fndA_fo hfo (F.getD i []).length (Nat.le_refl _)).len
        have hJc : IsCg t (joP t.length (F.getD i []) (L.getD k prn0).2.1) 0 := joP_cg hq (hP.is hs)
        have hsm := cg_small hJc hn
        refine Or.inr (Or.inl (cm [] [(1000, 31), (1001, 505), (12, 91)] (cpart_fn (F.getD i []).length P r (cntR (F.getD i []).length r : Nat) hfo (by omega)) ?_))
        refine And.intro (by repeat' first | refine And.intro ?_ ?_ | exact True.intro | (show (_ : Int) = (_ : Int); omega) | omega | exact rfl | (simp only [RO.len]; omega)) ?_
        by_cases hmem : (joP t.length (F.getD i []) (L.getD k prn0).2.1) ∈ F2
        · have hold := idx_old (key := txtL) (fun _ _ => txt_inj) hmem
          have ho1 := hold.choose_spec.1
          refine Or.inr (Or.inl (cm [91] [(1000, 32), (1001, 504), (502, 507)] (coll_old_fn (mapOf txtL 0 F2) F2 (joP t.length (F.getD i []) (L.getD k prn0).2.1) hsm.1 hsm.2 (hold.choose : Nat) ho1) ?_))
          refine And.intro (by repeat' first | refine And.intro ?_ ?_ | exact True.intro | exact congrArg (RO.ints .i64) hJ | (show (_ : Int) = (_ : Int); omega) | omega | exact rfl | (simp only [RO.len]; omega)) ?_
          refine And.intro (fun h => absurd (show (2000 : Int) < (F2.length : Int) from h) (by omega)) (fun _ => ?_)
          refine And.intro (by omega) ?_
          exact nx (k + 1, F2, fndA P (F.getD i []).length, ((cntR (F.getD i []).length r : Nat) : Int)) ⟨by omega, hI2.same (by rw [hrow]; exact hmem), by omega, hil2, hrow⟩ (show L.length - (k + 1) < L.length - k by omega) (by repeat' first | refine And.intro ?_ ?_ | exact True.intro | (show (_ : Int) = (_ : Int); omega) | omega | exact rfl | (simp only [RO.len]; omega))
        · have hno := map_no (key := txtL) (fun _ _ => txt_inj) hmem
          have hset : setM (mapOf txtL 0 F2) (txtL (joP t.length (F.getD i []) (L.getD k prn0).2.1)) F2.length = mapOf txtL 0 (F2 ++ [(joP t.length (F.getD i []) (L.getD k prn0).2.1)]) := by rw [setM_new hno, mapOf_snoc]
          refine Or.inr (Or.inl (cm [91] [(1000, 32), (1001, 504), (502, 507)] (coll_new_fn (mapOf txtL 0 F2) F2 (joP t.length (F.getD i []) (L.getD k prn0).2.1) hsm.1 hsm.2 (by omega) hno) ?_))
          refine And.intro (by repeat' first | refine And.intro ?_ ?_ | exact True.intro | exact congrArg (RO.ints .i64) hJ | (show (_ : Int) = (_ : Int); omega) | omega | exact rfl | (simp only [RO.len]; omega)) ?_
          have hal : (F2 ++ [(joP t.length (F.getD i []) (L.getD k prn0).2.1)]).length = F2.length + 1 := by rw [List.length_append]; rfl
          refine And.intro (fun h => absurd (show (2000 : Int) < (((F2 ++ [(joP t.length (F.getD i []) (L.getD k prn0).2.1)]).length : Nat) : Int) from h) (by omega)) (fun _ => ?_)
          refine And.intro (by omega) ?_
          have had := hI2.add hs hL hil2 hkl (by rw [hrow]; exact hmem)
          rw [hrow] at had
          exact nx (k + 1, F2 ++ [(joP t.length (F.getD i []) (L.getD k prn0).2.1)], fndA P (F.getD i []).length, ((cntR (F.getD i []).length r : Nat) : Int)) ⟨by omega, had, by omega, by omega, by rw [getD_app, if_pos hil2]; exact hrow⟩ (show L.length - (k + 1) < L.length - k by omega) (by repeat' first | refine And.intro ?_ ?_ | exact True.intro | exact hset | (show (_ : Int) = (_ : Int); omega) | omega | exact rfl | (simp only [RO.len]; omega))
    · have h2 : (L.length : Int) ≤ (k : Int) := h2
      refine And.intro (by omega) ?_
      exact nx (i + 1, F2, p2, m2) ⟨by omega, hI2.row (by omega), hpl2⟩ (show 721 - (i + 1) < 721 - i by omega) (by repeat' first | refine And.intro ?_ ?_ | exact True.intro | (show (_ : Int) = (_ : Int); omega) | omega | exact rfl | (simp only [RO.len]; omega))
  · have h1 : (F.length : Int) ≤ (i : Int) := h1
    have hpos : 0 < F.length := List.length_pos_of_mem hI.dis
    have hdn := (hI.done hs hL (by omega)).cgs hs
    refine Or.inr (Or.inl (cm [] [(1000, 507)] (sortRows_m cmpL_tot compareL_fn F hpos) (And.intro (by repeat' first | refine And.intro ?_ ?_ | exact True.intro | (show (_ : Int) = (_ : Int); omega) | omega | exact rfl | (simp only [RO.len]; omega)) ?_)))
    refine Exists.intro () (And.intro trivial ?_)
    rw [hdn]
    repeat' first | refine And.intro ?_ ?_ | exact True.intro | (show (_ : Int) = (_ : Int); omega) | omega | exact rfl | (simp only [RO.len]; omega)
theorem all_bad_fn (t : List (List Int)) (hs : ¬ Semi t) : QF 14 [.ro (.rows .i64 t)] (.tup [.nils, .int .i64 (validV t)]) := mkQ Try.func14 (by decide +kernel) rfl (Nat.le_of_ble_eq_true rfl) fun _ => by
  have hv : validV t ≠ 0 := fun e => hs (valid_zero.1 e)
  refine Or.inl (cq (valid_fn t) (And.intro rfl trivial) ?_)
  refine And.intro (fun _ => ?_) (fun h => absurd h hv)
  repeat' first | refine And.intro ?_ ?_ | exact True.intro | exact rfl
end Go.Proofs.Ytpanlghofeebhaa
end
section
/- The idempotent power of an element: plain. -/
namespace Go.Proofs.Ytpanlghofeebhaa
variable {t : List (List Int)}
theorem pw_per (_h : Semi t) {x i p : Nat} (_hx : x < t.length) (e : pwN t x i = pwN t x (i + p)) : ∀ k, i ≤ k → pwN t x k = pwN t x (k + p) := by
  intro k hk
  obtain ⟨d, rfl⟩ : ∃ d, k = i + d := ⟨k - i, by omega⟩
  clear hk
  induction d with
  | zero => exact e
  | succ d ih =>
    have e1 : pwN t x (i + (d + 1)) = en t (pwN t x (i + d)) x := rfl
    have e2 : pwN t x (i + (d + 1) + p) = en t (pwN t x (i + d + p)) x := by
      rw [show i + (d + 1) + p = (i + d + p) + 1 by omega]; rfl
    rw [e1, e2, ih]
theorem pw_mul (h : Semi t) {x i p : Nat} (hx : x < t.length) (e : pwN t x i = pwN t x (i + p)) {k : Nat} (hk : i ≤ k) : ∀ m, pwN t x k = pwN t x (k + m * p)
  | 0 => by rw [Nat.zero_mul]; rfl
  | m + 1 => by
    rw [pw_mul h hx e hk m, pw_per h hx e (k + m * p) (by omega), Nat.succ_mul, Nat.add_assoc]
theorem pw_idem (h : Semi t) {x : Nat} (hx : x < t.length) : ∃ k, k < t.length ∧ en t (pwN t x k) (pwN t x k) = pwN t x k := by
  have hd : ∃ i j, i < j ∧ j ≤ t.length ∧ pwN t x i = pwN t x j := by
    refine Classical.byContradiction fun hno => ?_
    have hn : ((List.range (t.length + 1)).map (pwN t x)).Nodup := by
      rw [List.nodup_iff_pairwise_ne, List.pairwise_map]
      refine List.Pairwise.imp_of_mem ?_ (List.pairwise_lt_range (n := t.length + 1))
      intro a b ha hb hab e
      exact hno ⟨a, b, hab, by have := List.mem_range.1 hb; omega, e⟩
    have := nodup_sub hn (B := List.range t.length) fun y hy => by
      obtain ⟨k, _, rfl⟩ := List.mem_map.1 hy
      exact List.mem_range.2 (pwN_lt h hx k)
    simp at this
    omega
  obtain ⟨i, j, hij, hj, e⟩ := hd
  obtain ⟨p, hp, rfl⟩ : ∃ p, 0 < p ∧ j = i + p := ⟨j - i, by omega, by omega⟩
  have hm := Nat.div_add_mod (i + p) p
  have hr := Nat.mod_lt (i + p) hp
  have hq : (i + p) / p * p = i + p - (i + p) % p := by rw [Nat.mul_comm]; omega
  refine ⟨(i + p) / p * p - 1, by omega, ?_⟩
  rw [pwN_add h hx, show (i + p) / p * p - 1 + ((i + p) / p * p - 1) + 1 = ((i + p) / p * p - 1) + (i + p) / p * p by omega]
  exact (pw_mul h hx e (by omega) _).symm
theorem pw_pow (h : Semi t) {x a : Nat} (hx : x < t.length) (e : en t (pwN t x a) (pwN t x a) = pwN t x a) : ∀ m, pwN t x (a + m * (a + 1)) = pwN t x a
  | 0 => by rw [Nat.zero_mul]; rfl
  | m + 1 => by
    rw [show a + (m + 1) * (a + 1) = (a + m * (a + 1)) + a + 1 by rw [Nat.succ_mul]; omega, ← pwN_add h hx, pw_pow h hx e m, e]
theorem pw_uni (h : Semi t) {x a b : Nat} (hx : x < t.length) (ea : en t (pwN t x a) (pwN t x a) = pwN t x a) (eb : en t (pwN t x b) (pwN t x b) = pwN t x b) : pwN t x a = pwN t x b := by
  have h1 := pw_pow h hx ea b
  have h2 := pw_pow h hx eb a
  have e : a + b * (a + 1) = b + a * (b + 1) := by rw [Nat.mul_add, Nat.mul_add, Nat.mul_comm]; omega
  rw [← h1, ← h2, e]
end Go.Proofs.Ytpanlghofeebhaa
end
section
/- Plain: the greatest congruence that keeps idempotents apart. -/
namespace Go.Proofs.Ytpanlghofeebhaa
open Go Go.AM
section
variable {t : List (List Int)} {p : List Int}
def idmP (t : List (List Int)) (x : Nat) : Prop := en t x x = x
noncomputable def ipN (t : List (List Int)) (x : Nat) : Nat := @dite _ (∃ k, idmP t (pwN t x k)) (Classical.propDecidable _) (fun h => pwN t x (Classical.choose h)) fun _ => x
theorem ip_of (h : Semi t) {x k : Nat} (hx : x < t.length) (e : idmP t (pwN t x k)) : ipN t x = pwN t x k := by
  have hex : ∃ k, idmP t (pwN t x k) := ⟨k, e⟩
  have e1 : ipN t x = pwN t x (Classical.choose hex) := dif_pos hex
  rw [e1]
  exact pw_uni h hx (Classical.choose_spec hex) e
theorem ip_ex (h : Semi t) {x : Nat} (hx : x < t.length) : ∃ k, k < t.length ∧ idmP t (pwN t x k) ∧ ipN t x = pwN t x k := by
  obtain ⟨k, hk, e⟩ := pw_idem h hx
  exact ⟨k, hk, e, ip_of h hx e⟩
theorem ip_lt (h : Semi t) {x : Nat} (hx : x < t.length) : ipN t x < t.length := by
  obtain ⟨k, _, _, e⟩ := ip_ex h hx
  rw [e]; exact pwN_lt h hx k
theorem ip_idm (h : Semi t) {x : Nat} (hx : x < t.length) : idmP t (ipN t x) := by
  obtain ⟨k, _, e1, e⟩ := ip_ex h hx
  rw [e]; exact e1
theorem ip_self (h : Semi t) {x : Nat} (hx : x < t.length) (e : idmP t x) : ipN t x = x := ip_of (k := 0) h hx e
noncomputable def ipL (t : List (List Int)) : List Int := (List.range t.length).map fun x => (ipN t x : Int)
theorem ipL_len : (ipL t).length = t.length := by simp [ipL]
theorem ipL_get {x : Nat} (h : x < t.length) : (ipL t).getD x 0 = (ipN t x : Int) := by simp [ipL, List.getD, h]
def Sep (t : List (List Int)) (p : List Int) : Prop := ∀ x y, x < t.length → y < t.length → idmP t x → idmP t y → p.getD x 0 = p.getD y 0 → x = y
theorem pw_cg (h : Semi t) (hp : Cg t p 0) {x y : Nat} (hx : x < t.length) (hy : y < t.length) (e : p.getD x 0 = p.getD y 0) : ∀ k, p.getD (pwN t x k) 0 = p.getD (pwN t y k) 0
  | 0 => e
  | k + 1 => ((hp _ _ x (pwN_lt h hx k) (pwN_lt h hy k) hx (pw_cg h hp hx hy e k)).2 (by decide)).trans ((hp x y _ hx hy (pwN_lt h hy k) e).1 (by decide))
theorem sep_iff (h : Semi t) (hp : Cg t p 0) : Sep t p ↔ Sub t.length p (ipL t) := by
  constructor
  · intro hs x y hx hy e
    rw [ipL_get hx, ipL_get hy]
    obtain ⟨a, _, ea, e1⟩ := ip_ex h hx
    obtain ⟨b, _, eb, e2⟩ := ip_ex h hy
    have k1 := pw_pow h hx ea b
    have k2 := pw_pow h hy eb a
    have k3 : b + a * (b + 1) = a + b * (a + 1) := by rw [Nat.mul_add, Nat.mul_add, Nat.mul_comm a b]; omega
    rw [k3] at k2
    have := pw_cg h hp hx hy e (a + b * (a + 1))
    rw [k1, k2, ← e1, ← e2] at this
    rw [hs _ _ (ip_lt h hx) (ip_lt h hy) (ip_idm h hx) (ip_idm h hy) this]
  · intro hs x y hx hy ix iy e
    have := hs x y hx hy e
    rw [ipL_get hx, ipL_get hy, ip_self h hx ix, ip_self h hy iy] at this
    omega
noncomputable def sepP (t : List (List Int)) : List Int := synP t (ipL t)
theorem sepP_is (h : Semi t) : IsCg t (sepP t) 0 := synP_is h
theorem sepP_sep (h : Semi t) : Sep t (sepP t) := (sep_iff h (sepP_is h).cg).2 fun _ _ hx hy e => ((synP_iff hx hy).1 e).own
theorem sep_sub (h : Semi t) (hp : Cg t p 0) : Sep t p ↔ Sub t.length p (sepP t) := by
  constructor
  · intro hs x y hx hy e
    exact (synP_iff hx hy).2 (syn_great h.toSh hp (fun a b ha hb e => (sep_iff h hp).1 hs a b ha hb e) hx hy e)
  · intro hs x y hx hy ix iy e
    exact sepP_sep h x y hx hy ix iy (hs x y hx hy e)
end
end Go.Proofs.Ytpanlghofeebhaa
end
section
/- Plain: how the reference joins partitions, and makes the congruence of an ideal. -/
namespace Go.Proofs.Ytpanlghofeebhaa
open Go Go.AM
def JnR (n : Nat) (p q : List Int) (i a b : Nat) : Prop := a < n ∧ b < n ∧ (p.getD a 0 = p.getD b 0 ∨ (q.getD a 0 = q.getD b 0 ∧ a < i ∧ b < i))
section
variable {n i j : Nat} {p q o : List Int}
theorem JnR.start (hp : p.length = n) : KerOf n p (JnR n p q 0) :=
  ⟨hp, fun _a _b ha hb => ⟨fun e => .rel ⟨ha, hb, .inl e⟩, fun e => Eg.least (Q := fun a b => p.getD a 0 = p.getD b 0) (fun _ => rfl) (fun _ _ h => h.symm) (fun _ _ _ h h' => h.trans h') (fun _a _b ⟨_, _, h⟩ => h.elim id fun h => absurd h.2.1 (Nat.not_lt_zero _)) e⟩⟩
theorem JnR.no (h : KerOf n o (JnR n p q i)) (hno : ∀ j, j < i → q.getD i 0 ≠ q.getD j 0) : KerOf n o (JnR n p q (i + 1)) := by
  refine h.congr (fun a b ⟨ha, hb, h⟩ => .rel ⟨ha, hb, h.imp id fun h => ⟨h.1, by omega, by omega⟩⟩) fun a b ⟨ha, hb, h⟩ => ?_
  rcases h with h | ⟨h1, h2, h3⟩
  · exact .rel ⟨ha, hb, .inl h⟩
  · by_cases e1 : a = i
    · by_cases e2 : b = i
      · rw [e1, e2]; exact .refl _
      · subst e1; exact absurd h1 (hno b (by omega))
    · by_cases e2 : b = i
      · subst e2; exact absurd h1.symm (hno a (by omega))
      · exact .rel ⟨ha, hb, .inr ⟨h1, by omega, by omega⟩⟩
theorem JnR.yes (h : KerOf n o (JnR n p q i)) (hi : i < n) (hj : j < i) (e : q.getD i 0 = q.getD j 0) : KerOf n (mrgL o i j) (JnR n p q (i + 1)) := by
  refine (h.mrg hi (show j < n by omega)).congr (fun a b h => ?_) fun a b ⟨ha, hb, h⟩ => ?_
  · rcases h with ⟨ha, hb, h⟩ | ⟨rfl, rfl⟩
    · exact .rel ⟨ha, hb, h.imp id fun h => ⟨h.1, by omega, by omega⟩⟩
    · exact .rel ⟨hi, by omega, .inr ⟨e, by omega, by omega⟩⟩
  · have ij : Eg (orP (JnR n p q i) i j) i j := .rel (.inr ⟨rfl, rfl⟩)
    have up : ∀ {a b}, a < n → b < n → q.getD a 0 = q.getD b 0 → a < i → b < i → Eg (orP (JnR n p q i) i j) a b := fun ha hb h1 h2 h3 => .rel (.inl ⟨ha, hb, .inr ⟨h1, h2, h3⟩⟩)
    rcases h with h | ⟨h1, h2, h3⟩
    · exact .rel (.inl ⟨ha, hb, .inl h⟩)
    · by_cases e1 : a = i
      · by_cases e2 : b = i
        · rw [e1, e2]; exact .refl _
        · subst e1; exact ij.trans (up (by omega) hb (e.symm.trans h1) hj (by omega))
      · by_cases e2 : b = i
        · subst e2; exact (up ha (by omega) (h1.trans e) (by omega) hj).trans ij.symm
        · exact up ha hb h1 (by omega) (by omega)
theorem JnR.done (h : KerOf n o (JnR n p q n)) : canon o = joP n p q := by
  refine ker_clsL (jo_pre n p q) h.1 fun a b ha hb => ?_
  rw [joB_true, joB_true, h.2 a b ha hb]
  have e : Eg (JnR n p q n) a b ↔ Eg (JoR n p q) a b := ⟨Eg.mono fun a b ⟨ha, hb, h⟩ => .rel ⟨ha, hb, h.imp id fun h => h.1⟩, Eg.mono fun a b ⟨ha, hb, h⟩ => .rel ⟨ha, hb, h.imp id fun h => ⟨h, ha, hb⟩⟩⟩
  exact ⟨fun h => ⟨e.1 h, (e.1 h).symm⟩, fun h => e.2 h.1⟩
end
end Go.Proofs.Ytpanlghofeebhaa
end
section
/- congr.Separating; the reference's Idempotents, Separates, Join, Rees, Separating: contracts. -/
namespace Go.Proofs.Ytpanlghofeebhaa
open Go Go.AM
set_option maxRecDepth 100000
theorem cSep_fn (t : List (List Int)) (hs : Semi t) : QF 45 [.ro (.rows .i64 t)] (.new (.ints .i64 (sepP t))) := mkQ Try.func45 (by decide +kernel) rfl (Nat.le_of_ble_eq_true rfl) fun _ => by
  have hmost := hs.most
  have hS := hs.toSh
  refine Or.inl (cq (valid_fn t) (And.intro rfl trivial) ?_)
  refine And.intro (fun h1 => absurd (valid_zero.2 hs) h1) (fun _ => ?_)
  refine And.intro (by omega) ?_
  refine And.intro (by omega) ?_
  refine Exists.intro [] <| lp2 (fun (x : Nat) (_ : List Int) => [(14, .int .i64 x)]) (fun _ L => [(11, .vec 0 (.ints .i64 L) [])]) (fun x L => x ≤ t.length ∧ L.length = t.length ∧ ∀ y, y < x → L.getD y 0 = (ipN t y : Int)) (fun x _ => t.length - x) 0 (List.replicate t.length 0) ⟨Nat.zero_le _, by simp, fun y h => absurd h (Nat.not_lt_zero _)⟩ (by repeat' first | refine And.intro ?_ ?_ | exact True.intro | (show (_ : Int) = (_ : Int); omega) | omega | exact rfl | (simp only [RO.len]; omega)) ?_
  rintro x L ⟨hx, hL, hLy⟩
  refine And.intro (fun h2 => ?_) (fun h2 => ?_)
  · have h2 : (x : Int) < (t.length : Int) := h2
    have hxl : x < t.length := by omega
    obtain ⟨k0, hk0, hid, _⟩ := ip_ex hs hxl
    refine Exists.intro [] <| lp (X := Nat) (fun k => [(5, .int .i64 (pwN t x k))]) (fun _ => []) (fun k => k ≤ k0) (fun k => k0 - k) 0 (Nat.zero_le _) (by repeat' first | refine And.intro ?_ ?_ | exact True.intro | (show (_ : Int) = (_ : Int); omega) | omega | exact rfl | (simp only [RO.len]; omega)) ?_
    rintro k hk
    have hpl := pwN_lt hs hxl k
    have hent := hS.ent hpl hpl
    have hrl := hS.len hpl
    refine And.intro (show 0 ≤ (pwN t x k : Int) ∧ (pwN t x k : Int) < (t.length : Int) by omega) ?_
    refine And.intro (show 0 ≤ (pwN t x k : Int) ∧ (pwN t x k : Int) < ((t.getD (pwN t x k) []).length : Int) by omega) ?_
    refine And.intro (fun h3 => ?_) (fun h3 => ?_)
    · have h3 : ¬ (t.getD (pwN t x k) []).getD (pwN t x k) 0 = (pwN t x k : Int) := h3
      rw [hent.1] at h3
      have hne : k ≠ k0 := fun e => h3 (by subst e; exact congrArg _ hid)
      have hent2 := hS.ent hpl hxl
      refine And.intro (show 0 ≤ (pwN t x k : Int) ∧ (pwN t x k : Int) < (t.length : Int) by omega) ?_
      refine And.intro (show 0 ≤ (x : Int) ∧ (x : Int) < ((t.getD (pwN t x k) []).length : Int) by omega) ?_
      exact nx (k + 1) (show k + 1 ≤ k0 by omega) (show k0 - (k + 1) < k0 - k by omega) (by repeat' first | refine And.intro ?_ ?_ | exact True.intro | exact hent2.1 | omega | exact rfl)
    · have h3 : (t.getD (pwN t x k) []).getD (pwN t x k) 0 = (pwN t x k : Int) := h3
      rw [hent.1] at h3
      have hip := ip_of hs hxl (k := k) (by unfold idmP; omega)
      refine And.intro (show 0 ≤ (x : Int) ∧ (x : Int) < (L.length : Int) by omega) ?_
      refine And.intro (by omega) ?_
      refine And.intro (by omega) ?_
      refine nx (x + 1, L.set x (pwN t x k : Int)) ⟨by omega, by rw [List.length_set]; exact hL, fun y hy => ?_⟩ (show t.length - (x + 1) < t.length - x by omega) (by repeat' first | refine And.intro ?_ ?_ | exact True.intro | (show (_ : Int) = (_ : Int); omega) | omega | exact rfl | (simp only [RO.len]; omega))
      by_cases e : y = x
      · subst e; rw [getD_set_eq (by omega), hip]
      · rw [getD_set_ne (Ne.symm e)]; exact hLy y (by omega)
  · have h2 : (t.length : Int) ≤ (x : Int) := h2
    have e : L = ipL t := ext_getD 0 (by rw [ipL_len]; exact hL) fun y hy => by rw [hLy y (by omega), ipL_get (by omega)]
    have ec : (if L.length ≤ 4096 then canon L else []) = canon (ipL t) := by rw [if_pos (by omega), e]
    have hcl : (canon (ipL t)).length = t.length := by rw [canon_length, ipL_len]
    have hcv : validP (canon (ipL t)) := ⟨by omega, canon_idem _⟩
    have hsy : synP t (canon (ipL t)) = sepP t := synP_congr hS fun a b ha hb => canon_eq_iff (by rw [ipL_len]; omega) (by rw [ipL_len]; omega)
    have hco := ccoa_fn t (canon (ipL t)) hs hcl hcv
    rw [hsy, ← ec] at hco
    refine Or.inl (cq (Canonical_fn L) (And.intro rfl trivial) ?_)
    refine Or.inl (cq hco (And.intro rfl (And.intro rfl trivial)) ?_)
    exact And.intro (And.intro (by omega) rfl) trivial
theorem rjoin_fn (p q : List Int) (hl : p.length = q.length) (hn : q.length ≤ 4096) : QF 72 [.ro (.ints .i64 p), .ro (.ints .i64 q)] (.new (.ints .i64 (joP q.length p q))) := mkQ Try.func72 (by decide +kernel) rfl (Nat.le_of_ble_eq_true rfl) fun _ => by
  refine And.intro (show (([] ++ p : List Int).length : Int) ≤ 17592186044416 by rw [List.nil_append]; omega) ?_
  refine Exists.intro [] <| lp2 (fun (i : Nat) (_ : List Int) => [(13, .int .i64 i)]) (fun _ o => [(8, .vec 0 (.ints .i64 o) [])]) (fun i o => i ≤ q.length ∧ KerOf q.length o (JnR q.length p q i)) (fun i _ => q.length - i) 0 ([] ++ p) ⟨Nat.zero_le _, by rw [List.nil_append]; exact JnR.start hl⟩ (by repeat' first | refine And.intro ?_ ?_ | exact True.intro | (show (_ : Int) = (_ : Int); omega) | omega | exact rfl | (simp only [RO.len]; omega)) ?_
  rintro i o ⟨hi, hI⟩
  have hol := hI.1
  refine And.intro (fun h1 => ?_) (fun h1 => ?_)
  · have h1 : (i : Int) < (q.length : Int) := h1
    have hil : i < q.length := by omega
    refine Exists.intro [] <| lp (X := Nat) (fun j => [(7, .int .i64 j)]) (fun _ => []) (fun j => j ≤ i ∧ ∀ b, b < j → q.getD i 0 ≠ q.getD b 0) (fun j => i - j) 0 ⟨Nat.zero_le _, fun b h => absurd h (Nat.not_lt_zero _)⟩ (by repeat' first | refine And.intro ?_ ?_ | exact True.intro | (show (_ : Int) = (_ : Int); omega) | omega | exact rfl | (simp only [RO.len]; omega)) ?_
    rintro j ⟨hj, hJ⟩
    refine And.intro (fun h2 => ?_) (fun h2 => ?_)
    · have h2 : (j : Int) < (i : Int) := h2
      refine Or.inl ?_
      refine Exists.intro (List.replicate 9 false) (And.intro (by decide +kernel) ?_)
      refine And.intro (by omega) ?_
      refine And.intro (by omega) ?_
      refine And.intro (fun h3 => ?_) (fun h3 => ?_)
      · have h3 : q.getD i 0 = q.getD j 0 := h3
        refine Or.inr (Or.inl (cm [] [(1000, 8)] (merge_fn o i j (by omega) (by omega) (by omega)) ?_))
        refine And.intro (by repeat' first | refine And.intro ?_ ?_ | exact True.intro | (show (_ : Int) = (_ : Int); omega) | omega | exact rfl | (simp only [RO.len]; omega)) ?_
        refine And.intro (by omega) ?_
        exact nx (i + 1, mrgL o i j) ⟨by omega, JnR.yes hI hil (by omega) h3⟩ (show q.length - (i + 1) < q.length - i by omega) (by repeat' first | refine And.intro ?_ ?_ | exact True.intro | (show (_ : Int) = (_ : Int); omega) | omega | exact rfl | (simp only [RO.len]; omega))
      · have h3 : ¬ q.getD i 0 = q.getD j 0 := h3
        refine And.intro (by omega) ?_
        exact nx (j + 1) ⟨by omega, fun b hb => if e : b = j then e ▸ h3 else hJ b (by omega)⟩ (show i - (j + 1) < i - j by omega) (by repeat' first | refine And.intro ?_ ?_ | exact True.intro | (show (_ : Int) = (_ : Int); omega) | omega | exact rfl | (simp only [RO.len]; omega))
    · have h2 : (i : Int) ≤ (j : Int) := h2
      refine And.intro (by omega) ?_
      exact nx (i + 1, o) ⟨by omega, JnR.no hI fun b hb => hJ b (by omega)⟩ (show q.length - (i + 1) < q.length - i by omega) (by repeat' first | refine And.intro ?_ ?_ | exact True.intro | (show (_ : Int) = (_ : Int); omega) | omega | exact rfl | (simp only [RO.len]; omega))
  · have h1 : (q.length : Int) ≤ (i : Int) := h1
    have hie : i = q.length := by omega
    subst hie
    have e : (if o.length ≤ 4096 then canon o else []) = joP q.length p q := by rw [if_pos (by omega), JnR.done hI]
    refine Or.inl (cq (rcanon_fn o) (And.intro rfl trivial) ?_)
    exact And.intro (And.intro (by omega) (congrArg (RO.ints .i64) e)) trivial
end Go.Proofs.Ytpanlghofeebhaa
end
section
/- ref19.All: contract. -/
namespace Go.Proofs.Ytpanlghofeebhaa
open Go Go.AM
set_option maxRecDepth 100000
set_option maxHeartbeats 4000000
theorem rall_fn (t : List (List Int)) (hs : Semi t) (hn : t.length ≤ 6) : QF 24 [.ro (.rows .i64 t)] (.ro (.rows .i64 (cgsL t))) := mkQ Try.func24 (by decide +kernel) rfl (Nat.le_of_ble_eq_true rfl) fun _ => by
  have hS := hs.toSh
  refine Or.inl (cq (rdis_fn t.length (by omega)) (And.intro rfl trivial) ?_)
  refine Or.inl (cq (rprn_fn t hS (by omega)) (And.intro rfl trivial) ?_)
  have hpl := prnL_len (t := t)
  have h36 : t.length * t.length ≤ 6 * 6 := Nat.mul_le_mul hn hn
  have few : ∀ A : List (List Int), Srt cmpL A → (∀ p ∈ A, IsCg t p 0) → A.length ≤ 720 := fun A h1 h2 => ptns_few hn (h1.nodup cmpL_tot) fun p hp => ⟨(h2 p hp).len, (h2 p hp).val.2⟩
  refine Exists.intro [3, 12, 10012] <| lp2 (fun (k : Nat) (A : List (List Int)) => [(16, .int .i64 k), (3, .ro (.rows .i64 A))]) (fun _ _ => []) (fun k A => k ≤ (prnL t).length ∧ Srt cmpL A ∧ (∀ p ∈ A, IsCg t p 0) ∧ ∀ q, allJ t q k ∈ A) (fun k _ => (prnL t).length - k) 0 [disI t.length] ⟨Nat.zero_le _, List.pairwise_singleton .., fun p hp => by rw [List.mem_singleton.1 hp]; exact dis_cg hs, fun q => List.mem_singleton.2 rfl⟩ (by repeat' first | refine And.intro ?_ ?_ | exact True.intro | (show (_ : Int) = (_ : Int); omega) | omega | exact rfl | (simp only [RO.len]; omega)) ?_
  rintro k A ⟨hk, hA, hAi, hAh⟩
  have hAl := few A hA hAi
  refine And.intro (fun h1 => ?_) (fun h1 => ?_)
  · have h1 : (k : Int) < ((prnL t).length : Int) := h1
    have hkl : k < (prnL t).length := by omega
    have hpk : IsCg t ((prnL t).getD k []) 0 := by
      obtain ⟨x, y, _, _, e⟩ := mem_prnL.1 (getD_mem (d := []) hkl)
      exact e ▸ prnG_is hs x y
    refine And.intro (by omega) ?_
    refine Exists.intro [3] <| lp2 (fun (m : Nat) (B : List (List Int)) => [(23, .int .i64 m), (3, .ro (.rows .i64 B))]) (fun _ _ => []) (fun m B => m ≤ A.length ∧ RaI t k m A B) (fun m _ => A.length - m) 0 A ⟨Nat.zero_le _, RaI.start hA hAi hAh⟩ (by repeat' first | refine And.intro ?_ ?_ | exact True.intro | (show (_ : Int) = (_ : Int); omega) | omega | exact rfl | (simp only [RO.len]; omega)) ?_
    rintro m B ⟨hm, hI⟩
    have hBl := few B hI.srt hI.is
    refine And.intro (fun h2 => ?_) (fun h2 => ?_)
    · have h2 : (m : Int) < (A.length : Int) := h2
      have hml : m < A.length := by omega
      have hql := (hAi _ (getD_mem (d := []) hml)).len
      have hJ : joP (A.getD m []).length ((prnL t).getD k []) (A.getD m []) = joP t.length ((prnL t).getD k []) (A.getD m []) := by rw [hql]
      refine And.intro (by omega) ?_
      refine And.intro (fun _ => ?_) (fun h => absurd (show (2000 : Int) < (B.length : Int) from h) (by omega))
      refine Or.inl (cq (rjoin_fn ((prnL t).getD k []) (A.getD m []) (by rw [hpk.len, hql]) (by omega)) (And.intro rfl (And.intro rfl trivial)) ?_)
      refine Or.inl (cq (insRow_fn B (joP t.length ((prnL t).getD k []) (A.getD m [])) (by omega) hI.srt) (And.intro rfl (And.intro (congrArg (RO.ints .i64) hJ) trivial)) ?_)
      refine And.intro (by omega) ?_
      exact nx (m + 1, insC cmpL B (joP t.length ((prnL t).getD k []) (A.getD m []))) ⟨by omega, hI.next hs hkl hml⟩ (show A.length - (m + 1) < A.length - m by omega) (by repeat' first | refine And.intro ?_ ?_ | exact True.intro | (show (_ : Int) = (_ : Int); omega) | omega | exact rfl | (simp only [RO.len]; omega))
    · have h2 : (A.length : Int) ≤ (m : Int) := h2
      refine And.intro (by omega) ?_
      exact nx (k + 1, B) ⟨by omega, hI.srt, hI.is, hI.done (by omega)⟩ (show (prnL t).length - (k + 1) < (prnL t).length - k by omega) (by repeat' first | refine And.intro ?_ ?_ | exact True.intro | (show (_ : Int) = (_ : Int); omega) | omega | exact rfl | (simp only [RO.len]; omega))
  · have h1 : ((prnL t).length : Int) ≤ (k : Int) := h1
    obtain rfl : k = (prnL t).length := by omega
    have e : A = cgsL t := ra_done hs hA hAi hAh
    repeat' first | refine And.intro ?_ ?_ | exact True.intro | exact congrArg (RO.rows .i64) e | omega
end Go.Proofs.Ytpanlghofeebhaa
end
section
/- Statements about congruences: the sanity check, by the contracts. -/
namespace Go.Proofs.Ytpanlghofeebhaa
open Go Go.AM
set_option maxRecDepth 100000
set_option maxHeartbeats 1000000
abbrev chT : List (List Int) := [[0, 1, 2], [1, 2, 2], [2, 2, 2]]
theorem ch_semi : Semi chT := ⟨⟨by decide, by decide, by unfold rowOk; decide⟩, fun g hg x y hx hy => (by decide : ∀ g, g < 3 → ∀ x, x < 3 → ∀ y, y < 3 → en chT (en chT x g) y = en chT x (en chT g y)) g hg x hx y hy⟩
theorem ch_cg {p : List Int} (hl : p.length = 3) (hv : validP p) (h : ∀ x, x < 3 → ∀ y, y < 3 → ∀ s, s < 3 → p.getD x 0 = p.getD y 0 → p.getD (en chT s x) 0 = p.getD (en chT s y) 0 ∧ p.getD (en chT x s) 0 = p.getD (en chT y s) 0) : IsCg chT p 0 :=
  ⟨ch_semi, hl, hv, by decide, fun x y s hx hy hs e => ⟨fun _ => (h x hx y hy s hs e).1, fun _ => (h x hx y hy s hs e).2⟩⟩
abbrev chL : List (List Int) := [[0, 0, 0], [0, 1, 1], [0, 1, 2]]
theorem ch_mid : IsCg chT [0, 1, 1] 0 := ch_cg rfl ⟨by decide, by decide⟩ (by decide)
theorem ch_mem (p : List Int) : p ∈ chL ↔ IsCg chT p 0 := by
  constructor
  · intro h
    rcases List.mem_cons.1 h with rfl | h
    · exact ch_cg rfl ⟨by decide, by decide⟩ (by decide)
    rcases List.mem_cons.1 h with rfl | h
    · exact ch_mid
    rcases List.mem_cons.1 h with rfl | h
    · exact ch_cg rfl ⟨by decide, by decide⟩ (by decide)
    · exact absurd h List.not_mem_nil
  · intro h
    have hl : p.length = 3 := h.len
    have h1 : p ∈ ptnsN 3 := by have := mem_ptns p fun i hi => canon_le h.val.2 hi; rwa [hl] at this
    have h2 : ptnsN 3 = [[0, 0, 0], [0, 0, 1], [0, 0, 2], [0, 1, 0], [0, 1, 1], [0, 1, 2]] := by decide
    rw [h2] at h1
    have hc := h.cg
    rcases List.mem_cons.1 h1 with rfl | h1
    · decide
    rcases List.mem_cons.1 h1 with rfl | h1
    · exact absurd ((hc 0 1 1 (by decide) (by decide) (by decide) (by decide)).1 (by decide)) (by decide)
    rcases List.mem_cons.1 h1 with rfl | h1
    · exact absurd h.val.2 (by decide)
    rcases List.mem_cons.1 h1 with rfl | h1
    · exact absurd ((hc 0 2 1 (by decide) (by decide) (by decide) (by decide)).1 (by decide)) (by decide)
    rcases List.mem_cons.1 h1 with rfl | h1
    · decide
    rcases List.mem_cons.1 h1 with rfl | h1
    · decide
    · exact absurd h1 List.not_mem_nil
theorem ch_cgs : cgsL chT = chL := cgs_of (by unfold Srt; decide) ch_mem
theorem ch_sep : sepP chT = [0, 1, 1] := by
  have hm := (ch_mem _).2 (sepP_is ch_semi)
  have h1 : Sub 3 [0, 1, 1] (sepP chT) := (sep_sub ch_semi ch_mid.cg).1 fun x y hx hy ex ey e => (by decide : ∀ x, x < 3 → ∀ y, y < 3 → en chT x x = x → en chT y y = y → ([0, 1, 1] : List Int).getD x 0 = ([0, 1, 1] : List Int).getD y 0 → x = y) x hx y hy ex ey e
  have h2 := h1 1 2 (by decide) (by decide) (by decide)
  have h3 : ¬ (sepP chT).getD 0 0 = (sepP chT).getD 2 0 := fun e => absurd (sepP_sep ch_semi 0 2 (by decide) (by decide) (show en chT 0 0 = 0 by decide) (show en chT 2 2 = 2 by decide) e) (by decide)
  rcases List.mem_cons.1 hm with e | hm
  · rw [e] at h3; exact absurd rfl h3
  rcases List.mem_cons.1 hm with e | hm
  · exact e
  rcases List.mem_cons.1 hm with e | hm
  · rw [e] at h2; exact absurd h2 (by decide)
  · exact absurd hm List.not_mem_nil
theorem ch_fn : QF 44 [] (.new (.rows .i64 chT)) := mkQ Try.func44 (by decide +kernel) rfl (Nat.le_of_ble_eq_true rfl) fun _ => by
  repeat' first | refine And.intro ?_ ?_ | exact True.intro | omega | exact rfl
theorem awl19_fn : QF 13 [] (.bool (.lit true)) := mkQ Try.func13 (by decide +kernel) rfl (Nat.le_of_ble_eq_true rfl) fun _ => by
  refine Or.inl (cq ch_fn (by repeat' first | refine And.intro ?_ ?_ | exact True.intro | (show (_ : Int) = (_ : Int); omega) | omega | exact rfl | (simp only [RO.len]; omega)) ?_)
  refine Or.inr (Or.inr (ce (all_fn chT ch_semi (by decide)) (And.intro rfl trivial) ?_))
  intro _ _
  refine And.intro (fun _ => ?_) (fun h2 => absurd rfl h2)
  refine And.intro (fun _ => ?_) (fun h2 => absurd (show ((cgsL chT).length : Int) = 3 by rw [ch_cgs]; rfl) h2)
  refine Or.inl (cq ch_fn (by repeat' first | refine And.intro ?_ ?_ | exact True.intro | (show (_ : Int) = (_ : Int); omega) | omega | exact rfl | (simp only [RO.len]; omega)) ?_)
  refine Or.inl (cq (cSep_fn chT ch_semi) (by repeat' first | refine And.intro ?_ ?_ | exact True.intro | (show (_ : Int) = (_ : Int); omega) | omega | exact rfl | (simp only [RO.len]; omega)) ?_)
  refine Or.inl (cq (same_fn (sepP chT) [0, 1, 1]) (by repeat' first | refine And.intro ?_ ?_ | exact True.intro | (show (_ : Int) = (_ : Int); omega) | omega | exact rfl | (simp only [RO.len]; omega)) ?_)
  have e : (BE.v (decide (sepP chT = [0, 1, 1]))).val = (BE.lit true).val := decide_eq_true ch_sep
  refine And.intro ?_ ?_
  · first | exact e | omega
  exact trivial
end Go.Proofs.Ytpanlghofeebhaa
end
section
/- Small and large tables: contracts (without the sanity check). -/
namespace Go.Proofs.Ytpanlghofeebhaa
open Go Go.AM
set_option maxRecDepth 100000
theorem lrg19_k (t : List (List Int)) (m : Int) (_ht : t.length ≤ 140737488355328) : fnK TY SP Try.f20 [.ro (.rows .i64 t), .int .i64 m] (.bool (.v (decide (m < t.length ∧ shapeV t = 0)))) := by
  refine And.intro (fun h1 => ?_) (fun h1 => ?_)
  · refine Or.inl (cq (rshape_fn t) (And.intro rfl trivial) ?_)
    refine And.intro ?_ trivial
    show decide (shapeV t = 0) = decide (m < t.length ∧ shapeV t = 0)
    simp [h1]
  · refine And.intro ?_ trivial
    show false = decide (m < t.length ∧ shapeV t = 0)
    rw [decide_eq_false (fun h => by omega)]
theorem lrg19_fn (t : List (List Int)) (m : Int) : QF 20 [.ro (.rows .i64 t), .int .i64 m] (.bool (.v (decide (m < t.length ∧ shapeV t = 0)))) := mkQ Try.func20 (by decide +kernel) rfl (Nat.le_of_ble_eq_true rfl) fun hf => lrg19_k t m hf.1.1
end Go.Proofs.Ytpanlghofeebhaa
end
