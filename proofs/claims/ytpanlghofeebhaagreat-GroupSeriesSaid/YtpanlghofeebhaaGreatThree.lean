import Derived.Test.YtpanlghofeebhaaGreatGSer
import Derived.Test.YtpanlghofeebhaaGreatJhHol
import Derived.Test.YtpanlghofeebhaaGreatJhSer
import Derived.Test.YtpanlghofeebhaaGreatEqvLaw
import Derived.Test.YtpanlghofeebhaaGreatGrpLaw
import Derived.Test.YtpanlghofeebhaaGreatRefPart
import Derived.Test.YtpanlghofeebhaaGreatMerge
import Derived.Test.YtpanlghofeebhaaGreatIdealLaw
section
/- The reference's Factors: contract. -/
namespace Go.Proofs.YtpanlghofeebhaaGreat
open Go Go.AM
set_option maxRecDepth 100000
theorem cmpF_neg {a b : Int × Bool} (h : a.1 < b.1 ∨ (a.1 = b.1 ∧ a.2 = false ∧ b.2 = true)) : cmpF a b < 0 := by
  unfold cmpF cmpI
  rcases h with h | ⟨h1, h2, h3⟩
  · simp [h]
  · simp [h1, h2, h3]
theorem cmpF_nn {a b : Int × Bool} (h : b.1 ≤ a.1 ∧ (a.1 ≠ b.1 ∨ a.2 = true ∨ b.2 = false)) : 0 ≤ cmpF a b := by
  unfold cmpF cmpI
  obtain ⟨h0, h1⟩ := h
  by_cases e : a.1 = b.1
  · have h1 := h1.resolve_left (fun hh => hh e)
    rw [e]
    rcases h1 with h1 | h1 <;> cases ha : a.2 <;> cases hb : b.2 <;> simp_all
  · have : b.1 < a.1 := by omega
    repeat' split
    all_goals omega
structure RfI (M : List (Int × Bool)) (u : List (List Int)) (out : List (Int × Bool)) : Prop where
  grp : Grp u
  few : u.length ≤ 16
  srt : out.Pairwise fun a b => cmpF a b ≤ 0
  prm : ∃ k, u.length ≤ k ∧ (out ++ (facR k u).map fI).Perm M
  len : out.length + u.length ≤ 17
noncomputable def fcN (u : List (List Int)) : Int × Bool := fI (classN (cosL u (pnL u)), @decide (Comm (quoL u (cosL u (pnL u)))) (Classical.propDecidable _))
theorem pn_lt {u : List (List Int)} (h : Grp u) (h2 : 1 < u.length) : (pnL u).length < u.length := by
  obtain ⟨_, hn, hm⟩ := pn_ok h h2
  have := mx_lt (elT u.length) hm
  rw [← pS_all, szT (allI_cl h.toSh), szT hn.cl, show (allI u).length = u.length from disI_len _] at this
  exact this
theorem RfI.next {M : List (Int × Bool)} {u : List (List Int)} {out : List (Int × Bool)} (H : RfI M u out) (h2 : 1 < u.length) {k : Nat} (hk : InsP cmpF (0, false) out (fcN u) k)
    (h0 : k = 0 ∨ 0 ≤ cmpF (fcN u) (out.getD (k - 1) (0, false))) : RfI M (subT u (pnL u)) (insA out (fcN u) k) := by
  have hn := (pn_ok H.grp h2).2.1
  have hlt := pn_lt H.grp h2
  obtain ⟨m, hm, hp⟩ := H.prm
  have hlen := (insA_perm out (fcN u) k).length_eq
  refine ⟨sub_grp H.grp hn.cl, by rw [subT_len]; have := H.few; omega, hk.srt cmpF_tot H.srt h0, ?_, by rw [subT_len, hlen, List.length_cons]; have := H.len; omega⟩
  match m, hm, hp with
  | 0, hm, _ => omega
  | m + 1, hm, hp =>
    refine ⟨m, by rw [subT_len]; omega, ?_⟩
    unfold facR at hp
    rw [if_neg (by omega)] at hp
    refine List.Perm.trans ?_ hp
    rw [List.map_cons]
    refine ((insA_perm out (fcN u) k).append_right _).trans ?_
    rw [List.cons_append]
    exact List.perm_middle.symm
theorem RfI.done {M : List (Int × Bool)} {u : List (List Int)} {out : List (Int × Bool)} (H : RfI M u out) (h2 : u.length ≤ 1) : out.Perm M := by
  obtain ⟨m, _, hp⟩ := H.prm
  have : facR m u = [] := by
    cases m with
    | zero => rfl
    | succ m => unfold facR; rw [if_pos h2]
  rw [this, List.map_nil, List.append_nil] at hp
  exact hp
set_option maxHeartbeats 8000000 in
theorem rFac_fn (t : List (List Int)) (h : Grp t) (hn : t.length ≤ 16) : EF 11 [.ro (.rows .i64 t)] (fun L : List (Int × Bool) => .ro (.facs L)) (fun L => (L.Pairwise fun a b => cmpF a b ≤ 0) ∧ L.Perm ((facR t.length t).map fI)) := mkE Tryz.func11 (by decide +kernel) rfl (Nat.le_of_ble_eq_true rfl) fun _ => by
  refine Exists.intro [10077] <| lp2 (fun (u : List (List Int)) (out : List (Int × Bool)) => [(0, .ro (.rows .i64 u)), (3, .ro (.facs out))]) (fun _ _ => []) (fun u out => RfI ((facR t.length t).map fI) u out) (fun u _ => u.length) t [] ⟨h, hn, .nil, ⟨t.length, Nat.le_refl _, .refl _⟩, by simp; omega⟩ (by repeat' first | refine And.intro ?_ ?_ | exact True.intro | (show (_ : Int) = (_ : Int); omega) | omega | exact rfl | (simp only [RO.len]; omega)) ?_
  intro u out H
  have hg := H.grp
  have hm := hg.most
  refine And.intro (fun h1 => ?_) (fun h1 => ?_)
  · have h1 : (1 : Int) < (u.length : Int) := h1
    have h1' : 1 < u.length := by omega
    obtain ⟨hns2, hns, _⟩ := pn_ok hg h1'
    have hnm : NmS u (pnL u) := ⟨hg, hns.cl, fun x hx y hy => hns.nrm x hx y hy⟩
    have hqg := pn_quo hg h1'
    have hnl : (nsL u).length ≤ 1941 := few_subs hg H.few (fun a ha => (nsL_mem.1 ha).cl) ((nsL_srt u).nodup cmpS_tot)
    refine Or.inl (cq (rNrms_fn u hg H.few) (And.intro rfl trivial) ?_)
    refine And.intro (by omega) ?_
    refine And.intro (by omega) ?_
    have epn : (nsL u).getD (((nsL u).length : Int) - 2).toNat [] = pnL u := by
      rw [show (((nsL u).length : Int) - 2).toNat = (nsL u).length - 2 by omega]; rfl
    refine Or.inl (cq (rQuoR_fn u (pnL u) hnm) (And.intro rfl (And.intro (congrArg (RO.ints .i64) epn) trivial)) ?_)
    refine Or.inl (cq (rcen14_fn (quoL u (cosL u (pnL u))) hqg.toSh) (And.intro rfl trivial) ?_)
    have hfac : fcN u = (((quoL u (cosL u (pnL u))).length : Int), decide (((ascV (quoL u (cosL u (pnL u))).length (cenB (quoL u (cosL u (pnL u))))).length : Int) = ((quoL u (cosL u (pnL u))).length : Int))) := by
      have hc : Comm (quoL u (cosL u (pnL u))) ↔ (ascV (quoL u (cosL u (pnL u))).length (cenB (quoL u (cosL u (pnL u))))).length = (quoL u (cosL u (pnL u))).length := cen_all.symm
      have e : classN (cosL u (pnL u)) = (quoL u (cosL u (pnL u))).length := quoL_len.symm
      unfold fcN fI
      rw [e]
      exact congrArg (Prod.mk _) (decide_eq_decide.2 (hc.trans (by omega)))
    have hlo := H.len
    refine Exists.intro [] <| lp (X := Nat) (fun k => [(9, .int .i64 k)]) (fun _ => []) (fun k => InsP cmpF (0, false) out (fcN u) k) (fun k => k) out.length ⟨Nat.le_refl _, fun j h1 h2 => by omega⟩ (by repeat' first | refine And.intro ?_ ?_ | exact True.intro | (show (_ : Int) = (_ : Int); omega) | omega | exact rfl | (simp only [RO.len]; omega)) ?_
    intro k hk
    have hkl := hk.le
    have e1 : ((k : Int) - 1).toNat = k - 1 := by omega
    have f1 : (fcN u).1 = ((quoL u (cosL u (pnL u))).length : Int) := by rw [hfac]
    have f2 : (fcN u).2 = decide (((ascV (quoL u (cosL u (pnL u))).length (cenB (quoL u (cosL u (pnL u))))).length : Int) = ((quoL u (cosL u (pnL u))).length : Int)) := by rw [hfac]
    have go : 0 < k → cmpF (fcN u) (out.getD (k - 1) (0, false)) < 0 → InsP cmpF (0, false) out (fcN u) (k - 1) := fun h0 hc => ⟨by omega, fun j hj hjl => by
      by_cases e : j = k - 1
      · rw [e]; exact hc
      · exact hk.up j (by omega) hjl⟩
    have b1 : (([] ++ ((out.take (k : Int).toNat).drop (Int.toNat 0)) : List (Int × Bool)).length : Int) ≤ 2199023255552 := by simp; omega
    have hpl : (pnL u).length ≤ u.length := Nat.le_of_lt (pn_lt hg h1')
    have hms : (subT u (pnL u)).length < u.length := by rw [subT_len]; exact pn_lt hg h1'
    have c1 : (([] ++ ((out.take (k : Int).toNat).drop (Int.toNat 0)) : List (Int × Bool)).length : Int) ≤ 2199023255552 := b1
    have eI : (([] ++ ((out.take (k : Int).toNat).drop (Int.toNat 0))) ++ [(((quoL u (cosL u (pnL u))).length : Int), decide (((ascV (quoL u (cosL u (pnL u))).length (cenB (quoL u (cosL u (pnL u))))).length : Int) = ((quoL u (cosL u (pnL u))).length : Int)))]) ++ ((out.take ((out.length : Nat) : Int).toNat).drop (k : Int).toNat) = insA out (fcN u) k := by
      rw [← hfac, Int.toNat_natCast, Int.toNat_natCast, List.take_length, show Int.toNat 0 = 0 from rfl, List.drop_zero, List.nil_append]; rfl
    have c2 : ((([] ++ ((out.take (k : Int).toNat).drop (Int.toNat 0))) ++ [(((quoL u (cosL u (pnL u))).length : Int), decide (((ascV (quoL u (cosL u (pnL u))).length (cenB (quoL u (cosL u (pnL u))))).length : Int) = ((quoL u (cosL u (pnL u))).length : Int)))] : List (Int × Bool)).length : Int) ≤ 2199023255552 := by
      rw [List.length_append, List.length_singleton, List.nil_append, Int.toNat_natCast, show Int.toNat 0 = 0 from rfl, List.drop_zero, List.length_take]; omega
    have c3 : (((([] ++ ((out.take (k : Int).toNat).drop (Int.toNat 0))) ++ [(((quoL u (cosL u (pnL u))).length : Int), decide (((ascV (quoL u (cosL u (pnL u))).length (cenB (quoL u (cosL u (pnL u))))).length : Int) = ((quoL u (cosL u (pnL u))).length : Int)))]) ++ ((out.take ((out.length : Nat) : Int).toNat).drop (k : Int).toNat) : List (Int × Bool)).length : Int) ≤ 2199023255552 := by
      rw [eI, (insA_perm out (fcN u) k).length_eq, List.length_cons]; omega
    refine Or.inl ?_
    refine Exists.intro (List.replicate 37 false) (And.intro (by decide +kernel) ?_)
    refine And.intro (fun h2 => ?_) (fun h2 => ?_)
    · have h2 : (0 : Int) < (k : Int) := h2
      refine And.intro (by omega) ?_
      refine And.intro (by omega) ?_
      refine And.intro (fun h3 => ?_) (fun h3 => ?_)
      · have h3 : ((quoL u (cosL u (pnL u))).length : Int) < (out.getD ((k : Int) - 1).toNat (0, false)).1 := h3
        rw [e1] at h3
        refine And.intro (by omega) ?_
        exact nx (k - 1) (go (by omega) (cmpF_neg (.inl (by rw [f1]; exact h3)))) (show k - 1 < k by omega) (by repeat' first | refine And.intro ?_ ?_ | exact True.intro | (show (_ : Int) = (_ : Int); omega) | omega | exact rfl | (simp only [RO.len]; omega))
      have h3 : (out.getD ((k : Int) - 1).toNat (0, false)).1 ≤ ((quoL u (cosL u (pnL u))).length : Int) := h3
      rw [e1] at h3
      refine And.intro (by omega) ?_
      refine And.intro (by omega) ?_
      refine And.intro (fun h4 => ?_) (fun h4 => ?_)
      · have h4 : ((quoL u (cosL u (pnL u))).length : Int) = (out.getD ((k : Int) - 1).toNat (0, false)).1 := h4
        rw [e1] at h4
        refine And.intro (fun h5 => ?_) (fun h5 => ?_)
        · have f2' : (fcN u).2 = false := by rw [f2]; exact decide_eq_false h5
          refine And.intro (by omega) ?_
          refine And.intro (by omega) ?_
          refine And.intro (fun h6 => ?_) (fun h6 => ?_)
          · have h6 : (out.getD ((k : Int) - 1).toNat (0, false)).2 = true := h6
            rw [e1] at h6
            refine And.intro (by omega) ?_
            exact nx (k - 1) (go (by omega) (cmpF_neg (.inr ⟨by rw [f1]; exact h4, f2', h6⟩))) (show k - 1 < k by omega) (by repeat' first | refine And.intro ?_ ?_ | exact True.intro | (show (_ : Int) = (_ : Int); omega) | omega | exact rfl | (simp only [RO.len]; omega))
          · have h6 : (out.getD ((k : Int) - 1).toNat (0, false)).2 = false := h6
            rw [e1] at h6
            have hx : k = 0 ∨ 0 ≤ cmpF (fcN u) (out.getD (k - 1) (0, false)) := .inr (cmpF_nn ⟨by rw [f1]; exact h3, .inr (.inr h6)⟩)
            refine Or.inr (Exists.intro (.fst 1 (.fst 2 (.fst 3 (.fst 8 (.fst 9 (.fst 10 (.br 0 (.br 4 (.br 5 (.br 6 (.br 7 (.br 11 (.fst 12 .done) .no) .no) .no) .no) (.br 5 (.br 4 (.br 6 (.br 7 (.br 11 (.fst 12 .done) .no) .no) .no) (.br 6 (.br 4 (.br 7 (.br 11 (.fst 12 .done) .no) .no) .no) .no)) .no)) (.br 5 (.br 0 (.br 4 (.br 6 (.br 7 (.br 11 (.fst 12 .done) .no) .no) .no) (.br 6 (.br 4 (.br 7 (.br 11 (.fst 12 .done) .no) .no) .no) .no)) (.br 6 (.br 0 (.br 4 (.br 7 (.br 11 (.fst 12 .done) .no) .no) .no) .no) .no)) .no)))))))) (And.intro (by decide +kernel) ?_))
            refine And.intro (by omega) ?_
            refine And.intro (by omega) ?_
            repeat' first
              | exact c1
              | exact c2
              | exact c3
              | exact True.intro
              | (refine Or.inl (cq (rsub_fn u hg.toSemi (pnL u) hns.cl hpl) (And.intro rfl (And.intro (congrArg (RO.ints .i64) epn) trivial)) ?_)
                 refine And.intro (fun h9 => absurd rfl h9) (fun _ => ?_)
                 exact nx (subT u (pnL u), insA out (fcN u) k) (H.next h1' hk hx) hms (by repeat' first | refine And.intro ?_ ?_ | exact True.intro | exact congrArg RO.facs eI | (show (_ : Int) = (_ : Int); omega) | omega | exact rfl))
              | refine And.intro ?_ ?_
        · have hx : k = 0 ∨ 0 ≤ cmpF (fcN u) (out.getD (k - 1) (0, false)) := .inr (cmpF_nn ⟨by rw [f1]; exact h3, .inr (.inl (by rw [f2]; exact decide_eq_true h5))⟩)
          refine Or.inr (Exists.intro (.fst 1 (.fst 2 (.fst 3 (.fst 8 (.fst 9 (.fst 10 (.br 0 (.br 4 (.br 5 (.br 6 (.br 7 (.br 11 (.fst 12 .done) .no) .no) .no) .no) (.br 5 (.br 4 (.br 6 (.br 7 (.br 11 (.fst 12 .done) .no) .no) .no) (.br 6 (.br 4 (.br 7 (.br 11 (.fst 12 .done) .no) .no) .no) .no)) .no)) (.br 5 (.br 0 (.br 4 (.br 6 (.br 7 (.br 11 (.fst 12 .done) .no) .no) .no) (.br 6 (.br 4 (.br 7 (.br 11 (.fst 12 .done) .no) .no) .no) .no)) (.br 6 (.br 0 (.br 4 (.br 7 (.br 11 (.fst 12 .done) .no) .no) .no) .no) .no)) .no)))))))) (And.intro (by decide +kernel) ?_))
          refine And.intro (by omega) ?_
          refine And.intro (by omega) ?_
          repeat' first
            | exact c1
            | exact c2
            | exact c3
            | exact True.intro
            | (refine Or.inl (cq (rsub_fn u hg.toSemi (pnL u) hns.cl hpl) (And.intro rfl (And.intro (congrArg (RO.ints .i64) epn) trivial)) ?_)
               refine And.intro (fun h9 => absurd rfl h9) (fun _ => ?_)
               exact nx (subT u (pnL u), insA out (fcN u) k) (H.next h1' hk hx) hms (by repeat' first | refine And.intro ?_ ?_ | exact True.intro | exact congrArg RO.facs eI | (show (_ : Int) = (_ : Int); omega) | omega | exact rfl))
            | refine And.intro ?_ ?_
      · have h4 : ((quoL u (cosL u (pnL u))).length : Int) ≠ (out.getD ((k : Int) - 1).toNat (0, false)).1 := h4
        rw [e1] at h4
        have hx : k = 0 ∨ 0 ≤ cmpF (fcN u) (out.getD (k - 1) (0, false)) := .inr (cmpF_nn ⟨by rw [f1]; exact h3, .inl (by rw [f1]; exact h4)⟩)
        refine Or.inr (Exists.intro (.fst 1 (.fst 2 (.fst 3 (.fst 8 (.fst 9 (.fst 10 (.br 0 (.br 4 (.br 5 (.br 6 (.br 7 (.br 11 (.fst 12 .done) .no) .no) .no) .no) (.br 5 (.br 4 (.br 6 (.br 7 (.br 11 (.fst 12 .done) .no) .no) .no) (.br 6 (.br 4 (.br 7 (.br 11 (.fst 12 .done) .no) .no) .no) .no)) .no)) (.br 5 (.br 0 (.br 4 (.br 6 (.br 7 (.br 11 (.fst 12 .done) .no) .no) .no) (.br 6 (.br 4 (.br 7 (.br 11 (.fst 12 .done) .no) .no) .no) .no)) (.br 6 (.br 0 (.br 4 (.br 7 (.br 11 (.fst 12 .done) .no) .no) .no) .no) .no)) .no)))))))) (And.intro (by decide +kernel) ?_))
        refine And.intro (by omega) ?_
        refine And.intro (by omega) ?_
        repeat' first
          | exact c1
          | exact c2
          | exact c3
          | exact True.intro
          | (refine Or.inl (cq (rsub_fn u hg.toSemi (pnL u) hns.cl hpl) (And.intro rfl (And.intro (congrArg (RO.ints .i64) epn) trivial)) ?_)
             refine And.intro (fun h9 => absurd rfl h9) (fun _ => ?_)
             exact nx (subT u (pnL u), insA out (fcN u) k) (H.next h1' hk hx) hms (by repeat' first | refine And.intro ?_ ?_ | exact True.intro | exact congrArg RO.facs eI | (show (_ : Int) = (_ : Int); omega) | omega | exact rfl))
          | refine And.intro ?_ ?_
    · have h2 : (k : Int) ≤ 0 := h2
      have hx : k = 0 ∨ 0 ≤ cmpF (fcN u) (out.getD (k - 1) (0, false)) := .inl (by omega)
      refine Or.inr (Exists.intro (.fst 1 (.fst 2 (.fst 3 (.fst 8 (.fst 9 (.fst 10 (.br 0 (.br 4 (.br 5 (.br 6 (.br 7 (.br 11 (.fst 12 .done) .no) .no) .no) .no) (.br 5 (.br 4 (.br 6 (.br 7 (.br 11 (.fst 12 .done) .no) .no) .no) (.br 6 (.br 4 (.br 7 (.br 11 (.fst 12 .done) .no) .no) .no) .no)) .no)) (.br 5 (.br 0 (.br 4 (.br 6 (.br 7 (.br 11 (.fst 12 .done) .no) .no) .no) (.br 6 (.br 4 (.br 7 (.br 11 (.fst 12 .done) .no) .no) .no) .no)) (.br 6 (.br 0 (.br 4 (.br 7 (.br 11 (.fst 12 .done) .no) .no) .no) .no) .no)) .no)))))))) (And.intro (by decide +kernel) ?_))
      refine And.intro (by omega) ?_
      refine And.intro (by omega) ?_
      repeat' first
        | exact c1
        | exact c2
        | exact c3
        | exact True.intro
        | (refine Or.inl (cq (rsub_fn u hg.toSemi (pnL u) hns.cl hpl) (And.intro rfl (And.intro (congrArg (RO.ints .i64) epn) trivial)) ?_)
           refine And.intro (fun h9 => absurd rfl h9) (fun _ => ?_)
           exact nx (subT u (pnL u), insA out (fcN u) k) (H.next h1' hk hx) hms (by repeat' first | refine And.intro ?_ ?_ | exact True.intro | exact congrArg RO.facs eI | (show (_ : Int) = (_ : Int); omega) | omega | exact rfl))
        | refine And.intro ?_ ?_
  · have h1 : (u.length : Int) ≤ 1 := h1
    exact Exists.intro out (And.intro ⟨H.srt, H.done (by omega)⟩ (by repeat' first | refine And.intro ?_ ?_ | exact True.intro | (show (_ : Int) = (_ : Int); omega) | omega | exact rfl | (simp only [RO.len]; omega)))
end Go.Proofs.YtpanlghofeebhaaGreat
end
section
/- group.CheckSeries: contract. -/
namespace Go.Proofs.YtpanlghofeebhaaGreat
open Go Go.AM
set_option maxRecDepth 100000
theorem sEq_k (a b : List Int) (ha : a.length ≤ 140737488355328) (_hb : b.length ≤ 140737488355328) : fnK TY SP Tryz.f23 [.ro (.ints .i64 a), .ro (.ints .i64 b)] (.bool (.v (decide (a = b)))) := by
  refine And.intro (fun h1 => ?_) (fun h1 => ?_)
  · refine And.intro ?_ trivial
    show false = decide (a = b)
    rw [decide_eq_false (fun e => h1 (by rw [e]))]
  refine Exists.intro [] <| lp (X := Nat) (fun k => [(13, .int .i64 k)]) (fun _ => []) (fun k => k ≤ a.length ∧ ∀ j, j < k → a.getD j 0 = b.getD j 0) (fun k => a.length - k) 0 ⟨Nat.zero_le _, by omega⟩ (by repeat' first | refine And.intro ?_ ?_ | exact True.intro | (show (_ : Int) = (_ : Int); omega) | omega | exact rfl | (simp only [RO.len]; omega)) ?_
  intro k hk
  refine And.intro (fun h2 => ?_) (fun h2 => ?_)
  · refine Or.inl <| Exists.intro [false, false, false, false, false, false, false, false, false] (And.intro (by decide +kernel) ?_)
    refine And.intro (by omega) ?_
    refine And.intro (by omega) ?_
    refine And.intro (fun h3 => ?_) (fun h3 => ?_)
    · refine And.intro ?_ trivial
      show false = decide (a = b)
      rw [decide_eq_false (fun e => h3 (by rw [e]))]
    · refine And.intro (by omega) ?_
      refine nx (k + 1) ⟨by omega, fun j hj => ?_⟩ (show a.length - (k + 1) < a.length - k by omega) (by repeat' first | refine And.intro ?_ ?_ | exact True.intro | (show (_ : Int) = (_ : Int); omega) | omega | exact rfl | (simp only [RO.len]; omega))
      by_cases hjk : j < k
      · exact hk.2 j hjk
      · have : j = k := by omega
        rw [this]; exact h3
  · refine And.intro ?_ trivial
    show true = decide (a = b)
    rw [decide_eq_true (ext_getD 0 (by omega) fun i hi => hk.2 i (by omega))]
theorem sEq_fn (a b : List Int) : QF 23 [.ro (.ints .i64 a), .ro (.ints .i64 b)] (.bool (.v (decide (a = b)))) := mkQ Tryz.func23 (by decide +kernel) rfl (Nat.le_of_ble_eq_true rfl) fun hf => sEq_k a b hf.1.1 hf.2.1.1
theorem gChkN_k (t : List (List Int)) (S : List (List Int)) (h : ¬ Grp t) : fnK TY SP Tryz.f8 [.ro (.rows .i64 t), .ro (.rows .i64 S)] (.bool (.v (chSB t S))) := by
  rw [chSB_false.2 fun hh => h hh.grp]
  refine Or.inl (cq (open_fn t) (And.intro rfl trivial) ?_)
  rw [grpB_false.2 h]
  refine Or.inl ?_
  refine Exists.intro (List.replicate 16 false) (And.intro (by decide +kernel) ?_)
  refine And.intro (fun h1 => ?_) (fun h1 => ?_)
  · exact And.intro rfl trivial
  · have h1 : (!false) = false := h1
    cases h1
theorem gChk_k (t : List (List Int)) (S : List (List Int)) (h : Grp t) (hS : S.length ≤ 140737488355328) : fnK TY SP Tryz.f8 [.ro (.rows .i64 t), .ro (.rows .i64 S)] (.bool (.v (chSB t S))) := by
  have hm := h.most
  refine Or.inl (cq (openY_fn t h) (And.intro rfl trivial) ?_)
  refine Or.inl ?_
  refine Exists.intro (List.replicate 16 false) (And.intro (by decide +kernel) ?_)
  refine And.intro (fun h1 => ?_) (fun h1 => ?_)
  · have h1 : (S.length : Int) = 0 := h1
    exact And.intro (chSB_false.2 fun hh => by have := hh.pos; omega).symm trivial
  have h1 : (S.length : Int) ≠ 0 := h1
  refine And.intro (by omega) ?_
  refine cq (gallR_fn t hm) (And.intro (by repeat' first | refine And.intro ?_ ?_ | exact True.intro | (show (_ : Int) = (_ : Int); omega) | omega | exact rfl | (simp only [RO.len]; omega)) trivial) ?_
  refine cq (sEq_fn (S.getD 0 []) (allI t)) (And.intro rfl (And.intro rfl trivial)) ?_
  refine And.intro (fun h2 => ?_) (fun h2 => ?_)
  · have h2 : (!decide (S.getD 0 [] = allI t)) = true := h2
    exact And.intro (chSB_false.2 fun hh => by rw [decide_eq_true hh.top] at h2; cases h2).symm trivial
  have h2 : (!decide (S.getD 0 [] = allI t)) = false := h2
  have htop : S.getD 0 [] = allI t := by simpa using h2
  refine And.intro (by omega) ?_
  have hd : ∀ i, ((S.take ((S.length : Nat) : Int).toNat).drop (Int.toNat 1)).getD i [] = S.getD (i + 1) [] := fun i => by
    rw [Int.toNat_natCast, List.take_length, show Int.toNat 1 = 1 from rfl]
    simp [List.getD, Nat.add_comm]
  have hdl : ((S.take ((S.length : Nat) : Int).toNat).drop (Int.toNat 1)).length = S.length - 1 := by
    rw [Int.toNat_natCast, List.take_length, List.length_drop]; rfl
  refine Exists.intro [] <| lp (X := Nat) (fun k => [(34, .int .i64 k)]) (fun _ => []) (fun k => k ≤ S.length - 1 ∧ ∀ i, i < k → StepG t (S.getD i []) (S.getD (i + 1) [])) (fun k => S.length - 1 - k) 0 ⟨Nat.zero_le _, by omega⟩ (by repeat' first | refine And.intro ?_ ?_ | exact True.intro | (show (_ : Int) = (_ : Int); omega) | omega | exact rfl | (simp only [RO.len]; omega)) ?_
  rintro k ⟨hk, hP⟩
  have hcl : ∀ i, i ≤ k → ClL t (S.getD i []) := fun i hi => by
    rcases i with _ | i
    · rw [htop]; exact allI_cl h.toSh
    · exact (hP i (by omega)).cl
  refine And.intro (fun h3 => ?_) (fun h3 => ?_)
  · have h3 : (k : Int) < (((S.take ((S.length : Nat) : Int).toNat).drop (Int.toNat 1)).length : Int) := h3
    have hkl : k + 1 < S.length := by rw [hdl] at h3; omega
    obtain ⟨X, hX⟩ : ∃ X, X = ((S.take ((S.length : Nat) : Int).toNat).drop (Int.toNat 1)).getD k [] := ⟨_, rfl⟩
    have eX : X = S.getD (k + 1) [] := hX.trans (hd k)
    have ca := hcl k (Nat.le_refl _)
    have bad : ¬ StepG t (S.getD k []) X → (BE.lit false).val = (BE.v (chSB t S)).val := fun hn => (chSB_false.2 fun hh => hn (by rw [eX]; exact hh.step k hkl)).symm
    refine And.intro (by omega) ?_
    refine And.intro (by omega) ?_
    refine Or.inl (cq (gsub_fn t X h) (And.intro (by repeat' first | refine And.intro ?_ ?_ | exact True.intro | (show (_ : Int) = (_ : Int); omega) | omega | exact rfl | (simp only [RO.len]; omega)) (And.intro (congrArg (RO.ints .i64) hX.symm) trivial)) ?_)
    refine And.intro (fun h4 => ?_) (fun h4 => ?_)
    · have h4 : (!clB t X) = true := h4
      exact And.intro (bad fun hh => by rw [clB_true.2 hh.cl] at h4; cases h4) trivial
    have h4 : (!clB t X) = false := h4
    have cx : ClL t X := clB_true.1 (by simpa using h4)
    refine Or.inl (cq (gcon_fn t (S.getD k []) X hm ca.ins cx.ins) (And.intro (by repeat' first | refine And.intro ?_ ?_ | exact True.intro | (show (_ : Int) = (_ : Int); omega) | omega | exact rfl | (simp only [RO.len]; omega)) (And.intro rfl (And.intro (congrArg (RO.ints .i64) hX.symm) trivial))) ?_)
    refine And.intro (fun h5 => ?_) (fun h5 => ?_)
    · have h5 : (!decide (∀ x ∈ X, x ∈ S.getD k [])) = true := h5
      exact And.intro (bad fun hh => by rw [decide_eq_true hh.sub] at h5; cases h5) trivial
    have h5 : (!decide (∀ x ∈ X, x ∈ S.getD k [])) = false := h5
    have hsub : ∀ x ∈ X, x ∈ S.getD k [] := of_decide_eq_true (p := ∀ x ∈ X, x ∈ S.getD k []) (by simpa only [Bool.not_eq_false'] using h5)
    refine Or.inl (cq (gnrm_fn t (S.getD k []) X h ca.ins cx.ins) (And.intro (by repeat' first | refine And.intro ?_ ?_ | exact True.intro | (show (_ : Int) = (_ : Int); omega) | omega | exact rfl | (simp only [RO.len]; omega)) (And.intro rfl (And.intro (congrArg (RO.ints .i64) hX.symm) trivial))) ?_)
    refine And.intro (fun h6 => ?_) (fun h6 => ?_)
    · have h6 : (!nrmB t (S.getD k []) X) = true := h6
      exact And.intro (bad fun hh => by rw [nrmB_true.2 hh.nrm] at h6; cases h6) trivial
    have h6 : (!nrmB t (S.getD k []) X) = false := h6
    refine Or.inl (cq (mx_fn t (S.getD k []) X h ca cx hsub) (And.intro (by repeat' first | refine And.intro ?_ ?_ | exact True.intro | (show (_ : Int) = (_ : Int); omega) | omega | exact rfl | (simp only [RO.len]; omega)) (And.intro rfl (And.intro (congrArg (RO.ints .i64) hX.symm) trivial))) ?_)
    refine And.intro (fun h7 => ?_) (fun h7 => ?_)
    · have h7 : (!mxB t (S.getD k []) X) = true := h7
      exact And.intro (bad fun hh => by rw [mxB_true.2 hh.mx] at h7; cases h7) trivial
    have h7 : (!mxB t (S.getD k []) X) = false := h7
    have good : StepG t (S.getD k []) X := ⟨cx, hsub, nrmB_true.1 (by simpa using h6), mxB_true.1 (by simpa using h7)⟩
    refine And.intro (by omega) ?_
    refine nx (k + 1) ⟨by omega, fun i hi => ?_⟩ (show S.length - 1 - (k + 1) < S.length - 1 - k by omega) (by repeat' first | refine And.intro ?_ ?_ | exact True.intro | (show (_ : Int) = (_ : Int); omega) | omega | exact rfl | (simp only [RO.len]; omega))
    by_cases e : i = k
    · rw [e, ← eX]; exact good
    · exact hP i (by omega)
  · have h3 : (((S.take ((S.length : Nat) : Int).toNat).drop (Int.toNat 1)).length : Int) ≤ (k : Int) := h3
    rw [hdl] at h3
    have e1 : ((S.length : Int) - 1).toNat = S.length - 1 := by omega
    refine And.intro (by omega) ?_
    refine And.intro (by omega) ?_
    refine And.intro ?_ trivial
    show decide (((S.getD ((S.length : Int) - 1).toNat []).length : Int) = 1) = chSB t S
    rw [e1]
    by_cases hl : (S.getD (S.length - 1) []).length = 1
    · rw [decide_eq_true (by omega)]
      exact (chSB_true.2 ⟨h, by omega, htop, fun i hi => hP i (by omega), hl⟩).symm
    · rw [decide_eq_false (by omega)]
      exact (chSB_false.2 fun hh => hl hh.last).symm
theorem gChk_fn (t : List (List Int)) (S : List (List Int)) : QF 8 [.ro (.rows .i64 t), .ro (.rows .i64 S)] (.bool (.v (chSB t S))) := by
  by_cases h : Grp t
  · exact mkQ Tryz.func8 (by decide +kernel) rfl (Nat.le_of_ble_eq_true rfl) fun hf => gChk_k t S h hf.2.1.1
  · exact mkQ Tryz.func8 (by decide +kernel) rfl (Nat.le_of_ble_eq_true rfl) fun _ => gChkN_k t S h
end Go.Proofs.YtpanlghofeebhaaGreat
end
section
/- Plain: how the reference closes a partition under products. -/
namespace Go.Proofs.YtpanlghofeebhaaGreat
open Go Go.AM
theorem nodup_sub {α : Type} [DecidableEq α] : ∀ {A B : List α}, A.Nodup → (∀ x ∈ A, x ∈ B) → A.length ≤ B.length
  | [], _, _, _ => Nat.zero_le _
  | a :: A, B, hA, h => by
    have ha := h a (by simp)
    have hn := List.nodup_cons.1 hA
    have := nodup_sub (B := B.erase a) hn.2 fun x hx => (List.mem_erase_of_ne fun e => by subst e; exact hn.1 hx).2 (h x (List.mem_cons_of_mem _ hx))
    have hl := List.length_erase_of_mem ha
    have hp := List.length_pos_of_mem ha
    simp only [List.length_cons]; omega
end Go.Proofs.YtpanlghofeebhaaGreat
end
section
/- Plain: permutations, and the group that some of them generate. -/
namespace Go.Proofs.YtpanlghofeebhaaGreat
open Go Go.AM
structure Perm (n : Nat) (p : List Int) : Prop where
  len : p.length = n
  rng : ∀ x ∈ p, 0 ≤ x ∧ x < (n : Int)
  nd : p.Nodup
def cmpP (f g : List Int) : List Int := f.map fun y => g.getD y.toNat 0
section
variable {n : Nat} {f g h : List Int}
theorem cmpP_len : (cmpP f g).length = f.length := by simp [cmpP]
theorem cmpP_get {i : Nat} (hi : i < f.length) : (cmpP f g).getD i 0 = g.getD (f.getD i 0).toNat 0 := by simp [cmpP, List.getD, hi]
theorem Perm.at (hf : Perm n f) {i : Nat} (hi : i < n) : 0 ≤ f.getD i 0 ∧ f.getD i 0 < (n : Int) := hf.rng _ (getD_mem (by rw [hf.len]; exact hi))
theorem nodup_inj {l : List Int} (hl : l.Nodup) {i j : Nat} (hi : i < l.length) (hj : j < l.length) (e : l.getD i 0 = l.getD j 0) : i = j := by
  rw [getD_eq hi, getD_eq hj] at e
  exact (List.getElem_inj hl).1 e
theorem perm_dis (n : Nat) : Perm n (disI n) := ⟨disI_len n, fun x hx => mem_disI.1 hx, by
  refine List.nodup_iff_pairwise_ne.2 (List.pairwise_iff_getElem.2 fun a b ha hb hab => ?_)
  simp [disI]
  omega⟩
theorem Perm.cmp (hf : Perm n f) (hg : Perm n g) : Perm n (cmpP f g) := by
  refine ⟨by rw [cmpP_len, hf.len], fun x hx => ?_, ?_⟩
  · obtain ⟨y, hy, rfl⟩ := List.mem_map.1 hx
    have := hf.rng y hy
    exact hg.at (by omega)
  · refine List.nodup_iff_pairwise_ne.2 (List.pairwise_iff_getElem.2 fun a b ha hb hab e => ?_)
    have hla : a < f.length := by rw [cmpP_len] at ha; exact ha
    have hlb : b < f.length := by rw [cmpP_len] at hb; exact hb
    have e : (cmpP f g).getD a 0 = (cmpP f g).getD b 0 := by rw [getD_eq ha, getD_eq hb]; exact e
    rw [cmpP_get hla, cmpP_get hlb] at e
    have h1 := hf.at (i := a) (by rw [← hf.len]; exact hla)
    have h2 := hf.at (i := b) (by rw [← hf.len]; exact hlb)
    have h3 := nodup_inj hg.nd (by rw [hg.len]; omega) (by rw [hg.len]; omega) e
    have h4 := nodup_inj hf.nd hla hlb (by omega)
    omega
theorem cmpP_assoc (hf : Perm n f) (hg : Perm n g) : cmpP (cmpP f g) h = cmpP f (cmpP g h) := by
  refine ext_getD 0 (by rw [cmpP_len, cmpP_len, cmpP_len]) fun i hi => ?_
  rw [cmpP_len, cmpP_len] at hi
  have h1 := hf.at (i := i) (by rw [← hf.len]; exact hi)
  rw [cmpP_get (by rw [cmpP_len]; exact hi), cmpP_get hi, cmpP_get hi, cmpP_get (by rw [hg.len]; omega)]
theorem dis_cmp (hg : Perm n g) : cmpP (disI n) g = g := by
  refine ext_getD 0 (by rw [cmpP_len, disI_len, hg.len]) fun i hi => ?_
  rw [cmpP_len, disI_len] at hi
  rw [cmpP_get (by rw [disI_len]; exact hi), disI_get hi, Int.toNat_natCast]
theorem cmp_dis (hf : Perm n f) : cmpP f (disI n) = f := by
  refine ext_getD 0 (by rw [cmpP_len]) fun i hi => ?_
  rw [cmpP_len] at hi
  have h1 := hf.at (i := i) (by rw [← hf.len]; exact hi)
  rw [cmpP_get hi, disI_get (by omega)]; omega
end
inductive Wd (n : Nat) (G : List (List Int)) : List Int → Prop
  | one : Wd n G (disI n)
  | mul {f g : List Int} (h : Wd n G f) (hg : g ∈ G) : Wd n G (cmpP f g)
section
variable {n : Nat} {G H E : List (List Int)}
theorem Wd.perm (hG : ∀ g ∈ G, Perm n g) {f : List Int} (h : Wd n G f) : Perm n f := by
  induction h with
  | one => exact perm_dis n
  | mul _ hg ih => exact ih.cmp (hG _ hg)
theorem Wd.mono (hs : ∀ g ∈ G, g ∈ H) {f : List Int} (h : Wd n G f) : Wd n H f := by
  induction h with
  | one => exact .one
  | mul _ hg ih => exact .mul ih (hs _ hg)
theorem Wd.cmp (hG : ∀ g ∈ G, Perm n g) {f g : List Int} (hf : Wd n G f) (hg : Wd n G g) : Wd n G (cmpP f g) := by
  induction hg with
  | one => rw [cmp_dis (hf.perm hG)]; exact hf
  | mul h1 h2 ih => rw [← cmpP_assoc (hf.perm hG) (h1.perm hG)]; exact .mul ih h2
theorem Wd.least {Q : List Int → Prop} (h0 : Q (disI n)) (h1 : ∀ f g, Q f → g ∈ G → Q (cmpP f g)) {f : List Int} (h : Wd n G f) : Q f := by
  induction h with
  | one => exact h0
  | mul _ hg ih => exact h1 _ _ ih hg
theorem Wd.all {U : List (List Int)} (hU : ∀ g ∈ U, Perm n g) (hE : ∀ f ∈ E, Perm n f) (h0 : disI n ∈ E) (h1 : ∀ f ∈ E, ∀ g ∈ U, cmpP f g ∈ E) (hG : ∀ g ∈ G, Wd n U g) {f : List Int} (h : Wd n G f) : f ∈ E := by
  have key : ∀ g, Wd n U g → ∀ f ∈ E, cmpP f g ∈ E := fun g hg => by
    induction hg with
    | one => exact fun f hf => by rw [cmp_dis (hE f hf)]; exact hf
    | mul h2 h3 ih => exact fun f hf => by rw [← cmpP_assoc (hE f hf) (h2.perm hU)]; exact h1 _ (ih f hf) _ h3
  exact Wd.least h0 (fun f g hf hg => key g (hG g hg) f hf) h
end
def arrL (n : Nat) : Nat → List (List Int)
  | 0 => [[]]
  | k + 1 => (arrL n k).flatMap fun l => ((disI n).filter fun x => decide (x ∉ l)).map fun x => x :: l
theorem mem_arr {n : Nat} : ∀ {l : List Int}, l.Nodup → (∀ x ∈ l, 0 ≤ x ∧ x < (n : Int)) → l ∈ arrL n l.length
  | [], _, _ => List.mem_singleton.2 rfl
  | a :: l, hn, hr => by
    rw [List.nodup_cons] at hn
    refine List.mem_flatMap.2 ⟨l, mem_arr hn.2 fun x hx => hr x (List.mem_cons_of_mem _ hx), List.mem_map.2 ⟨a, List.mem_filter.2 ⟨mem_disI.2 (hr a (List.mem_cons_self ..)), decide_eq_true hn.1⟩, rfl⟩⟩
theorem arr_few : ∀ n, n ≤ 5 → (arrL n n).length ≤ 120 := by decide +kernel
theorem perms_few {n : Nat} (hn : n ≤ 5) {E : List (List Int)} (hd : E.Nodup) (hE : ∀ p ∈ E, Perm n p) : E.length ≤ 120 := by
  refine Nat.le_trans (nodup_sub hd (B := arrL n n) fun p hp => ?_) (arr_few n hn)
  have := mem_arr (hE p hp).nd (hE p hp).rng
  rw [(hE p hp).len] at this; exact this
noncomputable def wdB (n : Nat) (G : List (List Int)) (p : List Int) : Bool := @decide (Wd n G p) (Classical.propDecidable _)
theorem wdB_true {n : Nat} {G : List (List Int)} {p : List Int} : wdB n G p = true ↔ Wd n G p := by unfold wdB; exact @decide_eq_true_iff _ (Classical.propDecidable _)
noncomputable def grpL (n : Nat) (G : List (List Int)) : List (List Int) := srt cmpL (firsts ((arrL n n).filter (wdB n G)))
theorem mem_grp {n : Nat} {G : List (List Int)} (hG : ∀ g ∈ G, Perm n g) {p : List Int} : p ∈ grpL n G ↔ Wd n G p := by
  unfold grpL
  rw [srt_mem, mem_firsts, List.mem_filter, wdB_true]
  refine ⟨fun h => h.2, fun h => ⟨?_, h⟩⟩
  have hp := h.perm hG
  have := mem_arr hp.nd hp.rng
  rw [hp.len] at this; exact this
theorem grp_srt {n : Nat} {G : List (List Int)} : Srt cmpL (grpL n G) := srt_srt cmpL_tot (firsts_nodup _)
theorem grp_of {n : Nat} {G E : List (List Int)} (hG : ∀ g ∈ G, Perm n g) (hd : E.Nodup) (hE : ∀ p, p ∈ E ↔ Wd n G p) : srt cmpL E = grpL n G :=
  srt_of cmpL_tot hd grp_srt fun p => by rw [hE, mem_grp hG]
theorem grp_eq {n : Nat} {G S : List (List Int)} (hG : ∀ g ∈ G, Perm n g) (hs : Srt cmpL S) (hS : ∀ p, p ∈ S ↔ Wd n G p) : S = grpL n G :=
  sorted_uniq cmpL_tot hs grp_srt fun p => by rw [hS, mem_grp hG]
end Go.Proofs.YtpanlghofeebhaaGreat
end
section
/- Plain: orbits and blocks of permutations. -/
namespace Go.Proofs.YtpanlghofeebhaaGreat
open Go Go.AM
def imN (f : List Int) (a : Nat) : Nat := (f.getD a 0).toNat
theorem Perm.im {n : Nat} {f : List Int} (hf : Perm n f) {a : Nat} (ha : a < n) : imN f a < n ∧ f.getD a 0 = (imN f a : Int) := by
  have := hf.at ha
  unfold imN; omega
end Go.Proofs.YtpanlghofeebhaaGreat
end
section
/- Plain: orbits by group elements, and how many of them fix a point. -/
namespace Go.Proofs.YtpanlghofeebhaaGreat
open Go Go.AM
section
variable {n : Nat} {G : List (List Int)}
theorem im_cmp {f g : List Int} {a : Nat} (hf : Perm n f) (ha : a < n) : imN (cmpP f g) a = imN g (imN f a) := by
  unfold imN; rw [cmpP_get (by rw [hf.len]; exact ha)]
theorem perm_ext {f g : List Int} (hf : Perm n f) (hg : Perm n g) (h : ∀ a, a < n → imN f a = imN g a) : f = g := by
  refine ext_getD 0 (by rw [hf.len, hg.len]) fun i hi => ?_
  have hi : i < n := by rw [← hf.len]; exact hi
  rw [(hf.im hi).2, (hg.im hi).2, h i hi]
theorem cmp_injR {f g h : List Int} (hf : Perm n f) (hg : Perm n g) (hh : Perm n h) (e : cmpP g f = cmpP g h) : f = h := by
  have hsur : ∀ b, b < n → ∃ a, a < n ∧ imN g a = b := fun b hb => by
    have hb' : (b : Int) ∈ disI n := mem_disI.2 ⟨by omega, by omega⟩
    have := sub_all hg.nd (B := disI n) (fun x hx => mem_disI.2 (hg.rng x hx)) (by rw [hg.len, disI_len]; exact Nat.le_refl _) _ hb'
    obtain ⟨i, hi, e⟩ := mem_getD 0 this
    exact ⟨i, by rw [← hg.len]; exact hi, by unfold imN; rw [e]; rfl⟩
  refine perm_ext hf hh fun b hb => ?_
  obtain ⟨a, ha, rfl⟩ := hsur b hb
  rw [← im_cmp hg ha, ← im_cmp hg ha, e]
theorem grp_nd : (grpL n G).Nodup := grp_srt.nodup cmpL_tot
theorem Wd.inv (hG : ∀ g ∈ G, Perm n g) {g : List Int} (hg : Wd n G g) : ∃ h, Wd n G h ∧ cmpP g h = disI n := by
  have hnd : ((grpL n G).map (cmpP g)).Nodup := by
    refine List.pairwise_map.2 (grp_nd.imp_of_mem fun {a b} ha hb hab e => hab ?_)
    exact cmp_injR ((mem_grp hG).1 ha |>.perm hG) (hg.perm hG) ((mem_grp hG).1 hb |>.perm hG) e
  have hall := sub_all hnd (B := grpL n G) (fun x hx => by
    obtain ⟨h, hh, rfl⟩ := List.mem_map.1 hx
    exact (mem_grp hG).2 (hg.cmp hG ((mem_grp hG).1 hh))) (by rw [List.length_map]; exact Nat.le_refl _) (disI n) ((mem_grp hG).2 .one)
  obtain ⟨h, hh, e⟩ := List.mem_map.1 hall
  exact ⟨h, (mem_grp hG).1 hh, e⟩
end
end Go.Proofs.YtpanlghofeebhaaGreat
end
section
/- Plain: the table of permutations. -/
namespace Go.Proofs.YtpanlghofeebhaaGreat
open Go Go.AM
section
variable {n : Nat} {E G : List (List Int)}
def idxL (E : List (List Int)) (x : List Int) : Nat := @List.idxOf _ instBEqOfDecidableEq x E
def pbE (E : List (List Int)) (a b : Nat) : Nat := idxL E (cmpP (E.getD a []) (E.getD b []))
def pbR (E : List (List Int)) (a c : Nat) : List Int := (List.range c).map fun b => (pbE E a b : Int)
def pbL (E : List (List Int)) (c : Nat) : List (List Int) := (List.range c).map fun a => pbR E a E.length
def ClsP (E : List (List Int)) : Prop := ∀ a b, a < E.length → b < E.length → cmpP (E.getD a []) (E.getD b []) ∈ E
theorem idxO_get {α : Type} [DecidableEq α] {l : List α} {x d : α} (h : x ∈ l) : l.idxOf x < l.length ∧ l.getD (l.idxOf x) d = x := by
  have h1 := List.idxOf_lt_length_of_mem h
  refine ⟨h1, ?_⟩
  rw [getD_eq h1]; exact List.getElem_idxOf h1
theorem idx_get {x : List Int} (h : x ∈ E) : idxL E x < E.length ∧ E.getD (idxL E x) [] = x := idxO_get h
theorem idx_uniq (hd : E.Nodup) {a : Nat} (ha : a < E.length) : idxL E (E.getD a []) = a := by
  have h1 := idx_get (getD_mem (d := []) ha)
  have e2 : E[idxL E (E.getD a [])]'h1.1 = E[a] := by
    rw [← getD_eq (d := []) h1.1, ← getD_eq (d := []) ha]; exact h1.2
  exact (List.getElem_inj hd).1 e2
theorem pbR_len (a c : Nat) : (pbR E a c).length = c := by simp [pbR]
theorem pbL_len (c : Nat) : (pbL E c).length = c := by simp [pbL]
theorem pbR_get {a b c : Nat} (hb : b < c) : (pbR E a c).getD b 0 = (pbE E a b : Int) := by simp [pbR, List.getD, hb]
theorem pbL_get {a c : Nat} (ha : a < c) : (pbL E c).getD a [] = pbR E a E.length := by simp [pbL, List.getD, ha]
theorem pt_en {a b : Nat} (ha : a < E.length) (hb : b < E.length) : en (pbL E E.length) a b = pbE E a b := by
  unfold en; rw [pbL_get ha, pbR_get hb]; rfl
theorem ClsP.lt (h : ClsP E) {a b : Nat} (ha : a < E.length) (hb : b < E.length) : pbE E a b < E.length ∧ E.getD (pbE E a b) [] = cmpP (E.getD a []) (E.getD b []) := idx_get (h a b ha hb)
theorem ClsP.sh (h : ClsP E) (h0 : 0 < E.length) (hm : E.length ≤ 400) : Sh (pbL E E.length) := by
  refine ⟨by rw [pbL_len]; exact h0, by rw [pbL_len]; exact hm, fun r hr => ?_⟩
  obtain ⟨a, ha, rfl⟩ := List.mem_map.1 hr
  have ha := List.mem_range.1 ha
  rw [pbL_len]
  refine ⟨pbR_len .., fun x hx => ?_⟩
  obtain ⟨b, hb, rfl⟩ := List.mem_map.1 hx
  have hb := List.mem_range.1 hb
  have := (h.lt ha hb).1
  omega
theorem pt_grp (hG : ∀ g ∈ G, Perm n g) (hm : (grpL n G).length ≤ 400) : Grp (pbL (grpL n G) (grpL n G).length) := by
  have hw : ∀ {a}, a < (grpL n G).length → Wd n G ((grpL n G).getD a []) := fun ha => (mem_grp hG).1 (getD_mem ha)
  have hC : ClsP (grpL n G) := fun a b ha hb => (mem_grp hG).2 ((hw ha).cmp hG (hw hb))
  have h1 := idx_get ((mem_grp hG).2 (Wd.one (n := n) (G := G)))
  have h0 : 0 < (grpL n G).length := by omega
  have hS := hC.sh h0 hm
  have hl := pbL_len (E := grpL n G) (grpL n G).length
  have key : ∀ {a : Nat} {x : List Int}, a < (grpL n G).length → x = (grpL n G).getD a [] → idxL (grpL n G) x = a := fun ha e => by rw [e]; exact idx_uniq grp_nd ha
  refine ⟨⟨hS, fun g hg x y hx hy => ?_⟩, idxL (grpL n G) (disI n), by rw [hl]; exact h1.1, fun x hx => ?_, fun x hx => ?_⟩
  · rw [hl] at hg hx hy
    have p1 := hC.lt hx hg
    have p2 := hC.lt hg hy
    rw [pt_en hx hg, pt_en hg hy, pt_en p1.1 hy, pt_en hx p2.1]
    unfold pbE at p1 p2 ⊢
    rw [p1.2, p2.2, cmpP_assoc ((hw hx).perm hG) ((hw hg).perm hG)]
  · rw [hl] at hx
    rw [pt_en h1.1 hx, pt_en hx h1.1]
    unfold pbE
    rw [h1.2]
    exact ⟨key hx (dis_cmp ((hw hx).perm hG)), key hx (cmp_dis ((hw hx).perm hG))⟩
  · rw [hl] at hx
    obtain ⟨h, hh, e⟩ := (hw hx).inv hG
    obtain ⟨k, hk, e2⟩ := hh.inv hG
    have e3 : cmpP h ((grpL n G).getD x []) = disI n := by
      have : (grpL n G).getD x [] = k := by
        rw [← cmp_dis ((hw hx).perm hG), ← e2, ← cmpP_assoc ((hw hx).perm hG) (hh.perm hG), e, dis_cmp (hk.perm hG)]
      rw [this]; exact e2
    have hy := idx_get ((mem_grp hG).2 hh)
    refine ⟨idxL (grpL n G) h, by rw [hl]; exact hy.1, ?_, ?_⟩
    · rw [pt_en hx hy.1]; unfold pbE; rw [hy.2, e]
    · rw [pt_en hy.1 hx]; unfold pbE; rw [hy.2, e3]
end
end Go.Proofs.YtpanlghofeebhaaGreat
end
section
/- The group of the permutations of three points, as the sanity check of chapter 16 makes it. -/
namespace Go.Proofs.YtpanlghofeebhaaGreat
def G3 : List (List Int) := [[1, 2, 0], [1, 0, 2]]
def E6 : List (List Int) := [[0, 1, 2], [0, 2, 1], [1, 0, 2], [1, 2, 0], [2, 0, 1], [2, 1, 0]]
def T6 : List (List Int) := [[0, 1, 2, 3, 4, 5], [1, 0, 3, 2, 5, 4], [2, 4, 0, 5, 1, 3], [3, 5, 1, 4, 0, 2], [4, 2, 5, 0, 3, 1], [5, 3, 4, 1, 2, 0]]
theorem g3p : ∀ g ∈ G3, Perm 3 g := fun g hg => by
  rcases List.mem_cons.1 hg with rfl | hg
  · exact ⟨rfl, by decide, by decide⟩
  · rw [List.mem_singleton.1 hg]; exact ⟨rfl, by decide, by decide⟩
theorem e6_eq : E6 = grpL 3 G3 := by
  refine grp_eq g3p (by unfold Srt; decide) fun p => ⟨fun h => ?_, fun h => ?_⟩
  · have ha : [1, 2, 0] ∈ G3 := by decide
    have hb : [1, 0, 2] ∈ G3 := by decide
    have w0 : Wd 3 G3 [0, 1, 2] := .one
    have w3 : Wd 3 G3 [1, 2, 0] := w0.mul ha
    have w2 : Wd 3 G3 [1, 0, 2] := w0.mul hb
    have w4 : Wd 3 G3 [2, 0, 1] := w3.mul ha
    have w1 : Wd 3 G3 [0, 2, 1] := w3.mul hb
    have w5 : Wd 3 G3 [2, 1, 0] := w4.mul hb
    simp only [E6, List.mem_cons, List.not_mem_nil, or_false] at h
    rcases h with rfl | rfl | rfl | rfl | rfl | rfl <;> assumption
  · have hp := h.perm g3p
    have := mem_arr hp.nd hp.rng
    rw [hp.len] at this
    exact (by decide : ∀ p ∈ arrL 3 3, p ∈ E6) p this
theorem t6_eq : pbL (grpL 3 G3) (grpL 3 G3).length = T6 := by
  rw [← e6_eq]; decide
theorem t6_grp : Grp T6 := by
  rw [← t6_eq]
  exact pt_grp g3p (by rw [← e6_eq]; decide)
end Go.Proofs.YtpanlghofeebhaaGreat
end
