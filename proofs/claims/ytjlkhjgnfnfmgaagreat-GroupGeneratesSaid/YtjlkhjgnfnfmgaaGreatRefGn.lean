import Derived.Test.YtjlkhjgnfnfmgaaGreatMinsLaw
import Derived.Test.YtjlkhjgnfnfmgaaGreatPermLaw
import Derived.Test.YtjlkhjgnfnfmgaaGreatCooLaw
section
/- The reference's minimal congruences: contracts. -/
namespace Go.Proofs.YtjlkhjgnfnfmgaaGreat
open Go Go.AM
set_option maxRecDepth 100000
theorem insRow_fn (l : List (List Int)) (x : List Int) (hl : l.length ≤ 100000) (hs0 : Srt cmpL l) : QF 47 [.ro (.rows .i64 l), .ro (.ints .i64 x)] (.ro (.rows .i64 (insC cmpL l x))) := mkQ Tryz.func47 (by decide +kernel) rfl (Nat.le_of_ble_eq_true rfl) fun _ => by
  refine Exists.intro [] <| lp (X := Nat) (fun i => [(5, .int .i64 i)]) (fun _ => []) (fun i => i ≤ l.length ∧ ∀ j, i ≤ j → j < l.length → cmpL x (l.getD j []) < 0) (fun i => i) l.length (by simp; omega) (by repeat' first | refine And.intro ?_ ?_ | exact True.intro | (show (_ : Int) = (_ : Int); omega) | omega | exact rfl | (simp only [RO.len]; omega)) ?_
  rintro i ⟨hi, hs⟩
  have e0 : ((i : Int) - 1).toNat = i - 1 := by omega
  refine And.intro (fun h1 => ?_) (fun h1 => ?_)
  · refine And.intro (by omega) ?_
    refine And.intro (by omega) ?_
    refine Or.inl (cq (rLess_fn x (l.getD ((i : Int) - 1).toNat [])) (And.intro rfl (And.intro rfl trivial)) ?_)
    refine And.intro (fun h2 => ?_) (fun h2 => ?_)
    · have h2 : cmpL x (l.getD ((i : Int) - 1).toNat []) < 0 := of_decide_eq_true h2
      rw [e0] at h2
      refine And.intro (by omega) ?_
      refine nx (i - 1) ⟨by omega, fun j hj hjl => ?_⟩ (show i - 1 < i by omega) (by repeat' first | refine And.intro ?_ ?_ | exact True.intro | (show (_ : Int) = (_ : Int); omega) | omega | exact rfl | (simp only [RO.len]; omega))
      by_cases e : j = i - 1
      · rw [e]; exact h2
      · exact hs j (by omega) hjl
    · have h2 : ¬ cmpL x (l.getD ((i : Int) - 1).toNat []) < 0 := of_decide_eq_false h2
      rw [e0] at h2
      refine And.intro (fun h3 => ?_) (fun h3 => by omega)
      refine And.intro (by omega) ?_
      refine And.intro (by omega) ?_
      refine Or.inl (cq (same_fn (l.getD ((i : Int) - 1).toNat []) x) (And.intro rfl (And.intro rfl trivial)) ?_)
      refine And.intro (fun h4 => ?_) (fun h4 => ?_)
      · have h4 : l.getD ((i : Int) - 1).toNat [] = x := of_decide_eq_true h4
        rw [e0] at h4
        refine And.intro ?_ trivial
        refine congrArg (RO.rows .i64) (insC_in ?_).symm
        rw [← h4]
        exact getD_mem (by omega)
      · have h4 : ¬ l.getD ((i : Int) - 1).toNat [] = x := of_decide_eq_false h4
        rw [e0] at h4
        have hlt : cmpL (l.getD (i - 1) []) x < 0 := by
          have := cmpL_tot.swap (l.getD (i - 1) []) x
          have := mt (cmpL_tot.eq (l.getD (i - 1) []) x) h4
          omega
        have fin := insC_at cmpL_tot (d := []) hs0 hi hs fun _ => hlt
        refine Or.inr (Exists.intro insSch (And.intro (by decide +kernel) ?_))
        refine And.intro (by omega) ?_
        refine And.intro (by omega) ?_
        repeat' first | exact trivial | refine And.intro ?_ ?_
        all_goals first | (simp; omega) | exact congrArg (RO.rows .i64) (by rw [← fin]; simp)
  · refine And.intro (fun h3 => by omega) (fun h3 => ?_)
    have fin := insC_at cmpL_tot (d := []) hs0 hi hs fun h => by omega
    refine Or.inr (Exists.intro insSch (And.intro (by decide +kernel) ?_))
    refine And.intro (by omega) ?_
    refine And.intro (by omega) ?_
    repeat' first | exact trivial | refine And.intro ?_ ?_
    all_goals first | (simp; omega) | exact congrArg (RO.rows .i64) (by rw [← fin]; simp)
end Go.Proofs.YtjlkhjgnfnfmgaaGreat
end
section
/- The reference's Generate: contract. -/
namespace Go.Proofs.YtjlkhjgnfnfmgaaGreat
open Go Go.AM
set_option maxRecDepth 100000
theorem insC_more {S : List (List Int)} {x : List Int} (hS : Srt cmpL S) (hx : x ∉ S) : S.length < (insC cmpL S x).length := by
  have := (List.nodup_cons.2 ⟨hx, hS.nodup cmpL_tot⟩ : (x :: S).Nodup).length_le_of_subset (l₂ := insC cmpL S x) fun y hy => by
    rcases List.mem_cons.1 hy with rfl | hy
    · exact insC_mem.2 (.inl rfl)
    · exact insC_mem.2 (.inr hy)
  simp at this; omega
theorem srt_one (x : List Int) : Srt cmpL [x] := by simp [Srt]
set_option maxHeartbeats 4000000 in
theorem rgen_fn (G : List (List Int)) (n : Nat) (h0 : 0 < G.length) (h8 : G.length ≤ 8) (h1 : 1 ≤ n) (h5 : n ≤ 5) (hG : ∀ f ∈ G, prmP f ∧ f.length = n) : QF 12 [.ro (.rows .i64 G)] (.tup [.ro (.rows .i64 (grpL n G)), .int .i64 0]) := mkQ Tryz.func12 (by decide +kernel) rfl (Nat.le_of_ble_eq_true rfl) fun _ => by
  have hP : ∀ f ∈ G, Perm n f := fun f hf => (hG f hf).2 ▸ (hG f hf).1.perm
  have hn0 : (G.getD 0 []).length = n := (hG _ (getD_mem h0)).2
  have hm : mayV G = 0 := may_zero.2 ⟨h0, fun f hf => ⟨by have := (hG f hf).2; omega, (hG f hf).1⟩⟩
  refine Or.inl (cq (rmay16_fn G) (And.intro rfl trivial) ?_)
  refine And.intro (fun h => absurd hm h) (fun _ => ?_)
  refine And.intro (by omega) ?_
  refine Or.inl (cq (rdis_fn (G.getD 0 []).length (by omega)) (And.intro rfl trivial) ?_)
  have eD : RO.rows .i64 [disI (G.getD 0 []).length] = RO.rows .i64 [disI n] := by rw [hn0]
  refine Exists.intro [23, 22] <| lp3 (fun (i : Nat) (E S : List (List Int)) => [(7, .int .i64 i), (5, .vec 22), (6, .ro (.rows .i64 S))]) (fun _ E _ => [(22, .vec 1 (.rows .i64 E) [])]) (fun i E S => i ≤ E.length ∧ 1 ≤ E.length ∧ GnJ n G E i 0 ∧ Srt cmpL S ∧ ∀ p, p ∈ S ↔ p ∈ E) (fun i E _ => (120 - E.length) * 1000 + (E.length - i)) 0 [disI n] [disI n] ⟨by simp, by simp, GnJ.start n G, srt_one _, fun _ => Iff.rfl⟩ (by repeat' first | refine And.intro ?_ ?_ | exact True.intro | exact eD | exact Nat.le_refl _ | omega | exact rfl) ?_
  rintro i E S ⟨hi, hE1, hJ, hS, hm⟩
  have hEl : E.length ≤ 120 := hJ.few h5 hP
  refine And.intro (fun h1 => ?_) (fun h1 => ?_)
  · have h1 : (i : Int) < (E.length : Int) := h1
    refine Exists.intro [25] <| lp3 (fun (l : Nat) (E S : List (List Int)) => [(32, .int .i64 l), (5, .vec 22), (6, .ro (.rows .i64 S))]) (fun _ E _ => [(22, .vec 1 (.rows .i64 E) [])]) (fun l E' S => l ≤ G.length ∧ E.length ≤ E'.length ∧ i < E'.length ∧ GnJ n G E' i l ∧ Srt cmpL S ∧ ∀ p, p ∈ S ↔ p ∈ E') (fun l _ _ => G.length - l) 0 E S ⟨by omega, Nat.le_refl _, by omega, hJ, hS, hm⟩ (by repeat' first | refine And.intro ?_ ?_ | exact True.intro | (simp only [RO.len]; omega) | omega | exact rfl) ?_
    rintro l E' S' ⟨hl, hE2, hi2, hJ', hS', hm'⟩
    have hEl' : E'.length ≤ 120 := hJ'.few h5 hP
    refine And.intro (fun h2 => ?_) (fun h2 => ?_)
    · have h2 : (l : Int) < (G.length : Int) := h2
      have hll : l < G.length := by omega
      have hpe := (hJ'.wd _ (getD_mem (d := []) hi2)).perm hP
      have hpg := hP _ (getD_mem (d := []) hll)
      refine And.intro (by omega) ?_
      refine And.intro (by omega) ?_
      refine Or.inl (cq (rcomp_fn (E'.getD i []) (G.getD l []) (by have := hpe.len; omega) (fun z hz => by have := hpe.rng z hz; have := hpg.len; omega)) (And.intro rfl (And.intro rfl trivial)) ?_)
      have hSl : S'.length ≤ 120 := by
        refine Nat.le_trans ((hS'.nodup cmpL_tot).length_le_of_subset (l₂ := E') fun p hp => (hm' p).1 hp) hEl'
      refine Or.inl (cq (insRow_fn S' (cmpP (E'.getD i []) (G.getD l [])) (by omega) hS') (And.intro rfl (And.intro rfl trivial)) ?_)
      refine And.intro (fun h3 => ?_) (fun h3 => ?_)
      · have h3 : (S'.length : Int) < ((insC cmpL S' (cmpP (E'.getD i []) (G.getD l []))).length : Int) := h3
        have hno : cmpP (E'.getD i []) (G.getD l []) ∉ E' := fun hin => by
          rw [insC_in ((hm' _).2 hin)] at h3; omega
        have hJ2 := hJ'.add hi2 hll hno
        have h120 := hJ2.few h5 hP
        have hone : 1 ≤ (RO.rows .i64 (E' ++ [cmpP (E'.getD i []) (G.getD l [])])).len := by show 1 ≤ (E' ++ [cmpP (E'.getD i []) (G.getD l [])]).length; rw [List.length_append]; simp
        refine And.intro (by simp; omega) ?_
        refine And.intro (fun h4 => ?_) (fun _ => ?_)
        · have h4 : 2000 < ((E' ++ [cmpP (E'.getD i []) (G.getD l [])]).length : Int) := h4
          omega
        refine And.intro (by omega) ?_
        exact nx (l + 1, E' ++ [cmpP (E'.getD i []) (G.getD l [])], insC cmpL S' (cmpP (E'.getD i []) (G.getD l []))) ⟨by omega, by rw [List.length_append]; omega, by rw [List.length_append]; omega, hJ2, insC_srt cmpL_tot hS', fun p => by rw [insC_mem, List.mem_append, List.mem_singleton, hm' p]; exact Or.comm⟩ (show G.length - (l + 1) < G.length - l by omega) (by repeat' first | refine And.intro ?_ ?_ | exact True.intro | omega | exact hone | exact rfl)
      · have h3 : ((insC cmpL S' (cmpP (E'.getD i []) (G.getD l []))).length : Int) ≤ (S'.length : Int) := h3
        have hin : cmpP (E'.getD i []) (G.getD l []) ∈ S' := Classical.byContradiction fun hno => by
          have := insC_more hS' hno; omega
        refine And.intro (fun h4 => absurd (show 2000 < (E'.length : Int) from h4) (by omega)) (fun _ => ?_)
        refine And.intro (by omega) ?_
        exact nx (l + 1, E', S') ⟨by omega, hE2, hi2, hJ'.old ((hm' _).1 hin), hS', hm'⟩ (show G.length - (l + 1) < G.length - l by omega) (by repeat' first | refine And.intro ?_ ?_ | exact True.intro | (show (_ : Int) = (_ : Int); omega) | omega | exact rfl | (simp only [RO.len]; omega))
    · have h2 : (G.length : Int) ≤ (l : Int) := h2
      have hle : l = G.length := by omega
      subst hle
      refine And.intro (by omega) ?_
      refine nx (i + 1, E', S') ⟨by omega, by omega, hJ'.row (Nat.le_refl _), hS', hm'⟩ (show (120 - E'.length) * 1000 + (E'.length - (i + 1)) < (120 - E.length) * 1000 + (E.length - i) by omega) (by repeat' first | refine And.intro ?_ ?_ | exact True.intro | (show (_ : Int) = (_ : Int); omega) | omega | exact rfl | (simp only [RO.len]; omega))
  · have h1 : (E.length : Int) ≤ (i : Int) := h1
    have hfin := hJ.fin (by omega : E.length ≤ i)
    have he : S = grpL n G := grp_eq hP hS fun p => (hm p).trans (hfin p)
    refine And.intro (congrArg (RO.rows .i64) he) ?_
    exact And.intro rfl trivial
theorem rgenN_fn (G : List (List Int)) (h : mayV G ≠ 0) : QF 12 [.ro (.rows .i64 G)] (.tup [.nils, .int .i64 (mayV G)]) := mkQ Tryz.func12 (by decide +kernel) rfl (Nat.le_of_ble_eq_true rfl) fun _ => by
  refine Or.inl (cq (rmay16_fn G) (And.intro rfl trivial) ?_)
  refine And.intro (fun _ => ?_) (fun h1 => absurd h1 h)
  exact And.intro trivial (And.intro rfl trivial)
end Go.Proofs.YtjlkhjgnfnfmgaaGreat
end
