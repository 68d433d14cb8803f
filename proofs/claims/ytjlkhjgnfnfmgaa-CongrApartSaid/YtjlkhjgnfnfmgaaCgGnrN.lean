import Derived.Test.YtjlkhjgnfnfmgaaCgSpr
section
/- Package congr: Generated: contract. -/
namespace Go.Proofs.Ytjlkhjgnfnfmgaa
open Go Go.AM
set_option maxRecDepth 100000
set_option maxHeartbeats 4000000 in
theorem cgnr_k (t : List (List Int)) (l : List (Int × Int)) (side : Int) (hll : l.length ≤ 140737488355328) (hs : Semi t) (hl : inW t.length l) (h0 : 0 ≤ side ∧ side ≤ 2) : fnK TY SP Try.f19 [.ro (.rows .i64 t), .ro (.pairs l), .int .i64 side] (.new (.ints .i64 (genP t side (relP l)))) := by
  have hmost := hs.most
  have n10 : ¬ (1 : Int) = ((0 : Nat) : Int) := by omega
  have n01 : ¬ (0 : Int) = ((0 + 1 : Nat) : Int) := by omega
  refine And.intro (fun h1 => absurd (show side < 0 from h1) (by omega)) (fun _ => ?_)
  refine And.intro (fun h1 => absurd (show 2 < side from h1) (by omega)) (fun _ => ?_)
  refine Exists.intro [] <| lp (X := Nat) (fun i => [(22, .int .i64 i)]) (fun _ => []) (fun i => i ≤ l.length) (fun i => l.length - i) 0 (Nat.zero_le _) (by repeat' first | refine And.intro ?_ ?_ | exact True.intro | (show (_ : Int) = (_ : Int); omega) | omega | exact rfl | (simp only [RO.len]; omega)) ?_
  intro i hi
  refine And.intro (fun h1 => ?_) (fun h1 => ?_)
  · have h1 : (i : Int) < (l.length : Int) := h1
    have hq := hl _ (getD_mem (d := ((0 : Int), (0 : Int))) (l := l) (i := i) (by omega))
    refine And.intro (by omega) ?_
    refine And.intro (by omega) ?_
    refine And.intro (fun _ => ?_) (And.intro (fun h => absurd h n01) trivial)
    refine And.intro (by omega) ?_
    refine And.intro (fun h => absurd h n10) (And.intro (fun _ => ?_) trivial)
    refine And.intro (fun h2 => ?_) (fun _ => ?_)
    · have h2 : min (l.getD i (0, 0)).1 (l.getD i (0, 0)).2 < 0 := h2
      omega
    refine And.intro (by omega) ?_
    refine And.intro (fun _ => ?_) (And.intro (fun h => absurd h n01) trivial)
    refine And.intro (by omega) ?_
    refine And.intro (fun h => absurd h n10) (And.intro (fun _ => ?_) trivial)
    refine And.intro (fun h2 => ?_) (fun _ => ?_)
    · have h2 : (t.length : Int) ≤ max (l.getD i (0, 0)).1 (l.getD i (0, 0)).2 := h2
      omega
    refine And.intro (by omega) ?_
    exact nx (i + 1) (show i + 1 ≤ _ by omega) (show l.length - (i + 1) < l.length - i by omega) (by repeat' first | refine And.intro ?_ ?_ | exact True.intro | (show (_ : Int) = (_ : Int); omega) | omega | exact rfl | (simp only [RO.len]; omega))
  · refine Or.inl (cq (valid_fn t) (And.intro rfl trivial) ?_)
    refine And.intro (fun h2 => absurd (valid_zero.2 hs) h2) (fun _ => ?_)
    refine Or.inr (Or.inl (cm [] [(7, 501), (5, 502)] (cnew_fn t.length (by omega)) ?_))
    refine And.intro (by repeat' first | refine And.intro ?_ ?_ | exact True.intro | (show (_ : Int) = (_ : Int); omega) | omega | exact rfl | (simp only [RO.len]; omega)) ?_
    refine Or.inr (Or.inr (ce (cgens_fn t hs.toSh) (And.intro rfl trivial) ?_))
    intro gens hg
    refine Exists.intro [7777] ?_
    have hst0 := GrI.start t gens side l
    have hcd : ((t.length : Nat) : Int) = ((cntR t.length id : Nat) : Int) := by rw [cnt_id]
    refine And.intro (fun h1 => ?_) (fun h1 => ?_)
    · have h1 : ((0 : Nat) : Int) < (l.length : Int) := h1
      have hil : 0 < l.length := by omega
      have hq := hl _ (getD_mem (d := ((0 : Int), (0 : Int))) (l := l) (i := 0) hil)
      have hq1 : inW t.length [l.getD 0 (0, 0)] := fun z hz => by rw [List.mem_singleton] at hz; subst hz; exact hq
      obtain ⟨q, u, k, hsp⟩ := sp_ex (side := side) hs.toSh hg.1.el _ (disI t.length) id [l.getD 0 (0, 0)] hst0.fo hq1 (Nat.le_refl _)
      have hn := hst0.next hs.toSh hg.1.el hl hil hsp
      have hsq := And.intro hq1 hsp
      refine And.intro (by omega) ?_
      refine Or.inr (Exists.intro (.fst 0 (.br 1 (.br 2 (.br 3 (.br 4 (.br 5 .done .no) .no) .no) .no) (.br 2 (.br 1 (.br 3 (.br 4 (.br 5 .done .no) .no) .no) (.br 3 (.br 1 (.br 4 (.br 5 .done .no) .no) .no) .no)) .no))) (And.intro (by decide +kernel) ?_))
      refine And.intro ?_ (And.intro ?_ trivial)
      · refine And.intro rfl ?_
        refine And.intro ?_ trivial
        refine And.intro ?_ trivial
        refine And.intro ?_ trivial
        refine And.intro (by simp) ?_
        refine And.intro ?_ trivial
        refine Or.inr (Or.inl (cm [50] [(1000, 501), (1001, 502), (1002, 61)] (cspr_fn t gens side hs.toSh hg.1.el hg.2 (disI t.length) q (id) u [l.getD 0 (0, 0)] k hst0.fo hsq.1 (by simp) hsq.2) ?_))
        refine And.intro (by repeat' first | refine And.intro ?_ ?_ | exact True.intro | exact hcd | (show (_ : Int) = (_ : Int); omega) | omega | exact rfl) ?_
        refine And.intro (by omega) ?_
        refine Exists.intro [10013, 10060] <| lp3 (fun (i : Nat) (_ : List Int) (_ : Nat → Nat) => [(53, .int .i64 i), (11, .vec 61)]) (fun _ p r => [(61, .jnk 1 2), (501, .box [.vec 502, .int .i64 (cntR t.length r)]), (502, .vec 0 (.ints .i64 p) [])]) (fun i p r => i ≤ l.length ∧ GrI t gens side l i p r) (fun i _ _ => l.length - i) (0 + 1) q u ⟨by omega, hn⟩ (by repeat' first | refine And.intro ?_ ?_ | exact True.intro | (show (_ : Int) = (_ : Int); omega) | omega | exact rfl | (simp only [RO.len]; omega)) ?_
        rintro i p r ⟨hi, hgi⟩
        refine And.intro (fun h1 => ?_) (fun h1 => ?_)
        · have h1 : (i : Int) < (l.length : Int) := h1
          have hil : i < l.length := by omega
          have hq := hl _ (getD_mem (d := ((0 : Int), (0 : Int))) (l := l) (i := i) hil)
          have hq1 : inW t.length [l.getD i (0, 0)] := fun z hz => by rw [List.mem_singleton] at hz; subst hz; exact hq
          obtain ⟨q2, u2, k2, hsp2⟩ := sp_ex (side := side) hs.toSh hg.1.el _ p r [l.getD i (0, 0)] hgi.fo hq1 (Nat.le_refl _)
          have hn2 := hgi.next hs.toSh hg.1.el hl hil hsp2
          have hsq2 := And.intro hq1 hsp2
          refine And.intro (by omega) ?_
          refine Or.inr (Exists.intro (.fst 0 (.br 1 (.br 2 (.br 3 (.br 4 (.br 5 .done .no) .no) .no) .no) (.br 2 (.br 1 (.br 3 (.br 4 (.br 5 .done .no) .no) .no) (.br 3 (.br 1 (.br 4 (.br 5 .done .no) .no) .no) .no)) .no))) (And.intro (by decide +kernel) ?_))
          refine And.intro ?_ (And.intro ?_ trivial)
          · refine And.intro rfl ?_
            refine And.intro ?_ trivial
            refine And.intro ?_ trivial
            refine And.intro ?_ trivial
            refine And.intro (by simp) ?_
            refine And.intro ?_ trivial
            refine Or.inr (Or.inl (cm [50] [(1000, 501), (1001, 502), (1002, 61)] (cspr_fn t gens side hs.toSh hg.1.el hg.2 (p) q2 (r) u2 [l.getD i (0, 0)] k2 hgi.fo hsq2.1 (by simp) hsq2.2) ?_))
            refine And.intro (by repeat' first | refine And.intro ?_ ?_ | exact True.intro | (show (_ : Int) = (_ : Int); omega) | omega | exact rfl | (simp only [RO.len]; omega)) ?_
            refine And.intro (by omega) ?_
            exact nx (i + 1, q2, u2) ⟨by omega, hn2⟩ (show l.length - (i + 1) < l.length - i by omega) (by repeat' first | refine And.intro ?_ ?_ | exact True.intro | (show (_ : Int) = (_ : Int); omega) | omega | exact rfl | (simp only [RO.len]; omega))
          · refine And.intro ?_ (And.intro ?_ trivial)
            · refine And.intro rfl ?_
              refine And.intro ?_ trivial
              refine And.intro ?_ trivial
              refine And.intro (by simp) ?_
              refine And.intro ?_ trivial
              refine Or.inr (Or.inl (cm [50] [(1000, 501), (1001, 502), (1002, 61)] (cspr_fn t gens side hs.toSh hg.1.el hg.2 (p) q2 (r) u2 [l.getD i (0, 0)] k2 hgi.fo hsq2.1 (by simp) hsq2.2) ?_))
              refine And.intro (by repeat' first | refine And.intro ?_ ?_ | exact True.intro | (show (_ : Int) = (_ : Int); omega) | omega | exact rfl | (simp only [RO.len]; omega)) ?_
              refine And.intro (by omega) ?_
              exact nx (i + 1, q2, u2) ⟨by omega, hn2⟩ (show l.length - (i + 1) < l.length - i by omega) (by repeat' first | refine And.intro ?_ ?_ | exact True.intro | (show (_ : Int) = (_ : Int); omega) | omega | exact rfl | (simp only [RO.len]; omega))
            · refine And.intro ?_ trivial
              refine And.intro rfl ?_
              refine And.intro ?_ trivial
              refine And.intro (by simp) ?_
              refine And.intro ?_ trivial
              refine Or.inr (Or.inl (cm [50] [(1000, 501), (1001, 502), (1002, 61)] (cspr_fn t gens side hs.toSh hg.1.el hg.2 (p) q2 (r) u2 [l.getD i (0, 0)] k2 hgi.fo hsq2.1 (by simp) hsq2.2) ?_))
              refine And.intro (by repeat' first | refine And.intro ?_ ?_ | exact True.intro | (show (_ : Int) = (_ : Int); omega) | omega | exact rfl | (simp only [RO.len]; omega)) ?_
              refine And.intro (by omega) ?_
              exact nx (i + 1, q2, u2) ⟨by omega, hn2⟩ (show l.length - (i + 1) < l.length - i by omega) (by repeat' first | refine And.intro ?_ ?_ | exact True.intro | (show (_ : Int) = (_ : Int); omega) | omega | exact rfl | (simp only [RO.len]; omega))
        · have h1 : (l.length : Int) ≤ (i : Int) := h1
          have hdn := hgi.done hs hg.1 hl (by omega)
          refine Or.inr (Or.inl (cm [] [(1000, 501), (1001, 502), (12, 503)] (cpart_fn t.length (p) (r) (cntR t.length (r)) hgi.fo (by omega)) ?_))
          refine And.intro (by repeat' first | refine And.intro ?_ ?_ | exact True.intro | (show (_ : Int) = (_ : Int); omega) | omega | exact rfl | (simp only [RO.len]; omega)) ?_
          exact And.intro (And.intro (by omega) (congrArg (RO.ints .i64) hdn)) trivial
      · refine And.intro ?_ (And.intro ?_ trivial)
        · refine And.intro rfl ?_
          refine And.intro ?_ trivial
          refine And.intro ?_ trivial
          refine And.intro (by simp) ?_
          refine And.intro ?_ trivial
          refine Or.inr (Or.inl (cm [50] [(1000, 501), (1001, 502), (1002, 61)] (cspr_fn t gens side hs.toSh hg.1.el hg.2 (disI t.length) q (id) u [l.getD 0 (0, 0)] k hst0.fo hsq.1 (by simp) hsq.2) ?_))
          refine And.intro (by repeat' first | refine And.intro ?_ ?_ | exact True.intro | exact hcd | (show (_ : Int) = (_ : Int); omega) | omega | exact rfl) ?_
          refine And.intro (by omega) ?_
          refine Exists.intro [10013, 10060] <| lp3 (fun (i : Nat) (_ : List Int) (_ : Nat → Nat) => [(53, .int .i64 i), (11, .vec 61)]) (fun _ p r => [(61, .jnk 1 2), (501, .box [.vec 502, .int .i64 (cntR t.length r)]), (502, .vec 0 (.ints .i64 p) [])]) (fun i p r => i ≤ l.length ∧ GrI t gens side l i p r) (fun i _ _ => l.length - i) (0 + 1) q u ⟨by omega, hn⟩ (by repeat' first | refine And.intro ?_ ?_ | exact True.intro | (show (_ : Int) = (_ : Int); omega) | omega | exact rfl | (simp only [RO.len]; omega)) ?_
          rintro i p r ⟨hi, hgi⟩
          refine And.intro (fun h1 => ?_) (fun h1 => ?_)
          · have h1 : (i : Int) < (l.length : Int) := h1
            have hil : i < l.length := by omega
            have hq := hl _ (getD_mem (d := ((0 : Int), (0 : Int))) (l := l) (i := i) hil)
            have hq1 : inW t.length [l.getD i (0, 0)] := fun z hz => by rw [List.mem_singleton] at hz; subst hz; exact hq
            obtain ⟨q2, u2, k2, hsp2⟩ := sp_ex (side := side) hs.toSh hg.1.el _ p r [l.getD i (0, 0)] hgi.fo hq1 (Nat.le_refl _)
            have hn2 := hgi.next hs.toSh hg.1.el hl hil hsp2
            have hsq2 := And.intro hq1 hsp2
            refine And.intro (by omega) ?_
            refine Or.inr (Exists.intro (.fst 0 (.br 1 (.br 2 (.br 3 (.br 4 (.br 5 .done .no) .no) .no) .no) (.br 2 (.br 1 (.br 3 (.br 4 (.br 5 .done .no) .no) .no) (.br 3 (.br 1 (.br 4 (.br 5 .done .no) .no) .no) .no)) .no))) (And.intro (by decide +kernel) ?_))
            refine And.intro ?_ (And.intro ?_ trivial)
            · refine And.intro rfl ?_
              refine And.intro ?_ trivial
              refine And.intro ?_ trivial
              refine And.intro ?_ trivial
              refine And.intro (by simp) ?_
              refine And.intro ?_ trivial
              refine Or.inr (Or.inl (cm [50] [(1000, 501), (1001, 502), (1002, 61)] (cspr_fn t gens side hs.toSh hg.1.el hg.2 (p) q2 (r) u2 [l.getD i (0, 0)] k2 hgi.fo hsq2.1 (by simp) hsq2.2) ?_))
              refine And.intro (by repeat' first | refine And.intro ?_ ?_ | exact True.intro | (show (_ : Int) = (_ : Int); omega) | omega | exact rfl | (simp only [RO.len]; omega)) ?_
              refine And.intro (by omega) ?_
              exact nx (i + 1, q2, u2) ⟨by omega, hn2⟩ (show l.length - (i + 1) < l.length - i by omega) (by repeat' first | refine And.intro ?_ ?_ | exact True.intro | (show (_ : Int) = (_ : Int); omega) | omega | exact rfl | (simp only [RO.len]; omega))
            · refine And.intro ?_ (And.intro ?_ trivial)
              · refine And.intro rfl ?_
                refine And.intro ?_ trivial
                refine And.intro ?_ trivial
                refine And.intro (by simp) ?_
                refine And.intro ?_ trivial
                refine Or.inr (Or.inl (cm [50] [(1000, 501), (1001, 502), (1002, 61)] (cspr_fn t gens side hs.toSh hg.1.el hg.2 (p) q2 (r) u2 [l.getD i (0, 0)] k2 hgi.fo hsq2.1 (by simp) hsq2.2) ?_))
                refine And.intro (by repeat' first | refine And.intro ?_ ?_ | exact True.intro | (show (_ : Int) = (_ : Int); omega) | omega | exact rfl | (simp only [RO.len]; omega)) ?_
                refine And.intro (by omega) ?_
                exact nx (i + 1, q2, u2) ⟨by omega, hn2⟩ (show l.length - (i + 1) < l.length - i by omega) (by repeat' first | refine And.intro ?_ ?_ | exact True.intro | (show (_ : Int) = (_ : Int); omega) | omega | exact rfl | (simp only [RO.len]; omega))
              · refine And.intro ?_ trivial
                refine And.intro rfl ?_
                refine And.intro ?_ trivial
                refine And.intro (by simp) ?_
                refine And.intro ?_ trivial
                refine Or.inr (Or.inl (cm [50] [(1000, 501), (1001, 502), (1002, 61)] (cspr_fn t gens side hs.toSh hg.1.el hg.2 (p) q2 (r) u2 [l.getD i (0, 0)] k2 hgi.fo hsq2.1 (by simp) hsq2.2) ?_))
                refine And.intro (by repeat' first | refine And.intro ?_ ?_ | exact True.intro | (show (_ : Int) = (_ : Int); omega) | omega | exact rfl | (simp only [RO.len]; omega)) ?_
                refine And.intro (by omega) ?_
                exact nx (i + 1, q2, u2) ⟨by omega, hn2⟩ (show l.length - (i + 1) < l.length - i by omega) (by repeat' first | refine And.intro ?_ ?_ | exact True.intro | (show (_ : Int) = (_ : Int); omega) | omega | exact rfl | (simp only [RO.len]; omega))
          · have h1 : (l.length : Int) ≤ (i : Int) := h1
            have hdn := hgi.done hs hg.1 hl (by omega)
            refine Or.inr (Or.inl (cm [] [(1000, 501), (1001, 502), (12, 503)] (cpart_fn t.length (p) (r) (cntR t.length (r)) hgi.fo (by omega)) ?_))
            refine And.intro (by repeat' first | refine And.intro ?_ ?_ | exact True.intro | (show (_ : Int) = (_ : Int); omega) | omega | exact rfl | (simp only [RO.len]; omega)) ?_
            exact And.intro (And.intro (by omega) (congrArg (RO.ints .i64) hdn)) trivial
        · refine And.intro ?_ trivial
          refine And.intro rfl ?_
          refine And.intro ?_ trivial
          refine And.intro (by simp) ?_
          refine And.intro ?_ trivial
          refine Or.inr (Or.inl (cm [50] [(1000, 501), (1001, 502), (1002, 61)] (cspr_fn t gens side hs.toSh hg.1.el hg.2 (disI t.length) q (id) u [l.getD 0 (0, 0)] k hst0.fo hsq.1 (by simp) hsq.2) ?_))
          refine And.intro (by repeat' first | refine And.intro ?_ ?_ | exact True.intro | exact hcd | (show (_ : Int) = (_ : Int); omega) | omega | exact rfl) ?_
          refine And.intro (by omega) ?_
          refine Exists.intro [10013, 10060] <| lp3 (fun (i : Nat) (_ : List Int) (_ : Nat → Nat) => [(53, .int .i64 i), (11, .vec 61)]) (fun _ p r => [(61, .jnk 1 2), (501, .box [.vec 502, .int .i64 (cntR t.length r)]), (502, .vec 0 (.ints .i64 p) [])]) (fun i p r => i ≤ l.length ∧ GrI t gens side l i p r) (fun i _ _ => l.length - i) (0 + 1) q u ⟨by omega, hn⟩ (by repeat' first | refine And.intro ?_ ?_ | exact True.intro | (show (_ : Int) = (_ : Int); omega) | omega | exact rfl | (simp only [RO.len]; omega)) ?_
          rintro i p r ⟨hi, hgi⟩
          refine And.intro (fun h1 => ?_) (fun h1 => ?_)
          · have h1 : (i : Int) < (l.length : Int) := h1
            have hil : i < l.length := by omega
            have hq := hl _ (getD_mem (d := ((0 : Int), (0 : Int))) (l := l) (i := i) hil)
            have hq1 : inW t.length [l.getD i (0, 0)] := fun z hz => by rw [List.mem_singleton] at hz; subst hz; exact hq
            obtain ⟨q2, u2, k2, hsp2⟩ := sp_ex (side := side) hs.toSh hg.1.el _ p r [l.getD i (0, 0)] hgi.fo hq1 (Nat.le_refl _)
            have hn2 := hgi.next hs.toSh hg.1.el hl hil hsp2
            have hsq2 := And.intro hq1 hsp2
            refine And.intro (by omega) ?_
            refine Or.inr (Exists.intro (.fst 0 (.br 1 (.br 2 (.br 3 (.br 4 (.br 5 .done .no) .no) .no) .no) (.br 2 (.br 1 (.br 3 (.br 4 (.br 5 .done .no) .no) .no) (.br 3 (.br 1 (.br 4 (.br 5 .done .no) .no) .no) .no)) .no))) (And.intro (by decide +kernel) ?_))
            refine And.intro ?_ (And.intro ?_ trivial)
            · refine And.intro rfl ?_
              refine And.intro ?_ trivial
              refine And.intro ?_ trivial
              refine And.intro ?_ trivial
              refine And.intro (by simp) ?_
              refine And.intro ?_ trivial
              refine Or.inr (Or.inl (cm [50] [(1000, 501), (1001, 502), (1002, 61)] (cspr_fn t gens side hs.toSh hg.1.el hg.2 (p) q2 (r) u2 [l.getD i (0, 0)] k2 hgi.fo hsq2.1 (by simp) hsq2.2) ?_))
              refine And.intro (by repeat' first | refine And.intro ?_ ?_ | exact True.intro | (show (_ : Int) = (_ : Int); omega) | omega | exact rfl | (simp only [RO.len]; omega)) ?_
              refine And.intro (by omega) ?_
              exact nx (i + 1, q2, u2) ⟨by omega, hn2⟩ (show l.length - (i + 1) < l.length - i by omega) (by repeat' first | refine And.intro ?_ ?_ | exact True.intro | (show (_ : Int) = (_ : Int); omega) | omega | exact rfl | (simp only [RO.len]; omega))
            · refine And.intro ?_ (And.intro ?_ trivial)
              · refine And.intro rfl ?_
                refine And.intro ?_ trivial
                refine And.intro ?_ trivial
                refine And.intro (by simp) ?_
                refine And.intro ?_ trivial
                refine Or.inr (Or.inl (cm [50] [(1000, 501), (1001, 502), (1002, 61)] (cspr_fn t gens side hs.toSh hg.1.el hg.2 (p) q2 (r) u2 [l.getD i (0, 0)] k2 hgi.fo hsq2.1 (by simp) hsq2.2) ?_))
                refine And.intro (by repeat' first | refine And.intro ?_ ?_ | exact True.intro | (show (_ : Int) = (_ : Int); omega) | omega | exact rfl | (simp only [RO.len]; omega)) ?_
                refine And.intro (by omega) ?_
                exact nx (i + 1, q2, u2) ⟨by omega, hn2⟩ (show l.length - (i + 1) < l.length - i by omega) (by repeat' first | refine And.intro ?_ ?_ | exact True.intro | (show (_ : Int) = (_ : Int); omega) | omega | exact rfl | (simp only [RO.len]; omega))
              · refine And.intro ?_ trivial
                refine And.intro rfl ?_
                refine And.intro ?_ trivial
                refine And.intro (by simp) ?_
                refine And.intro ?_ trivial
                refine Or.inr (Or.inl (cm [50] [(1000, 501), (1001, 502), (1002, 61)] (cspr_fn t gens side hs.toSh hg.1.el hg.2 (p) q2 (r) u2 [l.getD i (0, 0)] k2 hgi.fo hsq2.1 (by simp) hsq2.2) ?_))
                refine And.intro (by repeat' first | refine And.intro ?_ ?_ | exact True.intro | (show (_ : Int) = (_ : Int); omega) | omega | exact rfl | (simp only [RO.len]; omega)) ?_
                refine And.intro (by omega) ?_
                exact nx (i + 1, q2, u2) ⟨by omega, hn2⟩ (show l.length - (i + 1) < l.length - i by omega) (by repeat' first | refine And.intro ?_ ?_ | exact True.intro | (show (_ : Int) = (_ : Int); omega) | omega | exact rfl | (simp only [RO.len]; omega))
          · have h1 : (l.length : Int) ≤ (i : Int) := h1
            have hdn := hgi.done hs hg.1 hl (by omega)
            refine Or.inr (Or.inl (cm [] [(1000, 501), (1001, 502), (12, 503)] (cpart_fn t.length (p) (r) (cntR t.length (r)) hgi.fo (by omega)) ?_))
            refine And.intro (by repeat' first | refine And.intro ?_ ?_ | exact True.intro | (show (_ : Int) = (_ : Int); omega) | omega | exact rfl | (simp only [RO.len]; omega)) ?_
            exact And.intro (And.intro (by omega) (congrArg (RO.ints .i64) hdn)) trivial
    · have h1 : (l.length : Int) ≤ ((0 : Nat) : Int) := h1
      have hdn := hst0.done hs hg.1 hl (by omega)
      refine Or.inr (Or.inl (cm [] [(1000, 501), (1001, 502), (12, 503)] (cpart_fn t.length (disI t.length) (id) (cntR t.length (id)) hst0.fo (by omega)) ?_))
      refine And.intro (by repeat' first | refine And.intro ?_ ?_ | exact True.intro | (show (_ : Int) = (_ : Int); omega) | omega | exact rfl | (simp only [RO.len]; omega)) ?_
      exact And.intro (And.intro (by omega) (congrArg (RO.ints .i64) hdn)) trivial
theorem cgnr_fn (t : List (List Int)) (l : List (Int × Int)) (side : Int) (hs : Semi t) (hl : inW t.length l) (h0 : 0 ≤ side ∧ side ≤ 2) : QF 19 [.ro (.rows .i64 t), .ro (.pairs l), .int .i64 side] (.new (.ints .i64 (genP t side (relP l)))) := mkQ Try.func19 (by decide +kernel) rfl (Nat.le_of_ble_eq_true rfl) fun hf => cgnr_k t l side hf.2.1.1 hs hl h0
end Go.Proofs.Ytjlkhjgnfnfmgaa
end
section
/- Package congr: Generated where nothing is generated; the reference's MayPairs: contracts. -/
namespace Go.Proofs.Ytjlkhjgnfnfmgaa
open Go Go.AM
set_option maxRecDepth 100000
theorem inW_take {n : Nat} {l : List (Int × Int)} {i : Nat} (hi : i < l.length) (h : inW n (l.take i)) (hq : (0 ≤ (l.getD i (0, 0)).1 ∧ (l.getD i (0, 0)).1 < (n : Int)) ∧ 0 ≤ (l.getD i (0, 0)).2 ∧ (l.getD i (0, 0)).2 < (n : Int)) : inW n (l.take (i + 1)) := by
  rw [take_get (d := (0, 0)) hi]
  refine inW_app.2 ⟨h, fun z hz => ?_⟩
  rw [List.mem_singleton] at hz
  subst hz; exact hq
noncomputable def inWB (n : Nat) (l : List (Int × Int)) : Bool := @decide (inW n l) (Classical.propDecidable _)
theorem inWB_true {n : Nat} {l : List (Int × Int)} : inWB n l = true ↔ inW n l := by unfold inWB; exact @decide_eq_true_iff _ (Classical.propDecidable _)
theorem inWB_false {n : Nat} {l : List (Int × Int)} : inWB n l = false ↔ ¬ inW n l := by unfold inWB; exact @decide_eq_false_iff_not _ (Classical.propDecidable _)
theorem rmay_k (n : Nat) (hn : n ≤ 4096) (l : List (Int × Int)) (hll : l.length ≤ 140737488355328) : fnK TY SP Try.f16 [.int .i64 n, .ro (.pairs l)] (.bool (.v (inWB n l))) := by
  have n10 : ¬ (1 : Int) = ((0 : Nat) : Int) := by omega
  have n01 : ¬ (0 : Int) = ((0 + 1 : Nat) : Int) := by omega
  refine And.intro (fun h1 => absurd (show (n : Int) < 0 from h1) (by omega)) (fun _ => ?_)
  refine And.intro (fun h1 => absurd (show (4096 : Int) < (n : Int) from h1) (by omega)) (fun _ => ?_)
  have no : ∀ i, i < l.length → ¬ ((0 ≤ (l.getD i (0, 0)).1 ∧ (l.getD i (0, 0)).1 < (n : Int)) ∧ 0 ≤ (l.getD i (0, 0)).2 ∧ (l.getD i (0, 0)).2 < (n : Int)) → (BE.lit false).val = (BE.v (inWB n l)).val := fun i hi h => (inWB_false.2 fun h2 => h (h2 _ (getD_mem hi))).symm
  refine Exists.intro [] <| lp (X := Nat) (fun i => [(15, .int .i64 i)]) (fun _ => []) (fun i => i ≤ l.length ∧ inW n (l.take i)) (fun i => l.length - i) 0 ⟨Nat.zero_le _, fun z hz => by simp at hz⟩ (by repeat' first | refine And.intro ?_ ?_ | exact True.intro | (show (_ : Int) = (_ : Int); omega) | omega | exact rfl | (simp only [RO.len]; omega)) ?_
  intro i ⟨hi, hW⟩
  refine And.intro (fun h1 => ?_) (fun h1 => ?_)
  · have h1 : (i : Int) < (l.length : Int) := h1
    have no := no i (by omega)
    refine And.intro (by omega) ?_
    refine And.intro (by omega) ?_
    refine And.intro (fun _ => ?_) (And.intro (fun h => absurd h n01) trivial)
    refine And.intro (fun h2 => ?_) (fun h2 => ?_)
    · have h2 : (l.getD i (0, 0)).1 < 0 := h2
      exact And.intro (no fun h => by omega) trivial
    have h2 : 0 ≤ (l.getD i (0, 0)).1 := h2
    refine And.intro (by omega) ?_
    refine And.intro (fun _ => ?_) (And.intro (fun h => absurd h n01) trivial)
    refine And.intro (fun h3 => ?_) (fun h3 => ?_)
    · have h3 : (n : Int) ≤ (l.getD i (0, 0)).1 := h3
      exact And.intro (no fun h => by omega) trivial
    have h3 : (l.getD i (0, 0)).1 < (n : Int) := h3
    refine And.intro (by omega) ?_
    refine And.intro (fun h => absurd h n10) (And.intro (fun _ => ?_) trivial)
    refine And.intro (fun h4 => ?_) (fun h4 => ?_)
    · have h4 : (l.getD i (0, 0)).2 < 0 := h4
      exact And.intro (no fun h => by omega) trivial
    have h4 : 0 ≤ (l.getD i (0, 0)).2 := h4
    refine And.intro (by omega) ?_
    refine And.intro (fun h => absurd h n10) (And.intro (fun _ => ?_) trivial)
    refine And.intro (fun h5 => ?_) (fun h5 => ?_)
    · have h5 : (n : Int) ≤ (l.getD i (0, 0)).2 := h5
      exact And.intro (no fun h => by omega) trivial
    have h5 : (l.getD i (0, 0)).2 < (n : Int) := h5
    refine And.intro (by omega) ?_
    exact nx (i + 1) ⟨show i + 1 ≤ _ by omega, inW_take (by omega) hW ⟨⟨h2, h3⟩, h4, h5⟩⟩ (show l.length - (i + 1) < l.length - i by omega) (by repeat' first | refine And.intro ?_ ?_ | exact True.intro | (show (_ : Int) = (_ : Int); omega) | omega | exact rfl | (simp only [RO.len]; omega))
  · have h1 : (l.length : Int) ≤ (i : Int) := h1
    rw [List.take_of_length_le (by omega)] at hW
    refine And.intro ?_ trivial
    exact (inWB_true.2 hW).symm
theorem rmay_fn (n : Nat) (hn : n ≤ 4096) (l : List (Int × Int)) : QF 16 [.int .i64 n, .ro (.pairs l)] (.bool (.v (inWB n l))) := mkQ Try.func16 (by decide +kernel) rfl (Nat.le_of_ble_eq_true rfl) fun hf => rmay_k n hn l hf.2.1.1
end Go.Proofs.Ytjlkhjgnfnfmgaa
end
