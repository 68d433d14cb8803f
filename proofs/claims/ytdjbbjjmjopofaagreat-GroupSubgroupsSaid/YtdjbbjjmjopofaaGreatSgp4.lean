/- Package group: its functions over subgroups: contracts. -/
import Derived.Test.YtdjbbjjmjopofaaGreatSgp3
namespace Go.Proofs.YtdjbbjjmjopofaaGreat
open Go Go.AM
set_option maxRecDepth 100000
theorem gIsSub_k (t : List (List Int)) (l : List Int) (h : Grp t) : fnK TY SP Tryz.f34 [.ro (.rows .i64 t), .ro (.ints .i64 l)] (.bool (.v (clB t l))) := by
  refine Or.inl (cq (openY_fn t h) (And.intro rfl trivial) ?_)
  refine Or.inl (cq (gsub_fn t l h) (And.intro (by repeat' first | refine And.intro ?_ ?_ | exact True.intro | (show (_ : Int) = (_ : Int); omega) | omega | exact rfl | (simp only [RO.len]; omega)) (And.intro rfl trivial)) ?_)
  exact And.intro rfl trivial
theorem gIsSubN_k (t : List (List Int)) (l : List Int) (h : ¬ Grp t) : fnK TY SP Tryz.f34 [.ro (.rows .i64 t), .ro (.ints .i64 l)] (.bool (.lit false)) := by
  refine Or.inl (cq (open_fn t) (And.intro rfl trivial) ?_)
  refine And.intro (fun h1 => absurd (grpB_true.1 h1) h) (fun h1 => ?_)
  exact And.intro rfl trivial
theorem gNrm_k (t : List (List Int)) (l : List Int) (h : Grp t) : fnK TY SP Tryz.f35 [.ro (.rows .i64 t), .ro (.ints .i64 l)] (.bool (.v (clB t l && nrmB t (allI t) l))) := by
  refine Or.inl (cq (openY_fn t h) (And.intro rfl trivial) ?_)
  refine Or.inl ?_
  refine Exists.intro [false, false, false, false, false, false, false, false, false, false, false, false, false, false] (And.intro (by decide +kernel) ?_)
  refine cq (gsub_fn t l h) (And.intro (by repeat' first | refine And.intro ?_ ?_ | exact True.intro | (show (_ : Int) = (_ : Int); omega) | omega | exact rfl | (simp only [RO.len]; omega)) (And.intro rfl trivial)) ?_
  refine And.intro (fun h1 => ?_) (fun h1 => ?_)
  · have h1 : clB t l = true := h1
    refine cq (gall_fn t h.most) (And.intro (by repeat' first | refine And.intro ?_ ?_ | exact True.intro | (show (_ : Int) = (_ : Int); omega) | omega | exact rfl | (simp only [RO.len]; omega)) trivial) ?_
    refine cq (gnrm_fn t (allI t) l h (allI_in t) (clB_true.1 h1).ins) (And.intro (by repeat' first | refine And.intro ?_ ?_ | exact True.intro | (show (_ : Int) = (_ : Int); omega) | omega | exact rfl | (simp only [RO.len]; omega)) (And.intro rfl (And.intro rfl trivial))) ?_
    refine And.intro ?_ trivial
    show nrmB t (allI t) l = (clB t l && nrmB t (allI t) l)
    rw [h1]; rfl
  · have h1 : clB t l = false := h1
    refine And.intro ?_ trivial
    show false = (clB t l && nrmB t (allI t) l)
    rw [h1]; rfl
theorem gCos_k (t : List (List Int)) (l : List Int) (h : Grp t) (hl : ClL t l) : fnK TY SP Tryz.f36 [.ro (.rows .i64 t), .ro (.ints .i64 l)] (.new (.ints .i64 (cosL t l))) := by
  refine Or.inl (cq (openY_fn t h) (And.intro rfl trivial) ?_)
  refine Or.inl (cq (gsub_fn t l h) (And.intro (by repeat' first | refine And.intro ?_ ?_ | exact True.intro | (show (_ : Int) = (_ : Int); omega) | omega | exact rfl | (simp only [RO.len]; omega)) (And.intro rfl trivial)) ?_)
  refine And.intro (fun h1 => ?_) (fun h1 => ?_)
  · have h1 : (!clB t l) = true := h1
    rw [clB_true.2 hl] at h1; cases h1
  refine Or.inl (cq (gcos_fn t l h hl) (And.intro (by repeat' first | refine And.intro ?_ ?_ | exact True.intro | (show (_ : Int) = (_ : Int); omega) | omega | exact rfl | (simp only [RO.len]; omega)) (And.intro rfl trivial)) ?_)
  exact And.intro (And.intro (by omega) rfl) trivial
theorem gCosN_k (t : List (List Int)) (l : List Int) (hn : ¬ (Grp t ∧ ClL t l)) : fnK TY SP Tryz.f36 [.ro (.rows .i64 t), .ro (.ints .i64 l)] .nils := by
  by_cases h : Grp t
  · refine Or.inl (cq (openY_fn t h) (And.intro rfl trivial) ?_)
    refine Or.inl (cq (gsub_fn t l h) (And.intro (by repeat' first | refine And.intro ?_ ?_ | exact True.intro | (show (_ : Int) = (_ : Int); omega) | omega | exact rfl | (simp only [RO.len]; omega)) (And.intro rfl trivial)) ?_)
    refine And.intro (fun h1 => ?_) (fun h1 => ?_)
    · exact And.intro trivial trivial
    · have h1 : (!clB t l) = false := h1
      exact absurd ⟨h, clB_true.1 (by simpa using h1)⟩ hn
  · refine Or.inl (cq (open_fn t) (And.intro rfl trivial) ?_)
    refine And.intro (fun h1 => ?_) (fun h1 => ?_)
    · exact And.intro trivial trivial
    · have h1 : (!grpB t) = false := h1
      exact absurd (grpB_true.1 (by simpa using h1)) h
theorem gClo_k (t : List (List Int)) (l : List Int) (h : Grp t) (hl : inT t l) (hll : l.length ≤ 140737488355328) : fnK TY SP Tryz.f28 [.ro (.rows .i64 t), .ro (.ints .i64 l)] (.new (.ints .i64 (ascV t.length (cloF t (allI t) l)))) := by
  have hm := h.most
  refine Or.inl (cq (openY_fn t h) (And.intro rfl trivial) ?_)
  refine Exists.intro [] <| lp (X := Nat) (fun i => [(18, .int .i64 i)]) (fun _ => []) (fun i => i ≤ l.length) (fun i => l.length - i) 0 (Nat.zero_le _) (by repeat' first | refine And.intro ?_ ?_ | exact True.intro | (show (_ : Int) = (_ : Int); omega) | omega | exact rfl | (simp only [RO.len]; omega)) ?_
  intro i hi
  refine And.intro (fun h1 => ?_) (fun h1 => ?_)
  · have hil : i < l.length := by omega
    have hx := hl _ (getD_mem (d := 0) hil)
    refine And.intro (by omega) ?_
    refine And.intro (fun h2 => ?_) (fun h2 => ?_)
    · have h2 : l.getD i 0 < 0 := h2
      exfalso; omega
    refine And.intro (fun h3 => ?_) (fun h3 => ?_)
    · have h3 : (t.length : Int) ≤ l.getD i 0 := h3
      exfalso; omega
    refine And.intro (by omega) ?_
    exact nx (i + 1) (show i + 1 ≤ l.length by omega) (show l.length - (i + 1) < l.length - i by omega) (by repeat' first | refine And.intro ?_ ?_ | exact True.intro | (show (_ : Int) = (_ : Int); omega) | omega | exact rfl | (simp only [RO.len]; omega))
  · refine Or.inl ?_
    refine Exists.intro [false, false, false, false, false, false, false] (And.intro (by decide +kernel) ?_)
    refine cq (gall_fn t h.most) (And.intro (by repeat' first | refine And.intro ?_ ?_ | exact True.intro | (show (_ : Int) = (_ : Int); omega) | omega | exact rfl | (simp only [RO.len]; omega)) trivial) ?_
    refine cq (gclo_fn t (allI t) l h (allI_cl h.toSh) hl) (And.intro (by repeat' first | refine And.intro ?_ ?_ | exact True.intro | (show (_ : Int) = (_ : Int); omega) | omega | exact rfl | (simp only [RO.len]; omega)) (And.intro rfl (And.intro rfl trivial))) ?_
    refine cq (glist_fn (setB t.length (cloF t (allI t) l)) (by rw [setB_len]; omega)) (And.intro rfl trivial) ?_
    exact And.intro (And.intro rfl rfl) trivial
theorem gDer_k (t : List (List Int)) (h : Grp t) : fnK TY SP Tryz.f29 [.ro (.rows .i64 t)] (.new (.ints .i64 (ascV t.length (derF t (allI t))))) := by
  refine Or.inl (cq (openY_fn t h) (And.intro rfl trivial) ?_)
  refine Or.inl ?_
  refine Exists.intro [false, false, false, false, false] (And.intro (by decide +kernel) ?_)
  refine cq (gall_fn t h.most) (And.intro (by repeat' first | refine And.intro ?_ ?_ | exact True.intro | (show (_ : Int) = (_ : Int); omega) | omega | exact rfl | (simp only [RO.len]; omega)) trivial) ?_
  refine cq (gder_fn t (allI t) h (allI_in t)) (And.intro (by repeat' first | refine And.intro ?_ ?_ | exact True.intro | (show (_ : Int) = (_ : Int); omega) | omega | exact rfl | (simp only [RO.len]; omega)) (And.intro rfl trivial)) ?_
  exact And.intro (And.intro rfl rfl) trivial

theorem gCloN_k (t : List (List Int)) (l : List Int) (hn : ¬ (Grp t ∧ inT t l)) (hll : l.length ≤ 140737488355328) : fnK TY SP Tryz.f28 [.ro (.rows .i64 t), .ro (.ints .i64 l)] .nils := by
  by_cases h : Grp t
  · have hm := h.most
    refine Or.inl (cq (openY_fn t h) (And.intro rfl trivial) ?_)
    refine Exists.intro [] <| lp (X := Nat) (fun i => [(18, .int .i64 i)]) (fun _ => []) (fun i => i ≤ l.length ∧ ∀ k, k < i → 0 ≤ l.getD k 0 ∧ l.getD k 0 < (t.length : Int)) (fun i => l.length - i) 0 ⟨Nat.zero_le _, by omega⟩ (by repeat' first | refine And.intro ?_ ?_ | exact True.intro | (show (_ : Int) = (_ : Int); omega) | omega | exact rfl | (simp only [RO.len]; omega)) ?_
    rintro i ⟨hi, hk⟩
    refine And.intro (fun h1 => ?_) (fun h1 => ?_)
    · have hil : i < l.length := by omega
      refine And.intro (by omega) ?_
      refine And.intro (fun h2 => ?_) (fun h2 => ?_)
      · exact And.intro trivial trivial
      have h2 : 0 ≤ l.getD i 0 := h2
      refine And.intro (fun h3 => ?_) (fun h3 => ?_)
      · exact And.intro trivial trivial
      have h3 : l.getD i 0 < (t.length : Int) := h3
      refine And.intro (by omega) ?_
      refine nx (i + 1) ⟨by omega, fun k hk' => ?_⟩ (show l.length - (i + 1) < l.length - i by omega) (by repeat' first | refine And.intro ?_ ?_ | exact True.intro | (show (_ : Int) = (_ : Int); omega) | omega | exact rfl | (simp only [RO.len]; omega))
      by_cases e : k = i
      · subst e; exact ⟨h2, h3⟩
      · exact hk k (by omega)
    · refine absurd ⟨h, fun x hx => ?_⟩ hn
      obtain ⟨k, hk', rfl⟩ := mem_getD 0 hx
      exact hk k (by omega)
  · refine Or.inl (cq (open_fn t) (And.intro rfl trivial) ?_)
    refine And.intro (fun h1 => ?_) (fun h1 => ?_)
    · exact And.intro trivial trivial
    · have h1 : (!grpB t) = false := h1
      exact absurd (grpB_true.1 (by simpa using h1)) h
theorem gDerN_k (t : List (List Int)) (h : ¬ Grp t) : fnK TY SP Tryz.f29 [.ro (.rows .i64 t)] .nils := by
  refine Or.inl (cq (open_fn t) (And.intro rfl trivial) ?_)
  refine And.intro (fun h1 => ?_) (fun h1 => ?_)
  · exact And.intro trivial trivial
  · have h1 : (!grpB t) = false := h1
    exact absurd (grpB_true.1 (by simpa using h1)) h
theorem gNrmN_k (t : List (List Int)) (l : List Int) (h : ¬ Grp t) : fnK TY SP Tryz.f35 [.ro (.rows .i64 t), .ro (.ints .i64 l)] (.bool (.lit false)) := by
  refine Or.inl (cq (open_fn t) (And.intro rfl trivial) ?_)
  refine Or.inl ?_
  refine Exists.intro [false, false, false, false, false, false, false, false, false, false, false, false, false, false] (And.intro (by decide +kernel) ?_)
  refine And.intro (fun h1 => absurd (grpB_true.1 h1) h) (fun h1 => ?_)
  exact And.intro rfl trivial

theorem gIsSub_fn (t : List (List Int)) (l : List Int) : QF 34 [.ro (.rows .i64 t), .ro (.ints .i64 l)] (.bool (.v (grpB t && clB t l))) := by
  by_cases h : Grp t
  · rw [grpB_true.2 h, Bool.true_and]; exact mkQ Tryz.func34 (by decide +kernel) rfl (Nat.le_of_ble_eq_true rfl) fun _ => gIsSub_k t l h
  · rw [grpB_false.2 h, Bool.false_and]; exact mkQ Tryz.func34 (by decide +kernel) rfl (Nat.le_of_ble_eq_true rfl) fun _ => gIsSubN_k t l h
theorem gNrm_fn (t : List (List Int)) (l : List Int) : QF 35 [.ro (.rows .i64 t), .ro (.ints .i64 l)] (.bool (.v (grpB t && (clB t l && nrmB t (allI t) l)))) := by
  by_cases h : Grp t
  · rw [grpB_true.2 h, Bool.true_and]; exact mkQ Tryz.func35 (by decide +kernel) rfl (Nat.le_of_ble_eq_true rfl) fun _ => gNrm_k t l h
  · rw [grpB_false.2 h, Bool.false_and]; exact mkQ Tryz.func35 (by decide +kernel) rfl (Nat.le_of_ble_eq_true rfl) fun _ => gNrmN_k t l h
theorem gCos_fn (t : List (List Int)) (l : List Int) (h : Grp t) (hl : ClL t l) : QF 36 [.ro (.rows .i64 t), .ro (.ints .i64 l)] (.new (.ints .i64 (cosL t l))) := mkQ Tryz.func36 (by decide +kernel) rfl (Nat.le_of_ble_eq_true rfl) fun _ => gCos_k t l h hl
theorem gCosN_fn (t : List (List Int)) (l : List Int) (hn : ¬ (Grp t ∧ ClL t l)) : QF 36 [.ro (.rows .i64 t), .ro (.ints .i64 l)] .nils := mkQ Tryz.func36 (by decide +kernel) rfl (Nat.le_of_ble_eq_true rfl) fun _ => gCosN_k t l hn
theorem gClo_fn (t : List (List Int)) (l : List Int) (h : Grp t) (hl : inT t l) : QF 28 [.ro (.rows .i64 t), .ro (.ints .i64 l)] (.new (.ints .i64 (ascV t.length (cloF t (allI t) l)))) := mkQ Tryz.func28 (by decide +kernel) rfl (Nat.le_of_ble_eq_true rfl) fun hf => gClo_k t l h hl hf.2.1.1
theorem gCloN_fn (t : List (List Int)) (l : List Int) (hn : ¬ (Grp t ∧ inT t l)) : QF 28 [.ro (.rows .i64 t), .ro (.ints .i64 l)] .nils := mkQ Tryz.func28 (by decide +kernel) rfl (Nat.le_of_ble_eq_true rfl) fun hf => gCloN_k t l hn hf.2.1.1
theorem gDer_fn (t : List (List Int)) (h : Grp t) : QF 29 [.ro (.rows .i64 t)] (.new (.ints .i64 (ascV t.length (derF t (allI t))))) := mkQ Tryz.func29 (by decide +kernel) rfl (Nat.le_of_ble_eq_true rfl) fun _ => gDer_k t h
theorem gDerN_fn (t : List (List Int)) (h : ¬ Grp t) : QF 29 [.ro (.rows .i64 t)] .nils := mkQ Tryz.func29 (by decide +kernel) rfl (Nat.le_of_ble_eq_true rfl) fun _ => gDerN_k t h
end Go.Proofs.YtdjbbjjmjopofaaGreat
