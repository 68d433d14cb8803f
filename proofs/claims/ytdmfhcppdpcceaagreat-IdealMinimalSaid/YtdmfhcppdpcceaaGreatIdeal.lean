/- Package ideal: its contracts (sets, generated ideals, the kernel). -/
import Derived.Test.YtdmfhcppdpcceaaGreatIdealLaw
import Derived.Test.YtdmfhcppdpcceaaGreatMult
namespace Go.Proofs.YtdmfhcppdpcceaaGreat
open Go Go.AM
set_option maxRecDepth 100000

theorem ilist_k (l : List Bool) (hl : l.length ≤ 4096) : fnK TY SP Tryz.f43 [.ro (.bools l)] (.new (.ints .i64 (memV l))) := members_k l hl
theorem ilist_fn (l : List Bool) (hl : l.length ≤ 4096) : QF 43 [.ro (.bools l)] (.new (.ints .i64 (memV l))) := mkQ Tryz.func43 (by decide +kernel) rfl (Nat.le_of_ble_eq_true rfl) fun _ => ilist_k l hl

theorem cloneB_k (l : List Bool) (hl : l.length ≤ 4096) : fnK TY SP Tryz.f48 [.ro (.bools l)] (.new (.bools l)) := by
  refine And.intro (fun h1 => ?_) ?_
  · exact And.intro h1 trivial
  · refine And.intro (by simp; omega) ?_
    exact And.intro ⟨by omega, by simp⟩ trivial
theorem cloneB_fn (l : List Bool) (hl : l.length ≤ 4096) : QF 48 [.ro (.bools l)] (.new (.bools l)) := mkQ Tryz.func48 (by decide +kernel) rfl (Nat.le_of_ble_eq_true rfl) fun _ => cloneB_k l hl

theorem marked_k (n : Nat) (l : List Int) (hn : n ≤ 400) (hl : ∀ x ∈ l, 0 ≤ x ∧ x < (n : Int)) (hll : l.length ≤ 140737488355328) : fnK TY SP Tryz.f47 [.int .i64 n, .ro (.ints .i64 l)] (.new (.bools (setB n (setI l)))) := by
  refine And.intro (by omega) ?_
  refine And.intro (by omega) ?_
  refine Exists.intro [] <| lp2 (fun (i : Nat) (_ : List Bool) => [(12, .int .i64 i)]) (fun _ r => [(9, .vec 0 (.bools r) [])]) (fun i r => i ≤ l.length ∧ r.length = n ∧ ∀ x, x < n → (r.getD x false = true ↔ (x : Int) ∈ l.take i)) (fun i _ => l.length - i) 0 (List.replicate n false) ⟨Nat.zero_le _, by simp, fun x hx => by rw [rep_false]; simp⟩ (by repeat' first | refine And.intro ?_ ?_ | exact True.intro | (show (_ : Int) = (_ : Int); omega) | omega | exact rfl | (simp only [RO.len]; omega)) ?_
  rintro i r ⟨hi, hr, hs⟩
  refine And.intro (fun h1 => ?_) (fun h1 => ?_)
  · have hil : i < l.length := by omega
    have hm := hl _ (getD_mem (d := 0) hil)
    refine And.intro (by omega) ?_
    refine And.intro (show 0 ≤ l.getD i 0 ∧ l.getD i 0 < (r.length : Int) by omega) ?_
    refine And.intro (show (0 : Int) ≤ l.getD i 0 by omega) ?_
    refine And.intro (by omega) ?_
    have hnx := set_iff hr hs (i := (l.getD i 0).toNat) (by omega)
    refine nx (i + 1, r.set (l.getD i 0).toNat true) ⟨by omega, hnx.1, fun x hx => ?_⟩ (show l.length - (i + 1) < l.length - i by omega) (by repeat' first | refine And.intro ?_ ?_ | exact True.intro | (show (_ : Int) = (_ : Int); omega) | omega | exact rfl | (simp only [RO.len]; omega))
    rw [hnx.2 x hx, take_snoc (d := 0) hil, List.mem_append, List.mem_singleton]
    exact or_congr Iff.rfl ⟨fun h => by omega, fun h => by omega⟩
  · refine And.intro ?_ trivial
    refine And.intro rfl ?_
    exact congrArg RO.bools (setB_ofP hr fun x hx => by rw [hs x hx, List.take_of_length_le (by omega), setI_iff])
theorem marked_fn (n : Nat) (l : List Int) (hn : n ≤ 400) (hl : ∀ x ∈ l, 0 ≤ x ∧ x < (n : Int)) : QF 47 [.int .i64 n, .ro (.ints .i64 l)] (.new (.bools (setB n (setI l)))) := mkQ Tryz.func47 (by decide +kernel) rfl (Nat.le_of_ble_eq_true rfl) fun hf => marked_k n l hn hl hf.2.1.1

theorem left_k (t : List (List Int)) (h : Sh t) (g : Nat → Bool) : fnK TY SP Tryz.f23 [.ro (.rows .i64 t), .ro (.bools (setB t.length g))] (.new (.bools (setB t.length (lftF t g)))) := by
  have hmost := h.most
  have hgl := setB_len t.length g
  refine Or.inl (cq (cloneB_fn (setB t.length g) (by omega)) (And.intro rfl trivial) ?_)
  refine Exists.intro [] <| lp2 (fun (i : Nat) (_ : List Bool) => [(13, .int .i64 i)]) (fun _ r => [(10, .vec 0 (.bools r) [])]) (fun i r => i ≤ t.length ∧ r.length = t.length ∧ ∀ x, x < t.length → (r.getD x false = true ↔ (g x = true ∨ ∃ y, y < i ∧ g y = true ∧ inLB t y x = true))) (fun i _ => t.length - i) 0 (setB t.length g) ⟨Nat.zero_le _, hgl, fun x hx => by rw [setB_get hx]; simp⟩ (by repeat' first | refine And.intro ?_ ?_ | exact True.intro | (show (_ : Int) = (_ : Int); omega) | omega | exact rfl | (simp only [RO.len]; omega)) ?_
  rintro i r ⟨hi, hr, hs⟩
  refine And.intro (fun h1 => ?_) (fun h1 => ?_)
  · have h1 : (i : Int) < ((setB t.length g).length : Int) := h1
    have hil : i < t.length := by omega
    refine And.intro ⟨by omega, h1⟩ ?_
    refine And.intro (fun h2 => ?_) (fun h2 => ?_)
    · have h2 : g i = false := by
        have h2 : (!(setB t.length g).getD i false) = true := h2
        rw [setB_get hil] at h2; simpa using h2
      refine And.intro (by omega) ?_
      refine nx (i + 1, r) ⟨by omega, hr, fun x hx => ?_⟩ (show t.length - (i + 1) < t.length - i by omega) (by repeat' first | refine And.intro ?_ ?_ | exact True.intro | (show (_ : Int) = (_ : Int); omega) | omega | exact rfl | (simp only [RO.len]; omega))
      rw [hs x hx]
      exact or_congr Iff.rfl ⟨fun ⟨y, hy, q⟩ => ⟨y, by omega, q⟩, fun ⟨y, hy, q⟩ => ⟨y, by
        by_cases e : y = i
        · subst e; rw [h2] at q; cases q.1
        · omega, q⟩⟩
    · have h2 : g i = true := by
        have h2 : (!(setB t.length g).getD i false) = false := h2
        rw [setB_get hil] at h2; simpa using h2
      refine Exists.intro [] <| lp2 (fun (s : Nat) (_ : List Bool) => [(22, .int .i64 s)]) (fun _ r => [(10, .vec 0 (.bools r) [])]) (fun s r => s ≤ t.length ∧ r.length = t.length ∧ ∀ x, x < t.length → (r.getD x false = true ↔ ((g x = true ∨ ∃ y, y < i ∧ g y = true ∧ inLB t y x = true) ∨ ∃ s', s' < s ∧ en t s' i = x))) (fun s _ => t.length - s) 0 r ⟨Nat.zero_le _, hr, fun x hx => by rw [hs x hx]; simp⟩ (by repeat' first | refine And.intro ?_ ?_ | exact True.intro | (show (_ : Int) = (_ : Int); omega) | omega | exact rfl | (simp only [RO.len]; omega)) ?_
      rintro s q ⟨hsn, hq, hqs⟩
      refine And.intro (fun h3 => ?_) (fun h3 => ?_)
      · have hsl : s < t.length := by omega
        have hrow := h.len hsl
        have he := h.ent hsl hil
        refine And.intro (by omega) ?_
        refine And.intro ⟨by omega, show (i : Int) < ((t.getD s []).length : Int) by omega⟩ ?_
        refine And.intro (show 0 ≤ (t.getD s []).getD i 0 ∧ (t.getD s []).getD i 0 < (q.length : Int) by omega) ?_
        refine And.intro (show (0 : Int) ≤ (t.getD s []).getD i 0 by omega) ?_
        refine And.intro (by omega) ?_
        have hnx := set_iff hq hqs (i := ((t.getD s []).getD i 0).toNat) (by omega)
        refine nx (s + 1, q.set ((t.getD s []).getD i 0).toNat true) ⟨by omega, hnx.1, fun x hx => ?_⟩ (show t.length - (s + 1) < t.length - s by omega) (by repeat' first | refine And.intro ?_ ?_ | exact True.intro | (show (_ : Int) = (_ : Int); omega) | omega | exact rfl | (simp only [RO.len]; omega))
        rw [hnx.2 x hx, or_assoc]
        refine or_congr Iff.rfl ⟨?_, ?_⟩
        · rintro (⟨s', h4, h5⟩ | h4)
          · exact ⟨s', by omega, h5⟩
          · exact ⟨s, by omega, by unfold en; omega⟩
        · rintro ⟨s', h4, h5⟩
          by_cases e : s' = s
          · subst e; exact .inr (by unfold en at h5; omega)
          · exact .inl ⟨s', by omega, h5⟩
      · refine And.intro (by omega) ?_
        refine nx (i + 1, q) ⟨by omega, hq, fun x hx => ?_⟩ (show t.length - (i + 1) < t.length - i by omega) (by repeat' first | refine And.intro ?_ ?_ | exact True.intro | (show (_ : Int) = (_ : Int); omega) | omega | exact rfl | (simp only [RO.len]; omega))
        rw [hqs x hx, or_assoc]
        refine ⟨?_, ?_⟩
        · rintro (h4 | ⟨y, h4, h5⟩ | ⟨s', h4, h5⟩)
          · exact .inl h4
          · exact .inr ⟨y, by omega, h5⟩
          · exact .inr ⟨i, by omega, h2, (inLB_iff h hil).2 (.inr ⟨s', by omega, h5⟩)⟩
        · rintro (h4 | ⟨y, h4, h5, h6⟩)
          · exact .inl h4
          · by_cases e : y = i
            · subst e
              rcases (inLB_iff h hil).1 h6 with h7 | ⟨s', h7, h8⟩
              · exact .inl (by rw [h7]; exact h5)
              · exact .inr (.inr ⟨s', by omega, h8⟩)
            · exact .inr (.inl ⟨y, by omega, h5, h6⟩)
  · refine And.intro ?_ trivial
    refine And.intro rfl ?_
    have h1 : ((setB t.length g).length : Int) ≤ (i : Int) := h1
    have hin : i = t.length := by omega
    refine congrArg RO.bools (setB_ofP hr fun x hx => ?_)
    rw [hs x hx, lftF_iff, hin]
    exact ⟨fun h' => h'.elim (fun h4 => ⟨x, hx, h4, (inLB_iff h hx).2 (.inl rfl)⟩) id, .inr⟩
theorem left_fn (t : List (List Int)) (h : Sh t) (g : Nat → Bool) : QF 23 [.ro (.rows .i64 t), .ro (.bools (setB t.length g))] (.new (.bools (setB t.length (lftF t g)))) := mkQ Tryz.func23 (by decide +kernel) rfl (Nat.le_of_ble_eq_true rfl) fun _ => left_k t h g

theorem right_k (t : List (List Int)) (h : Sh t) (g : Nat → Bool) : fnK TY SP Tryz.f24 [.ro (.rows .i64 t), .ro (.bools (setB t.length g))] (.new (.bools (setB t.length (rgtF t g)))) := by
  have hmost := h.most
  have hgl := setB_len t.length g
  refine Or.inl (cq (cloneB_fn (setB t.length g) (by omega)) (And.intro rfl trivial) ?_)
  refine Exists.intro [] <| lp2 (fun (i : Nat) (_ : List Bool) => [(14, .int .i64 i)]) (fun _ r => [(11, .vec 0 (.bools r) [])]) (fun i r => i ≤ t.length ∧ r.length = t.length ∧ ∀ x, x < t.length → (r.getD x false = true ↔ (g x = true ∨ ∃ y, y < i ∧ g y = true ∧ inRB t y x = true))) (fun i _ => t.length - i) 0 (setB t.length g) ⟨Nat.zero_le _, hgl, fun x hx => by rw [setB_get hx]; simp⟩ (by repeat' first | refine And.intro ?_ ?_ | exact True.intro | (show (_ : Int) = (_ : Int); omega) | omega | exact rfl | (simp only [RO.len]; omega)) ?_
  rintro i r ⟨hi, hr, hs⟩
  refine And.intro (fun h1 => ?_) (fun h1 => ?_)
  · have h1 : (i : Int) < ((setB t.length g).length : Int) := h1
    have hil : i < t.length := by omega
    refine And.intro ⟨by omega, h1⟩ ?_
    refine And.intro (fun h2 => ?_) (fun h2 => ?_)
    · have h2 : g i = false := by
        have h2 : (!(setB t.length g).getD i false) = true := h2
        rw [setB_get hil] at h2; simpa using h2
      refine And.intro (by omega) ?_
      refine nx (i + 1, r) ⟨by omega, hr, fun x hx => ?_⟩ (show t.length - (i + 1) < t.length - i by omega) (by repeat' first | refine And.intro ?_ ?_ | exact True.intro | (show (_ : Int) = (_ : Int); omega) | omega | exact rfl | (simp only [RO.len]; omega))
      rw [hs x hx]
      exact or_congr Iff.rfl ⟨fun ⟨y, hy, q⟩ => ⟨y, by omega, q⟩, fun ⟨y, hy, q⟩ => ⟨y, by
        by_cases e : y = i
        · subst e; rw [h2] at q; cases q.1
        · omega, q⟩⟩
    · have h2 : g i = true := by
        have h2 : (!(setB t.length g).getD i false) = false := h2
        rw [setB_get hil] at h2; simpa using h2
      have hrow := h.len hil
      refine And.intro (by omega) ?_
      refine Exists.intro [] <| lp2 (fun (s : Nat) (_ : List Bool) => [(26, .int .i64 s)]) (fun _ r => [(11, .vec 0 (.bools r) [])]) (fun s r => s ≤ t.length ∧ r.length = t.length ∧ ∀ x, x < t.length → (r.getD x false = true ↔ ((g x = true ∨ ∃ y, y < i ∧ g y = true ∧ inRB t y x = true) ∨ ∃ s', s' < s ∧ en t i s' = x))) (fun s _ => t.length - s) 0 r ⟨Nat.zero_le _, hr, fun x hx => by rw [hs x hx]; simp⟩ (by repeat' first | refine And.intro ?_ ?_ | exact True.intro | (show (_ : Int) = (_ : Int); omega) | omega | exact rfl | (simp only [RO.len]; omega)) ?_
      rintro s q ⟨hsn, hq, hqs⟩
      refine And.intro (fun h3 => ?_) (fun h3 => ?_)
      · have h3 : (s : Int) < ((t.getD i []).length : Int) := h3
        have hsl : s < t.length := by omega
        have he := h.ent hil hsl
        refine And.intro ⟨by omega, h3⟩ ?_
        refine And.intro (show 0 ≤ (t.getD i []).getD s 0 ∧ (t.getD i []).getD s 0 < (q.length : Int) by omega) ?_
        refine And.intro (show (0 : Int) ≤ (t.getD i []).getD s 0 by omega) ?_
        refine And.intro (by omega) ?_
        have hnx := set_iff hq hqs (i := ((t.getD i []).getD s 0).toNat) (by omega)
        refine nx (s + 1, q.set ((t.getD i []).getD s 0).toNat true) ⟨by omega, hnx.1, fun x hx => ?_⟩ (show t.length - (s + 1) < t.length - s by omega) (by repeat' first | refine And.intro ?_ ?_ | exact True.intro | (show (_ : Int) = (_ : Int); omega) | omega | exact rfl | (simp only [RO.len]; omega))
        rw [hnx.2 x hx, or_assoc]
        refine or_congr Iff.rfl ⟨?_, ?_⟩
        · rintro (⟨s', h4, h5⟩ | h4)
          · exact ⟨s', by omega, h5⟩
          · exact ⟨s, by omega, by unfold en; omega⟩
        · rintro ⟨s', h4, h5⟩
          by_cases e : s' = s
          · subst e; exact .inr (by unfold en at h5; omega)
          · exact .inl ⟨s', by omega, h5⟩
      · have h3 : ((t.getD i []).length : Int) ≤ (s : Int) := h3
        refine And.intro (by omega) ?_
        refine nx (i + 1, q) ⟨by omega, hq, fun x hx => ?_⟩ (show t.length - (i + 1) < t.length - i by omega) (by repeat' first | refine And.intro ?_ ?_ | exact True.intro | (show (_ : Int) = (_ : Int); omega) | omega | exact rfl | (simp only [RO.len]; omega))
        rw [hqs x hx, or_assoc]
        refine ⟨?_, ?_⟩
        · rintro (h4 | ⟨y, h4, h5⟩ | ⟨s', h4, h5⟩)
          · exact .inl h4
          · exact .inr ⟨y, by omega, h5⟩
          · exact .inr ⟨i, by omega, h2, (inRB_iff h hil).2 (.inr ⟨s', by omega, h5⟩)⟩
        · rintro (h4 | ⟨y, h4, h5, h6⟩)
          · exact .inl h4
          · by_cases e : y = i
            · subst e
              rcases (inRB_iff h hil).1 h6 with h7 | ⟨s', h7, h8⟩
              · exact .inl (by rw [h7]; exact h5)
              · exact .inr (.inr ⟨s', by omega, h8⟩)
            · exact .inr (.inl ⟨y, by omega, h5, h6⟩)
  · refine And.intro ?_ trivial
    refine And.intro rfl ?_
    have h1 : ((setB t.length g).length : Int) ≤ (i : Int) := h1
    have hin : i = t.length := by omega
    refine congrArg RO.bools (setB_ofP hr fun x hx => ?_)
    rw [hs x hx, rgtF_iff, hin]
    exact ⟨fun h' => h'.elim (fun h4 => ⟨x, hx, h4, (inRB_iff h hx).2 (.inl rfl)⟩) id, .inr⟩
theorem right_fn (t : List (List Int)) (h : Sh t) (g : Nat → Bool) : QF 24 [.ro (.rows .i64 t), .ro (.bools (setB t.length g))] (.new (.bools (setB t.length (rgtF t g)))) := mkQ Tryz.func24 (by decide +kernel) rfl (Nat.le_of_ble_eq_true rfl) fun _ => right_k t h g

theorem two_k (t : List (List Int)) (h : Sh t) (g : Nat → Bool) : fnK TY SP Tryz.f50 [.ro (.rows .i64 t), .ro (.bools (setB t.length g))] (.new (.bools (setB t.length (twoF t g)))) := by
  refine Or.inl (cq (right_fn t h g) (And.intro rfl (And.intro rfl trivial)) ?_)
  refine Or.inl (cq (left_fn t h (rgtF t g)) (And.intro rfl (And.intro rfl trivial)) ?_)
  exact And.intro (And.intro rfl rfl) trivial
theorem two_fn (t : List (List Int)) (h : Sh t) (g : Nat → Bool) : QF 50 [.ro (.rows .i64 t), .ro (.bools (setB t.length g))] (.new (.bools (setB t.length (twoF t g)))) := mkQ Tryz.func50 (by decide +kernel) rfl (Nat.le_of_ble_eq_true rfl) fun _ => two_k t h g

theorem kernel_k (t : List (List Int)) (h : Sh t) (ht : 0 < t.length) : fnK TY SP Tryz.f26 [.ro (.rows .i64 t)] (.new (.bools (setB t.length (kerF t)))) := by
  have hmost := h.most
  refine Exists.intro [] <| lp (X := Nat) (fun s => [(7, .int .i64 s), (3, .int .i64 (allP t s : Nat))]) (fun _ => []) (fun s => s ≤ t.length) (fun s => t.length - s) 0 (Nat.zero_le _) (by repeat' first | refine And.intro ?_ ?_ | exact True.intro | (show (_ : Int) = (_ : Int); omega) | omega | exact rfl | (simp only [RO.len]; omega)) ?_
  intro s hs
  have hp := allP_lt h ht s hs
  refine And.intro (fun h1 => ?_) (fun h1 => ?_)
  · have hsl : s < t.length := by omega
    have hrow := h.len hp
    have he := h.ent hp hsl
    refine And.intro (by omega) ?_
    refine And.intro ⟨by omega, show (s : Int) < ((t.getD (((allP t s : Nat) : Int)).toNat []).length : Int) by rw [Int.toNat_natCast]; omega⟩ ?_
    refine And.intro (by omega) ?_
    refine nx (s + 1) (by omega) (show t.length - (s + 1) < t.length - s by omega) ?_
    have e : (t.getD (((allP t s : Nat) : Int)).toNat []).getD ((s : Int)).toNat 0 = ((allP t (s + 1) : Nat) : Int) := by
      rw [Int.toNat_natCast, Int.toNat_natCast]; exact he.1
    refine And.intro (And.intro ?_ (And.intro ?_ trivial)) trivial
    · show (_ : Int) = (_ : Int); omega
    · exact e
  · have hsn : s = t.length := by omega
    subst hsn
    have hin : inT t [((allP t t.length : Nat) : Int)] := fun x hx => by
      rw [List.mem_singleton] at hx; subst hx; omega
    refine Or.inl (cq (marked_fn t.length [((allP t t.length : Nat) : Int)] (by omega) hin) (And.intro rfl (And.intro rfl trivial)) ?_)
    refine Or.inl (cq (two_fn t h (setI [((allP t t.length : Nat) : Int)])) (And.intro rfl (And.intro rfl trivial)) ?_)
    exact And.intro (And.intro rfl rfl) trivial
theorem kernel_fn (t : List (List Int)) (h : Sh t) (ht : 0 < t.length) : QF 26 [.ro (.rows .i64 t)] (.new (.bools (setB t.length (kerF t)))) := mkQ Tryz.func26 (by decide +kernel) rfl (Nat.le_of_ble_eq_true rfl) fun _ => kernel_k t h ht

theorem iKernel_k (t : List (List Int)) (h : Semi t) : fnK TY SP Tryz.f20 [.ro (.rows .i64 t)] (.new (.ints .i64 (ascV t.length (kerF t)))) := by
  have hmost := h.most
  refine Or.inl (cq (valid_fn t) (And.intro rfl trivial) ?_)
  refine And.intro (fun h1 => absurd (valid_zero.2 h) h1) (fun _ => ?_)
  refine Or.inl (cq (kernel_fn t h.toSh h.pos) (And.intro rfl trivial) ?_)
  refine Or.inl (cq (ilist_fn (setB t.length (kerF t)) (by rw [setB_len]; omega)) (And.intro rfl trivial) ?_)
  exact And.intro (And.intro rfl rfl) trivial
theorem iKernel_fn (t : List (List Int)) (h : Semi t) : QF 20 [.ro (.rows .i64 t)] (.new (.ints .i64 (ascV t.length (kerF t)))) := mkQ Tryz.func20 (by decide +kernel) rfl (Nat.le_of_ble_eq_true rfl) fun _ => iKernel_k t h
theorem iKernel_no_k (t : List (List Int)) (h : ¬ Semi t) : fnK TY SP Tryz.f20 [.ro (.rows .i64 t)] .nils := by
  refine Or.inl (cq (valid_fn t) (And.intro rfl trivial) ?_)
  refine And.intro (fun _ => ?_) (fun h1 => absurd (valid_zero.1 h1) h)
  exact And.intro trivial trivial
theorem iKernel_no (t : List (List Int)) (h : ¬ Semi t) : QF 20 [.ro (.rows .i64 t)] .nils := mkQ Tryz.func20 (by decide +kernel) rfl (Nat.le_of_ble_eq_true rfl) fun _ => iKernel_no_k t h

end Go.Proofs.YtdmfhcppdpcceaaGreat
