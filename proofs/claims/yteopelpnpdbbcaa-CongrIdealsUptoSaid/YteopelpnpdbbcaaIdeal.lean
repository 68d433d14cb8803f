/- Package ideal: its contracts (sets, generated ideals, the kernel). -/
import Derived.Test.YteopelpnpdbbcaaIdealLaw
import Derived.Test.YteopelpnpdbbcaaMult
namespace Go.Proofs.Yteopelpnpdbbcaa
open Go Go.AM
set_option maxRecDepth 100000

theorem ilist_k (l : List Bool) (hl : l.length ≤ 4096) : fnK TY SP Try.f95 [.ro (.bools l)] (.new (.ints .i64 (memV l))) := by
  refine Exists.intro [] <| lp (X := Nat) (fun k => [(8, .int .i64 k), (3, .vec 17)]) (fun k => [(17, .vec 0 (.ints .i64 (memTo l k)) [])]) (fun k => k ≤ l.length) (fun k => l.length - k) 0 (Nat.zero_le _) (by repeat' first | refine And.intro ?_ ?_ | exact True.intro | (show (_ : Int) = (_ : Int); omega) | omega | exact rfl | (simp only [RO.len]; omega)) ?_
  intro k hk
  have hm := memTo_len (l := l) (k := k)
  refine And.intro (fun h1 => ?_) (fun h1 => ?_)
  · refine And.intro (by omega) ?_
    refine And.intro (fun h2 => ?_) (fun h2 => ?_)
    · have h2 : l.getD k false = true := h2
      refine And.intro (by rw [List.length_append, List.length_singleton]; omega) ?_
      refine And.intro (by omega) ?_
      refine nx (k + 1) (by omega) (show l.length - (k + 1) < l.length - k by omega) ?_
      refine And.intro (by repeat' first | refine And.intro ?_ ?_ | exact True.intro | (show (_ : Int) = (_ : Int); omega) | omega | exact rfl | (simp only [RO.len]; omega)) (And.intro (And.intro (And.intro (by omega) (Nat.zero_le _)) (congrArg (RO.ints .i64) (memTo_yes h2).symm)) ?_)
      repeat' first | refine And.intro ?_ ?_ | exact True.intro | (show (_ : Int) = (_ : Int); omega) | omega | exact rfl | (simp only [RO.len]; omega)
    · have h2 : l.getD k false = false := h2
      refine And.intro (by omega) ?_
      refine nx (k + 1) (by omega) (show l.length - (k + 1) < l.length - k by omega) ?_
      refine And.intro (by repeat' first | refine And.intro ?_ ?_ | exact True.intro | (show (_ : Int) = (_ : Int); omega) | omega | exact rfl | (simp only [RO.len]; omega)) (And.intro (And.intro (And.intro (by omega) (Nat.zero_le _)) (congrArg (RO.ints .i64) (memTo_no h2).symm)) ?_)
      repeat' first | refine And.intro ?_ ?_ | exact True.intro | (show (_ : Int) = (_ : Int); omega) | omega | exact rfl | (simp only [RO.len]; omega)
  · have h1 : k = l.length := by omega
    refine And.intro ?_ trivial
    refine And.intro rfl ?_
    show RO.ints .i64 (memTo l k) = RO.ints .i64 (memTo l l.length)
    rw [h1]
theorem ilist_fn (l : List Bool) (hl : l.length ≤ 4096) : QF 95 [.ro (.bools l)] (.new (.ints .i64 (memV l))) := mkQ Try.func95 (by decide +kernel) rfl (Nat.le_of_ble_eq_true rfl) fun _ => ilist_k l hl

theorem cloneB_k (l : List Bool) (hl : l.length ≤ 4096) : fnK TY SP Try.f145 [.ro (.bools l)] (.new (.bools l)) := by
  refine And.intro (fun h1 => ?_) ?_
  · exact And.intro h1 trivial
  · refine And.intro (by simp; omega) ?_
    exact And.intro ⟨by omega, by simp⟩ trivial
theorem cloneB_fn (l : List Bool) (hl : l.length ≤ 4096) : QF 145 [.ro (.bools l)] (.new (.bools l)) := mkQ Try.func145 (by decide +kernel) rfl (Nat.le_of_ble_eq_true rfl) fun _ => cloneB_k l hl

theorem marked_k (n : Nat) (l : List Int) (hn : n ≤ 400) (hl : ∀ x ∈ l, 0 ≤ x ∧ x < (n : Int)) (hll : l.length ≤ 140737488355328) : fnK TY SP Try.f97 [.int .i64 n, .ro (.ints .i64 l)] (.new (.bools (setB n (setI l)))) := by
  refine And.intro (by omega) ?_
  refine And.intro (by omega) ?_
  refine Exists.intro [] <| lp2 (fun (i : Nat) (_ : List Bool) => [(12, .int .i64 i)]) (fun _ r => [(9, .vec 0 (.bools r) [])]) (fun i r => i ≤ l.length ∧ r.length = n ∧ ∀ x, x < n → (r.getD x false = true ↔ (x : Int) ∈ l.take i)) (fun i _ => l.length - i) 0 (List.replicate n false) ⟨Nat.zero_le _, by simp, fun x hx => by rw [rep_false]; simp⟩ (by repeat' first | refine And.intro ?_ ?_ | exact True.intro | (show (_ : Int) = (_ : Int); omega) | omega | exact rfl | (simp only [RO.len]; omega)) ?_
  rintro i r ⟨hi, hr, hs⟩
  refine And.intro (fun h1 => ?_) (fun h1 => ?_)
  · have hil : i < l.length := by omega
    have hm := hl _ (getD_mem (d := 0) hil)
    refine And.intro (by omega) ?_
    refine And.intro (show 0 ≤ l.getD i 0 ∧ l.getD i 0 < (r.length : Int) by omega) ?_
    refine And.intro (show (0 : Int) ≤ l.getD i 0 by omega) ?_
    refine And.intro (by omega) ?_
    have hnx := set_iff hr hs (i := (l.getD i 0).toNat) (by omega)
    refine nx (i + 1, r.set (l.getD i 0).toNat true) ⟨by omega, hnx.1, fun x hx => ?_⟩ (show l.length - (i + 1) < l.length - i by omega) (by repeat' first | refine And.intro ?_ ?_ | exact True.intro | (show (_ : Int) = (_ : Int); omega) | omega | exact rfl | (simp only [RO.len]; omega))
    rw [hnx.2 x hx, take_snoc (d := 0) hil, List.mem_append, List.mem_singleton]
    exact or_congr Iff.rfl ⟨fun h => by omega, fun h => by omega⟩
  · refine And.intro ?_ trivial
    refine And.intro rfl ?_
    exact congrArg RO.bools (setB_ofP hr fun x hx => by rw [hs x hx, List.take_of_length_le (by omega), setI_iff])
theorem marked_fn (n : Nat) (l : List Int) (hn : n ≤ 400) (hl : ∀ x ∈ l, 0 ≤ x ∧ x < (n : Int)) : QF 97 [.int .i64 n, .ro (.ints .i64 l)] (.new (.bools (setB n (setI l)))) := mkQ Try.func97 (by decide +kernel) rfl (Nat.le_of_ble_eq_true rfl) fun hf => marked_k n l hn hl hf.2.1.1

theorem left_k (t : List (List Int)) (h : Sh t) (g : Nat → Bool) : fnK TY SP Try.f128 [.ro (.rows .i64 t), .ro (.bools (setB t.length g))] (.new (.bools (setB t.length (lftF t g)))) := by
  have hmost := h.most
  have hgl := setB_len t.length g
  refine Or.inl (cq (cloneB_fn (setB t.length g) (by omega)) (And.intro rfl trivial) ?_)
  refine Exists.intro [] <| lp2 (fun (i : Nat) (_ : List Bool) => [(13, .int .i64 i)]) (fun _ r => [(10, .vec 0 (.bools r) [])]) (fun i r => i ≤ t.length ∧ r.length = t.length ∧ ∀ x, x < t.length → (r.getD x false = true ↔ (g x = true ∨ ∃ y, y < i ∧ g y = true ∧ inLB t y x = true))) (fun i _ => t.length - i) 0 (setB t.length g) ⟨Nat.zero_le _, hgl, fun x hx => by rw [setB_get hx]; simp⟩ (by repeat' first | refine And.intro ?_ ?_ | exact True.intro | (show (_ : Int) = (_ : Int); omega) | omega | exact rfl | (simp only [RO.len]; omega)) ?_
  rintro i r ⟨hi, hr, hs⟩
  refine And.intro (fun h1 => ?_) (fun h1 => ?_)
  · have h1 : (i : Int) < ((setB t.length g).length : Int) := h1
    have hil : i < t.length := by omega
    refine And.intro ⟨by omega, h1⟩ ?_
    refine And.intro (fun h2 => ?_) (fun h2 => ?_)
    · have h2 : g i = false := by
        have h2 : (!(setB t.length g).getD i false) = true := h2
        rw [setB_get hil] at h2; simpa using h2
      refine And.intro (by omega) ?_
      refine nx (i + 1, r) ⟨by omega, hr, fun x hx => ?_⟩ (show t.length - (i + 1) < t.length - i by omega) (by repeat' first | refine And.intro ?_ ?_ | exact True.intro | (show (_ : Int) = (_ : Int); omega) | omega | exact rfl | (simp only [RO.len]; omega))
      rw [hs x hx]
      exact or_congr Iff.rfl ⟨fun ⟨y, hy, q⟩ => ⟨y, by omega, q⟩, fun ⟨y, hy, q⟩ => ⟨y, by
        by_cases e : y = i
        · subst e; rw [h2] at q; cases q.1
        · omega, q⟩⟩
    · have h2 : g i = true := by
        have h2 : (!(setB t.length g).getD i false) = false := h2
        rw [setB_get hil] at h2; simpa using h2
      refine Exists.intro [] <| lp2 (fun (s : Nat) (_ : List Bool) => [(22, .int .i64 s)]) (fun _ r => [(10, .vec 0 (.bools r) [])]) (fun s r => s ≤ t.length ∧ r.length = t.length ∧ ∀ x, x < t.length → (r.getD x false = true ↔ ((g x = true ∨ ∃ y, y < i ∧ g y = true ∧ inLB t y x = true) ∨ ∃ s', s' < s ∧ en t s' i = x))) (fun s _ => t.length - s) 0 r ⟨Nat.zero_le _, hr, fun x hx => by rw [hs x hx]; simp⟩ (by repeat' first | refine And.intro ?_ ?_ | exact True.intro | (show (_ : Int) = (_ : Int); omega) | omega | exact rfl | (simp only [RO.len]; omega)) ?_
      rintro s q ⟨hsn, hq, hqs⟩
      refine And.intro (fun h3 => ?_) (fun h3 => ?_)
      · have hsl : s < t.length := by omega
        have hrow := h.len hsl
        have he := h.ent hsl hil
        refine And.intro (by omega) ?_
        refine And.intro ⟨by omega, show (i : Int) < ((t.getD s []).length : Int) by omega⟩ ?_
        refine And.intro (show 0 ≤ (t.getD s []).getD i 0 ∧ (t.getD s []).getD i 0 < (q.length : Int) by omega) ?_
        refine And.intro (show (0 : Int) ≤ (t.getD s []).getD i 0 by omega) ?_
        refine And.intro (by omega) ?_
        have hnx := set_iff hq hqs (i := ((t.getD s []).getD i 0).toNat) (by omega)
        refine nx (s + 1, q.set ((t.getD s []).getD i 0).toNat true) ⟨by omega, hnx.1, fun x hx => ?_⟩ (show t.length - (s + 1) < t.length - s by omega) (by repeat' first | refine And.intro ?_ ?_ | exact True.intro | (show (_ : Int) = (_ : Int); omega) | omega | exact rfl | (simp only [RO.len]; omega))
        rw [hnx.2 x hx, or_assoc]
        refine or_congr Iff.rfl ⟨?_, ?_⟩
        · rintro (⟨s', h4, h5⟩ | h4)
          · exact ⟨s', by omega, h5⟩
          · exact ⟨s, by omega, by unfold en; omega⟩
        · rintro ⟨s', h4, h5⟩
          by_cases e : s' = s
          · subst e; exact .inr (by unfold en at h5; omega)
          · exact .inl ⟨s', by omega, h5⟩
      · refine And.intro (by omega) ?_
        refine nx (i + 1, q) ⟨by omega, hq, fun x hx => ?_⟩ (show t.length - (i + 1) < t.length - i by omega) (by repeat' first | refine And.intro ?_ ?_ | exact True.intro | (show (_ : Int) = (_ : Int); omega) | omega | exact rfl | (simp only [RO.len]; omega))
        rw [hqs x hx, or_assoc]
        refine ⟨?_, ?_⟩
        · rintro (h4 | ⟨y, h4, h5⟩ | ⟨s', h4, h5⟩)
          · exact .inl h4
          · exact .inr ⟨y, by omega, h5⟩
          · exact .inr ⟨i, by omega, h2, (inLB_iff h hil).2 (.inr ⟨s', by omega, h5⟩)⟩
        · rintro (h4 | ⟨y, h4, h5, h6⟩)
          · exact .inl h4
          · by_cases e : y = i
            · subst e
              rcases (inLB_iff h hil).1 h6 with h7 | ⟨s', h7, h8⟩
              · exact .inl (by rw [h7]; exact h5)
              · exact .inr (.inr ⟨s', by omega, h8⟩)
            · exact .inr (.inl ⟨y, by omega, h5, h6⟩)
  · refine And.intro ?_ trivial
    refine And.intro rfl ?_
    have h1 : ((setB t.length g).length : Int) ≤ (i : Int) := h1
    have hin : i = t.length := by omega
    refine congrArg RO.bools (setB_ofP hr fun x hx => ?_)
    rw [hs x hx, lftF_iff, hin]
    exact ⟨fun h' => h'.elim (fun h4 => ⟨x, hx, h4, (inLB_iff h hx).2 (.inl rfl)⟩) id, .inr⟩
theorem left_fn (t : List (List Int)) (h : Sh t) (g : Nat → Bool) : QF 128 [.ro (.rows .i64 t), .ro (.bools (setB t.length g))] (.new (.bools (setB t.length (lftF t g)))) := mkQ Try.func128 (by decide +kernel) rfl (Nat.le_of_ble_eq_true rfl) fun _ => left_k t h g

theorem right_k (t : List (List Int)) (h : Sh t) (g : Nat → Bool) : fnK TY SP Try.f129 [.ro (.rows .i64 t), .ro (.bools (setB t.length g))] (.new (.bools (setB t.length (rgtF t g)))) := by
  have hmost := h.most
  have hgl := setB_len t.length g
  refine Or.inl (cq (cloneB_fn (setB t.length g) (by omega)) (And.intro rfl trivial) ?_)
  refine Exists.intro [] <| lp2 (fun (i : Nat) (_ : List Bool) => [(14, .int .i64 i)]) (fun _ r => [(11, .vec 0 (.bools r) [])]) (fun i r => i ≤ t.length ∧ r.length = t.length ∧ ∀ x, x < t.length → (r.getD x false = true ↔ (g x = true ∨ ∃ y, y < i ∧ g y = true ∧ inRB t y x = true))) (fun i _ => t.length - i) 0 (setB t.length g) ⟨Nat.zero_le _, hgl, fun x hx => by rw [setB_get hx]; simp⟩ (by repeat' first | refine And.intro ?_ ?_ | exact True.intro | (show (_ : Int) = (_ : Int); omega) | omega | exact rfl | (simp only [RO.len]; omega)) ?_
  rintro i r ⟨hi, hr, hs⟩
  refine And.intro (fun h1 => ?_) (fun h1 => ?_)
  · have h1 : (i : Int) < ((setB t.length g).length : Int) := h1
    have hil : i < t.length := by omega
    refine And.intro ⟨by omega, h1⟩ ?_
    refine And.intro (fun h2 => ?_) (fun h2 => ?_)
    · have h2 : g i = false := by
        have h2 : (!(setB t.length g).getD i false) = true := h2
        rw [setB_get hil] at h2; simpa using h2
      refine And.intro (by omega) ?_
      refine nx (i + 1, r) ⟨by omega, hr, fun x hx => ?_⟩ (show t.length - (i + 1) < t.length - i by omega) (by repeat' first | refine And.intro ?_ ?_ | exact True.intro | (show (_ : Int) = (_ : Int); omega) | omega | exact rfl | (simp only [RO.len]; omega))
      rw [hs x hx]
      exact or_congr Iff.rfl ⟨fun ⟨y, hy, q⟩ => ⟨y, by omega, q⟩, fun ⟨y, hy, q⟩ => ⟨y, by
        by_cases e : y = i
        · subst e; rw [h2] at q; cases q.1
        · omega, q⟩⟩
    · have h2 : g i = true := by
        have h2 : (!(setB t.length g).getD i false) = false := h2
        rw [setB_get hil] at h2; simpa using h2
      have hrow := h.len hil
      refine And.intro (by omega) ?_
      refine Exists.intro [] <| lp2 (fun (s : Nat) (_ : List Bool) => [(26, .int .i64 s)]) (fun _ r => [(11, .vec 0 (.bools r) [])]) (fun s r => s ≤ t.length ∧ r.length = t.length ∧ ∀ x, x < t.length → (r.getD x false = true ↔ ((g x = true ∨ ∃ y, y < i ∧ g y = true ∧ inRB t y x = true) ∨ ∃ s', s' < s ∧ en t i s' = x))) (fun s _ => t.length - s) 0 r ⟨Nat.zero_le _, hr, fun x hx => by rw [hs x hx]; simp⟩ (by repeat' first | refine And.intro ?_ ?_ | exact True.intro | (show (_ : Int) = (_ : Int); omega) | omega | exact rfl | (simp only [RO.len]; omega)) ?_
      rintro s q ⟨hsn, hq, hqs⟩
      refine And.intro (fun h3 => ?_) (fun h3 => ?_)
      · have h3 : (s : Int) < ((t.getD i []).length : Int) := h3
        have hsl : s < t.length := by omega
        have he := h.ent hil hsl
        refine And.intro ⟨by omega, h3⟩ ?_
        refine And.intro (show 0 ≤ (t.getD i []).getD s 0 ∧ (t.getD i []).getD s 0 < (q.length : Int) by omega) ?_
        refine And.intro (show (0 : Int) ≤ (t.getD i []).getD s 0 by omega) ?_
        refine And.intro (by omega) ?_
        have hnx := set_iff hq hqs (i := ((t.getD i []).getD s 0).toNat) (by omega)
        refine nx (s + 1, q.set ((t.getD i []).getD s 0).toNat true) ⟨by omega, hnx.1, fun x hx => ?_⟩ (show t.length - (s + 1) < t.length - s by omega) (by repeat' first | refine And.intro ?_ ?_ | exact True.intro | (show (_ : Int) = (_ : Int); omega) | omega | exact rfl | (simp only [RO.len]; omega))
        rw [hnx.2 x hx, or_assoc]
        refine or_congr Iff.rfl ⟨?_, ?_⟩
        · rintro (⟨s', h4, h5⟩ | h4)
          · exact ⟨s', by omega, h5⟩
          · exact ⟨s, by omega, by unfold en; omega⟩
        · rintro ⟨s', h4, h5⟩
          by_cases e : s' = s
          · subst e; exact .inr (by unfold en at h5; omega)
          · exact .inl ⟨s', by omega, h5⟩
      · have h3 : ((t.getD i []).length : Int) ≤ (s : Int) := h3
        refine And.intro (by omega) ?_
        refine nx (i + 1, q) ⟨by omega, hq, fun x hx => ?_⟩ (show t.length - (i + 1) < t.length - i by omega) (by repeat' first | refine And.intro ?_ ?_ | exact True.intro | (show (_ : Int) = (_ : Int); omega) | omega | exact rfl | (simp only [RO.len]; omega))
        rw [hqs x hx, or_assoc]
        refine ⟨?_, ?_⟩
        · rintro (h4 | ⟨y, h4, h5⟩ | ⟨s', h4, h5⟩)
          · exact .inl h4
          · exact .inr ⟨y, by omega, h5⟩
          · exact .inr ⟨i, by omega, h2, (inRB_iff h hil).2 (.inr ⟨s', by omega, h5⟩)⟩
        · rintro (h4 | ⟨y, h4, h5, h6⟩)
          · exact .inl h4
          · by_cases e : y = i
            · subst e
              rcases (inRB_iff h hil).1 h6 with h7 | ⟨s', h7, h8⟩
              · exact .inl (by rw [h7]; exact h5)
              · exact .inr (.inr ⟨s', by omega, h8⟩)
            · exact .inr (.inl ⟨y, by omega, h5, h6⟩)
  · refine And.intro ?_ trivial
    refine And.intro rfl ?_
    have h1 : ((setB t.length g).length : Int) ≤ (i : Int) := h1
    have hin : i = t.length := by omega
    refine congrArg RO.bools (setB_ofP hr fun x hx => ?_)
    rw [hs x hx, rgtF_iff, hin]
    exact ⟨fun h' => h'.elim (fun h4 => ⟨x, hx, h4, (inRB_iff h hx).2 (.inl rfl)⟩) id, .inr⟩
theorem right_fn (t : List (List Int)) (h : Sh t) (g : Nat → Bool) : QF 129 [.ro (.rows .i64 t), .ro (.bools (setB t.length g))] (.new (.bools (setB t.length (rgtF t g)))) := mkQ Try.func129 (by decide +kernel) rfl (Nat.le_of_ble_eq_true rfl) fun _ => right_k t h g

theorem two_k (t : List (List Int)) (h : Sh t) (g : Nat → Bool) : fnK TY SP Try.f96 [.ro (.rows .i64 t), .ro (.bools (setB t.length g))] (.new (.bools (setB t.length (twoF t g)))) := by
  refine Or.inl (cq (right_fn t h g) (And.intro rfl (And.intro rfl trivial)) ?_)
  refine Or.inl (cq (left_fn t h (rgtF t g)) (And.intro rfl (And.intro rfl trivial)) ?_)
  exact And.intro (And.intro rfl rfl) trivial
theorem two_fn (t : List (List Int)) (h : Sh t) (g : Nat → Bool) : QF 96 [.ro (.rows .i64 t), .ro (.bools (setB t.length g))] (.new (.bools (setB t.length (twoF t g)))) := mkQ Try.func96 (by decide +kernel) rfl (Nat.le_of_ble_eq_true rfl) fun _ => two_k t h g

theorem ivalid_k (t : List (List Int)) (l : List Int) (hll : l.length ≤ 140737488355328) : fnK TY SP Try.f94 [.ro (.rows .i64 t), .ro (.ints .i64 l)] (.bool (.v (decide (inT t l ∧ validV t = 0)))) := by
  refine Exists.intro [] <| lp (X := Nat) (fun i => [(9, .int .i64 i)]) (fun _ => []) (fun i => i ≤ l.length ∧ ∀ x ∈ l.take i, 0 ≤ x ∧ x < (t.length : Int)) (fun i => l.length - i) 0 ⟨Nat.zero_le _, by simp⟩ (by repeat' first | refine And.intro ?_ ?_ | exact True.intro | (show (_ : Int) = (_ : Int); omega) | omega | exact rfl | (simp only [RO.len]; omega)) ?_
  rintro i ⟨hi, hs⟩
  have no : i < l.length → ¬ (0 ≤ l.getD i 0 ∧ l.getD i 0 < (t.length : Int)) → false = decide (inT t l ∧ validV t = 0) := fun hil hn => by
    symm
    rw [decide_eq_false_iff_not]
    exact fun hh => hn (hh.1 _ (getD_mem hil))
  refine And.intro (fun h1 => ?_) (fun h1 => ?_)
  · have hil : i < l.length := by omega
    refine And.intro (by omega) ?_
    refine And.intro (fun h2 => ?_) (fun h2 => ?_)
    · have h2 : l.getD i 0 < 0 := h2
      exact And.intro (no hil (by omega)) trivial
    · have h2 : 0 ≤ l.getD i 0 := h2
      refine And.intro (fun h3 => ?_) (fun h3 => ?_)
      · have h3 : (t.length : Int) ≤ l.getD i 0 := h3
        exact And.intro (no hil (by omega)) trivial
      · have h3 : l.getD i 0 < (t.length : Int) := h3
        refine And.intro (by omega) ?_
        refine nx (i + 1) ⟨by omega, fun x hx => ?_⟩ (show l.length - (i + 1) < l.length - i by omega) (by repeat' first | refine And.intro ?_ ?_ | exact True.intro | (show (_ : Int) = (_ : Int); omega) | omega | exact rfl | (simp only [RO.len]; omega))
        rw [take_snoc (d := 0) hil, List.mem_append, List.mem_singleton] at hx
        rcases hx with hx | rfl
        · exact hs x hx
        · exact ⟨h2, h3⟩
  · refine Or.inl (cq (valid_fn t) (And.intro rfl trivial) ?_)
    refine And.intro ?_ trivial
    show decide (validV t = 0) = decide (inT t l ∧ validV t = 0)
    have : inT t l := fun x hx => hs x (by rw [List.take_of_length_le (by omega)]; exact hx)
    simp [this]
theorem ivalid_fn (t : List (List Int)) (l : List Int) : QF 94 [.ro (.rows .i64 t), .ro (.ints .i64 l)] (.bool (.v (decide (inT t l ∧ validV t = 0)))) := mkQ Try.func94 (by decide +kernel) rfl (Nat.le_of_ble_eq_true rfl) fun hf => ivalid_k t l hf.2.1.1

theorem iTwo_k (t : List (List Int)) (l : List Int) (h : Semi t) (hl : inT t l) : fnK TY SP Try.f46 [.ro (.rows .i64 t), .ro (.ints .i64 l)] (.new (.ints .i64 (ascV t.length (twoF t (setI l))))) := by
  have hmost := h.most
  refine Or.inl (cq (ivalid_fn t l) (And.intro rfl (And.intro rfl trivial)) ?_)
  refine And.intro (fun h1 => ?_) (fun _ => ?_)
  · rw [decide_eq_true (show inT t l ∧ validV t = 0 from ⟨hl, valid_zero.2 h⟩)] at h1; cases h1
  refine Or.inl (cq (marked_fn t.length l (by omega) hl) (And.intro rfl (And.intro rfl trivial)) ?_)
  refine Or.inl (cq (two_fn t h.toSh (setI l)) (And.intro rfl (And.intro rfl trivial)) ?_)
  refine Or.inl (cq (ilist_fn (setB t.length (twoF t (setI l))) (by rw [setB_len]; omega)) (And.intro rfl trivial) ?_)
  exact And.intro (And.intro rfl rfl) trivial
theorem iTwo_fn (t : List (List Int)) (l : List Int) (h : Semi t) (hl : inT t l) : QF 46 [.ro (.rows .i64 t), .ro (.ints .i64 l)] (.new (.ints .i64 (ascV t.length (twoF t (setI l))))) := mkQ Try.func46 (by decide +kernel) rfl (Nat.le_of_ble_eq_true rfl) fun _ => iTwo_k t l h hl
theorem isIdeal_k (t : List (List Int)) (h : Sh t) (l : List Int) (hll : l.length ≤ 140737488355328) : fnK TY SP Try.f98 [.ro (.rows .i64 t), .ro (.ints .i64 l)] (.bool (.v (idB t l))) := by
  have hmost := h.most
  refine Exists.intro [] <| lp (X := Nat) (fun i => [(13, .int .i64 i)]) (fun _ => []) (fun i => AscTo t l i) (fun i => l.length - i) 0 .start (by repeat' first | refine And.intro ?_ ?_ | exact True.intro | (show (_ : Int) = (_ : Int); omega) | omega | exact rfl | (simp only [RO.len]; omega)) ?_
  intro i H
  have hi := H.le
  refine And.intro (fun h1 => ?_) (fun h1 => ?_)
  · have hil : i < l.length := by omega
    have no : ¬ (0 ≤ l.getD i 0 ∧ l.getD i 0 < (t.length : Int)) → false = idB t l := fun hn => (idB_false.2 fun hh => hn (hh.2.2.1 _ (getD_mem hil))).symm
    refine And.intro (by omega) ?_
    refine And.intro (fun h2 => ?_) (fun h2 => ?_)
    · have h2 : l.getD i 0 < 0 := h2
      exact And.intro (no (by omega)) trivial
    · have h2 : 0 ≤ l.getD i 0 := h2
      refine And.intro (fun h3 => ?_) (fun h3 => ?_)
      · have h3 : (t.length : Int) ≤ l.getD i 0 := h3
        exact And.intro (no (by omega)) trivial
      · have h3 : l.getD i 0 < (t.length : Int) := h3
        refine And.intro (fun h4 => ?_) (fun h4 => ?_)
        · refine And.intro (by omega) ?_
          refine And.intro (by omega) ?_
          have e1 : ((i : Int) - 1).toNat = i - 1 := by omega
          refine And.intro (fun h5 => ?_) (fun h5 => ?_)
          · have h5 : l.getD i 0 ≤ l.getD ((i : Int) - 1).toNat 0 := h5
            rw [e1] at h5
            refine And.intro ?_ trivial
            refine (idB_false.2 fun hh => ?_).symm
            have := hh.2.1 (i - 1) (by omega)
            rw [show i - 1 + 1 = i by omega] at this
            omega
          · have h5 : l.getD ((i : Int) - 1).toNat 0 < l.getD i 0 := h5
            rw [e1] at h5
            refine And.intro (by omega) ?_
            exact nx (i + 1) (H.next hil h2 h3 fun _ => h5) (show l.length - (i + 1) < l.length - i by omega) (by repeat' first | refine And.intro ?_ ?_ | exact True.intro | (show (_ : Int) = (_ : Int); omega) | omega | exact rfl | (simp only [RO.len]; omega))
        · refine And.intro (by omega) ?_
          exact nx (i + 1) (H.next hil h2 h3 fun _ => by omega) (show l.length - (i + 1) < l.length - i by omega) (by repeat' first | refine And.intro ?_ ?_ | exact True.intro | (show (_ : Int) = (_ : Int); omega) | omega | exact rfl | (simp only [RO.len]; omega))
  · obtain ⟨hasc, hin⟩ := H.done (by omega)
    refine Or.inl (cq (marked_fn t.length l (by omega) hin) (And.intro rfl (And.intro rfl trivial)) ?_)
    have hsl := setB_len t.length (setI l)
    refine Exists.intro [] <| lp (X := Nat) (fun i => [(46, .int .i64 i)]) (fun _ => [(43, .vec 0 (.bools (setB t.length (setI l))) [])]) (fun i => i ≤ l.length ∧ ∀ j, j < i → ∀ s, s < t.length → setI l (en t (l.getD j 0).toNat s) = true ∧ setI l (en t s (l.getD j 0).toNat) = true) (fun i => l.length - i) 0 ⟨Nat.zero_le _, fun j hj => absurd hj (Nat.not_lt_zero _)⟩ (by repeat' first | refine And.intro ?_ ?_ | exact True.intro | (show (_ : Int) = (_ : Int); omega) | omega | exact rfl | (simp only [RO.len]; omega)) ?_
    rintro i ⟨hi2, hs⟩
    refine And.intro (fun h2 => ?_) (fun h2 => ?_)
    · have hil : i < l.length := by omega
      have hx := hin _ (getD_mem (d := 0) hil)
      have hxn : (l.getD i 0).toNat < t.length := by omega
      have hmem : setI l (l.getD i 0).toNat = true := setI_iff.2 (by rw [Int.toNat_of_nonneg hx.1]; exact getD_mem hil)
      refine And.intro (by omega) ?_
      refine Exists.intro [] <| lp (X := Nat) (fun s => [(52, .int .i64 s)]) (fun _ => [(43, .vec 0 (.bools (setB t.length (setI l))) [])]) (fun s => s ≤ t.length ∧ ∀ s', s' < s → setI l (en t (l.getD i 0).toNat s') = true ∧ setI l (en t s' (l.getD i 0).toNat) = true) (fun s => t.length - s) 0 ⟨Nat.zero_le _, fun j hj => absurd hj (Nat.not_lt_zero _)⟩ (by repeat' first | refine And.intro ?_ ?_ | exact True.intro | (show (_ : Int) = (_ : Int); omega) | omega | exact rfl | (simp only [RO.len]; omega)) ?_
      rintro s ⟨hsn, hss⟩
      refine And.intro (fun h3 => ?_) (fun h3 => ?_)
      · have hsl2 : s < t.length := by omega
        have r1 := h.len hxn
        have r2 := h.len hsl2
        have e1 := h.ent hxn hsl2
        have e2 := h.ent hsl2 hxn
        refine And.intro (show 0 ≤ l.getD i 0 ∧ l.getD i 0 < (t.length : Int) by omega) ?_
        refine And.intro (show 0 ≤ (s : Int) ∧ (s : Int) < ((t.getD (l.getD i 0).toNat []).length : Int) by omega) ?_
        refine And.intro (show 0 ≤ (t.getD (l.getD i 0).toNat []).getD s 0 ∧ (t.getD (l.getD i 0).toNat []).getD s 0 < ((setB t.length (setI l)).length : Int) by omega) ?_
        refine And.intro (fun h4 => ?_) (fun h4 => ?_)
        · have h4 : (!(setB t.length (setI l)).getD (en t (l.getD i 0).toNat s) false) = true := h4
          rw [setB_get e1.2] at h4
          refine And.intro ?_ trivial
          refine (idB_false.2 fun hh => ?_).symm
          have := (hh.2.2.2 _ s hxn hsl2 hmem).1
          rw [this] at h4; cases h4
        · have h4 : (!(setB t.length (setI l)).getD (en t (l.getD i 0).toNat s) false) = false := h4
          rw [setB_get e1.2] at h4
          refine And.intro ⟨by omega, show (s : Int) < (t.length : Int) by omega⟩ ?_
          refine And.intro (show 0 ≤ l.getD i 0 ∧ l.getD i 0 < ((t.getD s []).length : Int) by omega) ?_
          refine And.intro (show 0 ≤ (t.getD s []).getD (l.getD i 0).toNat 0 ∧ (t.getD s []).getD (l.getD i 0).toNat 0 < ((setB t.length (setI l)).length : Int) by omega) ?_
          refine And.intro (fun h5 => ?_) (fun h5 => ?_)
          · have h5 : (!(setB t.length (setI l)).getD (en t s (l.getD i 0).toNat) false) = true := h5
            rw [setB_get e2.2] at h5
            refine And.intro ?_ trivial
            refine (idB_false.2 fun hh => ?_).symm
            have := (hh.2.2.2 _ s hxn hsl2 hmem).2
            rw [this] at h5; cases h5
          · have h5 : (!(setB t.length (setI l)).getD (en t s (l.getD i 0).toNat) false) = false := h5
            rw [setB_get e2.2] at h5
            refine And.intro (by omega) ?_
            refine nx (s + 1) ⟨by omega, fun s' hs' => ?_⟩ (show t.length - (s + 1) < t.length - s by omega) (by repeat' first | refine And.intro ?_ ?_ | exact True.intro | (show (_ : Int) = (_ : Int); omega) | omega | exact rfl | (simp only [RO.len]; omega))
            by_cases e : s' = s
            · subst e; exact ⟨by simpa using h4, by simpa using h5⟩
            · exact hss s' (by omega)
      · refine And.intro (by omega) ?_
        refine nx (i + 1) ⟨by omega, fun j hj => ?_⟩ (show l.length - (i + 1) < l.length - i by omega) (by repeat' first | refine And.intro ?_ ?_ | exact True.intro | (show (_ : Int) = (_ : Int); omega) | omega | exact rfl | (simp only [RO.len]; omega))
        by_cases e : j = i
        · subst e; exact fun s' hs' => hss s' (by omega)
        · exact hs j (by omega)
    · refine And.intro ?_ trivial
      show decide ((0 : Int) < (l.length : Int)) = idB t l
      have hidf : IdF t (setI l) := fun x s hx hs' hm => by
        obtain ⟨j, hj, e⟩ := mem_getD 0 (setI_iff.1 hm)
        have := hs j (by omega) s hs'
        rw [e, Int.toNat_natCast] at this
        exact this
      by_cases h0 : 0 < l.length
      · rw [idB_true.2 ⟨h0, hasc, hin, hidf⟩]
        exact decide_eq_true (by omega)
      · rw [idB_false.2 fun hh => h0 hh.1]
        exact decide_eq_false (by omega)
theorem isIdeal_fn (t : List (List Int)) (h : Sh t) (l : List Int) : QF 98 [.ro (.rows .i64 t), .ro (.ints .i64 l)] (.bool (.v (idB t l))) := mkQ Try.func98 (by decide +kernel) rfl (Nat.le_of_ble_eq_true rfl) fun hf => isIdeal_k t h l hf.2.1.1

theorem iIsIdeal_k (t : List (List Int)) (h : Semi t) (l : List Int) : fnK TY SP Try.f69 [.ro (.rows .i64 t), .ro (.ints .i64 l)] (.bool (.v (idB t l))) := by
  refine Or.inl (cq (valid_fn t) (And.intro rfl trivial) ?_)
  refine And.intro (fun h1 => ?_) (fun h1 => absurd (valid_zero.2 h) h1)
  refine Or.inl (cq (isIdeal_fn t h.toSh l) (And.intro rfl (And.intro rfl trivial)) ?_)
  exact And.intro rfl trivial
theorem iIsIdeal_fn (t : List (List Int)) (h : Semi t) (l : List Int) : QF 69 [.ro (.rows .i64 t), .ro (.ints .i64 l)] (.bool (.v (idB t l))) := mkQ Try.func69 (by decide +kernel) rfl (Nat.le_of_ble_eq_true rfl) fun _ => iIsIdeal_k t h l
end Go.Proofs.Yteopelpnpdbbcaa
