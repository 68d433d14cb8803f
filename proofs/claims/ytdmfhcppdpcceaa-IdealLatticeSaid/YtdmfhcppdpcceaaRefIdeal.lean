/- The reference of ideals: its contracts (generated ideals, the kernel, which lists are ideals). -/
import Derived.Test.YtdmfhcppdpcceaaIdealLaw
import Derived.Test.YtdmfhcppdpcceaaGroup
namespace Go.Proofs.Ytdmfhcppdpcceaa
open Go Go.AM
set_option maxRecDepth 100000

theorem ror_k (n : Nat) (f g : Nat → Bool) (hn : n ≤ 4096) : fnK TY SP Try.f58 [.ro (.bools (setB n f)), .ro (.bools (setB n g))] (.new (.bools (setB n fun x => f x || g x))) := by
  have hf := setB_len n f
  have hg := setB_len n g
  refine And.intro (by omega) ?_
  refine And.intro (by omega) ?_
  refine Exists.intro [] <| lp2 (fun (i : Nat) (_ : List Bool) => [(12, .int .i64 i)]) (fun _ r => [(9, .vec 0 (.bools r) [])]) (fun i r => i ≤ n ∧ r.length = n ∧ ∀ x, x < i → r.getD x false = (f x || g x)) (fun i _ => n - i) 0 (List.replicate (setB n f).length false) ⟨Nat.zero_le _, by simp [hf], fun x hx => absurd hx (Nat.not_lt_zero _)⟩ (by repeat' first | refine And.intro ?_ ?_ | exact True.intro | (show (_ : Int) = (_ : Int); omega) | omega | exact rfl | (simp only [RO.len]; omega)) ?_
  rintro i r ⟨hi, hr, hs⟩
  have next : ∀ b : Bool, i < n → b = (f i || g i) → ∀ x, x < i + 1 → (r.set i b).getD x false = (f x || g x) := fun b hil hb x hx => by
    by_cases e : x = i
    · subst e; rw [getD_set_eq (by omega), hb]
    · rw [getD_set_ne (Ne.symm e), hs x (by omega)]
  refine And.intro (fun h1 => ?_) (fun h1 => ?_)
  · have h1 : (i : Int) < ((setB n f).length : Int) := h1
    have hil : i < n := by omega
    refine And.intro ⟨by omega, h1⟩ ?_
    refine And.intro (fun h2 => ?_) (fun h2 => ?_)
    · have h2 : (setB n f).getD i false = true := h2
      rw [setB_get hil] at h2
      refine And.intro ⟨by omega, show (i : Int) < (r.length : Int) by omega⟩ ?_
      refine And.intro (by omega) ?_
      refine And.intro (by omega) ?_
      exact nx (i + 1, r.set i true) ⟨by omega, by rw [List.length_set]; exact hr, next true hil (by rw [h2]; rfl)⟩ (show n - (i + 1) < n - i by omega) (by repeat' first | refine And.intro ?_ ?_ | exact True.intro | (show (_ : Int) = (_ : Int); omega) | omega | exact rfl | (simp only [RO.len]; omega))
    · have h2 : (setB n f).getD i false = false := h2
      rw [setB_get hil] at h2
      refine And.intro ⟨by omega, show (i : Int) < ((setB n g).length : Int) by omega⟩ ?_
      refine And.intro ⟨by omega, show (i : Int) < (r.length : Int) by omega⟩ ?_
      refine And.intro (by omega) ?_
      refine And.intro (by omega) ?_
      exact nx (i + 1, r.set i ((setB n g).getD i false)) ⟨by omega, by rw [List.length_set]; exact hr, next _ hil (by rw [h2, setB_get hil]; rfl)⟩ (show n - (i + 1) < n - i by omega) (by repeat' first | refine And.intro ?_ ?_ | exact True.intro | (show (_ : Int) = (_ : Int); omega) | omega | exact rfl | (simp only [RO.len]; omega))
  · have h1 : ((setB n f).length : Int) ≤ (i : Int) := h1
    refine And.intro ?_ trivial
    refine And.intro rfl ?_
    exact congrArg RO.bools (setB_of hr fun x hx => hs x (by omega))
theorem ror_fn (n : Nat) (f g : Nat → Bool) (hn : n ≤ 4096) : QF 58 [.ro (.bools (setB n f)), .ro (.bools (setB n g))] (.new (.bools (setB n fun x => f x || g x))) := mkQ Try.func58 (by decide +kernel) rfl (Nat.le_of_ble_eq_true rfl) fun _ => ror_k n f g hn

theorem rasc_k (t : List (List Int)) (l : List Int) (hll : l.length ≤ 140737488355328) : fnK TY SP Try.f62 [.ro (.rows .i64 t), .ro (.ints .i64 l)] (.bool (.v (ascB t l))) := by
  refine Exists.intro [] <| lp (X := Nat) (fun i => [(9, .int .i64 i)]) (fun _ => []) (fun i => AscTo t l i) (fun i => l.length - i) 0 .start (by repeat' first | refine And.intro ?_ ?_ | exact True.intro | (show (_ : Int) = (_ : Int); omega) | omega | exact rfl | (simp only [RO.len]; omega)) ?_
  intro i H
  have hi := H.le
  refine And.intro (fun h1 => ?_) (fun h1 => ?_)
  · have hil : i < l.length := by omega
    have no : ¬ (0 ≤ l.getD i 0 ∧ l.getD i 0 < (t.length : Int)) → false = ascB t l := fun hn => (ascB_false.2 fun hh => hn (hh.2.2 _ (getD_mem hil))).symm
    refine And.intro (by omega) ?_
    refine And.intro (fun h2 => ?_) (fun h2 => ?_)
    · have h2 : l.getD i 0 < 0 := h2
      exact And.intro (no (by omega)) trivial
    · have h2 : 0 ≤ l.getD i 0 := h2
      refine And.intro (fun h3 => ?_) (fun h3 => ?_)
      · have h3 : (t.length : Int) ≤ l.getD i 0 := h3
        exact And.intro (no (by omega)) trivial
      · have h3 : l.getD i 0 < (t.length : Int) := h3
        refine And.intro (fun h4 => ?_) (fun h4 => ?_)
        · refine And.intro (by omega) ?_
          refine And.intro (by omega) ?_
          have e1 : ((i : Int) - 1).toNat = i - 1 := by omega
          refine And.intro (fun h5 => ?_) (fun h5 => ?_)
          · have h5 : l.getD i 0 ≤ l.getD ((i : Int) - 1).toNat 0 := h5
            rw [e1] at h5
            refine And.intro ?_ trivial
            refine (ascB_false.2 fun hh => ?_).symm
            have := hh.2.1 (i - 1) (by omega)
            rw [show i - 1 + 1 = i by omega] at this
            omega
          · have h5 : l.getD ((i : Int) - 1).toNat 0 < l.getD i 0 := h5
            rw [e1] at h5
            refine And.intro (by omega) ?_
            exact nx (i + 1) (H.next hil h2 h3 fun _ => h5) (show l.length - (i + 1) < l.length - i by omega) (by repeat' first | refine And.intro ?_ ?_ | exact True.intro | (show (_ : Int) = (_ : Int); omega) | omega | exact rfl | (simp only [RO.len]; omega))
        · refine And.intro (by omega) ?_
          exact nx (i + 1) (H.next hil h2 h3 fun _ => by omega) (show l.length - (i + 1) < l.length - i by omega) (by repeat' first | refine And.intro ?_ ?_ | exact True.intro | (show (_ : Int) = (_ : Int); omega) | omega | exact rfl | (simp only [RO.len]; omega))
  · obtain ⟨hasc, hin⟩ := H.done (by omega)
    refine And.intro ?_ trivial
    show decide ((0 : Int) < (l.length : Int)) = ascB t l
    by_cases h0 : 0 < l.length
    · rw [ascB_true.2 ⟨h0, hasc, hin⟩]
      exact decide_eq_true (by omega)
    · rw [ascB_false.2 fun hh => h0 hh.1]
      exact decide_eq_false (by omega)
theorem rasc_fn (t : List (List Int)) (l : List Int) : QF 62 [.ro (.rows .i64 t), .ro (.ints .i64 l)] (.bool (.v (ascB t l))) := mkQ Try.func62 (by decide +kernel) rfl (Nat.le_of_ble_eq_true rfl) fun hf => rasc_k t l hf.2.1.1


theorem rLeft_k (t : List (List Int)) (l : List Int) (h : Semi t) (hl : inT t l) (hll : l.length ≤ 140737488355328) : fnK TY SP Try.f31 [.ro (.rows .i64 t), .ro (.ints .i64 l)] (.new (.ints .i64 (ascV t.length (lftF t (setI l))))) := by
  have hmost := h.most
  refine And.intro (by omega) ?_
  refine And.intro (by omega) ?_
  refine Exists.intro [10, 10010] <| lp (X := Nat) (fun i => [(13, .int .i64 i), (5, .ro (.bools (setB t.length (unTo (inLB t) l i))))]) (fun _ => []) (fun i => i ≤ l.length) (fun i => l.length - i) 0 (Nat.zero_le _) (And.intro (And.intro rfl (And.intro (And.intro trivial (congrArg RO.bools (by rw [unTo_zero]; rfl))) trivial)) trivial) ?_
  intro i hi
  refine And.intro (fun h1 => ?_) (fun h1 => ?_)
  · have hil : i < l.length := by omega
    have hx := hl _ (getD_mem (d := 0) hil)
    refine And.intro (by omega) ?_
    refine Or.inl (cq (rleft_fn t h.toSh (l.getD i 0).toNat (by omega)) (And.intro rfl (And.intro (show l.getD i 0 = (((l.getD i 0).toNat : Nat) : Int) by omega) trivial)) ?_)
    refine Or.inl (cq (ror_fn t.length (unTo (inLB t) l i) (inLB t (l.getD i 0).toNat) (by omega)) (And.intro rfl (And.intro rfl trivial)) ?_)
    refine And.intro (by omega) ?_
    refine nx (i + 1) (by omega) (show l.length - (i + 1) < l.length - i by omega) ?_
    refine And.intro (And.intro (show (_ : Int) = (_ : Int) by omega) (And.intro (And.intro trivial (congrArg RO.bools (setB_congr fun x _ => (unTo_next hil x).symm))) trivial)) trivial
  · refine Or.inl (cq (members_fn (setB t.length (unTo (inLB t) l i)) (by rw [setB_len]; omega)) (And.intro rfl trivial) ?_)
    refine And.intro ?_ trivial
    refine And.intro rfl ?_
    refine congrArg (RO.ints .i64) (congrArg memV (setB_congr fun x _ => Bool.eq_iff_iff.2 ?_))
    rw [unTo_done (n := t.length) (by omega) hl, lftF_iff]
theorem rLeft_fn (t : List (List Int)) (l : List Int) (h : Semi t) (hl : inT t l) : QF 31 [.ro (.rows .i64 t), .ro (.ints .i64 l)] (.new (.ints .i64 (ascV t.length (lftF t (setI l))))) := mkQ Try.func31 (by decide +kernel) rfl (Nat.le_of_ble_eq_true rfl) fun hf => rLeft_k t l h hl hf.2.1.1

theorem rRight_k (t : List (List Int)) (l : List Int) (h : Semi t) (hl : inT t l) (hll : l.length ≤ 140737488355328) : fnK TY SP Try.f32 [.ro (.rows .i64 t), .ro (.ints .i64 l)] (.new (.ints .i64 (ascV t.length (rgtF t (setI l))))) := by
  have hmost := h.most
  refine And.intro (by omega) ?_
  refine And.intro (by omega) ?_
  refine Exists.intro [10, 10010] <| lp (X := Nat) (fun i => [(13, .int .i64 i), (5, .ro (.bools (setB t.length (unTo (inRB t) l i))))]) (fun _ => []) (fun i => i ≤ l.length) (fun i => l.length - i) 0 (Nat.zero_le _) (And.intro (And.intro rfl (And.intro (And.intro trivial (congrArg RO.bools (by rw [unTo_zero]; rfl))) trivial)) trivial) ?_
  intro i hi
  refine And.intro (fun h1 => ?_) (fun h1 => ?_)
  · have hil : i < l.length := by omega
    have hx := hl _ (getD_mem (d := 0) hil)
    refine And.intro (by omega) ?_
    refine Or.inl (cq (rright_fn t h.toSh (l.getD i 0).toNat (by omega)) (And.intro rfl (And.intro (show l.getD i 0 = (((l.getD i 0).toNat : Nat) : Int) by omega) trivial)) ?_)
    refine Or.inl (cq (ror_fn t.length (unTo (inRB t) l i) (inRB t (l.getD i 0).toNat) (by omega)) (And.intro rfl (And.intro rfl trivial)) ?_)
    refine And.intro (by omega) ?_
    refine nx (i + 1) (by omega) (show l.length - (i + 1) < l.length - i by omega) ?_
    refine And.intro (And.intro (show (_ : Int) = (_ : Int) by omega) (And.intro (And.intro trivial (congrArg RO.bools (setB_congr fun x _ => (unTo_next hil x).symm))) trivial)) trivial
  · refine Or.inl (cq (members_fn (setB t.length (unTo (inRB t) l i)) (by rw [setB_len]; omega)) (And.intro rfl trivial) ?_)
    refine And.intro ?_ trivial
    refine And.intro rfl ?_
    refine congrArg (RO.ints .i64) (congrArg memV (setB_congr fun x _ => Bool.eq_iff_iff.2 ?_))
    rw [unTo_done (n := t.length) (by omega) hl, rgtF_iff]
theorem rRight_fn (t : List (List Int)) (l : List Int) (h : Semi t) (hl : inT t l) : QF 32 [.ro (.rows .i64 t), .ro (.ints .i64 l)] (.new (.ints .i64 (ascV t.length (rgtF t (setI l))))) := mkQ Try.func32 (by decide +kernel) rfl (Nat.le_of_ble_eq_true rfl) fun hf => rRight_k t l h hl hf.2.1.1

theorem rTwo_k (t : List (List Int)) (l : List Int) (h : Semi t) (hl : inT t l) (hll : l.length ≤ 140737488355328) : fnK TY SP Try.f33 [.ro (.rows .i64 t), .ro (.ints .i64 l)] (.new (.ints .i64 (ascV t.length (twoF t (setI l))))) := by
  have hmost := h.most
  refine And.intro (by omega) ?_
  refine And.intro (by omega) ?_
  refine Exists.intro [10, 10010] <| lp (X := Nat) (fun i => [(13, .int .i64 i), (5, .ro (.bools (setB t.length (unTo (inJB t) l i))))]) (fun _ => []) (fun i => i ≤ l.length) (fun i => l.length - i) 0 (Nat.zero_le _) (And.intro (And.intro rfl (And.intro (And.intro trivial (congrArg RO.bools (by rw [unTo_zero]; rfl))) trivial)) trivial) ?_
  intro i hi
  refine And.intro (fun h1 => ?_) (fun h1 => ?_)
  · have hil : i < l.length := by omega
    have hx := hl _ (getD_mem (d := 0) hil)
    refine And.intro (by omega) ?_
    refine Or.inl (cq (rboth_fn t h.toSh (l.getD i 0).toNat (by omega)) (And.intro rfl (And.intro (show l.getD i 0 = (((l.getD i 0).toNat : Nat) : Int) by omega) trivial)) ?_)
    refine Or.inl (cq (ror_fn t.length (unTo (inJB t) l i) (inJB t (l.getD i 0).toNat) (by omega)) (And.intro rfl (And.intro rfl trivial)) ?_)
    refine And.intro (by omega) ?_
    refine nx (i + 1) (by omega) (show l.length - (i + 1) < l.length - i by omega) ?_
    refine And.intro (And.intro (show (_ : Int) = (_ : Int) by omega) (And.intro (And.intro trivial (congrArg RO.bools (setB_congr fun x _ => (unTo_next hil x).symm))) trivial)) trivial
  · refine Or.inl (cq (members_fn (setB t.length (unTo (inJB t) l i)) (by rw [setB_len]; omega)) (And.intro rfl trivial) ?_)
    refine And.intro ?_ trivial
    refine And.intro rfl ?_
    refine congrArg (RO.ints .i64) (congrArg memV (setB_congr fun x _ => Bool.eq_iff_iff.2 ?_))
    rw [unTo_done (n := t.length) (by omega) hl, twoF_iff h]
theorem rTwo_fn (t : List (List Int)) (l : List Int) (h : Semi t) (hl : inT t l) : QF 33 [.ro (.rows .i64 t), .ro (.ints .i64 l)] (.new (.ints .i64 (ascV t.length (twoF t (setI l))))) := mkQ Try.func33 (by decide +kernel) rfl (Nat.le_of_ble_eq_true rfl) fun hf => rTwo_k t l h hl hf.2.1.1

theorem rIsIdeal_k (t : List (List Int)) (h : Semi t) (l : List Int) (hll : l.length ≤ 140737488355328) : fnK TY SP Try.f21 [.ro (.rows .i64 t), .ro (.ints .i64 l)] (.bool (.v (idB t l))) := by
  have hmost := h.most
  have hsh := h.toSh
  refine Or.inl (cq (rvalid_fn t) (And.intro rfl trivial) ?_)
  refine And.intro (fun h1 => ?_) (fun _ => ?_)
  · rw [decide_eq_true (valid_zero.2 h)] at h1; cases h1
  refine Or.inl (cq (rasc_fn t l) (And.intro rfl (And.intro rfl trivial)) ?_)
  refine And.intro (fun h1 => ?_) (fun h1 => ?_)
  · refine And.intro ?_ trivial
    have h1 : ascB t l = false := by simpa using h1
    exact (idB_false.2 fun hh => ascB_false.1 h1 ⟨hh.1, hh.2.1, hh.2.2.1⟩).symm
  have h1 : ascB t l = true := by simpa using h1
  obtain ⟨h0, hasc, hin⟩ := ascB_true.1 h1
  refine Or.inl (cq (rset_fn l t.length (by omega)) (And.intro rfl (And.intro rfl trivial)) ?_)
  have hsl := setB_len t.length (setI l)
  refine Exists.intro [] <| lp (X := Nat) (fun i => [(24, .int .i64 i)]) (fun _ => [(21, .vec 0 (.bools (setB t.length (setI l))) [])]) (fun i => i ≤ l.length ∧ ∀ j, j < i → ∀ s, s < t.length → setI l (en t (l.getD j 0).toNat s) = true ∧ setI l (en t s (l.getD j 0).toNat) = true) (fun i => l.length - i) 0 ⟨Nat.zero_le _, fun j hj => absurd hj (Nat.not_lt_zero _)⟩ (by repeat' first | refine And.intro ?_ ?_ | exact True.intro | (show (_ : Int) = (_ : Int); omega) | omega | exact rfl | (simp only [RO.len]; omega)) ?_
  rintro i ⟨hi2, hs⟩
  refine And.intro (fun h2 => ?_) (fun h2 => ?_)
  · have hil : i < l.length := by omega
    have hx := hin _ (getD_mem (d := 0) hil)
    have hxn : (l.getD i 0).toNat < t.length := by omega
    have hmem : setI l (l.getD i 0).toNat = true := setI_iff.2 (by rw [Int.toNat_of_nonneg hx.1]; exact getD_mem hil)
    refine And.intro (by omega) ?_
    refine Exists.intro [] <| lp (X := Nat) (fun s => [(30, .int .i64 s)]) (fun _ => [(21, .vec 0 (.bools (setB t.length (setI l))) [])]) (fun s => s ≤ t.length ∧ ∀ s', s' < s → setI l (en t (l.getD i 0).toNat s') = true ∧ setI l (en t s' (l.getD i 0).toNat) = true) (fun s => t.length - s) 0 ⟨Nat.zero_le _, fun j hj => absurd hj (Nat.not_lt_zero _)⟩ (by repeat' first | refine And.intro ?_ ?_ | exact True.intro | (show (_ : Int) = (_ : Int); omega) | omega | exact rfl | (simp only [RO.len]; omega)) ?_
    rintro s ⟨hsn, hss⟩
    refine And.intro (fun h3 => ?_) (fun h3 => ?_)
    · have hsl2 : s < t.length := by omega
      have r1 := hsh.len hxn
      have r2 := hsh.len hsl2
      have e1 := hsh.ent hxn hsl2
      have e2 := hsh.ent hsl2 hxn
      refine And.intro (show 0 ≤ l.getD i 0 ∧ l.getD i 0 < (t.length : Int) by omega) ?_
      refine And.intro (show 0 ≤ (s : Int) ∧ (s : Int) < ((t.getD (l.getD i 0).toNat []).length : Int) by omega) ?_
      refine And.intro (show 0 ≤ (t.getD (l.getD i 0).toNat []).getD s 0 ∧ (t.getD (l.getD i 0).toNat []).getD s 0 < ((setB t.length (setI l)).length : Int) by omega) ?_
      refine And.intro (fun h4 => ?_) (fun h4 => ?_)
      · have h4 : (!(setB t.length (setI l)).getD (en t (l.getD i 0).toNat s) false) = true := h4
        rw [setB_get e1.2] at h4
        refine And.intro ?_ trivial
        refine (idB_false.2 fun hh => ?_).symm
        have := (hh.2.2.2 _ s hxn hsl2 hmem).1
        rw [this] at h4; cases h4
      · have h4 : (!(setB t.length (setI l)).getD (en t (l.getD i 0).toNat s) false) = false := h4
        rw [setB_get e1.2] at h4
        refine And.intro ⟨by omega, show (s : Int) < (t.length : Int) by omega⟩ ?_
        refine And.intro (show 0 ≤ l.getD i 0 ∧ l.getD i 0 < ((t.getD s []).length : Int) by omega) ?_
        refine And.intro (show 0 ≤ (t.getD s []).getD (l.getD i 0).toNat 0 ∧ (t.getD s []).getD (l.getD i 0).toNat 0 < ((setB t.length (setI l)).length : Int) by omega) ?_
        refine And.intro (fun h5 => ?_) (fun h5 => ?_)
        · have h5 : (!(setB t.length (setI l)).getD (en t s (l.getD i 0).toNat) false) = true := h5
          rw [setB_get e2.2] at h5
          refine And.intro ?_ trivial
          refine (idB_false.2 fun hh => ?_).symm
          have := (hh.2.2.2 _ s hxn hsl2 hmem).2
          rw [this] at h5; cases h5
        · have h5 : (!(setB t.length (setI l)).getD (en t s (l.getD i 0).toNat) false) = false := h5
          rw [setB_get e2.2] at h5
          refine And.intro (by omega) ?_
          refine nx (s + 1) ⟨by omega, fun s' hs' => ?_⟩ (show t.length - (s + 1) < t.length - s by omega) (by repeat' first | refine And.intro ?_ ?_ | exact True.intro | (show (_ : Int) = (_ : Int); omega) | omega | exact rfl | (simp only [RO.len]; omega))
          by_cases e : s' = s
          · subst e; exact ⟨by simpa using h4, by simpa using h5⟩
          · exact hss s' (by omega)
    · refine And.intro (by omega) ?_
      refine nx (i + 1) ⟨by omega, fun j hj => ?_⟩ (show l.length - (i + 1) < l.length - i by omega) (by repeat' first | refine And.intro ?_ ?_ | exact True.intro | (show (_ : Int) = (_ : Int); omega) | omega | exact rfl | (simp only [RO.len]; omega))
      by_cases e : j = i
      · subst e; exact fun s' hs' => hss s' (by omega)
      · exact hs j (by omega)
  · refine And.intro ?_ trivial
    have hidf : IdF t (setI l) := fun x s hx hs' hm => by
      obtain ⟨j, hj, e⟩ := mem_getD 0 (setI_iff.1 hm)
      have := hs j (by omega) s hs'
      rw [e, Int.toNat_natCast] at this
      exact this
    exact (idB_true.2 ⟨h0, hasc, hin, hidf⟩).symm
theorem rIsIdeal_fn (t : List (List Int)) (h : Semi t) (l : List Int) : QF 21 [.ro (.rows .i64 t), .ro (.ints .i64 l)] (.bool (.v (idB t l))) := mkQ Try.func21 (by decide +kernel) rfl (Nat.le_of_ble_eq_true rfl) fun hf => rIsIdeal_k t h l hf.2.1.1

theorem rKernel_k (t : List (List Int)) (h : Semi t) : fnK TY SP Try.f23 [.ro (.rows .i64 t)] (.new (.ints .i64 (ascV t.length (kerF t)))) := by
  have hmost := h.most
  have hsh := h.toSh
  refine Exists.intro [] <| lp (X := Nat) (fun s => [(7, .int .i64 s), (3, .int .i64 (allP t s : Nat))]) (fun _ => []) (fun s => s ≤ t.length) (fun s => t.length - s) 0 (Nat.zero_le _) (by repeat' first | refine And.intro ?_ ?_ | exact True.intro | (show (_ : Int) = (_ : Int); omega) | omega | exact rfl | (simp only [RO.len]; omega)) ?_
  intro s hs
  have hp := allP_lt hsh h.pos s hs
  refine And.intro (fun h1 => ?_) (fun h1 => ?_)
  · have hsl : s < t.length := by omega
    have hrow := hsh.len hp
    have he := hsh.ent hp hsl
    refine And.intro (by omega) ?_
    refine And.intro ⟨by omega, show (s : Int) < ((t.getD (((allP t s : Nat) : Int)).toNat []).length : Int) by rw [Int.toNat_natCast]; omega⟩ ?_
    refine And.intro (by omega) ?_
    refine nx (s + 1) (by omega) (show t.length - (s + 1) < t.length - s by omega) ?_
    have e : (t.getD (((allP t s : Nat) : Int)).toNat []).getD ((s : Int)).toNat 0 = ((allP t (s + 1) : Nat) : Int) := by
      rw [Int.toNat_natCast, Int.toNat_natCast]; exact he.1
    refine And.intro (And.intro ?_ (And.intro ?_ trivial)) trivial
    · show (_ : Int) = (_ : Int); omega
    · exact e
  · have hsn : s = t.length := by omega
    subst hsn
    have hin : inT t [((allP t t.length : Nat) : Int)] := fun x hx => by
      rw [List.mem_singleton] at hx; subst hx; omega
    refine Or.inl (cq (rTwo_fn t [((allP t t.length : Nat) : Int)] h hin) (And.intro rfl (And.intro rfl trivial)) ?_)
    exact And.intro (And.intro rfl rfl) trivial
theorem rKernel_fn (t : List (List Int)) (h : Semi t) : QF 23 [.ro (.rows .i64 t)] (.new (.ints .i64 (ascV t.length (kerF t)))) := mkQ Try.func23 (by decide +kernel) rfl (Nat.le_of_ble_eq_true rfl) fun _ => rKernel_k t h
end Go.Proofs.Ytdmfhcppdpcceaa
