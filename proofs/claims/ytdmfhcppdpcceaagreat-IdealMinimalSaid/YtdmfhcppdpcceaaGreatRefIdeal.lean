/- The reference of ideals: its contracts (generated ideals, the kernel, which lists are ideals). -/
import Derived.Test.YtdmfhcppdpcceaaGreatIdealLaw
import Derived.Test.YtdmfhcppdpcceaaGreatGroup
namespace Go.Proofs.YtdmfhcppdpcceaaGreat
open Go Go.AM
set_option maxRecDepth 100000

theorem ror_k (n : Nat) (f g : Nat → Bool) (hn : n ≤ 4096) : fnK TY SP Tryz.f65 [.ro (.bools (setB n f)), .ro (.bools (setB n g))] (.new (.bools (setB n fun x => f x || g x))) := by
  have hf := setB_len n f
  have hg := setB_len n g
  refine And.intro (by omega) ?_
  refine And.intro (by omega) ?_
  refine Exists.intro [] <| lp2 (fun (i : Nat) (_ : List Bool) => [(12, .int .i64 i)]) (fun _ r => [(9, .vec 0 (.bools r) [])]) (fun i r => i ≤ n ∧ r.length = n ∧ ∀ x, x < i → r.getD x false = (f x || g x)) (fun i _ => n - i) 0 (List.replicate (setB n f).length false) ⟨Nat.zero_le _, by simp [hf], fun x hx => absurd hx (Nat.not_lt_zero _)⟩ (by repeat' first | refine And.intro ?_ ?_ | exact True.intro | (show (_ : Int) = (_ : Int); omega) | omega | exact rfl | (simp only [RO.len]; omega)) ?_
  rintro i r ⟨hi, hr, hs⟩
  have next : ∀ b : Bool, i < n → b = (f i || g i) → ∀ x, x < i + 1 → (r.set i b).getD x false = (f x || g x) := fun b hil hb x hx => by
    by_cases e : x = i
    · subst e; rw [getD_set_eq (by omega), hb]
    · rw [getD_set_ne (Ne.symm e), hs x (by omega)]
  refine And.intro (fun h1 => ?_) (fun h1 => ?_)
  · have h1 : (i : Int) < ((setB n f).length : Int) := h1
    have hil : i < n := by omega
    refine And.intro ⟨by omega, h1⟩ ?_
    refine And.intro (fun h2 => ?_) (fun h2 => ?_)
    · have h2 : (setB n f).getD i false = true := h2
      rw [setB_get hil] at h2
      refine And.intro ⟨by omega, show (i : Int) < (r.length : Int) by omega⟩ ?_
      refine And.intro (by omega) ?_
      refine And.intro (by omega) ?_
      exact nx (i + 1, r.set i true) ⟨by omega, by rw [List.length_set]; exact hr, next true hil (by rw [h2]; rfl)⟩ (show n - (i + 1) < n - i by omega) (by repeat' first | refine And.intro ?_ ?_ | exact True.intro | (show (_ : Int) = (_ : Int); omega) | omega | exact rfl | (simp only [RO.len]; omega))
    · have h2 : (setB n f).getD i false = false := h2
      rw [setB_get hil] at h2
      refine And.intro ⟨by omega, show (i : Int) < ((setB n g).length : Int) by omega⟩ ?_
      refine And.intro ⟨by omega, show (i : Int) < (r.length : Int) by omega⟩ ?_
      refine And.intro (by omega) ?_
      refine And.intro (by omega) ?_
      exact nx (i + 1, r.set i ((setB n g).getD i false)) ⟨by omega, by rw [List.length_set]; exact hr, next _ hil (by rw [h2, setB_get hil]; rfl)⟩ (show n - (i + 1) < n - i by omega) (by repeat' first | refine And.intro ?_ ?_ | exact True.intro | (show (_ : Int) = (_ : Int); omega) | omega | exact rfl | (simp only [RO.len]; omega))
  · have h1 : ((setB n f).length : Int) ≤ (i : Int) := h1
    refine And.intro ?_ trivial
    refine And.intro rfl ?_
    exact congrArg RO.bools (setB_of hr fun x hx => hs x (by omega))
theorem ror_fn (n : Nat) (f g : Nat → Bool) (hn : n ≤ 4096) : QF 65 [.ro (.bools (setB n f)), .ro (.bools (setB n g))] (.new (.bools (setB n fun x => f x || g x))) := mkQ Tryz.func65 (by decide +kernel) rfl (Nat.le_of_ble_eq_true rfl) fun _ => ror_k n f g hn

theorem rLeft_k (t : List (List Int)) (l : List Int) (h : Semi t) (hl : inT t l) (hll : l.length ≤ 140737488355328) : fnK TY SP Tryz.f64 [.ro (.rows .i64 t), .ro (.ints .i64 l)] (.new (.ints .i64 (ascV t.length (lftF t (setI l))))) := by
  have hmost := h.most
  refine And.intro (by omega) ?_
  refine And.intro (by omega) ?_
  refine Exists.intro [10, 10010] <| lp (X := Nat) (fun i => [(13, .int .i64 i), (5, .ro (.bools (setB t.length (unTo (inLB t) l i))))]) (fun _ => []) (fun i => i ≤ l.length) (fun i => l.length - i) 0 (Nat.zero_le _) (And.intro (And.intro rfl (And.intro (And.intro trivial (congrArg RO.bools (by rw [unTo_zero]; rfl))) trivial)) trivial) ?_
  intro i hi
  refine And.intro (fun h1 => ?_) (fun h1 => ?_)
  · have hil : i < l.length := by omega
    have hx := hl _ (getD_mem (d := 0) hil)
    refine And.intro (by omega) ?_
    refine Or.inl (cq (rleft_fn t h.toSh (l.getD i 0).toNat (by omega)) (And.intro rfl (And.intro (show l.getD i 0 = (((l.getD i 0).toNat : Nat) : Int) by omega) trivial)) ?_)
    refine Or.inl (cq (ror_fn t.length (unTo (inLB t) l i) (inLB t (l.getD i 0).toNat) (by omega)) (And.intro rfl (And.intro rfl trivial)) ?_)
    refine And.intro (by omega) ?_
    refine nx (i + 1) (by omega) (show l.length - (i + 1) < l.length - i by omega) ?_
    refine And.intro (And.intro (show (_ : Int) = (_ : Int) by omega) (And.intro (And.intro trivial (congrArg RO.bools (setB_congr fun x _ => (unTo_next hil x).symm))) trivial)) trivial
  · refine Or.inl (cq (members_fn (setB t.length (unTo (inLB t) l i)) (by rw [setB_len]; omega)) (And.intro rfl trivial) ?_)
    refine And.intro ?_ trivial
    refine And.intro rfl ?_
    refine congrArg (RO.ints .i64) (congrArg memV (setB_congr fun x _ => Bool.eq_iff_iff.2 ?_))
    rw [unTo_done (n := t.length) (by omega) hl, lftF_iff]
theorem rLeft_fn (t : List (List Int)) (l : List Int) (h : Semi t) (hl : inT t l) : QF 64 [.ro (.rows .i64 t), .ro (.ints .i64 l)] (.new (.ints .i64 (ascV t.length (lftF t (setI l))))) := mkQ Tryz.func64 (by decide +kernel) rfl (Nat.le_of_ble_eq_true rfl) fun hf => rLeft_k t l h hl hf.2.1.1

theorem rRight_k (t : List (List Int)) (l : List Int) (h : Semi t) (hl : inT t l) (hll : l.length ≤ 140737488355328) : fnK TY SP Tryz.f63 [.ro (.rows .i64 t), .ro (.ints .i64 l)] (.new (.ints .i64 (ascV t.length (rgtF t (setI l))))) := by
  have hmost := h.most
  refine And.intro (by omega) ?_
  refine And.intro (by omega) ?_
  refine Exists.intro [10, 10010] <| lp (X := Nat) (fun i => [(13, .int .i64 i), (5, .ro (.bools (setB t.length (unTo (inRB t) l i))))]) (fun _ => []) (fun i => i ≤ l.length) (fun i => l.length - i) 0 (Nat.zero_le _) (And.intro (And.intro rfl (And.intro (And.intro trivial (congrArg RO.bools (by rw [unTo_zero]; rfl))) trivial)) trivial) ?_
  intro i hi
  refine And.intro (fun h1 => ?_) (fun h1 => ?_)
  · have hil : i < l.length := by omega
    have hx := hl _ (getD_mem (d := 0) hil)
    refine And.intro (by omega) ?_
    refine Or.inl (cq (rright_fn t h.toSh (l.getD i 0).toNat (by omega)) (And.intro rfl (And.intro (show l.getD i 0 = (((l.getD i 0).toNat : Nat) : Int) by omega) trivial)) ?_)
    refine Or.inl (cq (ror_fn t.length (unTo (inRB t) l i) (inRB t (l.getD i 0).toNat) (by omega)) (And.intro rfl (And.intro rfl trivial)) ?_)
    refine And.intro (by omega) ?_
    refine nx (i + 1) (by omega) (show l.length - (i + 1) < l.length - i by omega) ?_
    refine And.intro (And.intro (show (_ : Int) = (_ : Int) by omega) (And.intro (And.intro trivial (congrArg RO.bools (setB_congr fun x _ => (unTo_next hil x).symm))) trivial)) trivial
  · refine Or.inl (cq (members_fn (setB t.length (unTo (inRB t) l i)) (by rw [setB_len]; omega)) (And.intro rfl trivial) ?_)
    refine And.intro ?_ trivial
    refine And.intro rfl ?_
    refine congrArg (RO.ints .i64) (congrArg memV (setB_congr fun x _ => Bool.eq_iff_iff.2 ?_))
    rw [unTo_done (n := t.length) (by omega) hl, rgtF_iff]
theorem rRight_fn (t : List (List Int)) (l : List Int) (h : Semi t) (hl : inT t l) : QF 63 [.ro (.rows .i64 t), .ro (.ints .i64 l)] (.new (.ints .i64 (ascV t.length (rgtF t (setI l))))) := mkQ Tryz.func63 (by decide +kernel) rfl (Nat.le_of_ble_eq_true rfl) fun hf => rRight_k t l h hl hf.2.1.1

theorem rTwo_k (t : List (List Int)) (l : List Int) (h : Semi t) (hl : inT t l) (hll : l.length ≤ 140737488355328) : fnK TY SP Tryz.f31 [.ro (.rows .i64 t), .ro (.ints .i64 l)] (.new (.ints .i64 (ascV t.length (twoF t (setI l))))) := by
  have hmost := h.most
  refine And.intro (by omega) ?_
  refine And.intro (by omega) ?_
  refine Exists.intro [10, 10010] <| lp (X := Nat) (fun i => [(13, .int .i64 i), (5, .ro (.bools (setB t.length (unTo (inJB t) l i))))]) (fun _ => []) (fun i => i ≤ l.length) (fun i => l.length - i) 0 (Nat.zero_le _) (And.intro (And.intro rfl (And.intro (And.intro trivial (congrArg RO.bools (by rw [unTo_zero]; rfl))) trivial)) trivial) ?_
  intro i hi
  refine And.intro (fun h1 => ?_) (fun h1 => ?_)
  · have hil : i < l.length := by omega
    have hx := hl _ (getD_mem (d := 0) hil)
    refine And.intro (by omega) ?_
    refine Or.inl (cq (rboth_fn t h.toSh (l.getD i 0).toNat (by omega)) (And.intro rfl (And.intro (show l.getD i 0 = (((l.getD i 0).toNat : Nat) : Int) by omega) trivial)) ?_)
    refine Or.inl (cq (ror_fn t.length (unTo (inJB t) l i) (inJB t (l.getD i 0).toNat) (by omega)) (And.intro rfl (And.intro rfl trivial)) ?_)
    refine And.intro (by omega) ?_
    refine nx (i + 1) (by omega) (show l.length - (i + 1) < l.length - i by omega) ?_
    refine And.intro (And.intro (show (_ : Int) = (_ : Int) by omega) (And.intro (And.intro trivial (congrArg RO.bools (setB_congr fun x _ => (unTo_next hil x).symm))) trivial)) trivial
  · refine Or.inl (cq (members_fn (setB t.length (unTo (inJB t) l i)) (by rw [setB_len]; omega)) (And.intro rfl trivial) ?_)
    refine And.intro ?_ trivial
    refine And.intro rfl ?_
    refine congrArg (RO.ints .i64) (congrArg memV (setB_congr fun x _ => Bool.eq_iff_iff.2 ?_))
    rw [unTo_done (n := t.length) (by omega) hl, twoF_iff h]
theorem rTwo_fn (t : List (List Int)) (l : List Int) (h : Semi t) (hl : inT t l) : QF 31 [.ro (.rows .i64 t), .ro (.ints .i64 l)] (.new (.ints .i64 (ascV t.length (twoF t (setI l))))) := mkQ Tryz.func31 (by decide +kernel) rfl (Nat.le_of_ble_eq_true rfl) fun hf => rTwo_k t l h hl hf.2.1.1

theorem rKernel_k (t : List (List Int)) (h : Semi t) : fnK TY SP Tryz.f14 [.ro (.rows .i64 t)] (.new (.ints .i64 (ascV t.length (kerF t)))) := by
  have hmost := h.most
  have hsh := h.toSh
  refine Exists.intro [] <| lp (X := Nat) (fun s => [(7, .int .i64 s), (3, .int .i64 (allP t s : Nat))]) (fun _ => []) (fun s => s ≤ t.length) (fun s => t.length - s) 0 (Nat.zero_le _) (by repeat' first | refine And.intro ?_ ?_ | exact True.intro | (show (_ : Int) = (_ : Int); omega) | omega | exact rfl | (simp only [RO.len]; omega)) ?_
  intro s hs
  have hp := allP_lt hsh h.pos s hs
  refine And.intro (fun h1 => ?_) (fun h1 => ?_)
  · have hsl : s < t.length := by omega
    have hrow := hsh.len hp
    have he := hsh.ent hp hsl
    refine And.intro (by omega) ?_
    refine And.intro ⟨by omega, show (s : Int) < ((t.getD (((allP t s : Nat) : Int)).toNat []).length : Int) by rw [Int.toNat_natCast]; omega⟩ ?_
    refine And.intro (by omega) ?_
    refine nx (s + 1) (by omega) (show t.length - (s + 1) < t.length - s by omega) ?_
    have e : (t.getD (((allP t s : Nat) : Int)).toNat []).getD ((s : Int)).toNat 0 = ((allP t (s + 1) : Nat) : Int) := by
      rw [Int.toNat_natCast, Int.toNat_natCast]; exact he.1
    refine And.intro (And.intro ?_ (And.intro ?_ trivial)) trivial
    · show (_ : Int) = (_ : Int); omega
    · exact e
  · have hsn : s = t.length := by omega
    subst hsn
    have hin : inT t [((allP t t.length : Nat) : Int)] := fun x hx => by
      rw [List.mem_singleton] at hx; subst hx; omega
    refine Or.inl (cq (rTwo_fn t [((allP t t.length : Nat) : Int)] h hin) (And.intro rfl (And.intro rfl trivial)) ?_)
    exact And.intro (And.intro rfl rfl) trivial
theorem rKernel_fn (t : List (List Int)) (h : Semi t) : QF 14 [.ro (.rows .i64 t)] (.new (.ints .i64 (ascV t.length (kerF t)))) := mkQ Tryz.func14 (by decide +kernel) rfl (Nat.le_of_ble_eq_true rfl) fun _ => rKernel_k t h
end Go.Proofs.YtdmfhcppdpcceaaGreat
