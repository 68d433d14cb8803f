/- The reference's relations of Green (semigroupref15): contracts; the class of a table (semigroupref17). -/
import Derived.Test.YtfoemneboalddaaRefPart
import Derived.Test.YtfoemneboalddaaGroup
namespace Go.Proofs.Ytfoemneboalddaa
open Go Go.AM
set_option maxRecDepth 100000

theorem rright_k (t : List (List Int)) (h : Sh t) (x : Nat) (hx : x < t.length) : fnK TY SP Try.f91 [.ro (.rows .i64 t), .int .i64 x] (.new (.bools (setB t.length (inRB t x)))) := by
  have hmost := h.most
  have hrl := h.len hx
  refine And.intro (by omega) ?_
  refine And.intro (by omega) ?_
  refine And.intro (by simp; omega) ?_
  refine And.intro (by omega) ?_
  refine And.intro (by omega) ?_
  refine Exists.intro [] <| lp2 (fun (i : Nat) (_ : List Bool) => [(19, .int .i64 i)]) (fun _ r => [(10, .vec 0 (.bools r) [])]) (fun i r => i ≤ t.length ∧ r.length = t.length ∧ ∀ y, y < t.length → r.getD y false = (decide (y = x) || ((t.getD x []).take i).contains (y : Int))) (fun i _ => t.length - i) 0 ((List.replicate t.length false).set x true) ?_ (by repeat' first | refine And.intro ?_ ?_ | exact True.intro | (show (_ : Int) = (_ : Int); omega) | omega | exact rfl | (simp only [RO.len]; omega)) ?_
  · refine ⟨Nat.zero_le _, by simp, fun y hy => ?_⟩
    have := (setB_next (r := List.replicate t.length false) (f := fun _ => false) (by simp) (fun y _ => rep_false _ y) hx).2 y hy
    rw [this]; simp
  rintro i r ⟨hi, hr, hs⟩
  refine And.intro (fun h1 => ?_) (fun h1 => ?_)
  · have h1 : (i : Int) < ((t.getD x []).length : Int) := h1
    have hil : i < t.length := by omega
    have e1 := h.ent hx hil
    refine And.intro ⟨by omega, h1⟩ ?_
    refine And.intro (show 0 ≤ (t.getD x []).getD i 0 ∧ (t.getD x []).getD i 0 < (r.length : Int) by omega) ?_
    refine And.intro (show (0 : Int) ≤ (t.getD x []).getD i 0 by omega) ?_
    refine And.intro (by omega) ?_
    have hnx := setB_next hr hs (i := ((t.getD x []).getD i 0).toNat) (by omega)
    refine nx (i + 1, r.set ((t.getD x []).getD i 0).toNat true) ⟨by omega, hnx.1, fun y hy => ?_⟩ (show t.length - (i + 1) < t.length - i by omega) (by repeat' first | refine And.intro ?_ ?_ | exact True.intro | (show (_ : Int) = (_ : Int); omega) | omega | exact rfl | (simp only [RO.len]; omega))
    rw [hnx.2 y hy, take_snoc (d := 0) (by omega), Bool.or_assoc]
    congr 1
    rw [Bool.eq_iff_iff]
    simp only [Bool.or_eq_true, decide_eq_true_eq, List.contains_iff_mem, List.mem_append, List.mem_singleton]
    exact or_congr Iff.rfl ⟨fun h => by omega, fun h => by omega⟩
  · have h1 : ((t.getD x []).length : Int) ≤ (i : Int) := h1
    refine And.intro ?_ trivial
    refine And.intro rfl ?_
    rw [setB_of (f := inRB t x) hr fun y hy => by rw [hs y hy, List.take_of_length_le (by omega)]; rfl]
theorem rright_fn (t : List (List Int)) (h : Sh t) (x : Nat) (hx : x < t.length) : QF 91 [.ro (.rows .i64 t), .int .i64 x] (.new (.bools (setB t.length (inRB t x)))) := mkQ Try.func91 (by decide +kernel) rfl (Nat.le_of_ble_eq_true rfl) fun _ => rright_k t h x hx

theorem rleft_k (t : List (List Int)) (h : Sh t) (x : Nat) (hx : x < t.length) : fnK TY SP Try.f92 [.ro (.rows .i64 t), .int .i64 x] (.new (.bools (setB t.length (inLB t x)))) := by
  have hmost := h.most
  refine And.intro (by omega) ?_
  refine And.intro (by omega) ?_
  refine And.intro (by simp; omega) ?_
  refine And.intro (by omega) ?_
  refine Exists.intro [] <| lp2 (fun (i : Nat) (_ : List Bool) => [(15, .int .i64 i)]) (fun _ r => [(9, .vec 0 (.bools r) [])]) (fun i r => i ≤ t.length ∧ r.length = t.length ∧ ∀ y, y < t.length → r.getD y false = (decide (y = x) || (t.take i).any fun row => row.getD x 0 == (y : Int))) (fun i _ => t.length - i) 0 ((List.replicate t.length false).set x true) ?_ (by repeat' first | refine And.intro ?_ ?_ | exact True.intro | (show (_ : Int) = (_ : Int); omega) | omega | exact rfl | (simp only [RO.len]; omega)) ?_
  · refine ⟨Nat.zero_le _, by simp, fun y hy => ?_⟩
    have := (setB_next (r := List.replicate t.length false) (f := fun _ => false) (by simp) (fun y _ => rep_false _ y) hx).2 y hy
    rw [this]; simp
  rintro i r ⟨hi, hr, hs⟩
  refine And.intro (fun h1 => ?_) (fun h1 => ?_)
  · have hil : i < t.length := by omega
    have e1 := h.ent hil hx
    have hrl := h.len hil
    refine And.intro (by omega) ?_
    refine And.intro (show 0 ≤ (x : Int) ∧ (x : Int) < ((t.getD i []).length : Int) by omega) ?_
    refine And.intro (show 0 ≤ (t.getD i []).getD x 0 ∧ (t.getD i []).getD x 0 < (r.length : Int) by omega) ?_
    refine And.intro (show (0 : Int) ≤ (t.getD i []).getD x 0 by omega) ?_
    refine And.intro (by omega) ?_
    have hnx := setB_next hr hs (i := ((t.getD i []).getD x 0).toNat) (by omega)
    refine nx (i + 1, r.set ((t.getD i []).getD x 0).toNat true) ⟨by omega, hnx.1, fun y hy => ?_⟩ (show t.length - (i + 1) < t.length - i by omega) (by repeat' first | refine And.intro ?_ ?_ | exact True.intro | (show (_ : Int) = (_ : Int); omega) | omega | exact rfl | (simp only [RO.len]; omega))
    rw [hnx.2 y hy, take_snoc (d := []) hil, Bool.or_assoc, List.any_append]
    congr 1
    simp only [List.any_cons, List.any_nil, Bool.or_false]
    congr 1
    rw [Bool.eq_iff_iff]
    simp only [decide_eq_true_eq, beq_iff_eq]
    omega
  · refine And.intro ?_ trivial
    refine And.intro rfl ?_
    rw [setB_of (f := inLB t x) hr fun y hy => by rw [hs y hy, List.take_of_length_le (by omega)]; rfl]
theorem rleft_fn (t : List (List Int)) (h : Sh t) (x : Nat) (hx : x < t.length) : QF 92 [.ro (.rows .i64 t), .int .i64 x] (.new (.bools (setB t.length (inLB t x)))) := mkQ Try.func92 (by decide +kernel) rfl (Nat.le_of_ble_eq_true rfl) fun _ => rleft_k t h x hx

theorem rboth_k (t : List (List Int)) (h : Sh t) (x : Nat) (hx : x < t.length) : fnK TY SP Try.f93 [.ro (.rows .i64 t), .int .i64 x] (.new (.bools (setB t.length (inJB t x)))) := by
  have hmost := h.most
  have hsl := setB_len t.length (inLB t x)
  refine And.intro (by omega) ?_
  refine And.intro (by omega) ?_
  refine Or.inl (cq (rleft_fn t h x hx) (And.intro rfl (And.intro rfl trivial)) ?_)
  refine Exists.intro [] <| lp2 (fun (i : Nat) (_ : List Bool) => [(17, .int .i64 i)]) (fun _ r => [(12, .vec 0 (.bools r) [])]) (fun i r => i ≤ t.length ∧ r.length = t.length ∧ ∀ y, y < t.length → r.getD y false = (List.range i).any fun z => inLB t x z && inRB t z y) (fun i _ => t.length - i) 0 (List.replicate t.length false) ⟨Nat.zero_le _, by simp, fun y hy => by rw [rep_false]; simp⟩ (by repeat' first | refine And.intro ?_ ?_ | exact True.intro | (show (_ : Int) = (_ : Int); omega) | omega | exact rfl | (simp only [RO.len]; omega)) ?_
  rintro i r ⟨hi, hr, hs⟩
  refine And.intro (fun h1 => ?_) (fun h1 => ?_)
  · have h1 : (i : Int) < ((setB t.length (inLB t x)).length : Int) := h1
    have hil : i < t.length := by omega
    have hg := setB_get (f := inLB t x) hil
    have hrl := h.len hil
    refine And.intro ⟨by omega, h1⟩ ?_
    refine And.intro (fun h2 => ?_) (fun h2 => ?_)
    · have h2 : (!(setB t.length (inLB t x)).getD i false) = true := h2
      rw [hg] at h2
      have h2 : inLB t x i = false := by simpa using h2
      refine And.intro (by omega) ?_
      refine nx (i + 1, r) ⟨by omega, hr, fun y hy => ?_⟩ (show t.length - (i + 1) < t.length - i by omega) (by repeat' first | refine And.intro ?_ ?_ | exact True.intro | (show (_ : Int) = (_ : Int); omega) | omega | exact rfl | (simp only [RO.len]; omega))
      rw [hs y hy]; simp [List.range_succ, h2]
    · have h2 : (!(setB t.length (inLB t x)).getD i false) = false := h2
      rw [hg] at h2
      have h2 : inLB t x i = true := by simpa using h2
      refine And.intro (by omega) ?_
      refine And.intro (by omega) ?_
      refine And.intro (by omega) ?_
      have hn0 := setB_next hr hs hil
      refine Exists.intro [] <| lp2 (fun (k : Nat) (_ : List Bool) => [(32, .int .i64 k)]) (fun _ r => [(12, .vec 0 (.bools r) [])]) (fun k r => k ≤ t.length ∧ r.length = t.length ∧ ∀ y, y < t.length → r.getD y false = (((List.range i).any fun z => inLB t x z && inRB t z y) || decide (y = i) || ((t.getD i []).take k).contains (y : Int))) (fun k _ => t.length - k) 0 (r.set i true) ⟨Nat.zero_le _, hn0.1, fun y hy => by rw [hn0.2 y hy]; simp⟩ (by repeat' first | refine And.intro ?_ ?_ | exact True.intro | (show (_ : Int) = (_ : Int); omega) | omega | exact rfl | (simp only [RO.len]; omega)) ?_
      rintro k r' ⟨hk, hr', hs'⟩
      refine And.intro (fun h3 => ?_) (fun h3 => ?_)
      · have h3 : (k : Int) < ((t.getD i []).length : Int) := h3
        have hkl : k < t.length := by omega
        have e1 := h.ent hil hkl
        refine And.intro ⟨by omega, h3⟩ ?_
        refine And.intro (show 0 ≤ (t.getD i []).getD k 0 ∧ (t.getD i []).getD k 0 < (r'.length : Int) by omega) ?_
        refine And.intro (show (0 : Int) ≤ (t.getD i []).getD k 0 by omega) ?_
        refine And.intro (by omega) ?_
        have hnx := setB_next hr' hs' (i := ((t.getD i []).getD k 0).toNat) (by omega)
        refine nx (k + 1, r'.set ((t.getD i []).getD k 0).toNat true) ⟨by omega, hnx.1, fun y hy => ?_⟩ (show t.length - (k + 1) < t.length - k by omega) (by repeat' first | refine And.intro ?_ ?_ | exact True.intro | (show (_ : Int) = (_ : Int); omega) | omega | exact rfl | (simp only [RO.len]; omega))
        rw [hnx.2 y hy, take_snoc (d := 0) (by omega), Bool.or_assoc (_ || _)]
        congr 1
        rw [Bool.eq_iff_iff]
        simp only [Bool.or_eq_true, decide_eq_true_eq, List.contains_iff_mem, List.mem_append, List.mem_singleton]
        exact or_congr Iff.rfl ⟨fun h => by omega, fun h => by omega⟩
      · have h3 : ((t.getD i []).length : Int) ≤ (k : Int) := h3
        refine And.intro (by omega) ?_
        refine nx (i + 1, r') ⟨by omega, hr', fun y hy => ?_⟩ (show t.length - (i + 1) < t.length - i by omega) (by repeat' first | refine And.intro ?_ ?_ | exact True.intro | (show (_ : Int) = (_ : Int); omega) | omega | exact rfl | (simp only [RO.len]; omega))
        rw [hs' y hy, List.take_of_length_le (by omega), List.range_succ, List.any_append, Bool.or_assoc]
        congr 1
        simp [h2, inRB]
  · have h1 : ((setB t.length (inLB t x)).length : Int) ≤ (i : Int) := h1
    refine And.intro ?_ trivial
    refine And.intro rfl ?_
    rw [setB_of (f := inJB t x) hr fun y hy => by rw [hs y hy, show i = t.length by omega]; rfl]
theorem rboth_fn (t : List (List Int)) (h : Sh t) (x : Nat) (hx : x < t.length) : QF 93 [.ro (.rows .i64 t), .int .i64 x] (.new (.bools (setB t.length (inJB t x)))) := mkQ Try.func93 (by decide +kernel) rfl (Nat.le_of_ble_eq_true rfl) fun _ => rboth_k t h x hx

/-- A relation as rows of bools. -/
def rowsB (n : Nat) (e : Nat → Nat → Bool) : List (List Bool) := (List.range n).map fun x => setB n (e x)
theorem rowsB_len (n : Nat) (e : Nat → Nat → Bool) : (rowsB n e).length = n := by simp [rowsB]
theorem rowsB_row {n : Nat} {e : Nat → Nat → Bool} {x : Nat} (hx : x < n) : (rowsB n e).getD x [] = setB n (e x) := by
  unfold rowsB
  rw [List.getD, List.getElem?_map, List.getElem?_range hx]; rfl
theorem rowsB_get {n : Nat} {e : Nat → Nat → Bool} {x y : Nat} (hx : x < n) (hy : y < n) : ((rowsB n e).getD x []).getD y false = e x y := by rw [rowsB_row hx, setB_get hy]
theorem rowsB_take {n k : Nat} {e : Nat → Nat → Bool} (hk : k < n) : (rowsB n e).take (k + 1) = (rowsB n e).take k ++ [setB n (e k)] := by
  rw [take_snoc (d := []) (by rw [rowsB_len]; exact hk), rowsB_row hk]

theorem ridealsR_k (t : List (List Int)) (h : Sh t) : fnK TY SP Try.f72 [.ro (.rows .i64 t), .int .u8 82] (.ro (.brows (rowsB t.length (inRB t)))) := by
  have hmost := h.most
  refine Exists.intro [] <| lp (X := Nat) (fun k => [(9, .int .i64 k), (5, .vec 26)]) (fun k => [(26, .vec 0 (.brows ((rowsB t.length (inRB t)).take k)) [])]) (fun k => k ≤ t.length) (fun k => t.length - k) 0 (Nat.zero_le _) (by repeat' first | refine And.intro ?_ ?_ | exact True.intro | (show (_ : Int) = (_ : Int); omega) | omega | exact rfl | (simp only [RO.len]; omega)) ?_
  intro k hk
  have hl : ((rowsB t.length (inRB t)).take k).length = k := by rw [List.length_take, rowsB_len]; omega
  refine And.intro (fun h1 => ?_) (fun h1 => ?_)
  · have hkl : k < t.length := by omega
    refine And.intro (fun _ => ?_) (fun h => absurd rfl h)
    refine Or.inl (cq (rright_fn t h k hkl) (And.intro rfl (And.intro rfl trivial)) ?_)
    refine And.intro (by rw [List.length_append, hl]; simp; omega) ?_
    refine And.intro (by omega) ?_
    refine nx (k + 1) (show k + 1 ≤ t.length by omega) (show t.length - (k + 1) < t.length - k by omega) ?_
    refine And.intro (And.intro rfl (And.intro (And.intro rfl (And.intro trivial trivial)) trivial)) ?_
    refine And.intro ?_ trivial
    refine And.intro (And.intro (Nat.le_refl _) (Nat.zero_le _)) ?_
    exact congrArg RO.brows (rowsB_take hkl).symm
  · refine And.intro ?_ trivial
    refine And.intro trivial ?_
    show RO.brows ((rowsB t.length (inRB t)).take k) = _
    rw [List.take_of_length_le (by rw [rowsB_len]; omega)]
theorem ridealsR_fn (t : List (List Int)) (h : Sh t) : QF 72 [.ro (.rows .i64 t), .int .u8 82] (.ro (.brows (rowsB t.length (inRB t)))) := mkQ Try.func72 (by decide +kernel) rfl (Nat.le_of_ble_eq_true rfl) fun _ => ridealsR_k t h

theorem ridealsL_k (t : List (List Int)) (h : Sh t) : fnK TY SP Try.f72 [.ro (.rows .i64 t), .int .u8 76] (.ro (.brows (rowsB t.length (inLB t)))) := by
  have hmost := h.most
  refine Exists.intro [] <| lp (X := Nat) (fun k => [(9, .int .i64 k), (5, .vec 34)]) (fun k => [(34, .vec 0 (.brows ((rowsB t.length (inLB t)).take k)) [])]) (fun k => k ≤ t.length) (fun k => t.length - k) 0 (Nat.zero_le _) (by repeat' first | refine And.intro ?_ ?_ | exact True.intro | (show (_ : Int) = (_ : Int); omega) | omega | exact rfl | (simp only [RO.len]; omega)) ?_
  intro k hk
  have hl : ((rowsB t.length (inLB t)).take k).length = k := by rw [List.length_take, rowsB_len]; omega
  refine And.intro (fun h1 => ?_) (fun h1 => ?_)
  · have hkl : k < t.length := by omega
    refine And.intro (fun h => by cases h) (fun _ => ?_)
    refine And.intro (fun _ => ?_) (fun h => absurd rfl h)
    refine Or.inl (cq (rleft_fn t h k hkl) (And.intro rfl (And.intro rfl trivial)) ?_)
    refine And.intro (by rw [List.length_append, hl]; simp; omega) ?_
    refine And.intro (by omega) ?_
    refine nx (k + 1) (show k + 1 ≤ t.length by omega) (show t.length - (k + 1) < t.length - k by omega) ?_
    refine And.intro (And.intro rfl (And.intro (And.intro rfl (And.intro trivial trivial)) trivial)) ?_
    refine And.intro ?_ trivial
    refine And.intro (And.intro (Nat.le_refl _) (Nat.zero_le _)) ?_
    exact congrArg RO.brows (rowsB_take hkl).symm
  · refine And.intro ?_ trivial
    refine And.intro trivial ?_
    show RO.brows ((rowsB t.length (inLB t)).take k) = _
    rw [List.take_of_length_le (by rw [rowsB_len]; omega)]
theorem ridealsL_fn (t : List (List Int)) (h : Sh t) : QF 72 [.ro (.rows .i64 t), .int .u8 76] (.ro (.brows (rowsB t.length (inLB t)))) := mkQ Try.func72 (by decide +kernel) rfl (Nat.le_of_ble_eq_true rfl) fun _ => ridealsL_k t h

theorem ridealsJ_k (t : List (List Int)) (h : Sh t) : fnK TY SP Try.f72 [.ro (.rows .i64 t), .int .u8 74] (.ro (.brows (rowsB t.length (inJB t)))) := by
  have hmost := h.most
  refine Exists.intro [] <| lp (X := Nat) (fun k => [(9, .int .i64 k), (5, .vec 18)]) (fun k => [(18, .vec 0 (.brows ((rowsB t.length (inJB t)).take k)) [])]) (fun k => k ≤ t.length) (fun k => t.length - k) 0 (Nat.zero_le _) (by repeat' first | refine And.intro ?_ ?_ | exact True.intro | (show (_ : Int) = (_ : Int); omega) | omega | exact rfl | (simp only [RO.len]; omega)) ?_
  intro k hk
  have hl : ((rowsB t.length (inJB t)).take k).length = k := by rw [List.length_take, rowsB_len]; omega
  refine And.intro (fun h1 => ?_) (fun h1 => ?_)
  · have hkl : k < t.length := by omega
    refine And.intro (fun h => by cases h) (fun _ => ?_)
    refine And.intro (fun h => by cases h) (fun _ => ?_)
    refine Or.inl (cq (rboth_fn t h k hkl) (And.intro rfl (And.intro rfl trivial)) ?_)
    refine And.intro (by rw [List.length_append, hl]; simp; omega) ?_
    refine And.intro (by omega) ?_
    refine nx (k + 1) (show k + 1 ≤ t.length by omega) (show t.length - (k + 1) < t.length - k by omega) ?_
    refine And.intro (And.intro rfl (And.intro (And.intro rfl (And.intro trivial trivial)) trivial)) ?_
    refine And.intro ?_ trivial
    refine And.intro (And.intro (Nat.le_refl _) (Nat.zero_le _)) ?_
    exact congrArg RO.brows (rowsB_take hkl).symm
  · refine And.intro ?_ trivial
    refine And.intro trivial ?_
    show RO.brows ((rowsB t.length (inJB t)).take k) = _
    rw [List.take_of_length_le (by rw [rowsB_len]; omega)]
theorem ridealsJ_fn (t : List (List Int)) (h : Sh t) : QF 72 [.ro (.rows .i64 t), .int .u8 74] (.ro (.brows (rowsB t.length (inJB t)))) := mkQ Try.func72 (by decide +kernel) rfl (Nat.le_of_ble_eq_true rfl) fun _ => ridealsJ_k t h


theorem rmutual_k (n : Nat) (hn : n ≤ 400) (e : Nat → Nat → Bool) (he : Pre n e) : fnK TY SP Try.f71 [.ro (.brows (rowsB n e))] (.new (.ints .i64 (clsL n e))) := by
  have hIl := rowsB_len n e
  refine And.intro (by omega) ?_
  refine And.intro (by omega) ?_
  refine Exists.intro [] <| lp2 (fun (x : Nat) (_ : List Int) => [(11, .int .i64 x)]) (fun _ c => [(8, .vec 0 (.ints .i64 c) [])]) (fun x c => x ≤ n ∧ c.length = n ∧ ∀ j, j < x → c.getD j 0 = ((rep e j : Nat) : Int)) (fun x _ => n - x) 0 (List.replicate (rowsB n e).length 0) ⟨Nat.zero_le _, by simp [hIl], fun j hj => absurd hj (Nat.not_lt_zero _)⟩ (by repeat' first | refine And.intro ?_ ?_ | exact True.intro | (show (_ : Int) = (_ : Int); omega) | omega | exact rfl | (simp only [RO.len]; omega)) ?_
  rintro x c ⟨hx, hc, hs⟩
  refine And.intro (fun h1 => ?_) (fun h1 => ?_)
  · have h1 : (x : Int) < ((List.replicate (rowsB n e).length (0 : Int)).length : Int) := h1
    rw [List.length_replicate] at h1
    have hxn : x < n := by omega
    have hrx := setB_len n (e x)
    rw [← rowsB_row hxn] at hrx
    have next : ∀ v : Nat, rep e x = v → ∀ j, j < x + 1 → ((c.set x (x : Int)).set x (v : Int)).getD j 0 = ((rep e j : Nat) : Int) := fun v hv j hj => by
      by_cases hjx : j = x
      · subst hjx; rw [getD_set_eq (by simp; omega), hv]
      · rw [getD_set_ne (Ne.symm hjx), getD_set_ne (Ne.symm hjx)]; exact hs j (by omega)
    refine And.intro (by omega) ?_
    refine And.intro (by omega) ?_
    refine Exists.intro [] <| lp (X := Nat) (fun y => [(5, .int .i64 y)]) (fun _ => [(8, .vec 0 (.ints .i64 (c.set x x)) [])]) (fun y => y ≤ x ∧ ∀ z, z < y → (e x z && e z x) = false) (fun y => x - y) 0 ⟨Nat.zero_le _, fun z hz => absurd hz (Nat.not_lt_zero _)⟩ (by repeat' first | refine And.intro ?_ ?_ | exact True.intro | (show (_ : Int) = (_ : Int); omega) | omega | exact rfl | (simp only [RO.len]; omega)) ?_
    rintro y ⟨hy, hno⟩
    refine And.intro (fun h2 => ?_) (fun h2 => ?_)
    · have hyx : y < x := by omega
      have hyn : y < n := by omega
      have hry := setB_len n (e y)
      rw [← rowsB_row hyn] at hry
      have exy := rowsB_get (e := e) hxn hyn
      have eyx := rowsB_get (e := e) hyn hxn
      have go : (e x y && e y x) = false → ∀ z, z < y + 1 → (e x z && e z x) = false := fun hb z hz => by
        by_cases hzy : z = y
        · rw [hzy]; exact hb
        · exact hno z (by omega)
      refine And.intro (by omega) ?_
      refine And.intro (show 0 ≤ (y : Int) ∧ (y : Int) < (((rowsB n e).getD x []).length : Int) by omega) ?_
      refine And.intro (fun h3 => ?_) (fun h3 => ?_)
      · have h3 : ((rowsB n e).getD x []).getD y false = true := h3
        rw [exy] at h3
        refine And.intro (by omega) ?_
        refine And.intro (show 0 ≤ (x : Int) ∧ (x : Int) < (((rowsB n e).getD y []).length : Int) by omega) ?_
        refine And.intro (fun h4 => ?_) (fun h4 => ?_)
        · have h4 : ((rowsB n e).getD y []).getD x false = true := h4
          rw [eyx] at h4
          have hrep := rep_of hyx (by rw [h3, h4]; rfl) hno
          have hyy : rep e y = y := rep_none fun z hz => by
            cases hb : (e y z && e z y) with
            | false => rfl
            | true =>
              rw [Bool.and_eq_true] at hb
              have h5 := he.trans x y z hxn hyn (by omega) h3 hb.1
              have h6 := he.trans z y x (by omega) hyn hxn hb.2 h4
              have := hno z hz
              rw [h5, h6] at this; cases this
          have hcy : (c.set x (x : Int)).getD y 0 = (y : Int) := by
            rw [getD_set_ne (by omega), hs y hyx, hyy]
          refine And.intro (by simp; omega) ?_
          refine And.intro (by simp; omega) ?_
          refine And.intro (by omega) ?_
          refine And.intro (by omega) ?_
          refine nx (x + 1, (c.set x (x : Int)).set x (y : Int)) ⟨by omega, by simp [hc], next y hrep⟩ (show n - (x + 1) < n - x by omega) ?_
          refine And.intro (And.intro rfl trivial) ?_
          refine And.intro ?_ trivial
          refine And.intro (And.intro (by omega) (by simp only [RO.len]; omega)) ?_
          show RO.ints .i64 ((c.set x (x : Int)).set x ((c.set x (x : Int)).getD y 0)) = _
          rw [hcy]
        · have h4 : ((rowsB n e).getD y []).getD x false = false := h4
          rw [eyx] at h4
          refine And.intro (by omega) ?_
          exact nx (y + 1) ⟨by omega, go (by rw [h4]; simp)⟩ (show x - (y + 1) < x - y by omega) (by repeat' first | refine And.intro ?_ ?_ | exact True.intro | (show (_ : Int) = (_ : Int); omega) | omega | exact rfl | (simp only [RO.len]; omega))
      · have h3 : ((rowsB n e).getD x []).getD y false = false := h3
        rw [exy] at h3
        refine And.intro (by omega) ?_
        exact nx (y + 1) ⟨by omega, go (by rw [h3]; simp)⟩ (show x - (y + 1) < x - y by omega) (by repeat' first | refine And.intro ?_ ?_ | exact True.intro | (show (_ : Int) = (_ : Int); omega) | omega | exact rfl | (simp only [RO.len]; omega))
    · refine And.intro (by omega) ?_
      have e2 : (c.set x (x : Int)).set x (x : Int) = c.set x (x : Int) := by simp
      exact nx (x + 1, c.set x (x : Int)) ⟨by omega, by simp [hc], by rw [← e2]; exact next x (rep_none fun z hz => hno z (by omega))⟩ (show n - (x + 1) < n - x by omega) (by repeat' first | refine And.intro ?_ ?_ | exact True.intro | (show (_ : Int) = (_ : Int); omega) | omega | exact rfl | (simp only [RO.len]; omega))
  · have h1 : ((List.replicate (rowsB n e).length (0 : Int)).length : Int) ≤ (x : Int) := h1
    rw [List.length_replicate] at h1
    have hcc : c = repsL n e := by
      refine List.ext_getElem (by rw [hc, repsL_len]) fun j h3 h4 => ?_
      rw [← getD_eq (d := 0) h3, ← getD_eq (d := 0) h4, hs j (by omega), repsL_get (by omega)]
    refine Or.inl (cq (rcanon_fn c) (And.intro rfl trivial) ?_)
    refine And.intro ?_ trivial
    refine And.intro rfl ?_
    rw [if_pos (by omega), hcc]; rfl
theorem rmutual_fn (n : Nat) (hn : n ≤ 400) (e : Nat → Nat → Bool) (he : Pre n e) : QF 71 [.ro (.brows (rowsB n e))] (.new (.ints .i64 (clsL n e))) := mkQ Try.func71 (by decide +kernel) rfl (Nat.le_of_ble_eq_true rfl) fun _ => rmutual_k n hn e he
end Go.Proofs.Ytfoemneboalddaa
