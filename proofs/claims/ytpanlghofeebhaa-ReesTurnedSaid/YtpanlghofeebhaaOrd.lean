import Derived.Test.YtpanlghofeebhaaRefPart
import Derived.Test.YtpanlghofeebhaaReesLaw
import Derived.Test.YtpanlghofeebhaaReesAwake
import Derived.Test.YtpanlghofeebhaaMult
section
/- The reference's relations of Green (semigroupref15): contracts; the class of a table (semigroupref17). -/
namespace Go.Proofs.Ytpanlghofeebhaa
open Go Go.AM
set_option maxRecDepth 100000
theorem rright_fn (t : List (List Int)) (h : Sh t) (x : Nat) (hx : x < t.length) : QF 148 [.ro (.rows .i64 t), .int .i64 x] (.new (.bools (setB t.length (inRB t x)))) := mkQ Try.func148 (by decide +kernel) rfl (Nat.le_of_ble_eq_true rfl) fun _ => by
  have hmost := h.most
  have hrl := h.len hx
  refine And.intro (by omega) ?_
  refine And.intro (by omega) ?_
  refine And.intro (by simp; omega) ?_
  refine And.intro (by omega) ?_
  refine And.intro (by omega) ?_
  refine Exists.intro [] <| lp2 (fun (i : Nat) (_ : List Bool) => [(19, .int .i64 i)]) (fun _ r => [(10, .vec 0 (.bools r) [])]) (fun i r => i ≤ t.length ∧ r.length = t.length ∧ ∀ y, y < t.length → r.getD y false = (decide (y = x) || ((t.getD x []).take i).contains (y : Int))) (fun i _ => t.length - i) 0 ((List.replicate t.length false).set x true) ?_ (by repeat' first | refine And.intro ?_ ?_ | exact True.intro | (show (_ : Int) = (_ : Int); omega) | omega | exact rfl | (simp only [RO.len]; omega)) ?_
  · refine ⟨Nat.zero_le _, by simp, fun y hy => ?_⟩
    have := (setB_next (r := List.replicate t.length false) (f := fun _ => false) (by simp) (fun y _ => rep_false _ y) hx).2 y hy
    rw [this]; simp
  rintro i r ⟨hi, hr, hs⟩
  refine And.intro (fun h1 => ?_) (fun h1 => ?_)
  · have h1 : (i : Int) < ((t.getD x []).length : Int) := h1
    have hil : i < t.length := by omega
    have e1 := h.ent hx hil
    refine And.intro ⟨by omega, h1⟩ ?_
    refine And.intro (show 0 ≤ (t.getD x []).getD i 0 ∧ (t.getD x []).getD i 0 < (r.length : Int) by omega) ?_
    refine And.intro (show (0 : Int) ≤ (t.getD x []).getD i 0 by omega) ?_
    refine And.intro (by omega) ?_
    have hnx := setB_next hr hs (i := ((t.getD x []).getD i 0).toNat) (by omega)
    refine nx (i + 1, r.set ((t.getD x []).getD i 0).toNat true) ⟨by omega, hnx.1, fun y hy => ?_⟩ (show t.length - (i + 1) < t.length - i by omega) (by repeat' first | refine And.intro ?_ ?_ | exact True.intro | (show (_ : Int) = (_ : Int); omega) | omega | exact rfl | (simp only [RO.len]; omega))
    rw [hnx.2 y hy, take_snoc (d := 0) (by omega), Bool.or_assoc]
    congr 1
    rw [Bool.eq_iff_iff]
    simp only [Bool.or_eq_true, decide_eq_true_eq, List.contains_iff_mem, List.mem_append, List.mem_singleton]
    exact or_congr Iff.rfl ⟨fun h => by omega, fun h => by omega⟩
  · have h1 : ((t.getD x []).length : Int) ≤ (i : Int) := h1
    refine And.intro ?_ trivial
    refine And.intro rfl ?_
    rw [setB_of (f := inRB t x) hr fun y hy => by rw [hs y hy, List.take_of_length_le (by omega)]; rfl]
theorem rleft_fn (t : List (List Int)) (h : Sh t) (x : Nat) (hx : x < t.length) : QF 149 [.ro (.rows .i64 t), .int .i64 x] (.new (.bools (setB t.length (inLB t x)))) := mkQ Try.func149 (by decide +kernel) rfl (Nat.le_of_ble_eq_true rfl) fun _ => by
  have hmost := h.most
  refine And.intro (by omega) ?_
  refine And.intro (by omega) ?_
  refine And.intro (by simp; omega) ?_
  refine And.intro (by omega) ?_
  refine Exists.intro [] <| lp2 (fun (i : Nat) (_ : List Bool) => [(15, .int .i64 i)]) (fun _ r => [(9, .vec 0 (.bools r) [])]) (fun i r => i ≤ t.length ∧ r.length = t.length ∧ ∀ y, y < t.length → r.getD y false = (decide (y = x) || (t.take i).any fun row => row.getD x 0 == (y : Int))) (fun i _ => t.length - i) 0 ((List.replicate t.length false).set x true) ?_ (by repeat' first | refine And.intro ?_ ?_ | exact True.intro | (show (_ : Int) = (_ : Int); omega) | omega | exact rfl | (simp only [RO.len]; omega)) ?_
  · refine ⟨Nat.zero_le _, by simp, fun y hy => ?_⟩
    have := (setB_next (r := List.replicate t.length false) (f := fun _ => false) (by simp) (fun y _ => rep_false _ y) hx).2 y hy
    rw [this]; simp
  rintro i r ⟨hi, hr, hs⟩
  refine And.intro (fun h1 => ?_) (fun h1 => ?_)
  · have hil : i < t.length := by omega
    have e1 := h.ent hil hx
    have hrl := h.len hil
    refine And.intro (by omega) ?_
    refine And.intro (show 0 ≤ (x : Int) ∧ (x : Int) < ((t.getD i []).length : Int) by omega) ?_
    refine And.intro (show 0 ≤ (t.getD i []).getD x 0 ∧ (t.getD i []).getD x 0 < (r.length : Int) by omega) ?_
    refine And.intro (show (0 : Int) ≤ (t.getD i []).getD x 0 by omega) ?_
    refine And.intro (by omega) ?_
    have hnx := setB_next hr hs (i := ((t.getD i []).getD x 0).toNat) (by omega)
    refine nx (i + 1, r.set ((t.getD i []).getD x 0).toNat true) ⟨by omega, hnx.1, fun y hy => ?_⟩ (show t.length - (i + 1) < t.length - i by omega) (by repeat' first | refine And.intro ?_ ?_ | exact True.intro | (show (_ : Int) = (_ : Int); omega) | omega | exact rfl | (simp only [RO.len]; omega))
    rw [hnx.2 y hy, take_snoc (d := []) hil, Bool.or_assoc, List.any_append]
    congr 1
    simp only [List.any_cons, List.any_nil, Bool.or_false]
    congr 1
    rw [Bool.eq_iff_iff]
    simp only [decide_eq_true_eq, beq_iff_eq]
    omega
  · refine And.intro ?_ trivial
    refine And.intro rfl ?_
    rw [setB_of (f := inLB t x) hr fun y hy => by rw [hs y hy, List.take_of_length_le (by omega)]; rfl]
theorem rboth_fn (t : List (List Int)) (h : Sh t) (x : Nat) (hx : x < t.length) : QF 150 [.ro (.rows .i64 t), .int .i64 x] (.new (.bools (setB t.length (inJB t x)))) := mkQ Try.func150 (by decide +kernel) rfl (Nat.le_of_ble_eq_true rfl) fun _ => by
  have hmost := h.most
  have hsl := setB_len t.length (inLB t x)
  refine And.intro (by omega) ?_
  refine And.intro (by omega) ?_
  refine Or.inl (cq (rleft_fn t h x hx) (And.intro rfl (And.intro rfl trivial)) ?_)
  refine Exists.intro [] <| lp2 (fun (i : Nat) (_ : List Bool) => [(17, .int .i64 i)]) (fun _ r => [(12, .vec 0 (.bools r) [])]) (fun i r => i ≤ t.length ∧ r.length = t.length ∧ ∀ y, y < t.length → r.getD y false = (List.range i).any fun z => inLB t x z && inRB t z y) (fun i _ => t.length - i) 0 (List.replicate t.length false) ⟨Nat.zero_le _, by simp, fun y hy => by rw [rep_false]; simp⟩ (by repeat' first | refine And.intro ?_ ?_ | exact True.intro | (show (_ : Int) = (_ : Int); omega) | omega | exact rfl | (simp only [RO.len]; omega)) ?_
  rintro i r ⟨hi, hr, hs⟩
  refine And.intro (fun h1 => ?_) (fun h1 => ?_)
  · have h1 : (i : Int) < ((setB t.length (inLB t x)).length : Int) := h1
    have hil : i < t.length := by omega
    have hg := setB_get (f := inLB t x) hil
    have hrl := h.len hil
    refine And.intro ⟨by omega, h1⟩ ?_
    refine And.intro (fun h2 => ?_) (fun h2 => ?_)
    · have h2 : (!(setB t.length (inLB t x)).getD i false) = true := h2
      rw [hg] at h2
      have h2 : inLB t x i = false := by simpa using h2
      refine And.intro (by omega) ?_
      refine nx (i + 1, r) ⟨by omega, hr, fun y hy => ?_⟩ (show t.length - (i + 1) < t.length - i by omega) (by repeat' first | refine And.intro ?_ ?_ | exact True.intro | (show (_ : Int) = (_ : Int); omega) | omega | exact rfl | (simp only [RO.len]; omega))
      rw [hs y hy]; simp [List.range_succ, h2]
    · have h2 : (!(setB t.length (inLB t x)).getD i false) = false := h2
      rw [hg] at h2
      have h2 : inLB t x i = true := by simpa using h2
      refine And.intro (by omega) ?_
      refine And.intro (by omega) ?_
      refine And.intro (by omega) ?_
      have hn0 := setB_next hr hs hil
      refine Exists.intro [] <| lp2 (fun (k : Nat) (_ : List Bool) => [(32, .int .i64 k)]) (fun _ r => [(12, .vec 0 (.bools r) [])]) (fun k r => k ≤ t.length ∧ r.length = t.length ∧ ∀ y, y < t.length → r.getD y false = (((List.range i).any fun z => inLB t x z && inRB t z y) || decide (y = i) || ((t.getD i []).take k).contains (y : Int))) (fun k _ => t.length - k) 0 (r.set i true) ⟨Nat.zero_le _, hn0.1, fun y hy => by rw [hn0.2 y hy]; simp⟩ (by repeat' first | refine And.intro ?_ ?_ | exact True.intro | (show (_ : Int) = (_ : Int); omega) | omega | exact rfl | (simp only [RO.len]; omega)) ?_
      rintro k r' ⟨hk, hr', hs'⟩
      refine And.intro (fun h3 => ?_) (fun h3 => ?_)
      · have h3 : (k : Int) < ((t.getD i []).length : Int) := h3
        have hkl : k < t.length := by omega
        have e1 := h.ent hil hkl
        refine And.intro ⟨by omega, h3⟩ ?_
        refine And.intro (show 0 ≤ (t.getD i []).getD k 0 ∧ (t.getD i []).getD k 0 < (r'.length : Int) by omega) ?_
        refine And.intro (show (0 : Int) ≤ (t.getD i []).getD k 0 by omega) ?_
        refine And.intro (by omega) ?_
        have hnx := setB_next hr' hs' (i := ((t.getD i []).getD k 0).toNat) (by omega)
        refine nx (k + 1, r'.set ((t.getD i []).getD k 0).toNat true) ⟨by omega, hnx.1, fun y hy => ?_⟩ (show t.length - (k + 1) < t.length - k by omega) (by repeat' first | refine And.intro ?_ ?_ | exact True.intro | (show (_ : Int) = (_ : Int); omega) | omega | exact rfl | (simp only [RO.len]; omega))
        rw [hnx.2 y hy, take_snoc (d := 0) (by omega), Bool.or_assoc (_ || _)]
        congr 1
        rw [Bool.eq_iff_iff]
        simp only [Bool.or_eq_true, decide_eq_true_eq, List.contains_iff_mem, List.mem_append, List.mem_singleton]
        exact or_congr Iff.rfl ⟨fun h => by omega, fun h => by omega⟩
      · have h3 : ((t.getD i []).length : Int) ≤ (k : Int) := h3
        refine And.intro (by omega) ?_
        refine nx (i + 1, r') ⟨by omega, hr', fun y hy => ?_⟩ (show t.length - (i + 1) < t.length - i by omega) (by repeat' first | refine And.intro ?_ ?_ | exact True.intro | (show (_ : Int) = (_ : Int); omega) | omega | exact rfl | (simp only [RO.len]; omega))
        rw [hs' y hy, List.take_of_length_le (by omega), List.range_succ, List.any_append, Bool.or_assoc]
        congr 1
        simp [h2, inRB]
  · have h1 : ((setB t.length (inLB t x)).length : Int) ≤ (i : Int) := h1
    refine And.intro ?_ trivial
    refine And.intro rfl ?_
    rw [setB_of (f := inJB t x) hr fun y hy => by rw [hs y hy, show i = t.length by omega]; rfl]
def rowsB (n : Nat) (e : Nat → Nat → Bool) : List (List Bool) := (List.range n).map fun x => setB n (e x)
theorem rowsB_len (n : Nat) (e : Nat → Nat → Bool) : (rowsB n e).length = n := by simp [rowsB]
theorem rowsB_row {n : Nat} {e : Nat → Nat → Bool} {x : Nat} (hx : x < n) : (rowsB n e).getD x [] = setB n (e x) := by
  unfold rowsB
  rw [List.getD, List.getElem?_map, List.getElem?_range hx]; rfl
theorem rowsB_get {n : Nat} {e : Nat → Nat → Bool} {x y : Nat} (hx : x < n) (hy : y < n) : ((rowsB n e).getD x []).getD y false = e x y := by rw [rowsB_row hx, setB_get hy]
theorem rowsB_take {n k : Nat} {e : Nat → Nat → Bool} (hk : k < n) : (rowsB n e).take (k + 1) = (rowsB n e).take k ++ [setB n (e k)] := by
  rw [take_snoc (d := []) (by rw [rowsB_len]; exact hk), rowsB_row hk]
theorem ridealsR_fn (t : List (List Int)) (h : Sh t) : QF 121 [.ro (.rows .i64 t), .int .u8 82] (.ro (.brows (rowsB t.length (inRB t)))) := mkQ Try.func121 (by decide +kernel) rfl (Nat.le_of_ble_eq_true rfl) fun _ => by
  have hmost := h.most
  refine Exists.intro [] <| lp (X := Nat) (fun k => [(9, .int .i64 k), (5, .vec 26)]) (fun k => [(26, .vec 0 (.brows ((rowsB t.length (inRB t)).take k)) [])]) (fun k => k ≤ t.length) (fun k => t.length - k) 0 (Nat.zero_le _) (by repeat' first | refine And.intro ?_ ?_ | exact True.intro | (show (_ : Int) = (_ : Int); omega) | omega | exact rfl | (simp only [RO.len]; omega)) ?_
  intro k hk
  have hl : ((rowsB t.length (inRB t)).take k).length = k := by rw [List.length_take, rowsB_len]; omega
  refine And.intro (fun h1 => ?_) (fun h1 => ?_)
  · have hkl : k < t.length := by omega
    refine And.intro (fun _ => ?_) (fun h => absurd rfl h)
    refine Or.inl (cq (rright_fn t h k hkl) (And.intro rfl (And.intro rfl trivial)) ?_)
    refine And.intro (by rw [List.length_append, hl]; simp; omega) ?_
    refine And.intro (by omega) ?_
    refine nx (k + 1) (show k + 1 ≤ t.length by omega) (show t.length - (k + 1) < t.length - k by omega) ?_
    refine And.intro (And.intro rfl (And.intro (And.intro rfl (And.intro trivial trivial)) trivial)) ?_
    refine And.intro ?_ trivial
    refine And.intro (And.intro (Nat.le_refl _) (Nat.zero_le _)) ?_
    exact congrArg RO.brows (rowsB_take hkl).symm
  · refine And.intro ?_ trivial
    refine And.intro trivial ?_
    show RO.brows ((rowsB t.length (inRB t)).take k) = _
    rw [List.take_of_length_le (by rw [rowsB_len]; omega)]
theorem ridealsL_fn (t : List (List Int)) (h : Sh t) : QF 121 [.ro (.rows .i64 t), .int .u8 76] (.ro (.brows (rowsB t.length (inLB t)))) := mkQ Try.func121 (by decide +kernel) rfl (Nat.le_of_ble_eq_true rfl) fun _ => by
  have hmost := h.most
  refine Exists.intro [] <| lp (X := Nat) (fun k => [(9, .int .i64 k), (5, .vec 34)]) (fun k => [(34, .vec 0 (.brows ((rowsB t.length (inLB t)).take k)) [])]) (fun k => k ≤ t.length) (fun k => t.length - k) 0 (Nat.zero_le _) (by repeat' first | refine And.intro ?_ ?_ | exact True.intro | (show (_ : Int) = (_ : Int); omega) | omega | exact rfl | (simp only [RO.len]; omega)) ?_
  intro k hk
  have hl : ((rowsB t.length (inLB t)).take k).length = k := by rw [List.length_take, rowsB_len]; omega
  refine And.intro (fun h1 => ?_) (fun h1 => ?_)
  · have hkl : k < t.length := by omega
    refine And.intro (fun h => by cases h) (fun _ => ?_)
    refine And.intro (fun _ => ?_) (fun h => absurd rfl h)
    refine Or.inl (cq (rleft_fn t h k hkl) (And.intro rfl (And.intro rfl trivial)) ?_)
    refine And.intro (by rw [List.length_append, hl]; simp; omega) ?_
    refine And.intro (by omega) ?_
    refine nx (k + 1) (show k + 1 ≤ t.length by omega) (show t.length - (k + 1) < t.length - k by omega) ?_
    refine And.intro (And.intro rfl (And.intro (And.intro rfl (And.intro trivial trivial)) trivial)) ?_
    refine And.intro ?_ trivial
    refine And.intro (And.intro (Nat.le_refl _) (Nat.zero_le _)) ?_
    exact congrArg RO.brows (rowsB_take hkl).symm
  · refine And.intro ?_ trivial
    refine And.intro trivial ?_
    show RO.brows ((rowsB t.length (inLB t)).take k) = _
    rw [List.take_of_length_le (by rw [rowsB_len]; omega)]
theorem ridealsJ_fn (t : List (List Int)) (h : Sh t) : QF 121 [.ro (.rows .i64 t), .int .u8 74] (.ro (.brows (rowsB t.length (inJB t)))) := mkQ Try.func121 (by decide +kernel) rfl (Nat.le_of_ble_eq_true rfl) fun _ => by
  have hmost := h.most
  refine Exists.intro [] <| lp (X := Nat) (fun k => [(9, .int .i64 k), (5, .vec 18)]) (fun k => [(18, .vec 0 (.brows ((rowsB t.length (inJB t)).take k)) [])]) (fun k => k ≤ t.length) (fun k => t.length - k) 0 (Nat.zero_le _) (by repeat' first | refine And.intro ?_ ?_ | exact True.intro | (show (_ : Int) = (_ : Int); omega) | omega | exact rfl | (simp only [RO.len]; omega)) ?_
  intro k hk
  have hl : ((rowsB t.length (inJB t)).take k).length = k := by rw [List.length_take, rowsB_len]; omega
  refine And.intro (fun h1 => ?_) (fun h1 => ?_)
  · have hkl : k < t.length := by omega
    refine And.intro (fun h => by cases h) (fun _ => ?_)
    refine And.intro (fun h => by cases h) (fun _ => ?_)
    refine Or.inl (cq (rboth_fn t h k hkl) (And.intro rfl (And.intro rfl trivial)) ?_)
    refine And.intro (by rw [List.length_append, hl]; simp; omega) ?_
    refine And.intro (by omega) ?_
    refine nx (k + 1) (show k + 1 ≤ t.length by omega) (show t.length - (k + 1) < t.length - k by omega) ?_
    refine And.intro (And.intro rfl (And.intro (And.intro rfl (And.intro trivial trivial)) trivial)) ?_
    refine And.intro ?_ trivial
    refine And.intro (And.intro (Nat.le_refl _) (Nat.zero_le _)) ?_
    exact congrArg RO.brows (rowsB_take hkl).symm
  · refine And.intro ?_ trivial
    refine And.intro trivial ?_
    show RO.brows ((rowsB t.length (inJB t)).take k) = _
    rw [List.take_of_length_le (by rw [rowsB_len]; omega)]
theorem rmutual_fn (n : Nat) (hn : n ≤ 400) (e : Nat → Nat → Bool) (he : Pre n e) : QF 120 [.ro (.brows (rowsB n e))] (.new (.ints .i64 (clsL n e))) := mkQ Try.func120 (by decide +kernel) rfl (Nat.le_of_ble_eq_true rfl) fun _ => by
  have hIl := rowsB_len n e
  refine And.intro (by omega) ?_
  refine And.intro (by omega) ?_
  refine Exists.intro [] <| lp2 (fun (x : Nat) (_ : List Int) => [(11, .int .i64 x)]) (fun _ c => [(8, .vec 0 (.ints .i64 c) [])]) (fun x c => x ≤ n ∧ c.length = n ∧ ∀ j, j < x → c.getD j 0 = ((rep e j : Nat) : Int)) (fun x _ => n - x) 0 (List.replicate (rowsB n e).length 0) ⟨Nat.zero_le _, by simp [hIl], fun j hj => absurd hj (Nat.not_lt_zero _)⟩ (by repeat' first | refine And.intro ?_ ?_ | exact True.intro | (show (_ : Int) = (_ : Int); omega) | omega | exact rfl | (simp only [RO.len]; omega)) ?_
  rintro x c ⟨hx, hc, hs⟩
  refine And.intro (fun h1 => ?_) (fun h1 => ?_)
  · have h1 : (x : Int) < ((List.replicate (rowsB n e).length (0 : Int)).length : Int) := h1
    rw [List.length_replicate] at h1
    have hxn : x < n := by omega
    have hrx := setB_len n (e x)
    rw [← rowsB_row hxn] at hrx
    have next : ∀ v : Nat, rep e x = v → ∀ j, j < x + 1 → ((c.set x (x : Int)).set x (v : Int)).getD j 0 = ((rep e j : Nat) : Int) := fun v hv j hj => by
      by_cases hjx : j = x
      · subst hjx; rw [getD_set_eq (by simp; omega), hv]
      · rw [getD_set_ne (Ne.symm hjx), getD_set_ne (Ne.symm hjx)]; exact hs j (by omega)
    refine And.intro (by omega) ?_
    refine And.intro (by omega) ?_
    refine Exists.intro [] <| lp (X := Nat) (fun y => [(5, .int .i64 y)]) (fun _ => [(8, .vec 0 (.ints .i64 (c.set x x)) [])]) (fun y => y ≤ x ∧ ∀ z, z < y → (e x z && e z x) = false) (fun y => x - y) 0 ⟨Nat.zero_le _, fun z hz => absurd hz (Nat.not_lt_zero _)⟩ (by repeat' first | refine And.intro ?_ ?_ | exact True.intro | (show (_ : Int) = (_ : Int); omega) | omega | exact rfl | (simp only [RO.len]; omega)) ?_
    rintro y ⟨hy, hno⟩
    refine And.intro (fun h2 => ?_) (fun h2 => ?_)
    · have hyx : y < x := by omega
      have hyn : y < n := by omega
      have hry := setB_len n (e y)
      rw [← rowsB_row hyn] at hry
      have exy := rowsB_get (e := e) hxn hyn
      have eyx := rowsB_get (e := e) hyn hxn
      have go : (e x y && e y x) = false → ∀ z, z < y + 1 → (e x z && e z x) = false := fun hb z hz => by
        by_cases hzy : z = y
        · rw [hzy]; exact hb
        · exact hno z (by omega)
      refine And.intro (by omega) ?_
      refine And.intro (show 0 ≤ (y : Int) ∧ (y : Int) < (((rowsB n e).getD x []).length : Int) by omega) ?_
      refine And.intro (fun h3 => ?_) (fun h3 => ?_)
      · have h3 : ((rowsB n e).getD x []).getD y false = true := h3
        rw [exy] at h3
        refine And.intro (by omega) ?_
        refine And.intro (show 0 ≤ (x : Int) ∧ (x : Int) < (((rowsB n e).getD y []).length : Int) by omega) ?_
        refine And.intro (fun h4 => ?_) (fun h4 => ?_)
        · have h4 : ((rowsB n e).getD y []).getD x false = true := h4
          rw [eyx] at h4
          have hrep := rep_of hyx (by rw [h3, h4]; rfl) hno
          have hyy : rep e y = y := rep_none fun z hz => by
            cases hb : (e y z && e z y) with
            | false => rfl
            | true =>
              rw [Bool.and_eq_true] at hb
              have h5 := he.trans x y z hxn hyn (by omega) h3 hb.1
              have h6 := he.trans z y x (by omega) hyn hxn hb.2 h4
              have := hno z hz
              rw [h5, h6] at this; cases this
          have hcy : (c.set x (x : Int)).getD y 0 = (y : Int) := by
            rw [getD_set_ne (by omega), hs y hyx, hyy]
          refine And.intro (by simp; omega) ?_
          refine And.intro (by simp; omega) ?_
          refine And.intro (by omega) ?_
          refine And.intro (by omega) ?_
          refine nx (x + 1, (c.set x (x : Int)).set x (y : Int)) ⟨by omega, by simp [hc], next y hrep⟩ (show n - (x + 1) < n - x by omega) ?_
          refine And.intro (And.intro rfl trivial) ?_
          refine And.intro ?_ trivial
          refine And.intro (And.intro (by omega) (by simp only [RO.len]; omega)) ?_
          show RO.ints .i64 ((c.set x (x : Int)).set x ((c.set x (x : Int)).getD y 0)) = _
          rw [hcy]
        · have h4 : ((rowsB n e).getD y []).getD x false = false := h4
          rw [eyx] at h4
          refine And.intro (by omega) ?_
          exact nx (y + 1) ⟨by omega, go (by rw [h4]; simp)⟩ (show x - (y + 1) < x - y by omega) (by repeat' first | refine And.intro ?_ ?_ | exact True.intro | (show (_ : Int) = (_ : Int); omega) | omega | exact rfl | (simp only [RO.len]; omega))
      · have h3 : ((rowsB n e).getD x []).getD y false = false := h3
        rw [exy] at h3
        refine And.intro (by omega) ?_
        exact nx (y + 1) ⟨by omega, go (by rw [h3]; simp)⟩ (show x - (y + 1) < x - y by omega) (by repeat' first | refine And.intro ?_ ?_ | exact True.intro | (show (_ : Int) = (_ : Int); omega) | omega | exact rfl | (simp only [RO.len]; omega))
    · refine And.intro (by omega) ?_
      have e2 : (c.set x (x : Int)).set x (x : Int) = c.set x (x : Int) := by simp
      exact nx (x + 1, c.set x (x : Int)) ⟨by omega, by simp [hc], by rw [← e2]; exact next x (rep_none fun z hz => hno z (by omega))⟩ (show n - (x + 1) < n - x by omega) (by repeat' first | refine And.intro ?_ ?_ | exact True.intro | (show (_ : Int) = (_ : Int); omega) | omega | exact rfl | (simp only [RO.len]; omega))
  · have h1 : ((List.replicate (rowsB n e).length (0 : Int)).length : Int) ≤ (x : Int) := h1
    rw [List.length_replicate] at h1
    have hcc : c = repsL n e := by
      refine List.ext_getElem (by rw [hc, repsL_len]) fun j h3 h4 => ?_
      rw [← getD_eq (d := 0) h3, ← getD_eq (d := 0) h4, hs j (by omega), repsL_get (by omega)]
    refine Or.inl (cq (rcanon_fn c) (And.intro rfl trivial) ?_)
    refine And.intro ?_ trivial
    refine And.intro rfl ?_
    rw [if_pos (by omega), hcc]; rfl
end Go.Proofs.Ytpanlghofeebhaa
end
section
/- The reference of Rees matrix semigroups: its contracts. -/
namespace Go.Proofs.Ytpanlghofeebhaa
open Go Go.AM
set_option maxRecDepth 100000
theorem base_fn (G : List (List Int)) (R C : Int) (P : List (List Int)) (z : Bool) : QF 41 [rav G R C P z] (.int .i64 (zI z)) := mkQ Try.func41 (by decide +kernel) rfl (Nat.le_of_ble_eq_true rfl) fun _ => by
  refine And.intro (fun h1 => ?_) (fun h1 => ?_)
  · rw [h1]; exact And.intro rfl trivial
  · rw [h1]; exact And.intro rfl trivial
theorem rsize_fn (G : List (List Int)) (R C : Int) (P : List (List Int)) (z : Bool) (h : Rees G R C P z) : QF 40 [rav G R C P z] (.int .i64 (sizeI G.length R C z)) := mkQ Try.func40 (by decide +kernel) rfl (Nat.le_of_ble_eq_true rfl) fun _ => by
  have hle := h.le
  have hz := z_cases z
  have e : sizeI G.length R C z = R * G.length * C + zI z := by unfold sizeI; rw [Int.mul_comm (G.length : Int) R]
  have hs := h.small
  have m1 : 0 ≤ R * (G.length : Int) := Int.mul_nonneg (by omega) (by omega)
  have m2 : R * (G.length : Int) * 1 ≤ R * G.length * C := Int.mul_le_mul_of_nonneg_left (by omega) m1
  rw [e] at hs ⊢
  refine Or.inl <| Exists.intro [false, false, false, false, false, false, false, false, false, false, false, false, false] (And.intro (by decide +kernel) ?_)
  refine And.intro (by omega) ?_
  refine And.intro (by omega) ?_
  refine cq (base_fn G R C P z) (And.intro (by repeat' first | refine And.intro ?_ ?_ | exact True.intro | (show (_ : Int) = (_ : Int); omega) | omega | exact rfl | (simp only [RO.len]; omega)) trivial) ?_
  refine And.intro (by omega) ?_
  exact And.intro rfl trivial
theorem rval_k (G : List (List Int)) (R C : Int) (P : List (List Int)) (z : Bool) (hG : G.length ≤ 140737488355328) (hP : P.length ≤ 140737488355328 ∧ ∀ m ∈ P, m.length ≤ 140737488355328) :
    fnK TY SP Try.f39 [rav G R C P z] (.int .i64 (reesV G R C P z)) := by
  have hP1 := hP.1
  refine Or.inl (cq (rgroup_fn G) (And.intro rfl trivial) ?_)
  refine And.intro (fun h0 => ?_) (fun h0 => ?_)
  · exact And.intro (rees_no fun h => by rw [grpB_true.2 h.1] at h0; cases h0) trivial
  have hg : Grp G := grpB_true.1 (by simpa using h0)
  have hgp := hg.pos
  have hgm := hg.most
  refine And.intro (fun h1 => ?_) (fun h1 => ?_)
  · exact And.intro (rees_no fun h => by have := h.2.r; omega) trivial
  refine And.intro (fun h2 => ?_) (fun h2 => ?_)
  · exact And.intro (rees_no fun h => by have := h.2.c; omega) trivial
  refine And.intro (fun h3 => ?_) (fun h3 => ?_)
  · exact And.intro (rees_no fun h => h3 h.2.p) trivial
  refine Exists.intro [] <| lp (X := Nat) (fun k => [(33, .int .i64 k)]) (fun _ => []) (fun k => k ≤ P.length ∧ ∀ j, j < k → ((P.getD j []).length : Int) = R ∧ ∀ g ∈ P.getD j [], entOk G.length z g) (fun k => P.length - k) 0 ⟨Nat.zero_le _, by omega⟩ (by repeat' first | refine And.intro ?_ ?_ | exact True.intro | (show (_ : Int) = (_ : Int); omega) | omega | exact rfl | (simp only [RO.len]; omega)) ?_
  intro k hk
  refine And.intro (fun h4 => ?_) (fun h4 => ?_)
  · have hkl : k < P.length := by omega
    have hml := hP.2 _ (getD_mem (d := []) hkl)
    refine And.intro (by omega) ?_
    refine And.intro (fun h5 => ?_) (fun h5 => ?_)
    · exact And.intro (rees_no fun h => h5 (h.2.rows _ (getD_mem hkl)).1) trivial
    refine Exists.intro [] <| lp (X := Nat) (fun i => [(44, .int .i64 i)]) (fun _ => []) (fun i => i ≤ (P.getD k []).length ∧ ∀ j, j < i → entOk G.length z ((P.getD k []).getD j 0)) (fun i => (P.getD k []).length - i) 0 ⟨Nat.zero_le _, by omega⟩ (by repeat' first | refine And.intro ?_ ?_ | exact True.intro | (show (_ : Int) = (_ : Int); omega) | omega | exact rfl | (simp only [RO.len]; omega)) ?_
    intro i hi
    refine And.intro (fun h6 => ?_) (fun h6 => ?_)
    · have h6 : (i : Int) < ((P.getD k []).length : Int) := h6
      have hil : i < (P.getD k []).length := by omega
      have bad : ¬ entOk G.length z ((P.getD k []).getD i 0) → 4 = reesV G R C P z := fun hb => rees_no fun h => hb ((h.2.rows _ (getD_mem hkl)).2 _ (getD_mem hil))
      refine And.intro ⟨by omega, h6⟩ ?_
      have next : entOk G.length z ((P.getD k []).getD i 0) → ∀ j, j < i + 1 → entOk G.length z ((P.getD k []).getD j 0) := fun he j hj => by
        by_cases hji : j < i
        · exact hi.2 j hji
        · have : j = i := by omega
          rw [this]; exact he
      refine And.intro (fun h7 => ?_) (fun h7 => ?_)
      · have h7 : (P.getD k []).getD i 0 < -1 := h7
        exact And.intro (bad fun he => by have := he.1; omega) trivial
      have h7 : -1 ≤ (P.getD k []).getD i 0 := h7
      refine And.intro (fun h8 => ?_) (fun h8 => ?_)
      · have h8 : (G.length : Int) ≤ (P.getD k []).getD i 0 := h8
        exact And.intro (bad fun he => by have := he.2.1; omega) trivial
      have h8 : (P.getD k []).getD i 0 < (G.length : Int) := h8
      refine And.intro (fun h9 => ?_) (fun h9 => ?_)
      · have h9 : (P.getD k []).getD i 0 < 0 := h9
        refine And.intro (fun h10 => ?_) (fun h10 => ?_)
        · exact And.intro (bad fun he => by rw [he.2.2 h9] at h10; cases h10) trivial
        · refine And.intro (by omega) ?_
          refine nx (i + 1) ⟨by omega, next ⟨h7, h8, fun _ => by simpa using h10⟩⟩ (show (P.getD k []).length - (i + 1) < (P.getD k []).length - i by omega) (by repeat' first | refine And.intro ?_ ?_ | exact True.intro | (show (_ : Int) = (_ : Int); omega) | omega | exact rfl | (simp only [RO.len]; omega))
      · have h9 : 0 ≤ (P.getD k []).getD i 0 := h9
        refine And.intro (by omega) ?_
        refine nx (i + 1) ⟨by omega, next ⟨h7, h8, fun _ => by omega⟩⟩ (show (P.getD k []).length - (i + 1) < (P.getD k []).length - i by omega) (by repeat' first | refine And.intro ?_ ?_ | exact True.intro | (show (_ : Int) = (_ : Int); omega) | omega | exact rfl | (simp only [RO.len]; omega))
    · have h6 : ((P.getD k []).length : Int) ≤ (i : Int) := h6
      refine And.intro (by omega) ?_
      refine nx (k + 1) ⟨by omega, fun j hj => ?_⟩ (show P.length - (k + 1) < P.length - k by omega) (by repeat' first | refine And.intro ?_ ?_ | exact True.intro | (show (_ : Int) = (_ : Int); omega) | omega | exact rfl | (simp only [RO.len]; omega))
      by_cases hjk : j < k
      · exact hk.2 j hjk
      · have : j = k := by omega
        rw [this]
        refine ⟨h5, fun g hg => ?_⟩
        obtain ⟨q, hq, rfl⟩ := mem_getD 0 hg
        exact hi.2 q (by omega)
  · have hs : Shaped G R C P z := ⟨h1, h2, h3, fun row hrow => by
      obtain ⟨j, hj, rfl⟩ := mem_getD [] hrow
      exact hk.2 j (by omega)⟩
    have hn : 0 < (G.length : Int) := by omega
    have hz := z_cases z
    refine And.intro (fun h6 => ?_) (fun h6 => ?_)
    · have e : (400 - zI z : Int) = 400 - 1 := by rw [h6]; rfl
      refine And.intro (by omega) ?_
      refine Or.inl <| Exists.intro [false, false, false, false, false, false, false, false, false, false, false, false, false, false, false, false, false, false, false, false, false] (And.intro (by decide +kernel) ?_)
      refine And.intro (by omega) ?_
      refine And.intro (fun h7 => ?_) (fun h7 => ?_)
      · exact And.intro (lim_a hg hs (by rw [e]; exact h7)) trivial
      have hd := lim_d hn h1 (m := 400 - 1) (by omega) h7
      refine And.intro (by omega) ?_
      refine And.intro (by omega) ?_
      refine And.intro (fun h8 => ?_) (fun h8 => ?_)
      · exact And.intro (lim_b hg hs (by rw [e]; exact h8)) trivial
      · exact And.intro (lim_c hg hs (by rw [e]; exact h8)) trivial
    · have e : (400 - zI z : Int) = 400 := by rw [h6]; rfl
      refine Or.inl <| Exists.intro [false, false, false, false, false, false, false, false, false, false, false, false, false, false, false, false, false, false, false, false, false] (And.intro (by decide +kernel) ?_)
      refine And.intro (by omega) ?_
      refine And.intro (fun h7 => ?_) (fun h7 => ?_)
      · exact And.intro (lim_a hg hs (by rw [e]; exact h7)) trivial
      have hd := lim_d hn h1 (m := 400) (by omega) h7
      refine And.intro (by omega) ?_
      refine And.intro (by omega) ?_
      refine And.intro (fun h8 => ?_) (fun h8 => ?_)
      · exact And.intro (lim_b hg hs (by rw [e]; exact h8)) trivial
      · exact And.intro (lim_c hg hs (by rw [e]; exact h8)) trivial
theorem rval_fn (G : List (List Int)) (R C : Int) (P : List (List Int)) (z : Bool) : QF 39 [rav G R C P z] (.int .i64 (reesV G R C P z)) :=
  mkQ Try.func39 (by decide +kernel) rfl (Nat.le_of_ble_eq_true rfl) fun hf => rval_k G R C P z hf.1.1.1 ⟨hf.1.2.2.2.1.1, fun m hm => (hf.1.2.2.2.1.2 m hm).1⟩
theorem rnum_fn (G : List (List Int)) (R C : Int) (P : List (List Int)) (z : Bool) (h : Rees G R C P z) (i g l : Int) :
    QF 84 [rav G R C P z, .int .i64 i, .int .i64 g, .int .i64 l] (.int .i64 (if (0 ≤ i ∧ i < R) ∧ (0 ≤ g ∧ g < G.length) ∧ (0 ≤ l ∧ l < C) then numI G.length C z i g l else -1)) := mkQ Try.func84 (by decide +kernel) rfl (Nat.le_of_ble_eq_true rfl) fun _ => by
  have hle := h.le
  refine And.intro (fun h2 => ?_) (fun h2 => ?_)
  · rw [if_neg (fun h => by omega)]; exact And.intro rfl trivial
  refine And.intro (fun h3 => ?_) (fun h3 => ?_)
  · rw [if_neg (fun h => by omega)]; exact And.intro rfl trivial
  refine And.intro (fun h4 => ?_) (fun h4 => ?_)
  · rw [if_neg (fun h => by omega)]; exact And.intro rfl trivial
  refine And.intro (fun h5 => ?_) (fun h5 => ?_)
  · rw [if_neg (fun h => by omega)]; exact And.intro rfl trivial
  refine And.intro (fun h6 => ?_) (fun h6 => ?_)
  · rw [if_neg (fun h => by omega)]; exact And.intro rfl trivial
  refine And.intro (fun h7 => ?_) (fun h7 => ?_)
  · rw [if_neg (fun h => by omega)]; exact And.intro rfl trivial
  rw [if_pos ⟨⟨h2, h3⟩, ⟨h4, h5⟩, ⟨h6, h7⟩⟩]
  have hz := z_cases z
  have hn := num_lt (z := z) (n := G.length) (R := R) (i := i) (g := g) (l := l) hle.1 hle.2.2.2.2.1 ⟨h2, h3⟩ ⟨h4, h5⟩ ⟨h6, h7⟩
  have hs := h.small
  have a1 : 0 ≤ i * (G.length : Int) := Int.mul_nonneg h2 (by omega)
  have a2 : 0 ≤ (i * (G.length : Int) + g) * C := Int.mul_nonneg (by omega) (by omega)
  have a3 : i * (G.length : Int) + g ≤ (i * (G.length : Int) + g) * C := by
    have := Int.mul_le_mul_of_nonneg_left (show (1 : Int) ≤ C by omega) (show 0 ≤ i * (G.length : Int) + g by omega)
    rw [Int.mul_one] at this; exact this
  unfold numI at hn
  refine Or.inl <| Exists.intro [false, false, false, false, false, false, false, false, false, false, false, false, false, false, false, false] (And.intro (by decide +kernel) ?_)
  refine And.intro (by omega) ?_
  refine And.intro (by omega) ?_
  refine And.intro (by omega) ?_
  refine And.intro (by omega) ?_
  refine cq (base_fn G R C P z) (And.intro (by repeat' first | refine And.intro ?_ ?_ | exact True.intro | (show (_ : Int) = (_ : Int); omega) | omega | exact rfl | (simp only [RO.len]; omega)) trivial) ?_
  refine And.intro (by omega) ?_
  exact And.intro rfl trivial
theorem rmul_fn (G : List (List Int)) (R C : Int) (P : List (List Int)) (z : Bool) (h : Rees G R C P z) (x y : Int) :
    QF 43 [rav G R C P z, .int .i64 x, .int .i64 y] (.int .i64 (if 0 ≤ x ∧ x < sizeI G.length R C z ∧ 0 ≤ y ∧ y < sizeI G.length R C z then mulI G C P z x y else -1)) := mkQ Try.func43 (by decide +kernel) rfl (Nat.le_of_ble_eq_true rfl) fun _ => by
  have hle := h.le
  refine And.intro (fun h2 => ?_) (fun h2 => ?_)
  · rw [if_neg (fun h => by omega)]; exact And.intro rfl trivial
  refine Or.inl (cq (rsize_fn G R C P z h) (And.intro (by repeat' first | refine And.intro ?_ ?_ | exact True.intro | (show (_ : Int) = (_ : Int); omega) | omega | exact rfl | (simp only [RO.len]; omega)) trivial) ?_)
  refine And.intro (fun h3 => ?_) (fun h3 => ?_)
  · rw [if_neg (fun h => by omega)]; exact And.intro rfl trivial
  refine And.intro (fun h4 => ?_) (fun h4 => ?_)
  · rw [if_neg (fun h => by omega)]; exact And.intro rfl trivial
  refine Or.inl (cq (rsize_fn G R C P z h) (And.intro (by repeat' first | refine And.intro ?_ ?_ | exact True.intro | (show (_ : Int) = (_ : Int); omega) | omega | exact rfl | (simp only [RO.len]; omega)) trivial) ?_)
  refine And.intro (fun h5 => ?_) (fun h5 => ?_)
  · rw [if_neg (fun h => by omega)]; exact And.intro rfl trivial
  rw [if_pos ⟨h2, h3, h4, h5⟩]
  have hz := z_cases z
  have hsm := h.small
  refine Or.inl <| Exists.intro [false, false, false, false, false, false, false, false, false, false] (And.intro (by decide +kernel) ?_)
  refine cq (base_fn G R C P z) (And.intro (by repeat' first | refine And.intro ?_ ?_ | exact True.intro | (show (_ : Int) = (_ : Int); omega) | omega | exact rfl | (simp only [RO.len]; omega)) trivial) ?_
  refine And.intro (by omega) ?_
  refine cq (base_fn G R C P z) (And.intro (by repeat' first | refine And.intro ?_ ?_ | exact True.intro | (show (_ : Int) = (_ : Int); omega) | omega | exact rfl | (simp only [RO.len]; omega)) trivial) ?_
  refine And.intro (by omega) ?_
  refine And.intro (fun h6 => ?_) (fun h6 => ?_)
  · refine And.intro ?_ trivial
    show 0 = mulI G C P z x y
    unfold mulI; rw [if_pos (.inl h6)]
  refine And.intro (fun h7 => ?_) (fun h7 => ?_)
  · refine And.intro ?_ trivial
    show 0 = mulI G C P z x y
    unfold mulI; rw [if_pos (.inr h7)]
  have c1 := coord (z := z) (x := x) hle.1 hle.2.2.1 hle.2.2.2.2.1 (by omega) h3
  have c2 := coord (z := z) (x := y) hle.1 hle.2.2.1 hle.2.2.2.2.1 (by omega) h5
  have d1 : 0 ≤ (x - zI z) / C := Int.ediv_nonneg h6 (by omega)
  have d2 : 0 ≤ (y - zI z) / C := Int.ediv_nonneg h7 (by omega)
  have hpe := h.pent (l := ((x - zI z) % C).toNat) (i := ((y - zI z) / C / G.length).toNat) (by omega) (by omega)
  have g1 := h.grp.len (x := ((x - zI z) / C % G.length).toNat) (by omega)
  refine Or.inl <| Exists.intro [false, false, false, false, false, false, false, false, false, false, false, false, false, false, false, false, false] (And.intro (by decide +kernel) ?_)
  refine Or.inl (And.intro (by omega) ?_)
  refine And.intro (by omega) ?_
  refine And.intro (by omega) ?_
  refine And.intro (by omega) ?_
  refine And.intro (by omega) ?_
  refine And.intro (fun h8 => ?_) (fun h8 => ?_)
  · refine And.intro ?_ trivial
    show 0 = mulI G C P z x y
    unfold mulI; rw [if_neg (by omega), if_pos h8]
  have e1 := h.grp.ent (x := ((x - zI z) / C % G.length).toNat) (y := ((P.getD ((x - zI z) % C).toNat []).getD ((y - zI z) / C / G.length).toNat 0).toNat) (by omega) (by omega)
  have e1' : ((G.getD ((x - zI z) / C % G.length).toNat []).getD ((P.getD ((x - zI z) % C).toNat []).getD ((y - zI z) / C / G.length).toNat 0).toNat 0).toNat < G.length := by rw [e1.1]; simpa using e1.2
  have g2 := h.grp.len (x := ((G.getD ((x - zI z) / C % G.length).toNat []).getD ((P.getD ((x - zI z) % C).toNat []).getD ((y - zI z) / C / G.length).toNat 0).toNat 0).toNat) e1'
  have e2 := h.grp.ent (x := ((G.getD ((x - zI z) / C % G.length).toNat []).getD ((P.getD ((x - zI z) % C).toNat []).getD ((y - zI z) / C / G.length).toNat 0).toNat 0).toNat) (y := ((y - zI z) / C % G.length).toNat) e1' (by omega)
  refine Or.inl <| Exists.intro [false, false, false, false, false, false, false, false, false, false, false, false, false, false, false, false, false, false, false, false, false, false, false, false, false, false] (And.intro (by decide +kernel) ?_)
  refine And.intro (by omega) ?_
  refine Or.inl (And.intro (by omega) ?_)
  refine And.intro (by omega) ?_
  refine And.intro (by omega) ?_
  refine And.intro (by omega) ?_
  refine And.intro (by omega) ?_
  refine Or.inl (And.intro (by omega) ?_)
  refine And.intro (by omega) ?_
  refine Or.inl <| Exists.intro [false, false, false, false, false, false, false, false, false, false, false, false, false, false] (And.intro (by decide +kernel) ?_)
  refine And.intro (by omega) ?_
  refine And.intro (by omega) ?_
  refine Or.inl (And.intro (by omega) ?_)
  refine cq (rnum_fn G R C P z h _ _ _) (And.intro (by repeat' first | refine And.intro ?_ ?_ | exact True.intro | (show (_ : Int) = (_ : Int); omega) | omega | exact rfl | (simp only [RO.len]; omega)) (And.intro rfl (And.intro rfl (And.intro rfl trivial)))) ?_
  refine And.intro ?_ trivial
  show (if _ then numI G.length C z _ _ _ else -1) = mulI G C P z x y
  rw [if_pos ⟨⟨c1.1, c1.2.1⟩, (by rw [e2.1]; omega), ⟨c2.2.2.2.2.1, c2.2.2.2.2.2⟩⟩]
  unfold mulI; rw [if_neg (by omega), if_neg (by omega)]
end Go.Proofs.Ytpanlghofeebhaa
end
section
/- The members of a set; regular matrices, by the reference. -/
namespace Go.Proofs.Ytpanlghofeebhaa
open Go Go.AM
set_option maxRecDepth 100000
def memTo (l : List Bool) (k : Nat) : List Int := ((List.range k).filter fun i => l.getD i false).map fun i : Nat => (i : Int)
def memV (l : List Bool) : List Int := memTo l l.length
theorem memTo_len {l : List Bool} {k : Nat} : (memTo l k).length ≤ k := by
  unfold memTo; rw [List.length_map]
  exact Nat.le_trans (List.length_filter_le _ _) (by simp)
end Go.Proofs.Ytpanlghofeebhaa
end
section
/- Ideals of a table: plain. -/
namespace Go.Proofs.Ytpanlghofeebhaa
open Go Go.AM
open Classical
def setI (l : List Int) (x : Nat) : Bool := l.contains (x : Int)
theorem setI_iff {l : List Int} {x : Nat} : setI l x = true ↔ (x : Int) ∈ l := List.contains_iff_mem
theorem memV_mem {l : List Bool} {x : Int} : x ∈ memV l ↔ ∃ i : Nat, i < l.length ∧ l.getD i false = true ∧ x = (i : Int) := by
  unfold memV memTo
  simp only [List.mem_map, List.mem_filter, List.mem_range]
  constructor
  · rintro ⟨i, ⟨h1, h2⟩, rfl⟩; exact ⟨i, h1, h2, rfl⟩
  · rintro ⟨i, h1, h2, rfl⟩; exact ⟨i, ⟨h1, h2⟩, rfl⟩
def ascV (n : Nat) (f : Nat → Bool) : List Int := memV (setB n f)
theorem ascV_mem {n : Nat} {f : Nat → Bool} {x : Int} : x ∈ ascV n f ↔ ∃ i : Nat, i < n ∧ f i = true ∧ x = (i : Int) := by
  unfold ascV
  rw [memV_mem, setB_len]
  constructor
  · rintro ⟨i, h1, h2, h3⟩; rw [setB_get h1] at h2; exact ⟨i, h1, h2, h3⟩
  · rintro ⟨i, h1, h2, h3⟩; exact ⟨i, h1, by rw [setB_get h1]; exact h2, h3⟩
theorem ascV_len (n : Nat) (f : Nat → Bool) : (ascV n f).length ≤ n := by
  have h := memTo_len (l := setB n f) (k := (setB n f).length)
  rw [setB_len] at h
  unfold ascV memV
  rw [setB_len]; exact h
def inT (t : List (List Int)) (l : List Int) : Prop := ∀ x ∈ l, 0 ≤ x ∧ x < (t.length : Int)
instance (t : List (List Int)) (l : List Int) : Decidable (inT t l) := by unfold inT; infer_instance
def Asc (l : List Int) : Prop := ∀ i, i + 1 < l.length → l.getD i 0 < l.getD (i + 1) 0
theorem swap2 {t : List (List Int)} (h : Semi t) {x y z : Nat} (hx : x < t.length) (h1 : inLB t x y = true) (h2 : inRB t y z = true) : ∃ w, w < t.length ∧ inRB t x w = true ∧ inLB t w z = true := by
  have hy := inL_lt h.toSh hx h1
  rcases (inRB_iff h.toSh hy).1 h2 with rfl | ⟨s, hs, rfl⟩
  · exact ⟨x, hx, (inRB_iff h.toSh hx).2 (.inl rfl), h1⟩
  · rcases (inLB_iff h.toSh hx).1 h1 with rfl | ⟨r, hr, rfl⟩
    · exact ⟨en t y s, (h.toSh.ent hy hs).2, (inRB_iff h.toSh hy).2 (.inr ⟨s, hs, rfl⟩), (inLB_iff h.toSh (h.toSh.ent hy hs).2).2 (.inl rfl)⟩
    · have hw := (h.toSh.ent hx hs).2
      exact ⟨en t x s, hw, (inRB_iff h.toSh hx).2 (.inr ⟨s, hs, rfl⟩), (inLB_iff h.toSh hw).2 (.inr ⟨r, hr, (assoc3 h.assoc hr hx hs).symm⟩)⟩
end Go.Proofs.Ytpanlghofeebhaa
end
section
/- Orders by a comparison; sorted lists; the lexicographic order and the order by size. Plain. -/
namespace Go.Proofs.Ytpanlghofeebhaa
open Go Go.AM
structure TotC {α : Type} (c : α → α → Int) : Prop where
  swap : ∀ a b, c b a = - c a b
  eq : ∀ a b, c a b = 0 → a = b
  trans : ∀ a b d, c a b < 0 → c b d < 0 → c a d < 0
theorem TotC.self {α : Type} {c : α → α → Int} (h : TotC c) (a : α) : c a a = 0 := by have := h.swap a a; omega
def cmpI (a b : Int) : Int := if a < b then -1 else if b < a then 1 else 0
theorem cmpI_tot : TotC cmpI where
  swap a b := by unfold cmpI; split <;> split <;> (try split) <;> omega
  eq a b := by unfold cmpI; split <;> (try split) <;> omega
  trans a b d := by unfold cmpI; intro h1 h2; split at h1 <;> (try split at h1) <;> split at h2 <;> (try split at h2) <;> first | omega | (rw [if_pos (by omega)]; omega)
def Srt {α : Type} (c : α → α → Int) (l : List α) : Prop := l.Pairwise fun a b => c a b < 0
section
variable {α : Type} {c : α → α → Int}
theorem Srt.nodup (h : TotC c) {l : List α} (hs : Srt c l) : l.Nodup := hs.imp fun {a b} hab e => by subst e; have := h.self a; omega
theorem perm_sorted (h : TotC c) : ∀ {l m : List α}, l.Pairwise (fun a b => c a b ≤ 0) → m.Pairwise (fun a b => c a b ≤ 0) → l.Perm m → l = m
  | [], m, _, _, hp => by rw [List.nil_perm.1 hp]
  | a :: l, [], _, _, hp => by have := hp.length_eq; simp at this
  | a :: l, b :: m, h1, h2, hp => by
    have h1' := List.pairwise_cons.1 h1
    have h2' := List.pairwise_cons.1 h2
    have e : a = b := by
      have ha : a ∈ b :: m := hp.mem_iff.1 (by simp)
      have hb : b ∈ a :: l := hp.mem_iff.2 (by simp)
      rcases List.mem_cons.1 ha with e | ha
      · exact e
      · rcases List.mem_cons.1 hb with e | hb
        · exact e.symm
        · have g1 := h2'.1 a ha
          have g2 := h1'.1 b hb
          have := h.swap a b
          exact h.eq _ _ (by omega)
    subst e
    rw [perm_sorted h h1'.2 h2'.2 hp.cons_inv]
theorem sorted_uniq (h : TotC c) {l m : List α} (hl : Srt c l) (hm : Srt c m) (he : ∀ x, x ∈ l ↔ x ∈ m) : l = m :=
  perm_sorted h (hl.imp fun h => by omega) (hm.imp fun h => by omega) ((List.perm_ext_iff_of_nodup (hl.nodup h) (hm.nodup h)).2 he)
end
end Go.Proofs.Ytpanlghofeebhaa
end
