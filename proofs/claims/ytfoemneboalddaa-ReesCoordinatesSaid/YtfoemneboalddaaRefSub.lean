/- The reference's Sub of a closed ascending part, and the numbers of the classes that a list meets: contracts. -/
import Derived.Test.YtfoemneboalddaaCooW
import Derived.Test.YtfoemneboalddaaRefReg
import Derived.Test.YtfoemneboalddaaRefIdeal
namespace Go.Proofs.Ytfoemneboalddaa
open Go Go.AM
set_option maxRecDepth 100000
set_option maxHeartbeats 1000000
def ofB (p l : List Int) (c : Nat) : Bool := l.any fun x => decide (p.getD x.toNat 0 = (c : Int))
theorem ofB_snoc {p l : List Int} {i : Nat} (hi : i < l.length) (c : Nat) : ofB p (l.take (i + 1)) c = (ofB p (l.take i) c || decide (p.getD (l.getD i 0).toNat 0 = (c : Int))) := by
  unfold ofB; rw [take_snoc (d := 0) hi, List.any_append]; simp
theorem rof_k (p l : List Int) (hv : validP p) (hcn : canon p = p) (hn : classN p ≤ 400) (hl : ∀ x ∈ l, 0 ≤ x ∧ x < (p.length : Int)) (hll : l.length ≤ 400) : fnK TY SP Try.f51 [.ro (.ints .i64 p), .ro (.ints .i64 l)] (.new (.ints .i64 (ascV (classN p) (ofB p l)))) := by
  refine Or.inl (cq (rcount_fn p hv) (And.intro rfl trivial) ?_)
  refine And.intro (by omega) ?_
  refine And.intro (by omega) ?_
  refine Exists.intro [] <| lp2 (fun (i : Nat) (_ : List Bool) => [(13, .int .i64 i)]) (fun _ B => [(10, .vec 0 (.bools B) [])]) (fun i B => i ≤ l.length ∧ B.length = classN p ∧ ∀ c, c < classN p → B.getD c false = ofB p (l.take i) c) (fun i _ => l.length - i) 0 (List.replicate (classN p) false) ⟨Nat.zero_le _, by simp, fun c hc => by simp [ofB, List.getD, hc]⟩ (by repeat' first | refine And.intro ?_ ?_ | exact True.intro | (show (_ : Int) = (_ : Int); omega) | omega | exact rfl | (simp only [RO.len]; omega)) ?_
  rintro i B ⟨hi, hB, hBc⟩
  refine And.intro (fun h1 => ?_) (fun h1 => ?_)
  · have h1 : (i : Int) < (l.length : Int) := h1
    have hil : i < l.length := by omega
    have hm := hl _ (getD_mem (d := 0) hil)
    have hc := (valid_range hcn (p.getD (l.getD i 0).toNat 0)).2 (getD_mem (by omega))
    refine And.intro (by omega) ?_
    refine And.intro (by simp only [Int.toNat_natCast]; omega) ?_
    refine And.intro (by simp only [Int.toNat_natCast]; omega) ?_
    refine And.intro (by simp only [Int.toNat_natCast]; omega) ?_
    refine And.intro (by omega) ?_
    refine nx (i + 1, B.set (p.getD (l.getD i 0).toNat 0).toNat true) ⟨by omega, by rw [List.length_set]; exact hB, fun c hcc => ?_⟩ (show l.length - (i + 1) < l.length - i by omega) (by repeat' first | refine And.intro ?_ ?_ | exact True.intro | (show (_ : Int) = (_ : Int); omega) | omega | exact rfl | (simp only [RO.len]; omega))
    rw [ofB_snoc hil]
    by_cases e : c = (p.getD (l.getD i 0).toNat 0).toNat
    · rw [e, getD_set_eq (by omega), decide_eq_true (by omega), Bool.or_true]
    · rw [getD_set_ne (Ne.symm e), hBc c hcc, decide_eq_false (by omega), Bool.or_false]
  · have h1 : (l.length : Int) ≤ (i : Int) := h1
    have e : B = setB (classN p) (ofB p l) := setB_of hB fun c hc => by rw [hBc c hc, List.take_of_length_le (by omega)]
    subst e
    refine Or.inl (cq (members_fn _ (by rw [setB_len]; omega)) (And.intro rfl trivial) ?_)
    exact And.intro (by repeat' first | refine And.intro ?_ ?_ | exact True.intro | (show (_ : Int) = (_ : Int); omega) | omega | exact rfl | (simp only [RO.len]; omega)) trivial
theorem rof_fn (p l : List Int) (hv : validP p) (hcn : canon p = p) (hn : classN p ≤ 400) (hl : ∀ x ∈ l, 0 ≤ x ∧ x < (p.length : Int)) (hll : l.length ≤ 400) : QF 51 [.ro (.ints .i64 p), .ro (.ints .i64 l)] (.new (.ints .i64 (ascV (classN p) (ofB p l)))) := mkQ Try.func51 (by decide +kernel) rfl (Nat.le_of_ble_eq_true rfl) fun _ => rof_k p l hv hcn hn hl hll

theorem rsub_k (t : List (List Int)) (h : Semi t) (l : List Int) (hl : ClL t l) (hln : l.length ≤ t.length) : fnK TY SP Try.f31 [.ro (.rows .i64 t), .ro (.ints .i64 l)] (.tup [.ro (.rows .i64 (subT t l)), .int .i64 0]) := by
  have hmost := h.most
  have hpos := hl.pos
  have hst := subT_len t l
  refine Or.inl (cq (rvalidate_fn t) (And.intro rfl trivial) ?_)
  refine And.intro (fun h1 => absurd (valid_zero.2 h) h1) (fun _ => ?_)
  refine Or.inl (cq (rasc_fn t l) (And.intro rfl (And.intro rfl trivial)) ?_)
  have hasc : ascB t l = true := ascB_true.2 ⟨hl.pos, hl.asc, hl.ins⟩
  refine And.intro (fun h1 => ?_) (fun _ => ?_)
  · rw [hasc] at h1; cases h1
  refine And.intro (by omega) ?_
  refine And.intro (by omega) ?_
  refine Exists.intro [] <| lp2 (fun (k : Nat) (_ : List Int) => [(31, .int .i64 k)]) (fun _ P => [(28, .vec 0 (.ints .i64 P) [])]) (fun k P => k ≤ t.length ∧ P.length = t.length ∧ ∀ y, y < k → P.getD y 0 = -1) (fun k _ => t.length - k) 0 (List.replicate t.length 0) ⟨Nat.zero_le _, by simp, by omega⟩ (by repeat' first | refine And.intro ?_ ?_ | exact True.intro | (show (_ : Int) = (_ : Int); omega) | omega | exact rfl | (simp; omega)) ?_
  rintro k P ⟨hk, hP, hPy⟩
  refine And.intro (fun h1 => ?_) (fun h1 => ?_)
  · have h1 : (k : Int) < ((List.replicate ((t.length : Nat) : Int).toNat (0 : Int)).length : Int) := h1
    rw [List.length_replicate, Int.toNat_natCast] at h1
    have hkl : k < t.length := by omega
    refine And.intro (by omega) ?_
    refine And.intro (by omega) ?_
    refine And.intro (by omega) ?_
    refine nx (k + 1, P.set k (-1)) ⟨by omega, by rw [List.length_set]; exact hP, fun y hy => ?_⟩ (show t.length - (k + 1) < t.length - k by omega) (by repeat' first | refine And.intro ?_ ?_ | exact True.intro | (show (_ : Int) = (_ : Int); omega) | omega | exact rfl | (simp only [RO.len]; omega))
    by_cases e : y = k
    · subst e; rw [getD_set_eq (by omega)]
    · rw [getD_set_ne (Ne.symm e)]; exact hPy y (by omega)
  have h1 : ((List.replicate ((t.length : Nat) : Int).toNat (0 : Int)).length : Int) ≤ (k : Int) := h1
  rw [List.length_replicate, Int.toNat_natCast] at h1
  refine Exists.intro [] <| lp2 (fun (k : Nat) (_ : List Int) => [(40, .int .i64 k)]) (fun _ P => [(28, .vec 0 (.ints .i64 P) [])]) (fun k P => k ≤ l.length ∧ P.length = t.length ∧ ∀ y, y < t.length → P.getD y 0 = posTo l k y) (fun k _ => l.length - k) 0 P ⟨Nat.zero_le _, hP, fun y hy => hPy y (by omega)⟩ (by repeat' first | refine And.intro ?_ ?_ | exact True.intro | (show (_ : Int) = (_ : Int); omega) | omega | exact rfl | (simp only [RO.len]; omega)) ?_
  rintro k P ⟨hk, hP, hPy⟩
  refine And.intro (fun h2 => ?_) (fun h2 => ?_)
  · have h2 : (k : Int) < (l.length : Int) := h2
    have hkl : k < l.length := by omega
    have hr : 0 ≤ l.getD k 0 ∧ l.getD k 0 < (t.length : Int) := hl.ins _ (getD_mem (d := 0) hkl)
    have nxt : ∀ y, y < t.length → (P.set (l.getD k 0).toNat (k : Int)).getD y 0 = posTo l (k + 1) y := fun y hy => by
      simp only [posTo]
      by_cases e : y = (l.getD k 0).toNat
      · rw [if_pos (by omega), e, getD_set_eq (by omega)]
      · rw [if_neg (by omega), getD_set_ne (Ne.symm e), hPy y hy]
    refine And.intro (by omega) ?_
    refine And.intro (by simp only [Int.toNat_natCast]; omega) ?_
    refine And.intro (by simp only [Int.toNat_natCast]; omega) ?_
    refine And.intro (by omega) ?_
    exact nx (k + 1, P.set (l.getD k 0).toNat (k : Int)) ⟨by omega, by rw [List.length_set]; exact hP, nxt⟩ (show l.length - (k + 1) < l.length - k by omega) (by repeat' first | refine And.intro ?_ ?_ | exact True.intro | (show (_ : Int) = (_ : Int); omega) | omega | exact rfl | (simp only [RO.len]; omega))
  have h2 : (l.length : Int) ≤ (k : Int) := h2
  have hkl : k = l.length := by omega
  refine Exists.intro [] <| lp2 (fun (i : Nat) (_ : Nat) => [(52, .int .i64 i), (11, .vec 90)]) (fun i _ => [(90, .vec 0 (.rows .i64 ((subT t l).take i)) [])]) (fun i _ => i ≤ l.length) (fun i _ => l.length - i) 0 0 (Nat.zero_le _) (by repeat' first | refine And.intro ?_ ?_ | exact True.intro | (show (_ : Int) = (_ : Int); omega) | omega | exact rfl | (simp only [RO.len]; omega)) ?_
  rintro i _ hi
  have htl : ((subT t l).take i).length = i := by rw [List.length_take, hst]; omega
  refine And.intro (fun h5 => ?_) (fun h5 => ?_)
  · have h5 : (i : Int) < (l.length : Int) := h5
    have hil : i < l.length := by omega
    have ei := hl.el hil
    have hrow := subT_row (t := t) hil
    have hrl : ((subT t l).getD i []).length = l.length := by rw [hrow]; simp
    refine And.intro (by omega) ?_
    refine Exists.intro [] <| lp2 (fun (j : Nat) (_ : Nat) => [(58, .int .i64 j), (14, .vec 85)]) (fun j _ => [(85, .vec 0 (.ints .i64 (((subT t l).getD i []).take j)) [])]) (fun j _ => j ≤ l.length) (fun j _ => l.length - j) 0 0 (Nat.zero_le _) (by repeat' first | refine And.intro ?_ ?_ | exact True.intro | (show (_ : Int) = (_ : Int); omega) | omega | exact rfl | (simp only [RO.len]; omega)) ?_
    rintro j _ hj
    have hjl' : (((subT t l).getD i []).take j).length = j := by rw [List.length_take, hrl]; omega
    refine And.intro (fun h6 => ?_) (fun h6 => ?_)
    · have h6 : (j : Int) < (l.length : Int) := h6
      have hjl : j < l.length := by omega
      have ej := hl.el hjl
      have he := h.toSh.ent ei.1 ej.1
      have hrw := h.toSh.len ei.1
      have hgi : (l.getD ((i : Nat) : Int).toNat 0).toNat = eL l i := by rw [Int.toNat_natCast]; rfl
      have hgj : (l.getD ((j : Nat) : Int).toNat 0).toNat = eL l j := by rw [Int.toNat_natCast]; rfl
      have hv : P.getD ((t.getD (l.getD ((i : Nat) : Int).toNat 0).toNat []).getD (l.getD ((j : Nat) : Int).toNat 0).toNat 0).toNat 0 = subV t l i j := by
        rw [hgi, hgj, he.1, Int.toNat_natCast, hPy _ he.2, hkl]; rfl
      have hp := pL_in (sub_in hl hil hjl)
      have hvp : 0 ≤ subV t l i j := by show 0 ≤ posTo l l.length _; omega
      have e1 : ((subT t l).getD i []).take (j + 1) = ((subT t l).getD i []).take j ++ [P.getD ((t.getD (l.getD ((i : Nat) : Int).toNat 0).toNat []).getD (l.getD ((j : Nat) : Int).toNat 0).toNat 0).toNat 0] := by
        rw [take_snoc (d := 0) (by omega), hv, hrow, map_range_getD _ _ _ _ hjl]
      refine And.intro (by omega) ?_
      refine And.intro (by simp only [Int.toNat_natCast]; omega) ?_
      refine And.intro (by rw [hgi]; simp only [Int.toNat_natCast]; omega) ?_
      refine And.intro (by rw [hgi, hgj, he.1]; omega) ?_
      refine And.intro (fun h7 => ?_) (fun h7 => ?_)
      · exfalso
        have h7 : P.getD ((t.getD (l.getD ((i : Nat) : Int).toNat 0).toNat []).getD (l.getD ((j : Nat) : Int).toNat 0).toNat 0).toNat 0 < 0 := h7
        rw [hv] at h7; omega
      refine And.intro (by simp only [Int.toNat_natCast]; omega) ?_
      refine And.intro (by rw [hgi]; simp only [Int.toNat_natCast]; omega) ?_
      refine And.intro (by rw [hgi, hgj, he.1]; omega) ?_
      refine And.intro (by simp only [List.length_append, List.length_cons, List.length_nil, hjl']; omega) ?_
      refine And.intro (by omega) ?_
      refine nx (j + 1, 0) (show j + 1 ≤ l.length by omega) (show l.length - (j + 1) < l.length - j by omega) ?_
      repeat' first | refine And.intro ?_ ?_ | exact True.intro | exact congrArg (RO.ints .i64) e1.symm | (show (_ : Int) = (_ : Int); omega) | omega | exact rfl
    · have h6 : (l.length : Int) ≤ (j : Int) := h6
      have er : ((subT t l).getD i []).take j = (subT t l).getD i [] := List.take_of_length_le (by omega)
      have e1 : (subT t l).take (i + 1) = (subT t l).take i ++ [((subT t l).getD i []).take j] := by rw [er]; exact take_snoc (d := []) (by omega)
      refine And.intro (by simp only [List.length_append, List.length_cons, List.length_nil, htl]; omega) ?_
      refine And.intro (by omega) ?_
      refine nx (i + 1, 0) (show i + 1 ≤ l.length by omega) (show l.length - (i + 1) < l.length - i by omega) ?_
      repeat' first | refine And.intro ?_ ?_ | exact True.intro | exact congrArg (RO.rows .i64) e1.symm | (show (_ : Int) = (_ : Int); omega) | omega | exact rfl
  · have h5 : (l.length : Int) ≤ (i : Int) := h5
    have e : (subT t l).take i = subT t l := List.take_of_length_le (by omega)
    rw [e]
    exact ⟨⟨trivial, rfl⟩, rfl, trivial⟩
theorem rsub_fn (t : List (List Int)) (h : Semi t) (l : List Int) (hl : ClL t l) (hln : l.length ≤ t.length) : QF 31 [.ro (.rows .i64 t), .ro (.ints .i64 l)] (.tup [.ro (.rows .i64 (subT t l)), .int .i64 0]) := mkQ Try.func31 (by decide +kernel) rfl (Nat.le_of_ble_eq_true rfl) fun _ => rsub_k t h l hl hln
end Go.Proofs.Ytfoemneboalddaa
