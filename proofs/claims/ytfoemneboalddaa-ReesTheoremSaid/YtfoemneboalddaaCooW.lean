/- rees.numbers, least and the search for an idempotent: contracts. -/
import Derived.Test.YtfoemneboalddaaSortI
import Derived.Test.YtfoemneboalddaaRefClass
import Derived.Test.YtfoemneboalddaaNumLaw2
namespace Go.Proofs.Ytfoemneboalddaa
open Go Go.AM
set_option maxRecDepth 100000
set_option maxHeartbeats 1000000
abbrev lstS (p q : List Int) (c d : Int) : Store := [(1000, .box [.ro (.ints .i64 p)]), (1001, .box [.int .i64 c]), (1002, .box [.ro (.ints .i64 q)]), (1003, .box [.int .i64 d])]
theorem leastC_k (p q : List Int) (c d x : Int) (hx : 0 ≤ x) (hxp : x < p.length) (hxq : x < q.length) :
    fnMK TY SP Try.f69 [.int .i64 x, .ptr 1000 0, .ptr 1001 0, .ptr 1002 0, .ptr 1003 0] (lstS p q c d) (.bool (.v (lstB p q c d x))) (lstS p q c d) := by
  refine Or.inl <| Exists.intro [false, false, false, false, false, false, false, false, false, false, false, false, false, false, false] (And.intro (by decide +kernel) ?_)
  refine And.intro (by omega) ?_
  refine And.intro (fun h1 => ?_) (fun h1 => ?_)
  · have h1 : p.getD x.toNat 0 = c := h1
    refine And.intro (by omega) ?_
    refine And.intro (by repeat' first | refine And.intro ?_ ?_ | exact True.intro | (show (_ : Int) = (_ : Int); omega) | omega | exact rfl | (simp only [RO.len]; omega)) ?_
    show decide (q.getD x.toNat 0 = d) = lstB p q c d x
    unfold lstB; rw [decide_eq_true h1, Bool.true_and]
  · have h1 : p.getD x.toNat 0 ≠ c := h1
    refine And.intro (by repeat' first | refine And.intro ?_ ?_ | exact True.intro | (show (_ : Int) = (_ : Int); omega) | omega | exact rfl | (simp only [RO.len]; omega)) ?_
    show false = lstB p q c d x
    unfold lstB; rw [decide_eq_false h1, Bool.false_and]
theorem leastC_fn (p q : List Int) (c d x : Int) (hx : 0 ≤ x) (hxp : x < p.length) (hxq : x < q.length) : MF 69 [.int .i64 x, .ptr 1000 0, .ptr 1001 0, .ptr 1002 0, .ptr 1003 0] (lstS p q c d) (.bool (.v (lstB p q c d x))) (lstS p q c d) :=
  mkM Try.func69 (by decide +kernel) rfl (Nat.le_of_ble_eq_true rfl) fun _ => leastC_k p q c d x hx hxp hxq
theorem idxLeast_k (p q l : List Int) (c d : Int) (hl : ∀ x ∈ l, 0 ≤ x ∧ x < (p.length : Int) ∧ x < (q.length : Int)) (hll : l.length ≤ 400) (i : Nat) (hi : i < l.length) (hi0 : ∀ k, k < i → lstB p q c d (l.getD k 0) = false) (hi1 : lstB p q c d (l.getD i 0) = true) :
    fnMK TY SP Try.f24 [.ro (.ints .i64 l), .fn 69 [.ptr 1000 0, .ptr 1001 0, .ptr 1002 0, .ptr 1003 0]] (lstS p q c d) (.int .i64 i) (lstS p q c d) := by
  refine Exists.intro [] <| lp (X := Nat) (fun y => [(8, .int .i64 y)]) (fun _ => []) (fun y => y ≤ i) (fun y => i - y) 0 (Nat.zero_le _) (by repeat' first | refine And.intro ?_ ?_ | exact True.intro | (show (_ : Int) = (_ : Int); omega) | omega | exact rfl | (simp only [RO.len]; omega)) ?_
  intro y hy
  refine And.intro (fun h1 => ?_) (fun h1 => ?_)
  · have hyl : y < l.length := by omega
    have hm := hl _ (getD_mem (d := 0) hyl)
    refine And.intro (by omega) ?_
    refine Or.inr (cm [] [(1000, 1000), (1001, 1001), (1002, 1002), (1003, 1003)] (leastC_fn p q c d (l.getD y 0) hm.1 hm.2.1 hm.2.2) ?_)
    refine And.intro (by repeat' first | refine And.intro ?_ ?_ | exact True.intro | (show (_ : Int) = (_ : Int); omega) | omega | exact rfl | (simp only [RO.len]; omega)) ?_
    refine And.intro (fun h2 => ?_) (fun h2 => ?_)
    · have h2 : lstB p q c d (l.getD y 0) = true := h2
      have e : y = i := by
        rcases Nat.lt_or_ge y i with h | h
        · rw [hi0 y h] at h2; cases h2
        · omega
      subst e
      exact And.intro (by repeat' first | refine And.intro ?_ ?_ | exact True.intro | (show (_ : Int) = (_ : Int); omega) | omega | exact rfl | (simp only [RO.len]; omega)) (by repeat' first | refine And.intro ?_ ?_ | exact True.intro | (show (_ : Int) = (_ : Int); omega) | omega | exact rfl | (simp only [RO.len]; omega))
    · have h2 : lstB p q c d (l.getD y 0) = false := h2
      have e : y ≠ i := fun e => by rw [e, hi1] at h2; cases h2
      refine And.intro (by omega) ?_
      exact nx (y + 1) (show y + 1 ≤ i by omega) (show i - (y + 1) < i - y by omega) (by repeat' first | refine And.intro ?_ ?_ | exact True.intro | (show (_ : Int) = (_ : Int); omega) | omega | exact rfl | (simp only [RO.len]; omega))
  · exfalso
    have h1 : (l.length : Int) ≤ (y : Int) := h1
    omega
theorem idxLeast_fn (p q l : List Int) (c d : Int) (hl : ∀ x ∈ l, 0 ≤ x ∧ x < (p.length : Int) ∧ x < (q.length : Int)) (hll : l.length ≤ 400) (i : Nat) (hi : i < l.length) (hi0 : ∀ k, k < i → lstB p q c d (l.getD k 0) = false) (hi1 : lstB p q c d (l.getD i 0) = true) :
    MF 24 [.ro (.ints .i64 l), .fn 69 [.ptr 1000 0, .ptr 1001 0, .ptr 1002 0, .ptr 1003 0]] (lstS p q c d) (.int .i64 i) (lstS p q c d) :=
  mkM Try.func24 (by decide +kernel) rfl (Nat.le_of_ble_eq_true rfl) fun _ => idxLeast_k p q l c d hl hll i hi hi0 hi1
theorem least_k (p q l : List Int) (c d : Int) (hl : ∀ x ∈ l, 0 ≤ x ∧ x < (p.length : Int) ∧ x < (q.length : Int)) (hll : l.length ≤ 400) (i : Nat) (hi : i < l.length) (hi0 : ∀ k, k < i → lstB p q c d (l.getD k 0) = false) (hi1 : lstB p q c d (l.getD i 0) = true) :
    fnK TY SP Try.f46 [.ro (.ints .i64 l), .ro (.ints .i64 p), .int .i64 c, .ro (.ints .i64 q), .int .i64 d] (.int .i64 (l.getD i 0)) := by
  refine Or.inr (Or.inl (cm [] [(1000, 6), (1001, 7), (1002, 8), (1003, 9)] (idxLeast_fn p q l c d hl hll i hi hi0 hi1) ?_))
  refine And.intro (by repeat' first | refine And.intro ?_ ?_ | exact True.intro | (show (_ : Int) = (_ : Int); omega) | omega | exact rfl | (simp only [RO.len]; omega)) ?_
  refine And.intro (by omega) ?_
  exact And.intro (by repeat' first | refine And.intro ?_ ?_ | exact True.intro | (show (_ : Int) = (_ : Int); omega) | omega | exact rfl | (simp only [RO.len]; omega)) trivial
theorem least_fn (p q l : List Int) (c d : Int) (hl : ∀ x ∈ l, 0 ≤ x ∧ x < (p.length : Int) ∧ x < (q.length : Int)) (hll : l.length ≤ 400) (i : Nat) (hi : i < l.length) (hi0 : ∀ k, k < i → lstB p q c d (l.getD k 0) = false) (hi1 : lstB p q c d (l.getD i 0) = true) :
    QF 46 [.ro (.ints .i64 l), .ro (.ints .i64 p), .int .i64 c, .ro (.ints .i64 q), .int .i64 d] (.int .i64 (l.getD i 0)) :=
  mkQ Try.func46 (by decide +kernel) rfl (Nat.le_of_ble_eq_true rfl) fun _ => least_k p q l c d hl hll i hi hi0 hi1

theorem numL_snoc {p l : List Int} {i : Nat} (hi : i < l.length) : (numL p l).take (i + 1) = (numL p l).take i ++ [p.getD (l.getD i 0).toNat 0] := by
  rw [take_snoc (d := 0) (by rw [numL_len]; exact hi)]
  congr 2
  unfold numL
  rw [getD_eq (by rw [List.length_map]; exact hi), List.getElem_map, getD_eq (d := 0) hi]
theorem numbers_k (p l : List Int) (hl : 0 < l.length) (hll : l.length ≤ 400) (hp : ∀ x ∈ l, 0 ≤ x ∧ x < (p.length : Int)) : fnK TY SP Try.f45 [.ro (.ints .i64 p), .ro (.ints .i64 l)] (.new (.ints .i64 (cpI (srtI (numL p l))))) := by
  have hnl := numL_len p l
  refine Exists.intro [] <| lp2 (fun (i : Nat) (_ : Nat) => [(10, .int .i64 i), (5, .vec 20)]) (fun i _ => [(20, .vec 0 (.ints .i64 ((numL p l).take i)) [])]) (fun i _ => i ≤ l.length) (fun i _ => l.length - i) 0 0 (Nat.zero_le _) (by repeat' first | refine And.intro ?_ ?_ | exact True.intro | (show (_ : Int) = (_ : Int); omega) | omega | exact rfl | (simp only [RO.len]; omega)) ?_
  rintro i _ hi
  have hil : ((numL p l).take i).length = i := by rw [List.length_take, hnl]; omega
  refine And.intro (fun h1 => ?_) (fun h1 => ?_)
  · have hk : i < l.length := by omega
    have hm := hp _ (getD_mem (d := 0) hk)
    refine And.intro (by omega) ?_
    refine And.intro (show 0 ≤ l.getD i 0 ∧ l.getD i 0 < (p.length : Int) by omega) ?_
    refine And.intro (by rw [List.length_append, hil]; simp; omega) ?_
    refine And.intro (by omega) ?_
    refine nx (i + 1, 0) (show i + 1 ≤ l.length by omega) (show l.length - (i + 1) < l.length - i by omega) ?_
    have e := numL_snoc (p := p) hk
    repeat' first | refine And.intro ?_ ?_ | exact True.intro | exact congrArg (RO.ints .i64) e.symm | (show (_ : Int) = (_ : Int); omega) | omega | exact rfl
  · have h1 : (l.length : Int) ≤ (i : Int) := h1
    have hii : (numL p l).take i = numL p l := List.take_of_length_le (by omega)
    rw [hii]
    refine Or.inr (Or.inl (cm [] [(1000, 20)] (sortI_m (numL p l) (by omega)) ?_))
    refine And.intro (by repeat' first | refine And.intro ?_ ?_ | exact True.intro | (show (_ : Int) = (_ : Int); omega) | omega | exact rfl | (simp only [RO.len]; omega)) ?_
    refine Or.inr (Or.inl (cm [] [(1, 20)] (compactI_m (srtI (numL p l)) (by rw [srtI_len]; omega)) ?_))
    refine And.intro (by repeat' first | refine And.intro ?_ ?_ | exact True.intro | (show (_ : Int) = (_ : Int); omega) | omega | exact rfl | (simp only [RO.len]; omega)) ?_
    exact And.intro (by repeat' first | refine And.intro ?_ ?_ | exact True.intro | (show (_ : Int) = (_ : Int); omega) | omega | exact rfl | (simp only [RO.len]; omega)) (by repeat' first | refine And.intro ?_ ?_ | exact True.intro | (show (_ : Int) = (_ : Int); omega) | omega | exact rfl | (simp only [RO.len]; omega))
theorem numbers_fn (p l : List Int) (hl : 0 < l.length) (hll : l.length ≤ 400) (hp : ∀ x ∈ l, 0 ≤ x ∧ x < (p.length : Int)) : QF 45 [.ro (.ints .i64 p), .ro (.ints .i64 l)] (.new (.ints .i64 (cpI (srtI (numL p l))))) :=
  mkQ Try.func45 (by decide +kernel) rfl (Nat.le_of_ble_eq_true rfl) fun _ => numbers_k p l hl hll hp
end Go.Proofs.Ytfoemneboalddaa
