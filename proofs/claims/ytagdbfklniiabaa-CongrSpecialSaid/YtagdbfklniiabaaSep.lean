import Derived.Test.YtagdbfklniiabaaRefJnL
import Derived.Test.YtagdbfklniiabaaSdApLaw
import Derived.Test.YtagdbfklniiabaaRefCgG
import Derived.Test.YtagdbfklniiabaaIdpLaw
/- congr.Separating; the reference's Idempotents, Separates, Join, Rees, Separating: contracts. -/
namespace Go.Proofs.Ytagdbfklniiabaa
open Go Go.AM
set_option maxRecDepth 100000
theorem cSep_fn (t : List (List Int)) (hs : Semi t) : QF 10 [.ro (.rows .i64 t)] (.new (.ints .i64 (sepP t))) := mkQ Try.func10 (by decide +kernel) rfl (Nat.le_of_ble_eq_true rfl) fun _ => by
  have hmost := hs.most
  have hS := hs.toSh
  refine Or.inl (cq (valid_fn t) (And.intro rfl trivial) ?_)
  refine And.intro (fun h1 => absurd (valid_zero.2 hs) h1) (fun _ => ?_)
  refine And.intro (by omega) ?_
  refine And.intro (by omega) ?_
  refine Exists.intro [] <| lp2 (fun (x : Nat) (_ : List Int) => [(14, .int .i64 x)]) (fun _ L => [(11, .vec 0 (.ints .i64 L) [])]) (fun x L => x ≤ t.length ∧ L.length = t.length ∧ ∀ y, y < x → L.getD y 0 = (ipN t y : Int)) (fun x _ => t.length - x) 0 (List.replicate t.length 0) ⟨Nat.zero_le _, by simp, fun y h => absurd h (Nat.not_lt_zero _)⟩ (by repeat' first | refine And.intro ?_ ?_ | exact True.intro | (show (_ : Int) = (_ : Int); omega) | omega | exact rfl | (simp only [RO.len]; omega)) ?_
  rintro x L ⟨hx, hL, hLy⟩
  refine And.intro (fun h2 => ?_) (fun h2 => ?_)
  · have h2 : (x : Int) < (t.length : Int) := h2
    have hxl : x < t.length := by omega
    obtain ⟨k0, hk0, hid, _⟩ := ip_ex hs hxl
    refine Exists.intro [] <| lp (X := Nat) (fun k => [(5, .int .i64 (pwN t x k))]) (fun _ => []) (fun k => k ≤ k0) (fun k => k0 - k) 0 (Nat.zero_le _) (by repeat' first | refine And.intro ?_ ?_ | exact True.intro | (show (_ : Int) = (_ : Int); omega) | omega | exact rfl | (simp only [RO.len]; omega)) ?_
    rintro k hk
    have hpl := pwN_lt hs hxl k
    have hent := hS.ent hpl hpl
    have hrl := hS.len hpl
    refine And.intro (show 0 ≤ (pwN t x k : Int) ∧ (pwN t x k : Int) < (t.length : Int) by omega) ?_
    refine And.intro (show 0 ≤ (pwN t x k : Int) ∧ (pwN t x k : Int) < ((t.getD (pwN t x k) []).length : Int) by omega) ?_
    refine And.intro (fun h3 => ?_) (fun h3 => ?_)
    · have h3 : ¬ (t.getD (pwN t x k) []).getD (pwN t x k) 0 = (pwN t x k : Int) := h3
      rw [hent.1] at h3
      have hne : k ≠ k0 := fun e => h3 (by subst e; exact congrArg _ hid)
      have hent2 := hS.ent hpl hxl
      refine And.intro (show 0 ≤ (pwN t x k : Int) ∧ (pwN t x k : Int) < (t.length : Int) by omega) ?_
      refine And.intro (show 0 ≤ (x : Int) ∧ (x : Int) < ((t.getD (pwN t x k) []).length : Int) by omega) ?_
      exact nx (k + 1) (show k + 1 ≤ k0 by omega) (show k0 - (k + 1) < k0 - k by omega) (by repeat' first | refine And.intro ?_ ?_ | exact True.intro | exact hent2.1 | omega | exact rfl)
    · have h3 : (t.getD (pwN t x k) []).getD (pwN t x k) 0 = (pwN t x k : Int) := h3
      rw [hent.1] at h3
      have hip := ip_of hs hxl (k := k) (by unfold idmP; omega)
      refine And.intro (show 0 ≤ (x : Int) ∧ (x : Int) < (L.length : Int) by omega) ?_
      refine And.intro (by omega) ?_
      refine And.intro (by omega) ?_
      refine nx (x + 1, L.set x (pwN t x k : Int)) ⟨by omega, by rw [List.length_set]; exact hL, fun y hy => ?_⟩ (show t.length - (x + 1) < t.length - x by omega) (by repeat' first | refine And.intro ?_ ?_ | exact True.intro | (show (_ : Int) = (_ : Int); omega) | omega | exact rfl | (simp only [RO.len]; omega))
      by_cases e : y = x
      · subst e; rw [getD_set_eq (by omega), hip]
      · rw [getD_set_ne (Ne.symm e)]; exact hLy y (by omega)
  · have h2 : (t.length : Int) ≤ (x : Int) := h2
    have e : L = ipL t := ext_getD 0 (by rw [ipL_len]; exact hL) fun y hy => by rw [hLy y (by omega), ipL_get (by omega)]
    have ec : (if L.length ≤ 4096 then canon L else []) = canon (ipL t) := by rw [if_pos (by omega), e]
    have hcl : (canon (ipL t)).length = t.length := by rw [canon_length, ipL_len]
    have hcv : validP (canon (ipL t)) := ⟨by omega, canon_idem _⟩
    have hsy : synP t (canon (ipL t)) = sepP t := synP_congr hS fun a b ha hb => canon_eq_iff (by rw [ipL_len]; omega) (by rw [ipL_len]; omega)
    have hco := ccoa_fn t (canon (ipL t)) hs hcl hcv
    rw [hsy, ← ec] at hco
    refine Or.inl (cq (Canonical_fn L) (And.intro rfl trivial) ?_)
    refine Or.inl (cq hco (And.intro rfl (And.intro rfl trivial)) ?_)
    exact And.intro (And.intro (by omega) rfl) trivial
theorem cSepN_fn (t : List (List Int)) (h : ¬ Semi t) : QF 10 [.ro (.rows .i64 t)] .nils := mkQ Try.func10 (by decide +kernel) rfl (Nat.le_of_ble_eq_true rfl) fun _ => by
  refine Or.inl (cq (valid_fn t) (And.intro rfl trivial) ?_)
  exact And.intro (fun _ => And.intro trivial trivial) (fun h2 => absurd (valid_zero.1 h2) h)
def idqB (t : List (List Int)) (x : Nat) : Bool := decide (en t x x = x)
def idqL (t : List (List Int)) (n : Nat) : List Int := ((List.range n).filter (idqB t)).map fun x : Nat => (x : Int)
theorem mem_idqL {t : List (List Int)} {n : Nat} {x : Int} : x ∈ idqL t n ↔ 0 ≤ x ∧ x < (n : Int) ∧ idmP t x.toNat := by
  unfold idqL
  rw [List.mem_map]
  constructor
  · rintro ⟨y, hy, rfl⟩
    have hy := List.mem_filter.1 hy
    have := List.mem_range.1 hy.1
    have h2 : en t y y = y := of_decide_eq_true hy.2
    exact ⟨by omega, by omega, h2⟩
  · rintro ⟨h1, h2, h3⟩
    exact ⟨x.toNat, List.mem_filter.2 ⟨List.mem_range.2 (by omega), decide_eq_true h3⟩, by omega⟩
theorem idqL_succ (t : List (List Int)) (n : Nat) : idqL t (n + 1) = match idqB t n with | true => idqL t n ++ [(n : Int)] | false => idqL t n := by
  unfold idqL
  rw [List.range_succ, List.filter_append]
  cases h : idqB t n <;> simp [List.filter, h]
theorem idqL_len (t : List (List Int)) (n : Nat) : (idqL t n).length ≤ n := by
  unfold idqL
  rw [List.length_map]
  exact Nat.le_trans (List.length_filter_le _ _) (by rw [List.length_range]; exact Nat.le_refl _)
theorem ridm_fn (t : List (List Int)) (hs : Sh t) : QF 82 [.ro (.rows .i64 t)] (.ro (.ints .i64 (idqL t t.length))) := mkQ Try.func82 (by decide +kernel) rfl (Nat.le_of_ble_eq_true rfl) fun _ => by
  have hmost := hs.most
  refine Exists.intro [] <| lp (X := Nat) (fun x => [(7, .int .i64 x), (3, .vec 22)]) (fun x => [(22, .vec 0 (.ints .i64 (idqL t x)) [])]) (fun x => x ≤ t.length) (fun x => t.length - x) 0 (Nat.zero_le _) (by repeat' first | refine And.intro ?_ ?_ | exact True.intro | (show (_ : Int) = (_ : Int); omega) | omega | exact rfl | (simp only [RO.len]; omega)) ?_
  rintro x hx
  refine And.intro (fun h1 => ?_) (fun h1 => ?_)
  · have h1 : (x : Int) < (t.length : Int) := h1
    have hxl : x < t.length := by omega
    have hent := hs.ent hxl hxl
    have hrl := hs.len hxl
    have hll := idqL_len t x
    refine And.intro (by omega) ?_
    refine And.intro (show 0 ≤ (x : Int) ∧ (x : Int) < ((t.getD x []).length : Int) by omega) ?_
    refine And.intro (fun h2 => ?_) (fun h2 => ?_)
    · have h2 : (t.getD x []).getD x 0 = (x : Int) := h2
      rw [hent.1] at h2
      have hb : idqB t x = true := decide_eq_true (by omega)
      have he : idqL t x ++ [(x : Int)] = idqL t (x + 1) := by rw [idqL_succ, hb]
      refine And.intro (show ((idqL t x ++ [(x : Int)]).length : Int) ≤ 17592186044416 by rw [List.length_append, List.length_singleton]; omega) ?_
      refine And.intro (by omega) ?_
      exact nx (x + 1) (show x + 1 ≤ t.length by omega) (show t.length - (x + 1) < t.length - x by omega) (by repeat' first | refine And.intro ?_ ?_ | exact True.intro | exact congrArg (RO.ints .i64) he | omega | exact rfl)
    · have h2 : ¬ (t.getD x []).getD x 0 = (x : Int) := h2
      rw [hent.1] at h2
      have hb : idqB t x = false := decide_eq_false (by omega)
      have he : idqL t x = idqL t (x + 1) := by rw [idqL_succ, hb]
      refine And.intro (by omega) ?_
      exact nx (x + 1) (show x + 1 ≤ t.length by omega) (show t.length - (x + 1) < t.length - x by omega) (by repeat' first | refine And.intro ?_ ?_ | exact True.intro | exact congrArg (RO.ints .i64) he | omega | exact rfl)
  · have h1 : (t.length : Int) ≤ (x : Int) := h1
    have hxe : x = t.length := by omega
    subst hxe
    exact And.intro (And.intro trivial rfl) trivial
theorem rsepB_fn (t : List (List Int)) (p : List Int) (hs : Sh t) (hp : p.length = t.length) : QF 40 [.ro (.rows .i64 t), .ro (.ints .i64 p)] (.bool (.v (sepB t p))) := mkQ Try.func40 (by decide +kernel) rfl (Nat.le_of_ble_eq_true rfl) fun _ => by
  have hmost := hs.most
  have hll := idqL_len t t.length
  have no : ¬ Sep t p → (BE.lit false).val = (BE.v (sepB t p)).val := fun h => (sepB_false.2 h).symm
  refine Or.inl (cq (ridm_fn t hs) (And.intro rfl trivial) ?_)
  refine Exists.intro [] <| lp (X := Nat) (fun i => [(14, .int .i64 i)]) (fun _ => []) (fun i => i ≤ (idqL t t.length).length ∧ ∀ a, a < i → ∀ y ∈ idqL t t.length, p.getD ((idqL t t.length).getD a 0).toNat 0 = p.getD y.toNat 0 → (idqL t t.length).getD a 0 = y) (fun i => (idqL t t.length).length - i) 0 ⟨Nat.zero_le _, fun a h => absurd h (Nat.not_lt_zero _)⟩ (by repeat' first | refine And.intro ?_ ?_ | exact True.intro | (show (_ : Int) = (_ : Int); omega) | omega | exact rfl | (simp only [RO.len]; omega)) ?_
  rintro i ⟨hi, hI⟩
  refine And.intro (fun h1 => ?_) (fun h1 => ?_)
  · have h1 : (i : Int) < ((idqL t t.length).length : Int) := h1
    have mi := mem_idqL.1 (getD_mem (d := 0) (l := idqL t t.length) (i := i) (by omega))
    refine And.intro (by omega) ?_
    refine Exists.intro [] <| lp (X := Nat) (fun j => [(20, .int .i64 j)]) (fun _ => []) (fun j => j ≤ (idqL t t.length).length ∧ ∀ b, b < j → p.getD ((idqL t t.length).getD i 0).toNat 0 = p.getD ((idqL t t.length).getD b 0).toNat 0 → (idqL t t.length).getD i 0 = (idqL t t.length).getD b 0) (fun j => (idqL t t.length).length - j) 0 ⟨Nat.zero_le _, fun a h => absurd h (Nat.not_lt_zero _)⟩ (by repeat' first | refine And.intro ?_ ?_ | exact True.intro | (show (_ : Int) = (_ : Int); omega) | omega | exact rfl | (simp only [RO.len]; omega)) ?_
    rintro j ⟨hj, hJ⟩
    refine And.intro (fun h2 => ?_) (fun h2 => ?_)
    · have h2 : (j : Int) < ((idqL t t.length).length : Int) := h2
      have mj := mem_idqL.1 (getD_mem (d := 0) (l := idqL t t.length) (i := j) (by omega))
      refine And.intro (by omega) ?_
      refine Or.inl ?_
      refine Exists.intro (List.replicate 14 false) (And.intro (by decide +kernel) ?_)
      refine And.intro (fun h3 => ?_) (fun h3 => ?_)
      · have h3 : ¬ (idqL t t.length).getD i 0 = (idqL t t.length).getD j 0 := h3
        refine And.intro (show 0 ≤ (idqL t t.length).getD i 0 ∧ (idqL t t.length).getD i 0 < (p.length : Int) by omega) ?_
        refine And.intro (show 0 ≤ (idqL t t.length).getD j 0 ∧ (idqL t t.length).getD j 0 < (p.length : Int) by omega) ?_
        refine And.intro (fun h4 => ?_) (fun h4 => ?_)
        · have h4 : p.getD ((idqL t t.length).getD i 0).toNat 0 = p.getD ((idqL t t.length).getD j 0).toNat 0 := h4
          refine And.intro (no fun h => h3 ?_) trivial
          have := h _ _ (show ((idqL t t.length).getD i 0).toNat < t.length by omega) (show ((idqL t t.length).getD j 0).toNat < t.length by omega) mi.2.2 mj.2.2 h4
          omega
        · have h4 : ¬ p.getD ((idqL t t.length).getD i 0).toNat 0 = p.getD ((idqL t t.length).getD j 0).toNat 0 := h4
          refine And.intro (by omega) ?_
          exact nx (j + 1) ⟨by omega, fun b hb e => if eb : b = j then absurd (eb ▸ e) h4 else hJ b (by omega) e⟩ (show (idqL t t.length).length - (j + 1) < (idqL t t.length).length - j by omega) (by repeat' first | refine And.intro ?_ ?_ | exact True.intro | (show (_ : Int) = (_ : Int); omega) | omega | exact rfl | (simp only [RO.len]; omega))
      · have h3 : (idqL t t.length).getD i 0 = (idqL t t.length).getD j 0 := h3
        refine And.intro (by omega) ?_
        exact nx (j + 1) ⟨by omega, fun b hb e => if eb : b = j then eb ▸ h3 else hJ b (by omega) e⟩ (show (idqL t t.length).length - (j + 1) < (idqL t t.length).length - j by omega) (by repeat' first | refine And.intro ?_ ?_ | exact True.intro | (show (_ : Int) = (_ : Int); omega) | omega | exact rfl | (simp only [RO.len]; omega))
    · have h2 : ((idqL t t.length).length : Int) ≤ (j : Int) := h2
      refine And.intro (by omega) ?_
      refine nx (i + 1) ⟨by omega, fun a ha y hy e => ?_⟩ (show (idqL t t.length).length - (i + 1) < (idqL t t.length).length - i by omega) (by repeat' first | refine And.intro ?_ ?_ | exact True.intro | (show (_ : Int) = (_ : Int); omega) | omega | exact rfl | (simp only [RO.len]; omega))
      by_cases ea : a = i
      · subst ea
        obtain ⟨b, hb, rfl⟩ := mem_getD 0 hy
        exact hJ b (by omega) e
      · exact hI a (by omega) y hy e
  · have h1 : ((idqL t t.length).length : Int) ≤ (i : Int) := h1
    refine And.intro ?_ trivial
    refine (sepB_true.2 fun x y hx hy ix iy e => ?_).symm
    have mx : (x : Int) ∈ idqL t t.length := mem_idqL.2 ⟨by omega, by omega, ix⟩
    have my : (y : Int) ∈ idqL t t.length := mem_idqL.2 ⟨by omega, by omega, iy⟩
    obtain ⟨a, ha, ea⟩ := mem_getD 0 mx
    have := hI a (by omega) _ my (by rw [ea]; exact e)
    omega
theorem rjoin_fn (p q : List Int) (hl : p.length = q.length) (hn : q.length ≤ 4096) : QF 41 [.ro (.ints .i64 p), .ro (.ints .i64 q)] (.new (.ints .i64 (joP q.length p q))) := mkQ Try.func41 (by decide +kernel) rfl (Nat.le_of_ble_eq_true rfl) fun _ => by
  refine And.intro (show (([] ++ p : List Int).length : Int) ≤ 17592186044416 by rw [List.nil_append]; omega) ?_
  refine Exists.intro [] <| lp2 (fun (i : Nat) (_ : List Int) => [(13, .int .i64 i)]) (fun _ o => [(8, .vec 0 (.ints .i64 o) [])]) (fun i o => i ≤ q.length ∧ KerOf q.length o (JnR q.length p q i)) (fun i _ => q.length - i) 0 ([] ++ p) ⟨Nat.zero_le _, by rw [List.nil_append]; exact JnR.start hl⟩ (by repeat' first | refine And.intro ?_ ?_ | exact True.intro | (show (_ : Int) = (_ : Int); omega) | omega | exact rfl | (simp only [RO.len]; omega)) ?_
  rintro i o ⟨hi, hI⟩
  have hol := hI.1
  refine And.intro (fun h1 => ?_) (fun h1 => ?_)
  · have h1 : (i : Int) < (q.length : Int) := h1
    have hil : i < q.length := by omega
    refine Exists.intro [] <| lp (X := Nat) (fun j => [(7, .int .i64 j)]) (fun _ => []) (fun j => j ≤ i ∧ ∀ b, b < j → q.getD i 0 ≠ q.getD b 0) (fun j => i - j) 0 ⟨Nat.zero_le _, fun b h => absurd h (Nat.not_lt_zero _)⟩ (by repeat' first | refine And.intro ?_ ?_ | exact True.intro | (show (_ : Int) = (_ : Int); omega) | omega | exact rfl | (simp only [RO.len]; omega)) ?_
    rintro j ⟨hj, hJ⟩
    refine And.intro (fun h2 => ?_) (fun h2 => ?_)
    · have h2 : (j : Int) < (i : Int) := h2
      refine Or.inl ?_
      refine Exists.intro (List.replicate 9 false) (And.intro (by decide +kernel) ?_)
      refine And.intro (by omega) ?_
      refine And.intro (by omega) ?_
      refine And.intro (fun h3 => ?_) (fun h3 => ?_)
      · have h3 : q.getD i 0 = q.getD j 0 := h3
        refine Or.inr (Or.inl (cm [] [(1000, 8)] (merge_fn o i j (by omega) (by omega) (by omega)) ?_))
        refine And.intro (by repeat' first | refine And.intro ?_ ?_ | exact True.intro | (show (_ : Int) = (_ : Int); omega) | omega | exact rfl | (simp only [RO.len]; omega)) ?_
        refine And.intro (by omega) ?_
        exact nx (i + 1, mrgL o i j) ⟨by omega, JnR.yes hI hil (by omega) h3⟩ (show q.length - (i + 1) < q.length - i by omega) (by repeat' first | refine And.intro ?_ ?_ | exact True.intro | (show (_ : Int) = (_ : Int); omega) | omega | exact rfl | (simp only [RO.len]; omega))
      · have h3 : ¬ q.getD i 0 = q.getD j 0 := h3
        refine And.intro (by omega) ?_
        exact nx (j + 1) ⟨by omega, fun b hb => if e : b = j then e ▸ h3 else hJ b (by omega)⟩ (show i - (j + 1) < i - j by omega) (by repeat' first | refine And.intro ?_ ?_ | exact True.intro | (show (_ : Int) = (_ : Int); omega) | omega | exact rfl | (simp only [RO.len]; omega))
    · have h2 : (i : Int) ≤ (j : Int) := h2
      refine And.intro (by omega) ?_
      exact nx (i + 1, o) ⟨by omega, JnR.no hI fun b hb => hJ b (by omega)⟩ (show q.length - (i + 1) < q.length - i by omega) (by repeat' first | refine And.intro ?_ ?_ | exact True.intro | (show (_ : Int) = (_ : Int); omega) | omega | exact rfl | (simp only [RO.len]; omega))
  · have h1 : (q.length : Int) ≤ (i : Int) := h1
    have hie : i = q.length := by omega
    subst hie
    have e : (if o.length ≤ 4096 then canon o else []) = joP q.length p q := by rw [if_pos (by omega), JnR.done hI]
    refine Or.inl (cq (rcanon_fn o) (And.intro rfl trivial) ?_)
    exact And.intro (And.intro (by omega) (congrArg (RO.ints .i64) e)) trivial
theorem rrees_fn (t : List (List Int)) (l : List Int) (hn : t.length ≤ 400) (hp : 0 < l.length) (hl : ∀ x ∈ l, 0 ≤ x ∧ x < (t.length : Int)) (hll : l.length ≤ 4096) : QF 15 [.ro (.rows .i64 t), .ro (.ints .i64 l)] (.new (.ints .i64 (canon (reI t.length l)))) := mkQ Try.func15 (by decide +kernel) rfl (Nat.le_of_ble_eq_true rfl) fun _ => by
  have h0 := hl _ (getD_mem (d := 0) hp)
  refine Or.inl (cq (rdis_fn t.length (by omega)) (And.intro rfl trivial) ?_)
  refine Exists.intro [] <| lp2 (fun (k : Nat) (_ : List Int) => [(13, .int .i64 k)]) (fun _ o => [(10, .vec 0 (.ints .i64 o) [])]) (fun k o => k ≤ l.length ∧ KerOf t.length o (RsR l k)) (fun k _ => l.length - k) 0 (disI t.length) ⟨Nat.zero_le _, KerOf.dis fun a b ⟨j, hj, _⟩ => absurd hj (Nat.not_lt_zero _)⟩ (by repeat' first | refine And.intro ?_ ?_ | exact True.intro | (show (_ : Int) = (_ : Int); omega) | omega | exact rfl | (simp only [RO.len]; omega)) ?_
  rintro k o ⟨hk, hK⟩
  have hol := hK.1
  refine And.intro (fun h1 => ?_) (fun h1 => ?_)
  · have h1 : (k : Int) < (l.length : Int) := h1
    have hk1 := hl _ (getD_mem (d := 0) (l := l) (i := k) (by omega))
    have hm := merge_fn o (l.getD 0 0).toNat (l.getD k 0).toNat (by omega) (by omega) (by omega)
    rw [Int.toNat_of_nonneg h0.1, Int.toNat_of_nonneg hk1.1] at hm
    refine And.intro (by omega) ?_
    refine And.intro (by omega) ?_
    refine Or.inr (Or.inl (cm [] [(1000, 10)] hm ?_))
    refine And.intro (by repeat' first | refine And.intro ?_ ?_ | exact True.intro | (show (_ : Int) = (_ : Int); omega) | omega | exact rfl | (simp only [RO.len]; omega)) ?_
    refine And.intro (by omega) ?_
    exact nx (k + 1, mrgL o (l.getD 0 0).toNat (l.getD k 0).toNat) ⟨by omega, RsR.next hK (by omega) (by omega)⟩ (show l.length - (k + 1) < l.length - k by omega) (by repeat' first | refine And.intro ?_ ?_ | exact True.intro | (show (_ : Int) = (_ : Int); omega) | omega | exact rfl | (simp only [RO.len]; omega))
  · have h1 : (l.length : Int) ≤ (k : Int) := h1
    have hke : k = l.length := by omega
    subst hke
    have e : (if o.length ≤ 4096 then canon o else []) = canon (reI t.length l) := by rw [if_pos (by omega), RsR.done hp hl hK]
    refine Or.inl (cq (rcanon_fn o) (And.intro rfl trivial) ?_)
    exact And.intro (And.intro (by omega) (congrArg (RO.ints .i64) e)) trivial
theorem rsep_fn (t : List (List Int)) (hs : Semi t) (ht : t.length ≤ 60) : QF 13 [.ro (.rows .i64 t)] (.ro (.ints .i64 (sepP t))) := mkQ Try.func13 (by decide +kernel) rfl (Nat.le_of_ble_eq_true rfl) fun _ => by
  have hS := hs.toSh
  have hpl := prnL_len (t := t)
  have h3600 : t.length * t.length ≤ 60 * 60 := Nat.mul_le_mul ht ht
  refine Or.inl (cq (rdis_fn t.length (by omega)) (And.intro rfl trivial) ?_)
  refine Or.inl (cq (rprn_fn t hS ht) (And.intro rfl trivial) ?_)
  refine Exists.intro [3, 8, 10008, 10021] <| lp (X := Nat) (fun k => [(12, .int .i64 k), (3, .ro (.ints .i64 (sepJ t k)))]) (fun _ => []) (fun k => k ≤ (prnL t).length) (fun k => (prnL t).length - k) 0 (Nat.zero_le _) (by repeat' first | refine And.intro ?_ ?_ | exact True.intro | (show (_ : Int) = (_ : Int); omega) | omega | exact rfl | (simp only [RO.len]; omega)) ?_
  rintro k hk
  have hJ := sepJ_is hs k hk
  refine And.intro (fun h1 => ?_) (fun h1 => ?_)
  · have h1 : (k : Int) < ((prnL t).length : Int) := h1
    have hkl : k < (prnL t).length := by omega
    have hpk : IsCg t ((prnL t).getD k []) 0 := by
      obtain ⟨x, y, _, _, e⟩ := mem_prnL.1 (getD_mem (d := []) hkl)
      exact e ▸ prnG_is hs x y
    refine And.intro (by omega) ?_
    refine Or.inl (cq (rsepB_fn t ((prnL t).getD k []) hS hpk.len) (And.intro rfl (And.intro rfl trivial)) ?_)
    refine And.intro (fun h2 => ?_) (fun h2 => ?_)
    · have h2 : sepB t ((prnL t).getD k []) = true := h2
      have he : joP ((prnL t).getD k []).length (sepJ t k) ((prnL t).getD k []) = sepJ t (k + 1) := by
        rw [hpk.len]
        show _ = (match sepB t ((prnL t).getD k []) with | true => joP t.length (sepJ t k) ((prnL t).getD k []) | false => sepJ t k)
        rw [h2]
      refine Or.inl (cq (rjoin_fn (sepJ t k) ((prnL t).getD k []) (by rw [hJ.len, hpk.len]) (by rw [hpk.len]; omega)) (And.intro rfl (And.intro rfl trivial)) ?_)
      refine And.intro (by omega) ?_
      exact nx (k + 1) (show k + 1 ≤ (prnL t).length by omega) (show (prnL t).length - (k + 1) < (prnL t).length - k by omega) (by repeat' first | refine And.intro ?_ ?_ | exact True.intro | exact congrArg (RO.ints .i64) he | omega | exact rfl)
    · have h2 : sepB t ((prnL t).getD k []) = false := h2
      have he : sepJ t k = sepJ t (k + 1) := by
        show _ = (match sepB t ((prnL t).getD k []) with | true => joP t.length (sepJ t k) ((prnL t).getD k []) | false => sepJ t k)
        rw [h2]
      refine And.intro (by omega) ?_
      exact nx (k + 1) (show k + 1 ≤ (prnL t).length by omega) (show (prnL t).length - (k + 1) < (prnL t).length - k by omega) (by repeat' first | refine And.intro ?_ ?_ | exact True.intro | exact congrArg (RO.ints .i64) he | omega | exact rfl)
  · have h1 : ((prnL t).length : Int) ≤ (k : Int) := h1
    have hke : k = (prnL t).length := by omega
    subst hke
    refine And.intro ?_ trivial
    exact congrArg (RO.ints .i64) (sepJ_done hs)
end Go.Proofs.Ytagdbfklniiabaa
