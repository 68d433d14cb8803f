import Derived.Test.YtjlkhjgnfnfmgaaGreatMult
import Derived.Test.YtjlkhjgnfnfmgaaGreatRefPart
section
/- Tables and groups, of the program and of the reference: their contracts. -/
namespace Go.Proofs.YtjlkhjgnfnfmgaaGreat
open Go Go.AM
set_option maxRecDepth 100000
set_option maxHeartbeats 4000000 in
theorem rshape_k (t : List (List Int)) : fnK TY SP Tryz.f49 [.ro (.rows .i64 t)] (.int .i64 (shapeV t)) := shape_k t
theorem rshape_fn (t : List (List Int)) : QF 49 [.ro (.rows .i64 t)] (.int .i64 (shapeV t)) := mkQ Tryz.func49 (by decide +kernel) rfl (Nat.le_of_ble_eq_true rfl) fun _ => rshape_k t
theorem assoc_k (t : List (List Int)) : fnEK TY SP Tryz.f150 [.ro (.rows .i64 t)] (fun x : Int × Int × Int => .tup [.int .i64 x.1, .int .i64 x.2.1, .int .i64 x.2.2, .int .i64 (validV t)]) (fun _ => True) := by
  refine Or.inl (cq (rshape_fn t) (And.intro rfl trivial) ?_)
  refine And.intro (fun h1 => ?_) (fun h1 => ?_)
  · refine Exists.intro (0, 0, 0) (And.intro trivial ⟨rfl, rfl, rfl, ?_, trivial⟩)
    show shapeV t = validV t
    unfold validV; rw [if_pos h1]
  have hs := shape_zero.1 h1
  have hpos := hs.pos
  have hmost := hs.most
  refine Exists.intro [] <| lp (X := Nat) (fun x => [(17, .int .i64 x)]) (fun _ => []) (fun x => x ≤ t.length ∧ ∀ x' y z, x' < x → y < t.length → z < t.length → en t (en t x' y) z = en t x' (en t y z)) (fun x => t.length - x) 0 ⟨Nat.zero_le _, by omega⟩ ⟨⟨rfl, trivial⟩, trivial⟩ ?_
  intro x hx
  refine And.intro (fun h2 => ?_) (fun h2 => ?_)
  · refine Exists.intro [] <| lp (X := Nat) (fun y => [(22, .int .i64 y)]) (fun _ => []) (fun y => y ≤ t.length ∧ ∀ y' z, y' < y → z < t.length → en t (en t x y') z = en t x (en t y' z)) (fun y => t.length - y) 0 ⟨Nat.zero_le _, by omega⟩ ⟨⟨rfl, trivial⟩, trivial⟩ ?_
    intro y hy
    refine And.intro (fun h3 => ?_) (fun h3 => ?_)
    · refine Exists.intro [] <| lp (X := Nat) (fun z => [(27, .int .i64 z)]) (fun _ => []) (fun z => z ≤ t.length ∧ ∀ z', z' < z → en t (en t x y) z' = en t x (en t y z')) (fun z => t.length - z) 0 ⟨Nat.zero_le _, by omega⟩ ⟨⟨rfl, trivial⟩, trivial⟩ ?_
      intro z hz
      refine And.intro (fun h4 => ?_) (fun h4 => ?_)
      · have hxl : x < t.length := by omega
        have hyl : y < t.length := by omega
        have hzl : z < t.length := by omega
        have a1 := hs.ent hxl hyl
        have a2 := hs.ent a1.2 hzl
        have a3 := hs.ent hyl hzl
        have a4 := hs.ent hxl a3.2
        have l1 := hs.len hxl
        have l2 := hs.len hyl
        have l3 := hs.len a1.2
        refine Or.inl <| Exists.intro [false, false, false, false, false, false, false, false, false, false, false, false, false, false, false, false, false, false, false, false, false, false, false, false, false, false, false] (And.intro (by decide +kernel) ?_)
        refine And.intro (by omega) ?_
        refine And.intro (by simp only [Int.toNat_natCast]; omega) ?_
        refine And.intro (by simp only [Int.toNat_natCast]; omega) ?_
        refine And.intro (show 0 ≤ (z : Int) ∧ (z : Int) < ((t.getD (en t x y) []).length : Int) by omega) ?_
        refine And.intro (by omega) ?_
        refine And.intro (by omega) ?_
        refine And.intro (by simp only [Int.toNat_natCast]; omega) ?_
        refine And.intro (by simp only [Int.toNat_natCast]; omega) ?_
        refine And.intro (fun h5 => ?_) (fun h5 => ?_)
        · have h5 : (t.getD (en t x y) []).getD z 0 ≠ (t.getD x []).getD (en t y z) 0 := h5
          rw [a2.1, a4.1] at h5
          refine Exists.intro ((x : Int), (y : Int), (z : Int)) (And.intro trivial ⟨rfl, rfl, rfl, ?_, trivial⟩)
          show (5 : Int) = validV t
          unfold validV
          rw [if_neg (by omega), if_neg]
          intro ha
          exact h5 (congrArg _ (ha y hyl x z hxl hzl))
        · have h5 : (t.getD (en t x y) []).getD z 0 = (t.getD x []).getD (en t y z) 0 := h5
          rw [a2.1, a4.1] at h5
          refine And.intro (by omega) ?_
          refine nx (z + 1) ⟨by omega, fun z' hz' => ?_⟩ (show t.length - (z + 1) < t.length - z by omega) ⟨⟨rfl, trivial⟩, trivial⟩
          by_cases hzz : z' < z
          · exact hz.2 z' hzz
          · have : z' = z := by omega
            rw [this]; exact_mod_cast h5
      · refine And.intro (by omega) ?_
        refine nx (y + 1) ⟨by omega, fun y' z hy' hz' => ?_⟩ (show t.length - (y + 1) < t.length - y by omega) ⟨⟨rfl, trivial⟩, trivial⟩
        by_cases hyy : y' < y
        · exact hy.2 y' z hyy hz'
        · have : y' = y := by omega
          rw [this]; exact hz.2 z (by omega)
    · refine And.intro (by omega) ?_
      refine nx (x + 1) ⟨by omega, fun x' y z hx' hy' hz' => ?_⟩ (show t.length - (x + 1) < t.length - x by omega) ⟨⟨rfl, trivial⟩, trivial⟩
      by_cases hxx : x' < x
      · exact hx.2 x' y z hxx hy' hz'
      · have : x' = x := by omega
        rw [this]; exact hy.2 y z (by omega) hz'
  · refine Exists.intro (0, 0, 0) (And.intro trivial ⟨rfl, rfl, rfl, ?_, trivial⟩)
    show 0 = validV t
    symm
    rw [valid_zero]
    exact ⟨hs, fun g hg x y hx' hy' => hx.2 x g y (by omega) hg hy'⟩
theorem rvalidate_fn (t : List (List Int)) : QF 108 [.ro (.rows .i64 t)] (.int .i64 (validV t)) := mkQ Tryz.func108 (by decide +kernel) rfl (Nat.le_of_ble_eq_true rfl) fun _ => by
  refine Or.inr (Or.inr (ce (mkE Tryz.func150 (by decide +kernel) rfl (Nat.le_of_ble_eq_true rfl) fun _ => assoc_k t) (And.intro rfl trivial) fun x _ => ?_))
  exact And.intro rfl trivial
theorem rvalid_fn (t : List (List Int)) : QF 70 [.ro (.rows .i64 t)] (.bool (.v (decide (validV t = 0)))) := mkQ Tryz.func70 (by decide +kernel) rfl (Nat.le_of_ble_eq_true rfl) fun _ => by
  refine Or.inl (cq (rvalidate_fn t) (And.intro rfl trivial) ?_)
  exact And.intro rfl trivial
theorem id_step {t : List (List Int)} {k j : Nat} {b : Bool} (h : b = true ↔ ∀ x, x < j → en t k x = x ∧ en t x k = x) (hb : b = true) (h1 : (t.getD k []).getD j 0 = (j : Int)) (e1 : (t.getD k []).getD j 0 = (en t k j : Int)) (e2 : (t.getD j []).getD k 0 = (en t j k : Int)) :
    decide ((t.getD j []).getD k 0 = (j : Int)) = true ↔ ∀ x, x < j + 1 → en t k x = x ∧ en t x k = x := by
  rw [decide_eq_true_iff]
  constructor
  · intro h2 x hx
    by_cases hxj : x < j
    · exact h.1 hb x hxj
    · have : x = j := by omega
      rw [this]; exact ⟨by omega, by omega⟩
  · intro h2
    have := h2 j (by omega)
    omega
theorem id_stop {t : List (List Int)} {k j : Nat} (e1 : (t.getD k []).getD j 0 = (en t k j : Int)) (h1 : ¬ (t.getD k []).getD j 0 = (j : Int)) :
    false = true ↔ ∀ x, x < j + 1 → en t k x = x ∧ en t x k = x :=
  ⟨fun h => (by cases h), fun h => (by have := h j (by omega); omega)⟩
theorem id_past {t : List (List Int)} {k j : Nat} {b : Bool} (h : b = true ↔ ∀ x, x < j → en t k x = x ∧ en t x k = x) (hb : b = false) :
    false = true ↔ ∀ x, x < j + 1 → en t k x = x ∧ en t x k = x :=
  ⟨fun h => (by cases h), fun h2 => (by rw [← hb]; exact h.2 fun x hx => h2 x (by omega))⟩
theorem rid_fn (t : List (List Int)) (hs : Sh t) : QF 71 [.ro (.rows .i64 t)] (.int .i64 (idV t)) := mkQ Tryz.func71 (by decide +kernel) rfl (Nat.le_of_ble_eq_true rfl) fun _ => by
  have hpos := hs.pos
  have hmost := hs.most
  refine Exists.intro [] <| lp (X := Nat) (fun k => [(8, .int .i64 k)]) (fun _ => []) (fun k => k ≤ t.length ∧ ∀ j, j < k → ¬ Neutral t j) (fun k => t.length - k) 0 ⟨Nat.zero_le _, by omega⟩ ⟨⟨rfl, trivial⟩, trivial⟩ ?_
  intro k hk
  refine And.intro (fun h1 => ?_) (fun h1 => ?_)
  · have hkl : k < t.length := by omega
    refine Exists.intro [] <| lp2 (fun (j : Nat) (b : Bool) => [(13, .int .i64 j), (4, .bool (.v b))]) (fun _ _ => []) (fun j b => j ≤ t.length ∧ (b = true ↔ ∀ x, x < j → en t k x = x ∧ en t x k = x)) (fun j _ => t.length - j) 0 true ⟨Nat.zero_le _, by simp⟩ ⟨⟨rfl, rfl, trivial⟩, trivial⟩ ?_
    intro j b hj
    refine And.intro (fun h2 => ?_) (fun h2 => ?_)
    · have hjl : j < t.length := by omega
      have a1 := hs.ent hkl hjl
      have a2 := hs.ent hjl hkl
      have l1 := hs.len hkl
      have l2 := hs.len hjl
      refine And.intro (fun h3 => ?_) (fun h3 => ?_)
      · refine And.intro (by omega) ?_
        refine And.intro (by simp only [Int.toNat_natCast]; omega) ?_
        refine And.intro (fun h4 => ?_) (fun h4 => ?_)
        · refine And.intro (by omega) ?_
          refine And.intro (by simp only [Int.toNat_natCast]; omega) ?_
          refine And.intro (by omega) ?_
          refine nx (j + 1, decide ((t.getD j []).getD k 0 = (j : Int))) ⟨by omega, ?_⟩ (show t.length - (j + 1) < t.length - j by omega) ⟨⟨rfl, rfl, trivial⟩, trivial⟩
          exact id_step hj.2 h3 (by simpa using h4) a1.1 a2.1
        · refine And.intro (by omega) ?_
          refine nx (j + 1, false) ⟨by omega, ?_⟩ (show t.length - (j + 1) < t.length - j by omega) ⟨⟨rfl, rfl, trivial⟩, trivial⟩
          exact id_stop a1.1 (by simpa using h4)
      · refine And.intro (by omega) ?_
        refine nx (j + 1, false) ⟨by omega, ?_⟩ (show t.length - (j + 1) < t.length - j by omega) ⟨⟨rfl, rfl, trivial⟩, trivial⟩
        exact id_past hj.2 h3
    · refine And.intro (fun h3 => ?_) (fun h3 => ?_)
      · refine And.intro (show (k : Int) = idV t from ?_) trivial
        rw [id_of hkl (fun x hx => hj.2.1 h3 x (by omega))]
      · refine And.intro (by omega) ?_
        refine nx (k + 1) ⟨by omega, fun j' hj' => ?_⟩ (show t.length - (k + 1) < t.length - k by omega) ⟨⟨rfl, trivial⟩, trivial⟩
        by_cases hjk : j' < k
        · exact hk.2 j' hjk
        · have : j' = k := by omega
          rw [this]
          intro hn
          have := hj.2.2 (fun x hx => hn x (by omega))
          rw [h3] at this; cases this
  · refine And.intro (show (-1 : Int) = idV t from ?_) trivial
    rw [id_none (fun e he => hk.2 e (by omega))]
theorem gid_fn (t : List (List Int)) (hs : Sh t) : QF 118 [.ro (.rows .i64 t)] (.int .i64 (idV t)) := mkQ Tryz.func118 (by decide +kernel) rfl (Nat.le_of_ble_eq_true rfl) fun _ => by
  have hpos := hs.pos
  have hmost := hs.most
  refine Exists.intro [] <| lp (X := Nat) (fun k => [(9, .int .i64 k)]) (fun _ => []) (fun k => k ≤ t.length ∧ ∀ j, j < k → ¬ Neutral t j) (fun k => t.length - k) 0 ⟨Nat.zero_le _, by omega⟩ ⟨⟨rfl, trivial⟩, trivial⟩ ?_
  intro k hk
  refine And.intro (fun h1 => ?_) (fun h1 => ?_)
  · refine And.intro (by omega) ?_
    have hkl : k < t.length := by omega
    refine Exists.intro [] <| lp2 (fun (j : Nat) (b : Bool) => [(16, .int .i64 j), (5, .bool (.v b))]) (fun _ _ => []) (fun j b => j ≤ t.length ∧ (b = true ↔ ∀ x, x < j → en t k x = x ∧ en t x k = x)) (fun j _ => t.length - j) 0 true ⟨Nat.zero_le _, by simp⟩ ⟨⟨rfl, rfl, trivial⟩, trivial⟩ ?_
    intro j b hj
    refine And.intro (fun h2 => ?_) (fun h2 => ?_)
    · have hjl : j < t.length := by omega
      have a1 := hs.ent hkl hjl
      have a2 := hs.ent hjl hkl
      have l1 := hs.len hkl
      have l2 := hs.len hjl
      refine And.intro (fun h3 => ?_) (fun h3 => ?_)
      · refine And.intro (by simp only [Int.toNat_natCast]; omega) ?_
        refine And.intro (fun h4 => ?_) (fun h4 => ?_)
        · refine And.intro (by omega) ?_
          refine And.intro (by simp only [Int.toNat_natCast]; omega) ?_
          refine And.intro (by omega) ?_
          refine nx (j + 1, decide ((t.getD j []).getD k 0 = (j : Int))) ⟨by omega, ?_⟩ (show t.length - (j + 1) < t.length - j by omega) ⟨⟨rfl, rfl, trivial⟩, trivial⟩
          exact id_step hj.2 h3 (by simpa using h4) a1.1 a2.1
        · refine And.intro (by omega) ?_
          refine nx (j + 1, false) ⟨by omega, ?_⟩ (show t.length - (j + 1) < t.length - j by omega) ⟨⟨rfl, rfl, trivial⟩, trivial⟩
          exact id_stop a1.1 (by simpa using h4)
      · refine And.intro (by omega) ?_
        refine nx (j + 1, false) ⟨by omega, ?_⟩ (show t.length - (j + 1) < t.length - j by omega) ⟨⟨rfl, rfl, trivial⟩, trivial⟩
        exact id_past hj.2 h3
    · refine And.intro (fun h3 => ?_) (fun h3 => ?_)
      · refine And.intro (show (k : Int) = idV t from ?_) trivial
        rw [id_of hkl (fun x hx => hj.2.1 h3 x (by omega))]
      · refine And.intro (by omega) ?_
        refine nx (k + 1) ⟨by omega, fun j' hj' => ?_⟩ (show t.length - (k + 1) < t.length - k by omega) ⟨⟨rfl, trivial⟩, trivial⟩
        by_cases hjk : j' < k
        · exact hk.2 j' hjk
        · have : j' = k := by omega
          rw [this]
          intro hn
          have := hj.2.2 (fun x hx => hn x (by omega))
          rw [h3] at this; cases this
  · refine And.intro (show (-1 : Int) = idV t from ?_) trivial
    rw [id_none (fun e he => hk.2 e (by omega))]
noncomputable def idxV (l : List Int) (v : Int) : Int := open Classical in if h : ∃ i : Nat, i < l.length ∧ l.getD i 0 = v ∧ ∀ j, j < i → l.getD j 0 ≠ v then ((Classical.choose h : Nat) : Int) else -1
theorem idx_of {l : List Int} {v : Int} {i : Nat} (hi : i < l.length) (h : l.getD i 0 = v) (hj : ∀ j, j < i → l.getD j 0 ≠ v) : idxV l v = i := by
  have hx : ∃ i : Nat, i < l.length ∧ l.getD i 0 = v ∧ ∀ j, j < i → l.getD j 0 ≠ v := ⟨i, hi, h, hj⟩
  unfold idxV
  rw [dif_pos hx]
  have := Classical.choose_spec hx
  rcases Nat.lt_trichotomy (Classical.choose hx) i with h1 | h1 | h1
  · exact absurd this.2.1 (hj _ h1)
  · rw [h1]
  · exact absurd h (this.2.2 _ h1)
theorem idx_none {l : List Int} {v : Int} (hj : ∀ j, j < l.length → l.getD j 0 ≠ v) : idxV l v = -1 := by
  unfold idxV
  rw [dif_neg]
  rintro ⟨i, hi, h, _⟩
  exact hj i hi h
theorem idx_cases (l : List Int) (v : Int) : (∃ i : Nat, i < l.length ∧ l.getD i 0 = v ∧ idxV l v = i) ∨ ((∀ j, j < l.length → l.getD j 0 ≠ v) ∧ idxV l v = -1) := by
  by_cases h : ∃ i : Nat, i < l.length ∧ l.getD i 0 = v
  · have key : ∀ n i : Nat, i < n → i < l.length → l.getD i 0 = v → ∃ i : Nat, i < l.length ∧ l.getD i 0 = v ∧ ∀ j, j < i → l.getD j 0 ≠ v := by
      intro n
      induction n with
      | zero => intro i hi; omega
      | succ n ih =>
        intro i hi hl hv
        by_cases hj : ∃ j, j < i ∧ l.getD j 0 = v
        · obtain ⟨j, h1, h2⟩ := hj; exact ih j (by omega) (by omega) h2
        · exact ⟨i, hl, hv, fun j hji he => hj ⟨j, hji, he⟩⟩
    obtain ⟨i, hi, hv⟩ := h
    obtain ⟨i, h1, h2, h3⟩ := key (i + 1) i (by omega) hi hv
    exact .inl ⟨i, h1, h2, idx_of h1 h2 h3⟩
  · have h' : ∀ j, j < l.length → l.getD j 0 ≠ v := fun j hj he => h ⟨j, hj, he⟩
    exact .inr ⟨h', idx_none h'⟩
theorem index_k (l : List Int) (v : Int) (hl : l.length ≤ 140737488355328) : fnK TY SP Tryz.f119 [.ro (.ints .i64 l), .int .i64 v] (.int .i64 (idxV l v)) := by
  refine Exists.intro [] <| lp (X := Nat) (fun k => [(8, .int .i64 k)]) (fun _ => []) (fun k => k ≤ l.length ∧ ∀ j, j < k → l.getD j 0 ≠ v) (fun k => l.length - k) 0 ⟨Nat.zero_le _, by omega⟩ ⟨⟨rfl, trivial⟩, trivial⟩ ?_
  intro k hk
  refine And.intro (fun h1 => ?_) (fun h1 => ?_)
  · refine And.intro (by omega) ?_
    refine And.intro (fun h2 => ?_) (fun h2 => ?_)
    · refine And.intro (show (k : Int) = idxV l v from ?_) trivial
      exact (idx_of (by omega) (by simpa using h2.symm) hk.2).symm
    · refine And.intro (by omega) ?_
      refine nx (k + 1) ⟨by omega, fun j hj => ?_⟩ (show l.length - (k + 1) < l.length - k by omega) ⟨⟨rfl, trivial⟩, trivial⟩
      by_cases hjk : j < k
      · exact hk.2 j hjk
      · have : j = k := by omega
        rw [this]; exact fun he => h2 (by simpa using he.symm)
  · refine And.intro (show -1 = idxV l v from ?_) trivial
    exact (idx_none (fun j hj => hk.2 j (by omega))).symm
theorem index_fn (l : List Int) (v : Int) : QF 119 [.ro (.ints .i64 l), .int .i64 v] (.int .i64 (idxV l v)) := mkQ Tryz.func119 (by decide +kernel) rfl (Nat.le_of_ble_eq_true rfl) fun hf => index_k l v hf.1.1
theorem rinv_k (t : List (List Int)) (hs : Sh t) (e x : Nat) (he : idV t = e) (hx : x < t.length) :
    fnEK TY SP Tryz.f72 [.ro (.rows .i64 t), .int .i64 x] (fun v : Int => .int .i64 v) (fun v => (∃ y : Nat, v = y ∧ y < t.length ∧ Inv t e x y) ∨ (v = -1 ∧ ∀ y, y < t.length → ¬ Inv t e x y)) := by
  have hpos := hs.pos
  have hmost := hs.most
  refine Or.inl (cq (rid_fn t hs) (And.intro rfl trivial) ?_)
  refine Exists.intro [] <| lp (X := Nat) (fun k => [(11, .int .i64 k)]) (fun _ => []) (fun k => k ≤ t.length ∧ ∀ y, y < k → ¬ Inv t e x y) (fun k => t.length - k) 0 ⟨Nat.zero_le _, by omega⟩ ⟨⟨rfl, trivial⟩, trivial⟩ ?_
  intro k hk
  refine And.intro (fun h1 => ?_) (fun h1 => ?_)
  · have hkl : k < t.length := by omega
    have a1 := hs.ent hx hkl
    have a2 := hs.ent hkl hx
    have l1 := hs.len hx
    have l2 := hs.len hkl
    refine And.intro (by omega) ?_
    refine And.intro (by simp only [Int.toNat_natCast]; omega) ?_
    refine And.intro (fun h2 => ?_) (fun h2 => ?_)
    · simp only [Int.toNat_natCast] at h2
      refine And.intro (by omega) ?_
      refine And.intro (by simp only [Int.toNat_natCast]; omega) ?_
      refine And.intro (fun h3 => ?_) (fun h3 => ?_)
      · simp only [Int.toNat_natCast] at h3
        refine Exists.intro (k : Int) (And.intro (.inl ⟨k, rfl, hkl, by omega, by omega⟩) ⟨rfl, trivial⟩)
      · simp only [Int.toNat_natCast] at h3
        refine And.intro (by omega) ?_
        refine nx (k + 1) ⟨by omega, fun y hy => ?_⟩ (show t.length - (k + 1) < t.length - k by omega) ⟨⟨rfl, trivial⟩, trivial⟩
        by_cases hyk : y < k
        · exact hk.2 y hyk
        · have : y = k := by omega
          rw [this]; intro hi; have := hi.2; omega
    · simp only [Int.toNat_natCast] at h2
      refine And.intro (by omega) ?_
      refine nx (k + 1) ⟨by omega, fun y hy => ?_⟩ (show t.length - (k + 1) < t.length - k by omega) ⟨⟨rfl, trivial⟩, trivial⟩
      by_cases hyk : y < k
      · exact hk.2 y hyk
      · have : y = k := by omega
        rw [this]; intro hi; have := hi.1; omega
  · refine Exists.intro (-1) (And.intro (.inr ⟨rfl, fun y hy => hk.2 y (by omega)⟩) ⟨rfl, trivial⟩)
theorem rinv_fn (t : List (List Int)) (hs : Sh t) (e x : Nat) (he : idV t = e) (hx : x < t.length) :
    EF 72 [.ro (.rows .i64 t), .int .i64 x] (fun v : Int => .int .i64 v) (fun v => (∃ y : Nat, v = y ∧ y < t.length ∧ Inv t e x y) ∨ (v = -1 ∧ ∀ y, y < t.length → ¬ Inv t e x y)) :=
  mkE Tryz.func72 (by decide +kernel) rfl (Nat.le_of_ble_eq_true rfl) fun _ => rinv_k t hs e x he hx
theorem grp_no_id {t : List (List Int)} (h : idV t < 0) : false = grpB t := by
  symm
  rw [grpB_false]
  rintro ⟨_, e, he, hn, _⟩
  rw [id_of he hn] at h
  omega
theorem grp_no_inv {t : List (List Int)} {e x : Nat} (_hs : Sh t) (he : idV t = e) (hx : x < t.length) (h : ∀ y, y < t.length → ¬ Inv t e x y) : false = grpB t := by
  symm
  rw [grpB_false]
  rintro ⟨_, e', he', hn, hi⟩
  rw [id_of he' hn] at he
  have : e' = e := by omega
  subst this
  obtain ⟨y, hy, hyi⟩ := hi x hx
  exact h y hy hyi
theorem grp_yes {t : List (List Int)} {e : Nat} (hs : Semi t) (he : idV t = e) (h : ∀ x, x < t.length → ∃ y, y < t.length ∧ Inv t e x y) : true = grpB t := by
  symm
  rw [grpB_true]
  rcases id_cases t with ⟨e', he', hn, h'⟩ | ⟨_, h'⟩
  · have : e' = e := by omega
    subst this
    exact ⟨hs, e', he', hn, h⟩
  · omega
theorem rgroup_fn (t : List (List Int)) : QF 20 [.ro (.rows .i64 t)] (.bool (.v (grpB t))) := mkQ Tryz.func20 (by decide +kernel) rfl (Nat.le_of_ble_eq_true rfl) fun _ => by
  refine Or.inl (cq (rvalid_fn t) (And.intro rfl trivial) ?_)
  refine And.intro (fun h1 => ?_) (fun h1 => ?_)
  · refine And.intro (show false = grpB t from ?_) trivial
    symm
    rw [grpB_false]
    intro hg
    rw [valid_zero.2 hg.toSemi] at h1
    cases h1
  have hs : Semi t := valid_zero.1 (by simpa using h1)
  have hpos := hs.pos
  have hmost := hs.most
  refine Or.inl (cq (rid_fn t hs.toSh) (And.intro rfl trivial) ?_)
  refine And.intro (fun h2 => ?_) (fun h2 => ?_)
  · refine And.intro (grp_no_id h2) trivial
  have he : idV t = ((idV t).toNat : Int) := by omega
  refine Exists.intro [] <| lp (X := Nat) (fun k => [(14, .int .i64 k)]) (fun _ => []) (fun k => k ≤ t.length ∧ ∀ x, x < k → ∃ y, y < t.length ∧ Inv t (idV t).toNat x y) (fun k => t.length - k) 0 ⟨Nat.zero_le _, by omega⟩ ⟨⟨rfl, trivial⟩, trivial⟩ ?_
  intro k hk
  refine And.intro (fun h3 => ?_) (fun h3 => ?_)
  · refine Or.inr (Or.inr (ce (rinv_fn t hs.toSh (idV t).toNat k he (by omega)) (And.intro rfl (And.intro rfl trivial)) fun v hv => ?_))
    refine And.intro (fun h4 => ?_) (fun h4 => ?_)
    · refine And.intro (grp_no_inv hs.toSh he (x := k) (by omega) ?_) trivial
      rcases hv with ⟨y, hy, _⟩ | ⟨_, hv⟩
      · omega
      · exact hv
    · refine And.intro (by omega) ?_
      refine nx (k + 1) ⟨by omega, fun x hx => ?_⟩ (show t.length - (k + 1) < t.length - k by omega) ⟨⟨rfl, trivial⟩, trivial⟩
      by_cases hxk : x < k
      · exact hk.2 x hxk
      · have : x = k := by omega
        rw [this]
        rcases hv with ⟨y, _, hy⟩ | ⟨hv, _⟩
        · exact ⟨y, hy⟩
        · omega
  · refine And.intro (show true = grpB t from ?_) trivial
    exact grp_yes hs he fun x hx => hk.2 x (by omega)
theorem build_fn (t : List (List Int)) (hs : Semi t) : QF 80 [.ro (.rows .i64 t)] (.tup [.agg [.any, .any, .any], .bool (.v (grpB t))]) := mkQ Tryz.func80 (by decide +kernel) rfl (Nat.le_of_ble_eq_true rfl) fun _ => by
  have hpos := hs.pos
  have hmost := hs.most
  refine Or.inl (cq (gid_fn t hs.toSh) (And.intro rfl trivial) ?_)
  refine And.intro (fun h1 => ?_) (fun h1 => ?_)
  · exact And.intro ⟨trivial, trivial, trivial, trivial⟩ ⟨grp_no_id h1, trivial⟩
  have he : idV t = ((idV t).toNat : Int) := by omega
  refine And.intro (by omega) ?_
  refine And.intro (by omega) ?_
  refine Exists.intro [] <| lp2 (fun (k : Nat) (iv : List Int) => [(19, .int .i64 k)]) (fun _ iv => [(16, .vec 0 (.ints .i64 iv) [])]) (fun k iv => k ≤ t.length ∧ iv.length = t.length ∧ ∀ x, x < k → ∃ y, y < t.length ∧ Inv t (idV t).toNat x y) (fun k _ => t.length - k) 0 (List.replicate t.length 0) ⟨Nat.zero_le _, by simp, by omega⟩ (by repeat' first | refine And.intro ?_ ?_ | exact True.intro | (show (_ : Int) = (_ : Int); omega) | omega | exact rfl | (simp only [RO.len]; omega)) ?_
  intro k iv hk
  refine And.intro (fun h3 => ?_) (fun h3 => ?_)
  · have hkl : k < t.length := by omega
    have l1 := hs.len hkl
    refine And.intro (by omega) ?_
    refine Or.inl (cq (index_fn (t.getD k []) (idV t)) (And.intro rfl (And.intro rfl trivial)) ?_)
    have hcase := idx_cases (t.getD k []) (idV t)
    refine And.intro (fun h4 => ?_) (fun h4 => ?_)
    · refine And.intro ⟨trivial, trivial, trivial, trivial⟩ ⟨grp_no_inv hs.toSh he hkl fun y hy hi => ?_, trivial⟩
      have a1 := hs.ent hkl hy
      rcases hcase with ⟨i, _, _, h⟩ | ⟨h, _⟩
      · omega
      · exact h y (by omega) (by rw [a1.1, hi.1]; omega)
    have hy : (idxV (t.getD k []) (idV t)).toNat < t.length ∧ en t k (idxV (t.getD k []) (idV t)).toNat = (idV t).toNat := by
      rcases hcase with ⟨i, h5, h6, h7⟩ | ⟨_, h⟩
      · have a1 := hs.ent hkl (y := i) (by omega)
        rw [h7]; simp only [Int.toNat_natCast]
        exact ⟨by omega, by omega⟩
      · omega
    have l2 := hs.len hy.1
    have a2 := hs.ent hy.1 hkl
    refine And.intro (by omega) ?_
    refine And.intro (by omega) ?_
    refine And.intro (fun h5 => ?_) (fun h5 => ?_)
    · refine And.intro ⟨trivial, trivial, trivial, trivial⟩ ⟨?_, trivial⟩
      show false = grpB t
      symm
      rw [grpB_false]
      rintro ⟨_, e', he', hn, hi⟩
      have h6 := id_of he' hn
      obtain ⟨z, hz, hzi⟩ := hi k hkl
      have : (idV t).toNat = e' := by omega
      have h7 := inv_right hs hn hkl hy.1 hz hzi (by omega)
      have h8 := hzi.2
      rw [← h7] at h8
      refine h5 ?_
      show (t.getD (idxV (t.getD k []) (idV t)).toNat []).getD k 0 = idV t
      omega
    · have h5 : (t.getD (idxV (t.getD k []) (idV t)).toNat []).getD k 0 = idV t := h5
      refine And.intro (by omega) ?_
      refine And.intro (by omega) ?_
      refine And.intro (by omega) ?_
      refine nx (k + 1, iv.set k (idxV (t.getD k []) (idV t))) ⟨by omega, by rw [List.length_set]; exact hk.2.1, fun x hx => ?_⟩ (show t.length - (k + 1) < t.length - k by omega) (by repeat' first | refine And.intro ?_ ?_ | exact True.intro | (show (_ : Int) = (_ : Int); omega) | omega | exact rfl | (simp only [RO.len]; omega))
      by_cases hxk : x < k
      · exact hk.2.2 x hxk
      · have : x = k := by omega
        rw [this]
        exact ⟨_, hy.1, hy.2, by omega⟩
  · exact And.intro ⟨trivial, trivial, trivial, trivial⟩ ⟨grp_yes hs he fun x hx => hk.2.2 x (by omega), trivial⟩
theorem open_fn (t : List (List Int)) : QF 50 [.ro (.rows .i64 t)] (.tup [.agg [.any, .any, .any], .bool (.v (grpB t))]) := mkQ Tryz.func50 (by decide +kernel) rfl (Nat.le_of_ble_eq_true rfl) fun _ => by
  refine Or.inl (cq (valid_fn t) (And.intro rfl trivial) ?_)
  refine And.intro (fun h1 => ?_) (fun h1 => ?_)
  · refine And.intro ⟨trivial, trivial, trivial, trivial⟩ ⟨?_, trivial⟩
    show false = grpB t
    symm
    rw [grpB_false]
    intro hg
    exact h1 (valid_zero.2 hg.toSemi)
  · refine Or.inl (cq (build_fn t (valid_zero.1 h1)) (And.intro rfl trivial) ?_)
    exact And.intro ⟨trivial, trivial, trivial, trivial⟩ ⟨rfl, trivial⟩
end Go.Proofs.YtjlkhjgnfnfmgaaGreat
end
section
/- The reference's relations of Green (semigroupref15): contracts; the class of a table (semigroupref17). -/
namespace Go.Proofs.YtjlkhjgnfnfmgaaGreat
open Go Go.AM
set_option maxRecDepth 100000
def rowsB (n : Nat) (e : Nat → Nat → Bool) : List (List Bool) := (List.range n).map fun x => setB n (e x)
end Go.Proofs.YtjlkhjgnfnfmgaaGreat
end
section
/- The members of a set; regular matrices, by the reference. -/
namespace Go.Proofs.YtjlkhjgnfnfmgaaGreat
open Go Go.AM
set_option maxRecDepth 100000
def memTo (l : List Bool) (k : Nat) : List Int := ((List.range k).filter fun i => l.getD i false).map fun i : Nat => (i : Int)
def memV (l : List Bool) : List Int := memTo l l.length
theorem memTo_yes {l : List Bool} {k : Nat} (h : l.getD k false = true) : memTo l (k + 1) = memTo l k ++ [(k : Int)] := by
  unfold memTo; rw [List.range_succ, List.filter_append, List.map_append, List.filter_cons_of_pos (p := fun i => l.getD i false) h]; rfl
theorem memTo_no {l : List Bool} {k : Nat} (h : l.getD k false = false) : memTo l (k + 1) = memTo l k := by
  unfold memTo; rw [List.range_succ, List.filter_append, List.map_append, List.filter_cons_of_neg (p := fun i => l.getD i false) (by rw [h]; decide)]; exact List.append_nil _
theorem memTo_len {l : List Bool} {k : Nat} : (memTo l k).length ≤ k := by
  unfold memTo; rw [List.length_map]
  exact Nat.le_trans (List.length_filter_le _ _) (by simp)
theorem members_k (l : List Bool) (hl : l.length ≤ 4096) : fnK TY SP Tryz.f127 [.ro (.bools l)] (.new (.ints .i64 (memV l))) := by
  refine Exists.intro [] <| lp (X := Nat) (fun k => [(8, .int .i64 k), (3, .vec 17)]) (fun k => [(17, .vec 0 (.ints .i64 (memTo l k)) [])]) (fun k => k ≤ l.length) (fun k => l.length - k) 0 (Nat.zero_le _) (by repeat' first | refine And.intro ?_ ?_ | exact True.intro | (show (_ : Int) = (_ : Int); omega) | omega | exact rfl | (simp only [RO.len]; omega)) ?_
  intro k hk
  have hm := memTo_len (l := l) (k := k)
  refine And.intro (fun h1 => ?_) (fun h1 => ?_)
  · refine And.intro (by omega) ?_
    refine And.intro (fun h2 => ?_) (fun h2 => ?_)
    · have h2 : l.getD k false = true := h2
      refine And.intro (by rw [List.length_append, List.length_singleton]; omega) ?_
      refine And.intro (by omega) ?_
      refine nx (k + 1) (by omega) (show l.length - (k + 1) < l.length - k by omega) ?_
      refine And.intro (by repeat' first | refine And.intro ?_ ?_ | exact True.intro | (show (_ : Int) = (_ : Int); omega) | omega | exact rfl | (simp only [RO.len]; omega)) (And.intro (And.intro (And.intro (by omega) (Nat.zero_le _)) (congrArg (RO.ints .i64) (memTo_yes h2).symm)) ?_)
      repeat' first | refine And.intro ?_ ?_ | exact True.intro | (show (_ : Int) = (_ : Int); omega) | omega | exact rfl | (simp only [RO.len]; omega)
    · have h2 : l.getD k false = false := h2
      refine And.intro (by omega) ?_
      refine nx (k + 1) (by omega) (show l.length - (k + 1) < l.length - k by omega) ?_
      refine And.intro (by repeat' first | refine And.intro ?_ ?_ | exact True.intro | (show (_ : Int) = (_ : Int); omega) | omega | exact rfl | (simp only [RO.len]; omega)) (And.intro (And.intro (And.intro (by omega) (Nat.zero_le _)) (congrArg (RO.ints .i64) (memTo_no h2).symm)) ?_)
      repeat' first | refine And.intro ?_ ?_ | exact True.intro | (show (_ : Int) = (_ : Int); omega) | omega | exact rfl | (simp only [RO.len]; omega)
  · have h1 : k = l.length := by omega
    refine And.intro ?_ trivial
    refine And.intro rfl ?_
    show RO.ints .i64 (memTo l k) = RO.ints .i64 (memTo l l.length)
    rw [h1]
end Go.Proofs.YtjlkhjgnfnfmgaaGreat
end
section
/- Ideals of a table: plain. -/
namespace Go.Proofs.YtjlkhjgnfnfmgaaGreat
open Go Go.AM
open Classical
def setI (l : List Int) (x : Nat) : Bool := l.contains (x : Int)
theorem setI_iff {l : List Int} {x : Nat} : setI l x = true ↔ (x : Int) ∈ l := List.contains_iff_mem
theorem memV_mem {l : List Bool} {x : Int} : x ∈ memV l ↔ ∃ i : Nat, i < l.length ∧ l.getD i false = true ∧ x = (i : Int) := by
  unfold memV memTo
  simp only [List.mem_map, List.mem_filter, List.mem_range]
  constructor
  · rintro ⟨i, ⟨h1, h2⟩, rfl⟩; exact ⟨i, h1, h2, rfl⟩
  · rintro ⟨i, h1, h2, rfl⟩; exact ⟨i, ⟨h1, h2⟩, rfl⟩
theorem setB_congr {n : Nat} {f g : Nat → Bool} (h : ∀ x, x < n → f x = g x) : setB n f = setB n g :=
  List.map_congr_left fun x hx => h x (List.mem_range.1 hx)
def ascV (n : Nat) (f : Nat → Bool) : List Int := memV (setB n f)
theorem ascV_mem {n : Nat} {f : Nat → Bool} {x : Int} : x ∈ ascV n f ↔ ∃ i : Nat, i < n ∧ f i = true ∧ x = (i : Int) := by
  unfold ascV
  rw [memV_mem, setB_len]
  constructor
  · rintro ⟨i, h1, h2, h3⟩; rw [setB_get h1] at h2; exact ⟨i, h1, h2, h3⟩
  · rintro ⟨i, h1, h2, h3⟩; exact ⟨i, h1, by rw [setB_get h1]; exact h2, h3⟩
theorem ascV_congr {n : Nat} {f g : Nat → Bool} (h : ∀ x, x < n → f x = g x) : ascV n f = ascV n g := by unfold ascV; rw [setB_congr h]
theorem ascV_len (n : Nat) (f : Nat → Bool) : (ascV n f).length ≤ n := by
  have h := memTo_len (l := setB n f) (k := (setB n f).length)
  rw [setB_len] at h
  unfold ascV memV
  rw [setB_len]; exact h
theorem ascV_set {n : Nat} {f : Nat → Bool} {x : Nat} (hx : x < n) : setI (ascV n f) x = f x := by
  cases h : f x with
  | true => exact setI_iff.2 (ascV_mem.2 ⟨x, hx, h, rfl⟩)
  | false =>
    rw [Bool.eq_false_iff]
    intro h'
    obtain ⟨i, _, h2, h3⟩ := ascV_mem.1 (setI_iff.1 h')
    have : i = x := by omega
    rw [this, h] at h2; cases h2
theorem set_iff {r : List Bool} {n i : Nat} {Q : Nat → Prop} (hl : r.length = n) (h : ∀ x, x < n → (r.getD x false = true ↔ Q x)) (hi : i < n) : (r.set i true).length = n ∧ ∀ x, x < n → ((r.set i true).getD x false = true ↔ (Q x ∨ x = i)) :=
  ⟨by rw [List.length_set]; exact hl, fun x hx => by
    by_cases e : x = i
    · subst e; rw [getD_set_eq (by omega)]; simp
    · rw [getD_set_ne (Ne.symm e), h x hx]; simp [e]⟩
theorem setB_ofP {r : List Bool} {n : Nat} {f : Nat → Bool} (hl : r.length = n) (h : ∀ x, x < n → (r.getD x false = true ↔ f x = true)) : r = setB n f :=
  setB_of hl fun x hx => Bool.eq_iff_iff.2 (h x hx)
def inT (t : List (List Int)) (l : List Int) : Prop := ∀ x ∈ l, 0 ≤ x ∧ x < (t.length : Int)
instance (t : List (List Int)) (l : List Int) : Decidable (inT t l) := by unfold inT; infer_instance
def Asc (l : List Int) : Prop := ∀ i, i + 1 < l.length → l.getD i 0 < l.getD (i + 1) 0
structure AscTo (t : List (List Int)) (l : List Int) (i : Nat) : Prop where
  le : i ≤ l.length
  ins : ∀ j, j < i → 0 ≤ l.getD j 0 ∧ l.getD j 0 < (t.length : Int)
  asc : ∀ j, j + 1 < i → l.getD j 0 < l.getD (j + 1) 0
theorem AscTo.start {t : List (List Int)} {l : List Int} : AscTo t l 0 := ⟨Nat.zero_le _, fun j hj => absurd hj (Nat.not_lt_zero _), fun j hj => by omega⟩
theorem AscTo.next {t : List (List Int)} {l : List Int} {i : Nat} (h : AscTo t l i) (hi : i < l.length) (h1 : 0 ≤ l.getD i 0) (h2 : l.getD i 0 < (t.length : Int)) (h3 : 0 < i → l.getD (i - 1) 0 < l.getD i 0) : AscTo t l (i + 1) :=
  ⟨hi, fun j hj => by
    by_cases e : j = i
    · subst e; exact ⟨h1, h2⟩
    · exact h.ins j (by omega), fun j hj => by
    by_cases e : j + 1 = i
    · subst e; exact h3 (by omega)
    · exact h.asc j (by omega)⟩
theorem AscTo.done {t : List (List Int)} {l : List Int} {i : Nat} (h : AscTo t l i) (hi : l.length ≤ i) : Asc l ∧ inT t l := by
  have e : i = l.length := Nat.le_antisymm h.le hi
  subst e
  refine ⟨fun j hj => h.asc j hj, fun x hx => ?_⟩
  obtain ⟨j, hj, rfl⟩ := mem_getD 0 hx
  exact h.ins j hj
end Go.Proofs.YtjlkhjgnfnfmgaaGreat
end
section
/- Orders by a comparison; sorted lists; the lexicographic order and the order by size. Plain. -/
namespace Go.Proofs.YtjlkhjgnfnfmgaaGreat
open Go Go.AM
structure TotC {α : Type} (c : α → α → Int) : Prop where
  swap : ∀ a b, c b a = - c a b
  eq : ∀ a b, c a b = 0 → a = b
  trans : ∀ a b d, c a b < 0 → c b d < 0 → c a d < 0
theorem TotC.self {α : Type} {c : α → α → Int} (h : TotC c) (a : α) : c a a = 0 := by have := h.swap a a; omega
def cmpI (a b : Int) : Int := if a < b then -1 else if b < a then 1 else 0
theorem cmpI_tot : TotC cmpI where
  swap a b := by unfold cmpI; split <;> split <;> (try split) <;> omega
  eq a b := by unfold cmpI; split <;> (try split) <;> omega
  trans a b d := by unfold cmpI; intro h1 h2; split at h1 <;> (try split at h1) <;> split at h2 <;> (try split at h2) <;> first | omega | (rw [if_pos (by omega)]; omega)
def cmpL : List Int → List Int → Int
  | [], [] => 0 | [], _ :: _ => -1 | _ :: _, [] => 1 | a :: l, b :: m => if cmpI a b ≠ 0 then cmpI a b else cmpL l m
theorem cmpL_swap : ∀ a b : List Int, cmpL b a = - cmpL a b
  | [], [] => rfl
  | [], _ :: _ => rfl
  | _ :: _, [] => rfl
  | a :: l, b :: m => by
    have e := cmpI_tot.swap a b
    have ih := cmpL_swap l m
    simp only [cmpL]
    by_cases h : cmpI a b = 0
    · rw [if_neg (by omega), if_neg (by omega), ih]
    · rw [if_pos (by omega), if_pos h, e]
theorem cmpL_eq : ∀ a b : List Int, cmpL a b = 0 → a = b
  | [], [], _ => rfl
  | [], _ :: _, h => by simp [cmpL] at h
  | _ :: _, [], h => by simp [cmpL] at h
  | a :: l, b :: m, h => by
    simp only [cmpL] at h
    by_cases h0 : cmpI a b = 0
    · rw [if_neg (by omega)] at h
      rw [cmpI_tot.eq a b h0, cmpL_eq l m h]
    · rw [if_pos h0] at h; exact absurd h h0
theorem cmpL_trans : ∀ a b d : List Int, cmpL a b < 0 → cmpL b d < 0 → cmpL a d < 0
  | [], [], _, h, _ => by simp [cmpL] at h
  | [], _ :: _, [], _, h => by simp [cmpL] at h
  | [], _ :: _, _ :: _, _, _ => by simp [cmpL]
  | _ :: _, [], _, h, _ => by simp [cmpL] at h
  | _ :: _, _ :: _, [], _, h => by simp [cmpL] at h
  | a :: l, b :: m, d :: n, h1, h2 => by
    simp only [cmpL] at h1 h2 ⊢
    have ih := cmpL_trans l m n
    by_cases e1 : cmpI a b = 0
    · rw [if_neg (by omega)] at h1
      obtain rfl := cmpI_tot.eq a b e1
      by_cases e2 : cmpI a d = 0
      · rw [if_neg (by omega)] at h2 ⊢; exact ih h1 h2
      · rw [if_pos e2] at h2 ⊢; exact h2
    · rw [if_pos e1] at h1
      by_cases e2 : cmpI b d = 0
      · obtain rfl := cmpI_tot.eq b d e2
        rw [if_pos e1]; exact h1
      · rw [if_pos e2] at h2
        have := cmpI_tot.trans a b d h1 h2
        rw [if_pos (by omega)]; exact this
def cmpS (a b : List Int) : Int := if cmpI a.length b.length ≠ 0 then cmpI a.length b.length else cmpL a b
theorem cmpS_tot : TotC cmpS where
  swap a b := by
    have e := cmpI_tot.swap a.length b.length
    unfold cmpS
    by_cases h : cmpI (a.length : Int) b.length = 0
    · rw [if_neg (by omega), if_neg (by omega)]; exact cmpL_swap a b
    · rw [if_pos (by omega), if_pos h]; exact e
  eq a b h := by
    unfold cmpS at h
    by_cases h0 : cmpI (a.length : Int) b.length = 0
    · rw [if_neg (by omega)] at h; exact cmpL_eq a b h
    · rw [if_pos h0] at h; exact absurd h h0
  trans a b d h1 h2 := by
    unfold cmpS at *
    by_cases e1 : cmpI (a.length : Int) b.length = 0
    · rw [if_neg (by omega)] at h1
      have e1' := cmpI_tot.eq _ _ e1
      rw [e1']
      by_cases e2 : cmpI (b.length : Int) d.length = 0
      · rw [if_neg (by omega)] at h2 ⊢; exact cmpL_trans a b d h1 h2
      · rw [if_pos e2] at h2 ⊢; exact h2
    · rw [if_pos e1] at h1
      by_cases e2 : cmpI (b.length : Int) d.length = 0
      · have e2' := cmpI_tot.eq _ _ e2
        rw [← e2', if_pos e1]; exact h1
      · rw [if_pos e2] at h2
        have := cmpI_tot.trans _ _ _ h1 h2
        rw [if_pos (by omega)]; exact this
def Srt {α : Type} (c : α → α → Int) (l : List α) : Prop := l.Pairwise fun a b => c a b < 0
def srt {α : Type} (c : α → α → Int) (l : List α) : List α := l.mergeSort fun a b => decide (c a b ≤ 0)
section
variable {α : Type} {c : α → α → Int}
theorem Srt.nodup (h : TotC c) {l : List α} (hs : Srt c l) : l.Nodup := hs.imp fun {a b} hab e => by subst e; have := h.self a; omega
theorem le_trans' (h : TotC c) {a b d : α} (h1 : c a b ≤ 0) (h2 : c b d ≤ 0) : c a d ≤ 0 := by
  by_cases e1 : c a b = 0
  · obtain rfl := h.eq _ _ e1; exact h2
  · by_cases e2 : c b d = 0
    · obtain rfl := h.eq _ _ e2; exact h1
    · have := h.trans a b d (by omega) (by omega); omega
theorem srt_perm (l : List α) : (srt c l).Perm l := List.mergeSort_perm _ _
theorem srt_mem {l : List α} {x : α} : x ∈ srt c l ↔ x ∈ l := (srt_perm l).mem_iff
theorem srt_le (h : TotC c) (l : List α) : (srt c l).Pairwise fun a b => c a b ≤ 0 := by
  have := List.pairwise_mergeSort (le := fun a b => decide (c a b ≤ 0)) (fun a b d h1 h2 => decide_eq_true (le_trans' h (of_decide_eq_true h1) (of_decide_eq_true h2)))
    (fun a b => by
      have := h.swap a b
      by_cases h0 : c a b ≤ 0
      · simp [h0]
      · have : c b a ≤ 0 := by omega
        simp [this]) l
  exact this.imp fun {a b} hab => of_decide_eq_true hab
theorem srt_srt (h : TotC c) {l : List α} (hn : l.Nodup) : Srt c (srt c l) := by
  have h1 := srt_le h l
  have h2 : (srt c l).Nodup := (srt_perm l).nodup_iff.2 hn
  have := h1.and h2
  refine this.imp fun {a b} hab => ?_
  have : c a b ≠ 0 := fun e => hab.2 (h.eq _ _ e)
  omega
theorem perm_sorted (h : TotC c) : ∀ {l m : List α}, l.Pairwise (fun a b => c a b ≤ 0) → m.Pairwise (fun a b => c a b ≤ 0) → l.Perm m → l = m
  | [], m, _, _, hp => by rw [List.nil_perm.1 hp]
  | a :: l, [], _, _, hp => by have := hp.length_eq; simp at this
  | a :: l, b :: m, h1, h2, hp => by
    have h1' := List.pairwise_cons.1 h1
    have h2' := List.pairwise_cons.1 h2
    have e : a = b := by
      have ha : a ∈ b :: m := hp.mem_iff.1 (by simp)
      have hb : b ∈ a :: l := hp.mem_iff.2 (by simp)
      rcases List.mem_cons.1 ha with e | ha
      · exact e
      · rcases List.mem_cons.1 hb with e | hb
        · exact e.symm
        · have g1 := h2'.1 a ha
          have g2 := h1'.1 b hb
          have := h.swap a b
          exact h.eq _ _ (by omega)
    subst e
    rw [perm_sorted h h1'.2 h2'.2 hp.cons_inv]
theorem srt_uniq (h : TotC c) {l m : List α} (hm : m.Pairwise fun a b => c a b ≤ 0) (hp : m.Perm l) : srt c l = m :=
  perm_sorted h (srt_le h l) hm ((srt_perm l).trans hp.symm)
theorem sorted_uniq (h : TotC c) {l m : List α} (hl : Srt c l) (hm : Srt c m) (he : ∀ x, x ∈ l ↔ x ∈ m) : l = m :=
  perm_sorted h (hl.imp fun h => by omega) (hm.imp fun h => by omega) ((List.perm_ext_iff_of_nodup (hl.nodup h) (hm.nodup h)).2 he)
end
end Go.Proofs.YtjlkhjgnfnfmgaaGreat
end
section
/- All ideals of a small table: plain. Sets as a word of bits. -/
namespace Go.Proofs.YtjlkhjgnfnfmgaaGreat
open Go Go.AM
open Classical
theorem pairwise_adj {l : List Int} (h : Asc l) : l.Pairwise (· < ·) := by
  rw [List.pairwise_iff_getElem]
  have key : ∀ d i, i + d + 1 < l.length → l.getD i 0 < l.getD (i + d + 1) 0 := by
    intro d
    induction d with
    | zero => intro i hi; exact h i hi
    | succ d ih => intro i hi; have h1 := ih i (by omega); have h2 := h (i + d + 1) (by omega); rw [show i + (d + 1) + 1 = i + d + 1 + 1 by omega]; omega
  intro i j hi hj hij
  have := key (j - i - 1) i (by omega)
  rw [show i + (j - i - 1) + 1 = j by omega, getD_eq hi, getD_eq hj] at this
  exact this
theorem asc_of {l : List Int} (h : l.Pairwise (· < ·)) : Asc l := fun i hi => by
  rw [getD_eq (by omega), getD_eq hi]
  exact List.pairwise_iff_getElem.1 h i (i + 1) (by omega) hi (by omega)
theorem asc_ext {l m : List Int} (hl : Asc l) (hm : Asc m) (h : ∀ x, x ∈ l ↔ x ∈ m) : l = m := by
  have c : ∀ a b : Int, cmpI a b < 0 ↔ a < b := fun a b => by unfold cmpI; split <;> (try split) <;> omega
  exact sorted_uniq cmpI_tot ((pairwise_adj hl).imp fun hab => (c _ _).2 hab) ((pairwise_adj hm).imp fun hab => (c _ _).2 hab) h
theorem ascV_asc (n : Nat) (f : Nat → Bool) : Asc (ascV n f) := by
  refine asc_of ?_
  unfold ascV memV memTo
  rw [List.pairwise_map]
  refine List.Pairwise.imp ?_ (List.Pairwise.sublist List.filter_sublist List.pairwise_lt_range)
  intro a b h; exact_mod_cast h
theorem ascV_in {n : Nat} {f : Nat → Bool} {x : Int} (h : x ∈ ascV n f) : 0 ≤ x ∧ x < (n : Int) := by
  obtain ⟨i, h1, _, rfl⟩ := ascV_mem.1 h; omega
theorem ascV_self {n : Nat} {l : List Int} (h : Asc l) (hl : ∀ x ∈ l, 0 ≤ x ∧ x < (n : Int)) : ascV n (setI l) = l := by
  refine asc_ext (ascV_asc _ _) h fun x => ?_
  rw [ascV_mem]
  constructor
  · rintro ⟨i, _, h2, rfl⟩; exact setI_iff.1 h2
  · intro hx
    have := hl x hx
    exact ⟨x.toNat, by omega, setI_iff.2 (by rw [Int.toNat_of_nonneg this.1]; exact hx), by omega⟩
/-! ### The list of all ideals -/
theorem bits_of (f : Nat → Bool) : ∀ n, ∃ m, m < 2 ^ n ∧ ∀ i, i < n → m.testBit i = f i
  | 0 => ⟨0, by simp, fun i hi => absurd hi (Nat.not_lt_zero _)⟩
  | n + 1 => by
    obtain ⟨m, h1, h2⟩ := bits_of f n
    cases hf : f n with
    | false =>
      refine ⟨m, by rw [Nat.pow_succ]; omega, fun i hi => ?_⟩
      by_cases e : i = n
      · subst e; rw [Nat.testBit_lt_two_pow h1, hf]
      · exact h2 i (by omega)
    | true =>
      refine ⟨2 ^ n + m, by rw [Nat.pow_succ]; omega, fun i hi => ?_⟩
      by_cases e : i = n
      · subst e
        rw [Nat.testBit_two_pow_add_eq, Nat.testBit_lt_two_pow h1, hf]; rfl
      · rw [Nat.testBit_two_pow_add_gt (by omega)]; exact h2 i (by omega)
def allSets (n : Nat) : List (List Int) := (List.range (2 ^ n)).map fun m => ascV n m.testBit
theorem allSets_mem {n : Nat} {l : List Int} (h : ascV n (setI l) = l) : l ∈ allSets n := by
  obtain ⟨m, h1, h2⟩ := bits_of (setI l) n
  exact List.mem_map.2 ⟨m, List.mem_range.2 h1, by rw [ascV_congr h2, h]⟩
/-! ### Sets as words -/
end Go.Proofs.YtjlkhjgnfnfmgaaGreat
end
section
/- The kernel is the least ideal; the lattice of ideals: plain. -/
namespace Go.Proofs.YtjlkhjgnfnfmgaaGreat
open Go Go.AM
theorem ascV_sub {n : Nat} {f g : Nat → Bool} (h : ∀ x, x < n → f x = true → g x = true) : (ascV n f).Sublist (ascV n g) := by
  unfold ascV memV memTo
  rw [setB_len, setB_len]
  refine List.Sublist.map _ ?_
  have e : (List.range n).filter (fun i => (setB n f).getD i false) = ((List.range n).filter (fun i => (setB n g).getD i false)).filter (fun i => (setB n f).getD i false) := by
    rw [List.filter_filter]
    refine List.filter_congr fun x hx => ?_
    have hx := List.mem_range.1 hx
    rw [setB_get hx, setB_get hx]
    cases e : f x
    · rfl
    · rw [h x hx e]; rfl
  rw [e]; exact List.filter_sublist
end Go.Proofs.YtjlkhjgnfnfmgaaGreat
end
