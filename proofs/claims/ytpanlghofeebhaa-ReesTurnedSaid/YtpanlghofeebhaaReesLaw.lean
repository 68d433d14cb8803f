import Derived.Test.YtpanlghofeebhaaMult
section
/- Tables and groups, of the program and of the reference: their contracts. -/
namespace Go.Proofs.Ytpanlghofeebhaa
open Go Go.AM
set_option maxRecDepth 100000
set_option maxHeartbeats 4000000 in
theorem rshape_k (t : List (List Int)) : fnK TY SP Try.f65 [.ro (.rows .i64 t)] (.int .i64 (shapeV t)) := shape_k t
theorem rshape_fn (t : List (List Int)) : QF 65 [.ro (.rows .i64 t)] (.int .i64 (shapeV t)) := mkQ Try.func65 (by decide +kernel) rfl (Nat.le_of_ble_eq_true rfl) fun _ => rshape_k t
theorem assoc_k (t : List (List Int)) : fnEK TY SP Try.f68 [.ro (.rows .i64 t)] (fun x : Int × Int × Int => .tup [.int .i64 x.1, .int .i64 x.2.1, .int .i64 x.2.2, .int .i64 (validV t)]) (fun _ => True) := by
  refine Or.inl (cq (rshape_fn t) (And.intro rfl trivial) ?_)
  refine And.intro (fun h1 => ?_) (fun h1 => ?_)
  · refine Exists.intro (0, 0, 0) (And.intro trivial ⟨rfl, rfl, rfl, ?_, trivial⟩)
    show shapeV t = validV t
    unfold validV; rw [if_pos h1]
  have hs := shape_zero.1 h1
  have hpos := hs.pos
  have hmost := hs.most
  refine Exists.intro [] <| lp (X := Nat) (fun x => [(17, .int .i64 x)]) (fun _ => []) (fun x => x ≤ t.length ∧ ∀ x' y z, x' < x → y < t.length → z < t.length → en t (en t x' y) z = en t x' (en t y z)) (fun x => t.length - x) 0 ⟨Nat.zero_le _, by omega⟩ ⟨⟨rfl, trivial⟩, trivial⟩ ?_
  intro x hx
  refine And.intro (fun h2 => ?_) (fun h2 => ?_)
  · refine Exists.intro [] <| lp (X := Nat) (fun y => [(22, .int .i64 y)]) (fun _ => []) (fun y => y ≤ t.length ∧ ∀ y' z, y' < y → z < t.length → en t (en t x y') z = en t x (en t y' z)) (fun y => t.length - y) 0 ⟨Nat.zero_le _, by omega⟩ ⟨⟨rfl, trivial⟩, trivial⟩ ?_
    intro y hy
    refine And.intro (fun h3 => ?_) (fun h3 => ?_)
    · refine Exists.intro [] <| lp (X := Nat) (fun z => [(27, .int .i64 z)]) (fun _ => []) (fun z => z ≤ t.length ∧ ∀ z', z' < z → en t (en t x y) z' = en t x (en t y z')) (fun z => t.length - z) 0 ⟨Nat.zero_le _, by omega⟩ ⟨⟨rfl, trivial⟩, trivial⟩ ?_
      intro z hz
      refine And.intro (fun h4 => ?_) (fun h4 => ?_)
      · have hxl : x < t.length := by omega
        have hyl : y < t.length := by omega
        have hzl : z < t.length := by omega
        have a1 := hs.ent hxl hyl
        have a2 := hs.ent a1.2 hzl
        have a3 := hs.ent hyl hzl
        have a4 := hs.ent hxl a3.2
        have l1 := hs.len hxl
        have l2 := hs.len hyl
        have l3 := hs.len a1.2
        refine Or.inl <| Exists.intro [false, false, false, false, false, false, false, false, false, false, false, false, false, false, false, false, false, false, false, false, false, false, false, false, false, false, false] (And.intro (by decide +kernel) ?_)
        refine And.intro (by omega) ?_
        refine And.intro (by simp only [Int.toNat_natCast]; omega) ?_
        refine And.intro (by simp only [Int.toNat_natCast]; omega) ?_
        refine And.intro (show 0 ≤ (z : Int) ∧ (z : Int) < ((t.getD (en t x y) []).length : Int) by omega) ?_
        refine And.intro (by omega) ?_
        refine And.intro (by omega) ?_
        refine And.intro (by simp only [Int.toNat_natCast]; omega) ?_
        refine And.intro (by simp only [Int.toNat_natCast]; omega) ?_
        refine And.intro (fun h5 => ?_) (fun h5 => ?_)
        · have h5 : (t.getD (en t x y) []).getD z 0 ≠ (t.getD x []).getD (en t y z) 0 := h5
          rw [a2.1, a4.1] at h5
          refine Exists.intro ((x : Int), (y : Int), (z : Int)) (And.intro trivial ⟨rfl, rfl, rfl, ?_, trivial⟩)
          show (5 : Int) = validV t
          unfold validV
          rw [if_neg (by omega), if_neg]
          intro ha
          exact h5 (congrArg _ (ha y hyl x z hxl hzl))
        · have h5 : (t.getD (en t x y) []).getD z 0 = (t.getD x []).getD (en t y z) 0 := h5
          rw [a2.1, a4.1] at h5
          refine And.intro (by omega) ?_
          refine nx (z + 1) ⟨by omega, fun z' hz' => ?_⟩ (show t.length - (z + 1) < t.length - z by omega) ⟨⟨rfl, trivial⟩, trivial⟩
          by_cases hzz : z' < z
          · exact hz.2 z' hzz
          · have : z' = z := by omega
            rw [this]; exact_mod_cast h5
      · refine And.intro (by omega) ?_
        refine nx (y + 1) ⟨by omega, fun y' z hy' hz' => ?_⟩ (show t.length - (y + 1) < t.length - y by omega) ⟨⟨rfl, trivial⟩, trivial⟩
        by_cases hyy : y' < y
        · exact hy.2 y' z hyy hz'
        · have : y' = y := by omega
          rw [this]; exact hz.2 z (by omega)
    · refine And.intro (by omega) ?_
      refine nx (x + 1) ⟨by omega, fun x' y z hx' hy' hz' => ?_⟩ (show t.length - (x + 1) < t.length - x by omega) ⟨⟨rfl, trivial⟩, trivial⟩
      by_cases hxx : x' < x
      · exact hx.2 x' y z hxx hy' hz'
      · have : x' = x := by omega
        rw [this]; exact hy.2 y z (by omega) hz'
  · refine Exists.intro (0, 0, 0) (And.intro trivial ⟨rfl, rfl, rfl, ?_, trivial⟩)
    show 0 = validV t
    symm
    rw [valid_zero]
    exact ⟨hs, fun g hg x y hx' hy' => hx.2 x g y (by omega) hg hy'⟩
theorem rvalidate_fn (t : List (List Int)) : QF 22 [.ro (.rows .i64 t)] (.int .i64 (validV t)) := mkQ Try.func22 (by decide +kernel) rfl (Nat.le_of_ble_eq_true rfl) fun _ => by
  refine Or.inr (Or.inr (ce (mkE Try.func68 (by decide +kernel) rfl (Nat.le_of_ble_eq_true rfl) fun _ => assoc_k t) (And.intro rfl trivial) fun x _ => ?_))
  exact And.intro rfl trivial
theorem rvalid_fn (t : List (List Int)) : QF 26 [.ro (.rows .i64 t)] (.bool (.v (decide (validV t = 0)))) := mkQ Try.func26 (by decide +kernel) rfl (Nat.le_of_ble_eq_true rfl) fun _ => by
  refine Or.inl (cq (rvalidate_fn t) (And.intro rfl trivial) ?_)
  exact And.intro rfl trivial
theorem id_step {t : List (List Int)} {k j : Nat} {b : Bool} (h : b = true ↔ ∀ x, x < j → en t k x = x ∧ en t x k = x) (hb : b = true) (h1 : (t.getD k []).getD j 0 = (j : Int)) (e1 : (t.getD k []).getD j 0 = (en t k j : Int)) (e2 : (t.getD j []).getD k 0 = (en t j k : Int)) :
    decide ((t.getD j []).getD k 0 = (j : Int)) = true ↔ ∀ x, x < j + 1 → en t k x = x ∧ en t x k = x := by
  rw [decide_eq_true_iff]
  constructor
  · intro h2 x hx
    by_cases hxj : x < j
    · exact h.1 hb x hxj
    · have : x = j := by omega
      rw [this]; exact ⟨by omega, by omega⟩
  · intro h2
    have := h2 j (by omega)
    omega
theorem id_stop {t : List (List Int)} {k j : Nat} (e1 : (t.getD k []).getD j 0 = (en t k j : Int)) (h1 : ¬ (t.getD k []).getD j 0 = (j : Int)) :
    false = true ↔ ∀ x, x < j + 1 → en t k x = x ∧ en t x k = x :=
  ⟨fun h => (by cases h), fun h => (by have := h j (by omega); omega)⟩
theorem id_past {t : List (List Int)} {k j : Nat} {b : Bool} (h : b = true ↔ ∀ x, x < j → en t k x = x ∧ en t x k = x) (hb : b = false) :
    false = true ↔ ∀ x, x < j + 1 → en t k x = x ∧ en t x k = x :=
  ⟨fun h => (by cases h), fun h2 => (by rw [← hb]; exact h.2 fun x hx => h2 x (by omega))⟩
theorem rid_fn (t : List (List Int)) (hs : Sh t) : QF 124 [.ro (.rows .i64 t)] (.int .i64 (idV t)) := mkQ Try.func124 (by decide +kernel) rfl (Nat.le_of_ble_eq_true rfl) fun _ => by
  have hpos := hs.pos
  have hmost := hs.most
  refine Exists.intro [] <| lp (X := Nat) (fun k => [(8, .int .i64 k)]) (fun _ => []) (fun k => k ≤ t.length ∧ ∀ j, j < k → ¬ Neutral t j) (fun k => t.length - k) 0 ⟨Nat.zero_le _, by omega⟩ ⟨⟨rfl, trivial⟩, trivial⟩ ?_
  intro k hk
  refine And.intro (fun h1 => ?_) (fun h1 => ?_)
  · have hkl : k < t.length := by omega
    refine Exists.intro [] <| lp2 (fun (j : Nat) (b : Bool) => [(13, .int .i64 j), (4, .bool (.v b))]) (fun _ _ => []) (fun j b => j ≤ t.length ∧ (b = true ↔ ∀ x, x < j → en t k x = x ∧ en t x k = x)) (fun j _ => t.length - j) 0 true ⟨Nat.zero_le _, by simp⟩ ⟨⟨rfl, rfl, trivial⟩, trivial⟩ ?_
    intro j b hj
    refine And.intro (fun h2 => ?_) (fun h2 => ?_)
    · have hjl : j < t.length := by omega
      have a1 := hs.ent hkl hjl
      have a2 := hs.ent hjl hkl
      have l1 := hs.len hkl
      have l2 := hs.len hjl
      refine And.intro (fun h3 => ?_) (fun h3 => ?_)
      · refine And.intro (by omega) ?_
        refine And.intro (by simp only [Int.toNat_natCast]; omega) ?_
        refine And.intro (fun h4 => ?_) (fun h4 => ?_)
        · refine And.intro (by omega) ?_
          refine And.intro (by simp only [Int.toNat_natCast]; omega) ?_
          refine And.intro (by omega) ?_
          refine nx (j + 1, decide ((t.getD j []).getD k 0 = (j : Int))) ⟨by omega, ?_⟩ (show t.length - (j + 1) < t.length - j by omega) ⟨⟨rfl, rfl, trivial⟩, trivial⟩
          exact id_step hj.2 h3 (by simpa using h4) a1.1 a2.1
        · refine And.intro (by omega) ?_
          refine nx (j + 1, false) ⟨by omega, ?_⟩ (show t.length - (j + 1) < t.length - j by omega) ⟨⟨rfl, rfl, trivial⟩, trivial⟩
          exact id_stop a1.1 (by simpa using h4)
      · refine And.intro (by omega) ?_
        refine nx (j + 1, false) ⟨by omega, ?_⟩ (show t.length - (j + 1) < t.length - j by omega) ⟨⟨rfl, rfl, trivial⟩, trivial⟩
        exact id_past hj.2 h3
    · refine And.intro (fun h3 => ?_) (fun h3 => ?_)
      · refine And.intro (show (k : Int) = idV t from ?_) trivial
        rw [id_of hkl (fun x hx => hj.2.1 h3 x (by omega))]
      · refine And.intro (by omega) ?_
        refine nx (k + 1) ⟨by omega, fun j' hj' => ?_⟩ (show t.length - (k + 1) < t.length - k by omega) ⟨⟨rfl, trivial⟩, trivial⟩
        by_cases hjk : j' < k
        · exact hk.2 j' hjk
        · have : j' = k := by omega
          rw [this]
          intro hn
          have := hj.2.2 (fun x hx => hn x (by omega))
          rw [h3] at this; cases this
  · refine And.intro (show (-1 : Int) = idV t from ?_) trivial
    rw [id_none (fun e he => hk.2 e (by omega))]
theorem gid_fn (t : List (List Int)) (hs : Sh t) : QF 165 [.ro (.rows .i64 t)] (.int .i64 (idV t)) := mkQ Try.func165 (by decide +kernel) rfl (Nat.le_of_ble_eq_true rfl) fun _ => by
  have hpos := hs.pos
  have hmost := hs.most
  refine Exists.intro [] <| lp (X := Nat) (fun k => [(9, .int .i64 k)]) (fun _ => []) (fun k => k ≤ t.length ∧ ∀ j, j < k → ¬ Neutral t j) (fun k => t.length - k) 0 ⟨Nat.zero_le _, by omega⟩ ⟨⟨rfl, trivial⟩, trivial⟩ ?_
  intro k hk
  refine And.intro (fun h1 => ?_) (fun h1 => ?_)
  · refine And.intro (by omega) ?_
    have hkl : k < t.length := by omega
    refine Exists.intro [] <| lp2 (fun (j : Nat) (b : Bool) => [(16, .int .i64 j), (5, .bool (.v b))]) (fun _ _ => []) (fun j b => j ≤ t.length ∧ (b = true ↔ ∀ x, x < j → en t k x = x ∧ en t x k = x)) (fun j _ => t.length - j) 0 true ⟨Nat.zero_le _, by simp⟩ ⟨⟨rfl, rfl, trivial⟩, trivial⟩ ?_
    intro j b hj
    refine And.intro (fun h2 => ?_) (fun h2 => ?_)
    · have hjl : j < t.length := by omega
      have a1 := hs.ent hkl hjl
      have a2 := hs.ent hjl hkl
      have l1 := hs.len hkl
      have l2 := hs.len hjl
      refine And.intro (fun h3 => ?_) (fun h3 => ?_)
      · refine And.intro (by simp only [Int.toNat_natCast]; omega) ?_
        refine And.intro (fun h4 => ?_) (fun h4 => ?_)
        · refine And.intro (by omega) ?_
          refine And.intro (by simp only [Int.toNat_natCast]; omega) ?_
          refine And.intro (by omega) ?_
          refine nx (j + 1, decide ((t.getD j []).getD k 0 = (j : Int))) ⟨by omega, ?_⟩ (show t.length - (j + 1) < t.length - j by omega) ⟨⟨rfl, rfl, trivial⟩, trivial⟩
          exact id_step hj.2 h3 (by simpa using h4) a1.1 a2.1
        · refine And.intro (by omega) ?_
          refine nx (j + 1, false) ⟨by omega, ?_⟩ (show t.length - (j + 1) < t.length - j by omega) ⟨⟨rfl, rfl, trivial⟩, trivial⟩
          exact id_stop a1.1 (by simpa using h4)
      · refine And.intro (by omega) ?_
        refine nx (j + 1, false) ⟨by omega, ?_⟩ (show t.length - (j + 1) < t.length - j by omega) ⟨⟨rfl, rfl, trivial⟩, trivial⟩
        exact id_past hj.2 h3
    · refine And.intro (fun h3 => ?_) (fun h3 => ?_)
      · refine And.intro (show (k : Int) = idV t from ?_) trivial
        rw [id_of hkl (fun x hx => hj.2.1 h3 x (by omega))]
      · refine And.intro (by omega) ?_
        refine nx (k + 1) ⟨by omega, fun j' hj' => ?_⟩ (show t.length - (k + 1) < t.length - k by omega) ⟨⟨rfl, trivial⟩, trivial⟩
        by_cases hjk : j' < k
        · exact hk.2 j' hjk
        · have : j' = k := by omega
          rw [this]
          intro hn
          have := hj.2.2 (fun x hx => hn x (by omega))
          rw [h3] at this; cases this
  · refine And.intro (show (-1 : Int) = idV t from ?_) trivial
    rw [id_none (fun e he => hk.2 e (by omega))]
noncomputable def idxV (l : List Int) (v : Int) : Int := open Classical in if h : ∃ i : Nat, i < l.length ∧ l.getD i 0 = v ∧ ∀ j, j < i → l.getD j 0 ≠ v then ((Classical.choose h : Nat) : Int) else -1
theorem idx_of {l : List Int} {v : Int} {i : Nat} (hi : i < l.length) (h : l.getD i 0 = v) (hj : ∀ j, j < i → l.getD j 0 ≠ v) : idxV l v = i := by
  have hx : ∃ i : Nat, i < l.length ∧ l.getD i 0 = v ∧ ∀ j, j < i → l.getD j 0 ≠ v := ⟨i, hi, h, hj⟩
  unfold idxV
  rw [dif_pos hx]
  have := Classical.choose_spec hx
  rcases Nat.lt_trichotomy (Classical.choose hx) i with h1 | h1 | h1
  · exact absurd this.2.1 (hj _ h1)
  · rw [h1]
  · exact absurd h (this.2.2 _ h1)
theorem idx_none {l : List Int} {v : Int} (hj : ∀ j, j < l.length → l.getD j 0 ≠ v) : idxV l v = -1 := by
  unfold idxV
  rw [dif_neg]
  rintro ⟨i, hi, h, _⟩
  exact hj i hi h
theorem idx_cases (l : List Int) (v : Int) : (∃ i : Nat, i < l.length ∧ l.getD i 0 = v ∧ idxV l v = i) ∨ ((∀ j, j < l.length → l.getD j 0 ≠ v) ∧ idxV l v = -1) := by
  by_cases h : ∃ i : Nat, i < l.length ∧ l.getD i 0 = v
  · have key : ∀ n i : Nat, i < n → i < l.length → l.getD i 0 = v → ∃ i : Nat, i < l.length ∧ l.getD i 0 = v ∧ ∀ j, j < i → l.getD j 0 ≠ v := by
      intro n
      induction n with
      | zero => intro i hi; omega
      | succ n ih =>
        intro i hi hl hv
        by_cases hj : ∃ j, j < i ∧ l.getD j 0 = v
        · obtain ⟨j, h1, h2⟩ := hj; exact ih j (by omega) (by omega) h2
        · exact ⟨i, hl, hv, fun j hji he => hj ⟨j, hji, he⟩⟩
    obtain ⟨i, hi, hv⟩ := h
    obtain ⟨i, h1, h2, h3⟩ := key (i + 1) i (by omega) hi hv
    exact .inl ⟨i, h1, h2, idx_of h1 h2 h3⟩
  · have h' : ∀ j, j < l.length → l.getD j 0 ≠ v := fun j hj he => h ⟨j, hj, he⟩
    exact .inr ⟨h', idx_none h'⟩
theorem index_k (l : List Int) (v : Int) (hl : l.length ≤ 140737488355328) : fnK TY SP Try.f166 [.ro (.ints .i64 l), .int .i64 v] (.int .i64 (idxV l v)) := by
  refine Exists.intro [] <| lp (X := Nat) (fun k => [(8, .int .i64 k)]) (fun _ => []) (fun k => k ≤ l.length ∧ ∀ j, j < k → l.getD j 0 ≠ v) (fun k => l.length - k) 0 ⟨Nat.zero_le _, by omega⟩ ⟨⟨rfl, trivial⟩, trivial⟩ ?_
  intro k hk
  refine And.intro (fun h1 => ?_) (fun h1 => ?_)
  · refine And.intro (by omega) ?_
    refine And.intro (fun h2 => ?_) (fun h2 => ?_)
    · refine And.intro (show (k : Int) = idxV l v from ?_) trivial
      exact (idx_of (by omega) (by simpa using h2.symm) hk.2).symm
    · refine And.intro (by omega) ?_
      refine nx (k + 1) ⟨by omega, fun j hj => ?_⟩ (show l.length - (k + 1) < l.length - k by omega) ⟨⟨rfl, trivial⟩, trivial⟩
      by_cases hjk : j < k
      · exact hk.2 j hjk
      · have : j = k := by omega
        rw [this]; exact fun he => h2 (by simpa using he.symm)
  · refine And.intro (show -1 = idxV l v from ?_) trivial
    exact (idx_none (fun j hj => hk.2 j (by omega))).symm
theorem index_fn (l : List Int) (v : Int) : QF 166 [.ro (.ints .i64 l), .int .i64 v] (.int .i64 (idxV l v)) := mkQ Try.func166 (by decide +kernel) rfl (Nat.le_of_ble_eq_true rfl) fun hf => index_k l v hf.1.1
theorem rinv_k (t : List (List Int)) (hs : Sh t) (e x : Nat) (he : idV t = e) (hx : x < t.length) :
    fnEK TY SP Try.f125 [.ro (.rows .i64 t), .int .i64 x] (fun v : Int => .int .i64 v) (fun v => (∃ y : Nat, v = y ∧ y < t.length ∧ Inv t e x y) ∨ (v = -1 ∧ ∀ y, y < t.length → ¬ Inv t e x y)) := by
  have hpos := hs.pos
  have hmost := hs.most
  refine Or.inl (cq (rid_fn t hs) (And.intro rfl trivial) ?_)
  refine Exists.intro [] <| lp (X := Nat) (fun k => [(11, .int .i64 k)]) (fun _ => []) (fun k => k ≤ t.length ∧ ∀ y, y < k → ¬ Inv t e x y) (fun k => t.length - k) 0 ⟨Nat.zero_le _, by omega⟩ ⟨⟨rfl, trivial⟩, trivial⟩ ?_
  intro k hk
  refine And.intro (fun h1 => ?_) (fun h1 => ?_)
  · have hkl : k < t.length := by omega
    have a1 := hs.ent hx hkl
    have a2 := hs.ent hkl hx
    have l1 := hs.len hx
    have l2 := hs.len hkl
    refine And.intro (by omega) ?_
    refine And.intro (by simp only [Int.toNat_natCast]; omega) ?_
    refine And.intro (fun h2 => ?_) (fun h2 => ?_)
    · simp only [Int.toNat_natCast] at h2
      refine And.intro (by omega) ?_
      refine And.intro (by simp only [Int.toNat_natCast]; omega) ?_
      refine And.intro (fun h3 => ?_) (fun h3 => ?_)
      · simp only [Int.toNat_natCast] at h3
        refine Exists.intro (k : Int) (And.intro (.inl ⟨k, rfl, hkl, by omega, by omega⟩) ⟨rfl, trivial⟩)
      · simp only [Int.toNat_natCast] at h3
        refine And.intro (by omega) ?_
        refine nx (k + 1) ⟨by omega, fun y hy => ?_⟩ (show t.length - (k + 1) < t.length - k by omega) ⟨⟨rfl, trivial⟩, trivial⟩
        by_cases hyk : y < k
        · exact hk.2 y hyk
        · have : y = k := by omega
          rw [this]; intro hi; have := hi.2; omega
    · simp only [Int.toNat_natCast] at h2
      refine And.intro (by omega) ?_
      refine nx (k + 1) ⟨by omega, fun y hy => ?_⟩ (show t.length - (k + 1) < t.length - k by omega) ⟨⟨rfl, trivial⟩, trivial⟩
      by_cases hyk : y < k
      · exact hk.2 y hyk
      · have : y = k := by omega
        rw [this]; intro hi; have := hi.1; omega
  · refine Exists.intro (-1) (And.intro (.inr ⟨rfl, fun y hy => hk.2 y (by omega)⟩) ⟨rfl, trivial⟩)
theorem rinv_fn (t : List (List Int)) (hs : Sh t) (e x : Nat) (he : idV t = e) (hx : x < t.length) :
    EF 125 [.ro (.rows .i64 t), .int .i64 x] (fun v : Int => .int .i64 v) (fun v => (∃ y : Nat, v = y ∧ y < t.length ∧ Inv t e x y) ∨ (v = -1 ∧ ∀ y, y < t.length → ¬ Inv t e x y)) :=
  mkE Try.func125 (by decide +kernel) rfl (Nat.le_of_ble_eq_true rfl) fun _ => rinv_k t hs e x he hx
theorem grp_no_id {t : List (List Int)} (h : idV t < 0) : false = grpB t := by
  symm
  rw [grpB_false]
  rintro ⟨_, e, he, hn, _⟩
  rw [id_of he hn] at h
  omega
theorem grp_no_inv {t : List (List Int)} {e x : Nat} (_hs : Sh t) (he : idV t = e) (hx : x < t.length) (h : ∀ y, y < t.length → ¬ Inv t e x y) : false = grpB t := by
  symm
  rw [grpB_false]
  rintro ⟨_, e', he', hn, hi⟩
  rw [id_of he' hn] at he
  have : e' = e := by omega
  subst this
  obtain ⟨y, hy, hyi⟩ := hi x hx
  exact h y hy hyi
theorem grp_yes {t : List (List Int)} {e : Nat} (hs : Semi t) (he : idV t = e) (h : ∀ x, x < t.length → ∃ y, y < t.length ∧ Inv t e x y) : true = grpB t := by
  symm
  rw [grpB_true]
  rcases id_cases t with ⟨e', he', hn, h'⟩ | ⟨_, h'⟩
  · have : e' = e := by omega
    subst this
    exact ⟨hs, e', he', hn, h⟩
  · omega
theorem rgroup_fn (t : List (List Int)) : QF 83 [.ro (.rows .i64 t)] (.bool (.v (grpB t))) := mkQ Try.func83 (by decide +kernel) rfl (Nat.le_of_ble_eq_true rfl) fun _ => by
  refine Or.inl (cq (rvalid_fn t) (And.intro rfl trivial) ?_)
  refine And.intro (fun h1 => ?_) (fun h1 => ?_)
  · refine And.intro (show false = grpB t from ?_) trivial
    symm
    rw [grpB_false]
    intro hg
    rw [valid_zero.2 hg.toSemi] at h1
    cases h1
  have hs : Semi t := valid_zero.1 (by simpa using h1)
  have hpos := hs.pos
  have hmost := hs.most
  refine Or.inl (cq (rid_fn t hs.toSh) (And.intro rfl trivial) ?_)
  refine And.intro (fun h2 => ?_) (fun h2 => ?_)
  · refine And.intro (grp_no_id h2) trivial
  have he : idV t = ((idV t).toNat : Int) := by omega
  refine Exists.intro [] <| lp (X := Nat) (fun k => [(14, .int .i64 k)]) (fun _ => []) (fun k => k ≤ t.length ∧ ∀ x, x < k → ∃ y, y < t.length ∧ Inv t (idV t).toNat x y) (fun k => t.length - k) 0 ⟨Nat.zero_le _, by omega⟩ ⟨⟨rfl, trivial⟩, trivial⟩ ?_
  intro k hk
  refine And.intro (fun h3 => ?_) (fun h3 => ?_)
  · refine Or.inr (Or.inr (ce (rinv_fn t hs.toSh (idV t).toNat k he (by omega)) (And.intro rfl (And.intro rfl trivial)) fun v hv => ?_))
    refine And.intro (fun h4 => ?_) (fun h4 => ?_)
    · refine And.intro (grp_no_inv hs.toSh he (x := k) (by omega) ?_) trivial
      rcases hv with ⟨y, hy, _⟩ | ⟨_, hv⟩
      · omega
      · exact hv
    · refine And.intro (by omega) ?_
      refine nx (k + 1) ⟨by omega, fun x hx => ?_⟩ (show t.length - (k + 1) < t.length - k by omega) ⟨⟨rfl, trivial⟩, trivial⟩
      by_cases hxk : x < k
      · exact hk.2 x hxk
      · have : x = k := by omega
        rw [this]
        rcases hv with ⟨y, _, hy⟩ | ⟨hv, _⟩
        · exact ⟨y, hy⟩
        · omega
  · refine And.intro (show true = grpB t from ?_) trivial
    exact grp_yes hs he fun x hx => hk.2 x (by omega)
theorem build_fn (t : List (List Int)) (hs : Semi t) : QF 147 [.ro (.rows .i64 t)] (.tup [.agg [.any, .any, .any], .bool (.v (grpB t))]) := mkQ Try.func147 (by decide +kernel) rfl (Nat.le_of_ble_eq_true rfl) fun _ => by
  have hpos := hs.pos
  have hmost := hs.most
  refine Or.inl (cq (gid_fn t hs.toSh) (And.intro rfl trivial) ?_)
  refine And.intro (fun h1 => ?_) (fun h1 => ?_)
  · exact And.intro ⟨trivial, trivial, trivial, trivial⟩ ⟨grp_no_id h1, trivial⟩
  have he : idV t = ((idV t).toNat : Int) := by omega
  refine And.intro (by omega) ?_
  refine And.intro (by omega) ?_
  refine Exists.intro [] <| lp2 (fun (k : Nat) (iv : List Int) => [(19, .int .i64 k)]) (fun _ iv => [(16, .vec 0 (.ints .i64 iv) [])]) (fun k iv => k ≤ t.length ∧ iv.length = t.length ∧ ∀ x, x < k → ∃ y, y < t.length ∧ Inv t (idV t).toNat x y) (fun k _ => t.length - k) 0 (List.replicate t.length 0) ⟨Nat.zero_le _, by simp, by omega⟩ (by repeat' first | refine And.intro ?_ ?_ | exact True.intro | (show (_ : Int) = (_ : Int); omega) | omega | exact rfl | (simp only [RO.len]; omega)) ?_
  intro k iv hk
  refine And.intro (fun h3 => ?_) (fun h3 => ?_)
  · have hkl : k < t.length := by omega
    have l1 := hs.len hkl
    refine And.intro (by omega) ?_
    refine Or.inl (cq (index_fn (t.getD k []) (idV t)) (And.intro rfl (And.intro rfl trivial)) ?_)
    have hcase := idx_cases (t.getD k []) (idV t)
    refine And.intro (fun h4 => ?_) (fun h4 => ?_)
    · refine And.intro ⟨trivial, trivial, trivial, trivial⟩ ⟨grp_no_inv hs.toSh he hkl fun y hy hi => ?_, trivial⟩
      have a1 := hs.ent hkl hy
      rcases hcase with ⟨i, _, _, h⟩ | ⟨h, _⟩
      · omega
      · exact h y (by omega) (by rw [a1.1, hi.1]; omega)
    have hy : (idxV (t.getD k []) (idV t)).toNat < t.length ∧ en t k (idxV (t.getD k []) (idV t)).toNat = (idV t).toNat := by
      rcases hcase with ⟨i, h5, h6, h7⟩ | ⟨_, h⟩
      · have a1 := hs.ent hkl (y := i) (by omega)
        rw [h7]; simp only [Int.toNat_natCast]
        exact ⟨by omega, by omega⟩
      · omega
    have l2 := hs.len hy.1
    have a2 := hs.ent hy.1 hkl
    refine And.intro (by omega) ?_
    refine And.intro (by omega) ?_
    refine And.intro (fun h5 => ?_) (fun h5 => ?_)
    · refine And.intro ⟨trivial, trivial, trivial, trivial⟩ ⟨?_, trivial⟩
      show false = grpB t
      symm
      rw [grpB_false]
      rintro ⟨_, e', he', hn, hi⟩
      have h6 := id_of he' hn
      obtain ⟨z, hz, hzi⟩ := hi k hkl
      have : (idV t).toNat = e' := by omega
      have h7 := inv_right hs hn hkl hy.1 hz hzi (by omega)
      have h8 := hzi.2
      rw [← h7] at h8
      refine h5 ?_
      show (t.getD (idxV (t.getD k []) (idV t)).toNat []).getD k 0 = idV t
      omega
    · have h5 : (t.getD (idxV (t.getD k []) (idV t)).toNat []).getD k 0 = idV t := h5
      refine And.intro (by omega) ?_
      refine And.intro (by omega) ?_
      refine And.intro (by omega) ?_
      refine nx (k + 1, iv.set k (idxV (t.getD k []) (idV t))) ⟨by omega, by rw [List.length_set]; exact hk.2.1, fun x hx => ?_⟩ (show t.length - (k + 1) < t.length - k by omega) (by repeat' first | refine And.intro ?_ ?_ | exact True.intro | (show (_ : Int) = (_ : Int); omega) | omega | exact rfl | (simp only [RO.len]; omega))
      by_cases hxk : x < k
      · exact hk.2.2 x hxk
      · have : x = k := by omega
        rw [this]
        exact ⟨_, hy.1, hy.2, by omega⟩
  · exact And.intro ⟨trivial, trivial, trivial, trivial⟩ ⟨grp_yes hs he fun x hx => hk.2.2 x (by omega), trivial⟩
theorem open_fn (t : List (List Int)) : QF 119 [.ro (.rows .i64 t)] (.tup [.agg [.any, .any, .any], .bool (.v (grpB t))]) := mkQ Try.func119 (by decide +kernel) rfl (Nat.le_of_ble_eq_true rfl) fun _ => by
  refine Or.inl (cq (valid_fn t) (And.intro rfl trivial) ?_)
  refine And.intro (fun h1 => ?_) (fun h1 => ?_)
  · refine And.intro ⟨trivial, trivial, trivial, trivial⟩ ⟨?_, trivial⟩
    show false = grpB t
    symm
    rw [grpB_false]
    intro hg
    exact h1 (valid_zero.2 hg.toSemi)
  · refine Or.inl (cq (build_fn t (valid_zero.1 h1)) (And.intro rfl trivial) ?_)
    exact And.intro ⟨trivial, trivial, trivial, trivial⟩ ⟨rfl, trivial⟩
theorem isgroup_fn (t : List (List Int)) : QF 77 [.ro (.rows .i64 t)] (.bool (.v (grpB t))) := mkQ Try.func77 (by decide +kernel) rfl (Nat.le_of_ble_eq_true rfl) fun _ => by
  refine Or.inl (cq (open_fn t) (And.intro rfl trivial) ?_)
  exact And.intro rfl trivial
end Go.Proofs.Ytpanlghofeebhaa
end
section
/- The law's guard: valid and of few elements: contract. -/
namespace Go.Proofs.Ytpanlghofeebhaa
open Go Go.AM
set_option maxRecDepth 100000
theorem small_fn (t : List (List Int)) (m : Int) : QF 6 [.ro (.rows .i64 t), .int .i64 m] (.bool (.v (decide (t.length ≤ m ∧ validV t = 0)))) := mkQ Try.func6 (by decide +kernel) rfl (Nat.le_of_ble_eq_true rfl) fun _ => by
  refine And.intro (fun h1 => ?_) (fun h1 => ?_)
  · refine Or.inl (cq (rvalid_fn t) (And.intro rfl trivial) ?_)
    refine And.intro ?_ trivial
    show decide (validV t = 0) = decide ((t.length : Int) ≤ m ∧ validV t = 0)
    have h1 : (t.length : Int) ≤ m := h1
    simp [h1]
  · refine And.intro ?_ trivial
    show false = decide ((t.length : Int) ≤ m ∧ validV t = 0)
    have h1 : m < (t.length : Int) := h1
    have : ¬ (t.length : Int) ≤ m := by omega
    simp [this]
end Go.Proofs.Ytpanlghofeebhaa
end
section
/- Rees matrix semigroups, in plain words: nothing of the program stands here. -/
namespace Go.Proofs.Ytpanlghofeebhaa
open Classical
def rowsOk (n : Nat) (R : Int) (P : List (List Int)) (z : Bool) : Prop := ∀ row ∈ P, (row.length : Int) = R ∧ ∀ g ∈ row, -1 ≤ g ∧ g < n ∧ (g < 0 → z = true)
structure Shaped (G : List (List Int)) (R C : Int) (P : List (List Int)) (z : Bool) : Prop where
  r : 1 ≤ R
  c : 1 ≤ C
  p : (P.length : Int) = C
  rows : rowsOk G.length R P z
noncomputable def shapedB (G : List (List Int)) (R C : Int) (P : List (List Int)) (z : Bool) : Bool := decide (Shaped G R C P z)
theorem shapedB_true {G : List (List Int)} {R C : Int} {P : List (List Int)} {z : Bool} : shapedB G R C P z = true ↔ Shaped G R C P z := by unfold shapedB; exact decide_eq_true_iff
theorem shapedB_false {G : List (List Int)} {R C : Int} {P : List (List Int)} {z : Bool} : shapedB G R C P z = false ↔ ¬ Shaped G R C P z := by unfold shapedB; exact decide_eq_false_iff_not
def zI (z : Bool) : Int := if z then 1 else 0
def sizeI (n R C : Int) (z : Bool) : Int := n * R * C + zI z
noncomputable def reesV (G : List (List Int)) (R C : Int) (P : List (List Int)) (z : Bool) : Int :=
  if Grp G ∧ Shaped G R C P z then (if 400 < sizeI G.length R C z then 3 else 0) else 4
structure Rees (G : List (List Int)) (R C : Int) (P : List (List Int)) (z : Bool) : Prop where
  grp : Grp G
  sh : Shaped G R C P z
  small : sizeI G.length R C z ≤ 400
theorem rees_zero {G : List (List Int)} {R C : Int} {P : List (List Int)} {z : Bool} : reesV G R C P z = 0 ↔ Rees G R C P z := by
  unfold reesV
  split
  · rename_i h
    split
    · rename_i h2; exact ⟨fun h => by omega, fun h' => absurd h'.small (by omega)⟩
    · rename_i h2; exact ⟨fun _ => ⟨h.1, h.2, by omega⟩, fun _ => rfl⟩
  · rename_i h; exact ⟨fun h => by omega, fun h' => absurd ⟨h'.grp, h'.sh⟩ h⟩
theorem z_cases (z : Bool) : zI z = 0 ∨ zI z = 1 := by cases z <;> simp [zI]
theorem Rees.le {G : List (List Int)} {R C : Int} {P : List (List Int)} {z : Bool} (h : Rees G R C P z) :
    1 ≤ (G.length : Int) ∧ (G.length : Int) ≤ 400 ∧ 1 ≤ R ∧ R ≤ 400 ∧ 1 ≤ C ∧ C ≤ 400 ∧ G.length * R ≤ 400 ∧ R * C ≤ 400 ∧ G.length * C ≤ 400 ∧ G.length * R * C ≤ 400 := by
  have hp := h.grp.pos
  have hr := h.sh.r
  have hc := h.sh.c
  have hs := h.small
  unfold sizeI at hs
  have hz := z_cases z
  have h1 : G.length * R * C ≤ 400 := by omega
  have hn : 1 ≤ (G.length : Int) := by omega
  have a1 : 0 ≤ (G.length : Int) * R := Int.mul_nonneg (by omega) (by omega)
  have a2 : (G.length : Int) * R ≤ G.length * R * C := by
    have := Int.mul_le_mul_of_nonneg_left hc a1
    rw [Int.mul_one] at this; exact this
  have a3 : (G.length : Int) ≤ G.length * R := by
    have := Int.mul_le_mul_of_nonneg_left hr (show 0 ≤ (G.length : Int) by omega)
    rw [Int.mul_one] at this; exact this
  have a4 : R ≤ G.length * R := by
    have := Int.mul_le_mul_of_nonneg_right hn (show 0 ≤ R by omega)
    rw [Int.one_mul] at this; exact this
  have a5 : R * C ≤ G.length * R * C := by
    have := Int.mul_le_mul_of_nonneg_right a4 (show 0 ≤ C by omega)
    exact this
  have a6 : C ≤ R * C := by
    have := Int.mul_le_mul_of_nonneg_right hr (show 0 ≤ C by omega)
    rw [Int.one_mul] at this; exact this
  have a7 : G.length * C ≤ G.length * R * C := by
    have := Int.mul_le_mul_of_nonneg_right a3 (show 0 ≤ C by omega)
    exact this
  exact ⟨hn, by omega, hr, by omega, hc, by omega, by omega, by omega, by omega, h1⟩
def numI (n C : Int) (z : Bool) (i g l : Int) : Int := (i * n + g) * C + l + zI z
def mulI (G : List (List Int)) (C : Int) (P : List (List Int)) (z : Bool) (x y : Int) : Int :=
  if x - zI z < 0 ∨ y - zI z < 0 then 0 else
    if (P.getD ((x - zI z) % C).toNat []).getD ((y - zI z) / C / G.length).toNat 0 < 0 then 0 else
    numI G.length C z ((x - zI z) / C / G.length)
      ((G.getD ((G.getD ((x - zI z) / C % G.length).toNat []).getD ((P.getD ((x - zI z) % C).toNat []).getD ((y - zI z) / C / G.length).toNat 0).toNat 0).toNat []).getD ((y - zI z) / C % G.length).toNat 0)
      ((y - zI z) % C)
theorem coord {n R C : Int} {z : Bool} {x : Int} (hn : 1 ≤ n) (_hR : 1 ≤ R) (hC : 1 ≤ C) (h0 : 0 ≤ x - zI z) (hx : x < sizeI n R C z) :
    0 ≤ (x - zI z) / C / n ∧ (x - zI z) / C / n < R ∧ 0 ≤ (x - zI z) / C % n ∧ (x - zI z) / C % n < n ∧ 0 ≤ (x - zI z) % C ∧ (x - zI z) % C < C := by
  have h1 : 0 ≤ (x - zI z) / C := Int.ediv_nonneg h0 (by omega)
  have h2 : (x - zI z) / C < n * R := by
    refine Int.ediv_lt_of_lt_mul (by omega) ?_
    unfold sizeI at hx
    omega
  refine ⟨Int.ediv_nonneg h1 (by omega), ?_, Int.emod_nonneg _ (by omega), Int.emod_lt_of_pos _ (by omega), Int.emod_nonneg _ (by omega), Int.emod_lt_of_pos _ (by omega)⟩
  refine Int.ediv_lt_of_lt_mul (by omega) ?_
  rw [Int.mul_comm]; exact h2
theorem num_lt {n R C : Int} {z : Bool} {i g l : Int} (hn : 1 ≤ n) (hC : 1 ≤ C) (hi : 0 ≤ i ∧ i < R) (hg : 0 ≤ g ∧ g < n) (hl : 0 ≤ l ∧ l < C) : zI z ≤ numI n C z i g l ∧ numI n C z i g l < sizeI n R C z := by
  unfold numI sizeI
  have a1 : 0 ≤ i * n := Int.mul_nonneg hi.1 (by omega)
  have a2 : 0 ≤ (i * n + g) * C := Int.mul_nonneg (by omega) (by omega)
  have a3 : i * n + n ≤ n * R := by
    have := Int.mul_le_mul_of_nonneg_left (show i + 1 ≤ R by omega) (show 0 ≤ n by omega)
    rw [Int.mul_add, Int.mul_one, Int.mul_comm n i] at this
    exact this
  have a4 : (i * n + g + 1) * C ≤ n * R * C := Int.mul_le_mul_of_nonneg_right (by omega) (by omega)
  rw [Int.add_mul, Int.one_mul] at a4
  omega
theorem Rees.pent {G : List (List Int)} {R C : Int} {P : List (List Int)} {z : Bool} (h : Rees G R C P z) {l i : Nat} (hl : (l : Int) < C) (hi : (i : Int) < R) :
    l < P.length ∧ i < (P.getD l []).length ∧ -1 ≤ (P.getD l []).getD i 0 ∧ (P.getD l []).getD i 0 < G.length := by
  have hp := h.sh.p
  have hlp : l < P.length := by omega
  have hm : P.getD l [] ∈ P := mem_of_getD hlp
  obtain ⟨h1, h2⟩ := h.sh.rows _ hm
  have hil : i < (P.getD l []).length := by omega
  have := h2 _ (mem_of_getD (d := 0) hil)
  exact ⟨hlp, hil, this.1, this.2.1⟩
theorem lim_a {G : List (List Int)} {R C : Int} {P : List (List Int)} {z : Bool} (hg : Grp G) (hs : Shaped G R C P z) (h : (400 - zI z) / G.length < R) : 3 = reesV G R C P z := by
  have hn : 0 < (G.length : Int) := by have := hg.pos; omega
  have h1 := (Int.ediv_lt_iff_lt_mul hn).1 h
  have h2 : R * G.length * 1 ≤ R * G.length * C := Int.mul_le_mul_of_nonneg_left hs.c (Int.mul_nonneg (by have := hs.r; omega) (by omega))
  unfold reesV
  rw [if_pos ⟨hg, hs⟩, if_pos]
  unfold sizeI
  rw [Int.mul_comm (G.length : Int) R]
  omega
theorem lim_b {G : List (List Int)} {R C : Int} {P : List (List Int)} {z : Bool} (hg : Grp G) (hs : Shaped G R C P z) (h : (400 - zI z) / C < R * G.length) : 3 = reesV G R C P z := by
  have h1 := (Int.ediv_lt_iff_lt_mul (show 0 < C by have := hs.c; omega)).1 h
  unfold reesV
  rw [if_pos ⟨hg, hs⟩, if_pos]
  unfold sizeI
  rw [Int.mul_comm (G.length : Int) R]
  omega
theorem lim_c {G : List (List Int)} {R C : Int} {P : List (List Int)} {z : Bool} (hg : Grp G) (hs : Shaped G R C P z) (h : R * G.length ≤ (400 - zI z) / C) : 0 = reesV G R C P z := by
  have h1 := (Int.le_ediv_iff_mul_le (show 0 < C by have := hs.c; omega)).1 h
  unfold reesV
  rw [if_pos ⟨hg, hs⟩, if_neg]
  unfold sizeI
  rw [Int.mul_comm (G.length : Int) R]
  omega
theorem lim_d {n R : Int} {m : Int} (hn : 0 < n) (hR : 1 ≤ R) (hm : m ≤ 400) (h : R ≤ m / n) : 0 ≤ R * n ∧ R * n ≤ 400 := by
  have h1 := (Int.le_ediv_iff_mul_le hn).1 h
  exact ⟨Int.mul_nonneg (by omega) (by omega), by omega⟩
def Reg (R : Int) (P : List (List Int)) : Prop := (∀ j, j < P.length → ∃ i : Nat, (i : Int) < R ∧ 0 ≤ (P.getD j []).getD i 0) ∧ ∀ i : Nat, (i : Int) < R → ∃ j, j < P.length ∧ 0 ≤ (P.getD j []).getD i 0
noncomputable def regB (R : Int) (P : List (List Int)) : Bool := decide (Reg R P)
theorem regB_true {R : Int} {P : List (List Int)} : regB R P = true ↔ Reg R P := by unfold regB; exact decide_eq_true_iff
theorem regB_false {R : Int} {P : List (List Int)} : regB R P = false ↔ ¬ Reg R P := by unfold regB; exact decide_eq_false_iff_not
def tabI (G : List (List Int)) (C : Int) (P : List (List Int)) (z : Bool) (n : Nat) : List (List Int) := (List.range n).map fun x => (List.range n).map fun y => mulI G C P z (x : Nat) (y : Nat)
theorem map_range_getD {α : Type} (f : Nat → α) (n i : Nat) (d : α) (h : i < n) : ((List.range n).map f).getD i d = f i := by
  simp [List.getD, h]
theorem tab_len {G : List (List Int)} {C : Int} {P : List (List Int)} {z : Bool} {n : Nat} : (tabI G C P z n).length = n := by simp [tabI]
theorem tab_row {G : List (List Int)} {C : Int} {P : List (List Int)} {z : Bool} {n x : Nat} (hx : x < n) : (tabI G C P z n).getD x [] = (List.range n).map fun y => mulI G C P z (x : Nat) (y : Nat) := map_range_getD _ n x [] hx
theorem take_snoc {α : Type} {l : List α} {i : Nat} {d : α} (h : i < l.length) : l.take (i + 1) = l.take i ++ [l.getD i d] := by
  rw [List.take_succ_eq_append_getElem h]; simp [List.getD, h]
theorem ext_getD {α : Type} {l m : List α} (d : α) (hl : l.length = m.length) (h : ∀ i, i < l.length → l.getD i d = m.getD i d) : l = m := by
  refine List.ext_getElem hl fun i h1 h2 => ?_
  have := h i h1
  simpa [List.getD, h1, h2] using this
end Go.Proofs.Ytpanlghofeebhaa
end
