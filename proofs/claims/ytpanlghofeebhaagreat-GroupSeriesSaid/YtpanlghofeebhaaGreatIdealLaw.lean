import Derived.Test.YtpanlghofeebhaaGreatMult
import Derived.Test.YtpanlghofeebhaaGreatRefPart
section
/- Tables and groups, of the program and of the reference: their contracts. -/
namespace Go.Proofs.YtpanlghofeebhaaGreat
open Go Go.AM
set_option maxRecDepth 100000
set_option maxHeartbeats 4000000 in
theorem rshape_k (t : List (List Int)) : fnK TY SP Tryz.f12 [.ro (.rows .i64 t)] (.int .i64 (shapeV t)) := shape_k t
theorem rshape_fn (t : List (List Int)) : QF 12 [.ro (.rows .i64 t)] (.int .i64 (shapeV t)) := mkQ Tryz.func12 (by decide +kernel) rfl (Nat.le_of_ble_eq_true rfl) fun _ => rshape_k t
theorem assoc_k (t : List (List Int)) : fnEK TY SP Tryz.f87 [.ro (.rows .i64 t)] (fun x : Int × Int × Int => .tup [.int .i64 x.1, .int .i64 x.2.1, .int .i64 x.2.2, .int .i64 (validV t)]) (fun _ => True) := by
  refine Or.inl (cq (rshape_fn t) (And.intro rfl trivial) ?_)
  refine And.intro (fun h1 => ?_) (fun h1 => ?_)
  · refine Exists.intro (0, 0, 0) (And.intro trivial ⟨rfl, rfl, rfl, ?_, trivial⟩)
    show shapeV t = validV t
    unfold validV; rw [if_pos h1]
  have hs := shape_zero.1 h1
  have hpos := hs.pos
  have hmost := hs.most
  refine Exists.intro [] <| lp (X := Nat) (fun x => [(17, .int .i64 x)]) (fun _ => []) (fun x => x ≤ t.length ∧ ∀ x' y z, x' < x → y < t.length → z < t.length → en t (en t x' y) z = en t x' (en t y z)) (fun x => t.length - x) 0 ⟨Nat.zero_le _, by omega⟩ ⟨⟨rfl, trivial⟩, trivial⟩ ?_
  intro x hx
  refine And.intro (fun h2 => ?_) (fun h2 => ?_)
  · refine Exists.intro [] <| lp (X := Nat) (fun y => [(22, .int .i64 y)]) (fun _ => []) (fun y => y ≤ t.length ∧ ∀ y' z, y' < y → z < t.length → en t (en t x y') z = en t x (en t y' z)) (fun y => t.length - y) 0 ⟨Nat.zero_le _, by omega⟩ ⟨⟨rfl, trivial⟩, trivial⟩ ?_
    intro y hy
    refine And.intro (fun h3 => ?_) (fun h3 => ?_)
    · refine Exists.intro [] <| lp (X := Nat) (fun z => [(27, .int .i64 z)]) (fun _ => []) (fun z => z ≤ t.length ∧ ∀ z', z' < z → en t (en t x y) z' = en t x (en t y z')) (fun z => t.length - z) 0 ⟨Nat.zero_le _, by omega⟩ ⟨⟨rfl, trivial⟩, trivial⟩ ?_
      intro z hz
      refine And.intro (fun h4 => ?_) (fun h4 => ?_)
      · have hxl : x < t.length := by omega
        have hyl : y < t.length := by omega
        have hzl : z < t.length := by omega
        have a1 := hs.ent hxl hyl
        have a2 := hs.ent a1.2 hzl
        have a3 := hs.ent hyl hzl
        have a4 := hs.ent hxl a3.2
        have l1 := hs.len hxl
        have l2 := hs.len hyl
        have l3 := hs.len a1.2
        refine Or.inl <| Exists.intro [false, false, false, false, false, false, false, false, false, false, false, false, false, false, false, false, false, false, false, false, false, false, false, false, false, false, false] (And.intro (by decide +kernel) ?_)
        refine And.intro (by omega) ?_
        refine And.intro (by simp only [Int.toNat_natCast]; omega) ?_
        refine And.intro (by simp only [Int.toNat_natCast]; omega) ?_
        refine And.intro (show 0 ≤ (z : Int) ∧ (z : Int) < ((t.getD (en t x y) []).length : Int) by omega) ?_
        refine And.intro (by omega) ?_
        refine And.intro (by omega) ?_
        refine And.intro (by simp only [Int.toNat_natCast]; omega) ?_
        refine And.intro (by simp only [Int.toNat_natCast]; omega) ?_
        refine And.intro (fun h5 => ?_) (fun h5 => ?_)
        · have h5 : (t.getD (en t x y) []).getD z 0 ≠ (t.getD x []).getD (en t y z) 0 := h5
          rw [a2.1, a4.1] at h5
          refine Exists.intro ((x : Int), (y : Int), (z : Int)) (And.intro trivial ⟨rfl, rfl, rfl, ?_, trivial⟩)
          show (5 : Int) = validV t
          unfold validV
          rw [if_neg (by omega), if_neg]
          intro ha
          exact h5 (congrArg _ (ha y hyl x z hxl hzl))
        · have h5 : (t.getD (en t x y) []).getD z 0 = (t.getD x []).getD (en t y z) 0 := h5
          rw [a2.1, a4.1] at h5
          refine And.intro (by omega) ?_
          refine nx (z + 1) ⟨by omega, fun z' hz' => ?_⟩ (show t.length - (z + 1) < t.length - z by omega) ⟨⟨rfl, trivial⟩, trivial⟩
          by_cases hzz : z' < z
          · exact hz.2 z' hzz
          · have : z' = z := by omega
            rw [this]; exact_mod_cast h5
      · refine And.intro (by omega) ?_
        refine nx (y + 1) ⟨by omega, fun y' z hy' hz' => ?_⟩ (show t.length - (y + 1) < t.length - y by omega) ⟨⟨rfl, trivial⟩, trivial⟩
        by_cases hyy : y' < y
        · exact hy.2 y' z hyy hz'
        · have : y' = y := by omega
          rw [this]; exact hz.2 z (by omega)
    · refine And.intro (by omega) ?_
      refine nx (x + 1) ⟨by omega, fun x' y z hx' hy' hz' => ?_⟩ (show t.length - (x + 1) < t.length - x by omega) ⟨⟨rfl, trivial⟩, trivial⟩
      by_cases hxx : x' < x
      · exact hx.2 x' y z hxx hy' hz'
      · have : x' = x := by omega
        rw [this]; exact hy.2 y z (by omega) hz'
  · refine Exists.intro (0, 0, 0) (And.intro trivial ⟨rfl, rfl, rfl, ?_, trivial⟩)
    show 0 = validV t
    symm
    rw [valid_zero]
    exact ⟨hs, fun g hg x y hx' hy' => hx.2 x g y (by omega) hg hy'⟩
theorem rvalidate_fn (t : List (List Int)) : QF 58 [.ro (.rows .i64 t)] (.int .i64 (validV t)) := mkQ Tryz.func58 (by decide +kernel) rfl (Nat.le_of_ble_eq_true rfl) fun _ => by
  refine Or.inr (Or.inr (ce (mkE Tryz.func87 (by decide +kernel) rfl (Nat.le_of_ble_eq_true rfl) fun _ => assoc_k t) (And.intro rfl trivial) fun x _ => ?_))
  exact And.intro rfl trivial
theorem rvalid_fn (t : List (List Int)) : QF 36 [.ro (.rows .i64 t)] (.bool (.v (decide (validV t = 0)))) := mkQ Tryz.func36 (by decide +kernel) rfl (Nat.le_of_ble_eq_true rfl) fun _ => by
  refine Or.inl (cq (rvalidate_fn t) (And.intro rfl trivial) ?_)
  exact And.intro rfl trivial
theorem id_step {t : List (List Int)} {k j : Nat} {b : Bool} (h : b = true ↔ ∀ x, x < j → en t k x = x ∧ en t x k = x) (hb : b = true) (h1 : (t.getD k []).getD j 0 = (j : Int)) (e1 : (t.getD k []).getD j 0 = (en t k j : Int)) (e2 : (t.getD j []).getD k 0 = (en t j k : Int)) :
    decide ((t.getD j []).getD k 0 = (j : Int)) = true ↔ ∀ x, x < j + 1 → en t k x = x ∧ en t x k = x := by
  rw [decide_eq_true_iff]
  constructor
  · intro h2 x hx
    by_cases hxj : x < j
    · exact h.1 hb x hxj
    · have : x = j := by omega
      rw [this]; exact ⟨by omega, by omega⟩
  · intro h2
    have := h2 j (by omega)
    omega
theorem id_stop {t : List (List Int)} {k j : Nat} (e1 : (t.getD k []).getD j 0 = (en t k j : Int)) (h1 : ¬ (t.getD k []).getD j 0 = (j : Int)) :
    false = true ↔ ∀ x, x < j + 1 → en t k x = x ∧ en t x k = x :=
  ⟨fun h => (by cases h), fun h => (by have := h j (by omega); omega)⟩
theorem id_past {t : List (List Int)} {k j : Nat} {b : Bool} (h : b = true ↔ ∀ x, x < j → en t k x = x ∧ en t x k = x) (hb : b = false) :
    false = true ↔ ∀ x, x < j + 1 → en t k x = x ∧ en t x k = x :=
  ⟨fun h => (by cases h), fun h2 => (by rw [← hb]; exact h.2 fun x hx => h2 x (by omega))⟩
theorem rid_fn (t : List (List Int)) (hs : Sh t) : QF 37 [.ro (.rows .i64 t)] (.int .i64 (idV t)) := mkQ Tryz.func37 (by decide +kernel) rfl (Nat.le_of_ble_eq_true rfl) fun _ => by
  have hpos := hs.pos
  have hmost := hs.most
  refine Exists.intro [] <| lp (X := Nat) (fun k => [(8, .int .i64 k)]) (fun _ => []) (fun k => k ≤ t.length ∧ ∀ j, j < k → ¬ Neutral t j) (fun k => t.length - k) 0 ⟨Nat.zero_le _, by omega⟩ ⟨⟨rfl, trivial⟩, trivial⟩ ?_
  intro k hk
  refine And.intro (fun h1 => ?_) (fun h1 => ?_)
  · have hkl : k < t.length := by omega
    refine Exists.intro [] <| lp2 (fun (j : Nat) (b : Bool) => [(13, .int .i64 j), (4, .bool (.v b))]) (fun _ _ => []) (fun j b => j ≤ t.length ∧ (b = true ↔ ∀ x, x < j → en t k x = x ∧ en t x k = x)) (fun j _ => t.length - j) 0 true ⟨Nat.zero_le _, by simp⟩ ⟨⟨rfl, rfl, trivial⟩, trivial⟩ ?_
    intro j b hj
    refine And.intro (fun h2 => ?_) (fun h2 => ?_)
    · have hjl : j < t.length := by omega
      have a1 := hs.ent hkl hjl
      have a2 := hs.ent hjl hkl
      have l1 := hs.len hkl
      have l2 := hs.len hjl
      refine And.intro (fun h3 => ?_) (fun h3 => ?_)
      · refine And.intro (by omega) ?_
        refine And.intro (by simp only [Int.toNat_natCast]; omega) ?_
        refine And.intro (fun h4 => ?_) (fun h4 => ?_)
        · refine And.intro (by omega) ?_
          refine And.intro (by simp only [Int.toNat_natCast]; omega) ?_
          refine And.intro (by omega) ?_
          refine nx (j + 1, decide ((t.getD j []).getD k 0 = (j : Int))) ⟨by omega, ?_⟩ (show t.length - (j + 1) < t.length - j by omega) ⟨⟨rfl, rfl, trivial⟩, trivial⟩
          exact id_step hj.2 h3 (by simpa using h4) a1.1 a2.1
        · refine And.intro (by omega) ?_
          refine nx (j + 1, false) ⟨by omega, ?_⟩ (show t.length - (j + 1) < t.length - j by omega) ⟨⟨rfl, rfl, trivial⟩, trivial⟩
          exact id_stop a1.1 (by simpa using h4)
      · refine And.intro (by omega) ?_
        refine nx (j + 1, false) ⟨by omega, ?_⟩ (show t.length - (j + 1) < t.length - j by omega) ⟨⟨rfl, rfl, trivial⟩, trivial⟩
        exact id_past hj.2 h3
    · refine And.intro (fun h3 => ?_) (fun h3 => ?_)
      · refine And.intro (show (k : Int) = idV t from ?_) trivial
        rw [id_of hkl (fun x hx => hj.2.1 h3 x (by omega))]
      · refine And.intro (by omega) ?_
        refine nx (k + 1) ⟨by omega, fun j' hj' => ?_⟩ (show t.length - (k + 1) < t.length - k by omega) ⟨⟨rfl, trivial⟩, trivial⟩
        by_cases hjk : j' < k
        · exact hk.2 j' hjk
        · have : j' = k := by omega
          rw [this]
          intro hn
          have := hj.2.2 (fun x hx => hn x (by omega))
          rw [h3] at this; cases this
  · refine And.intro (show (-1 : Int) = idV t from ?_) trivial
    rw [id_none (fun e he => hk.2 e (by omega))]
theorem gid_fn (t : List (List Int)) (hs : Sh t) : QF 73 [.ro (.rows .i64 t)] (.int .i64 (idV t)) := mkQ Tryz.func73 (by decide +kernel) rfl (Nat.le_of_ble_eq_true rfl) fun _ => by
  have hpos := hs.pos
  have hmost := hs.most
  refine Exists.intro [] <| lp (X := Nat) (fun k => [(9, .int .i64 k)]) (fun _ => []) (fun k => k ≤ t.length ∧ ∀ j, j < k → ¬ Neutral t j) (fun k => t.length - k) 0 ⟨Nat.zero_le _, by omega⟩ ⟨⟨rfl, trivial⟩, trivial⟩ ?_
  intro k hk
  refine And.intro (fun h1 => ?_) (fun h1 => ?_)
  · refine And.intro (by omega) ?_
    have hkl : k < t.length := by omega
    refine Exists.intro [] <| lp2 (fun (j : Nat) (b : Bool) => [(16, .int .i64 j), (5, .bool (.v b))]) (fun _ _ => []) (fun j b => j ≤ t.length ∧ (b = true ↔ ∀ x, x < j → en t k x = x ∧ en t x k = x)) (fun j _ => t.length - j) 0 true ⟨Nat.zero_le _, by simp⟩ ⟨⟨rfl, rfl, trivial⟩, trivial⟩ ?_
    intro j b hj
    refine And.intro (fun h2 => ?_) (fun h2 => ?_)
    · have hjl : j < t.length := by omega
      have a1 := hs.ent hkl hjl
      have a2 := hs.ent hjl hkl
      have l1 := hs.len hkl
      have l2 := hs.len hjl
      refine And.intro (fun h3 => ?_) (fun h3 => ?_)
      · refine And.intro (by simp only [Int.toNat_natCast]; omega) ?_
        refine And.intro (fun h4 => ?_) (fun h4 => ?_)
        · refine And.intro (by omega) ?_
          refine And.intro (by simp only [Int.toNat_natCast]; omega) ?_
          refine And.intro (by omega) ?_
          refine nx (j + 1, decide ((t.getD j []).getD k 0 = (j : Int))) ⟨by omega, ?_⟩ (show t.length - (j + 1) < t.length - j by omega) ⟨⟨rfl, rfl, trivial⟩, trivial⟩
          exact id_step hj.2 h3 (by simpa using h4) a1.1 a2.1
        · refine And.intro (by omega) ?_
          refine nx (j + 1, false) ⟨by omega, ?_⟩ (show t.length - (j + 1) < t.length - j by omega) ⟨⟨rfl, rfl, trivial⟩, trivial⟩
          exact id_stop a1.1 (by simpa using h4)
      · refine And.intro (by omega) ?_
        refine nx (j + 1, false) ⟨by omega, ?_⟩ (show t.length - (j + 1) < t.length - j by omega) ⟨⟨rfl, rfl, trivial⟩, trivial⟩
        exact id_past hj.2 h3
    · refine And.intro (fun h3 => ?_) (fun h3 => ?_)
      · refine And.intro (show (k : Int) = idV t from ?_) trivial
        rw [id_of hkl (fun x hx => hj.2.1 h3 x (by omega))]
      · refine And.intro (by omega) ?_
        refine nx (k + 1) ⟨by omega, fun j' hj' => ?_⟩ (show t.length - (k + 1) < t.length - k by omega) ⟨⟨rfl, trivial⟩, trivial⟩
        by_cases hjk : j' < k
        · exact hk.2 j' hjk
        · have : j' = k := by omega
          rw [this]
          intro hn
          have := hj.2.2 (fun x hx => hn x (by omega))
          rw [h3] at this; cases this
  · refine And.intro (show (-1 : Int) = idV t from ?_) trivial
    rw [id_none (fun e he => hk.2 e (by omega))]
noncomputable def idxV (l : List Int) (v : Int) : Int := open Classical in if h : ∃ i : Nat, i < l.length ∧ l.getD i 0 = v ∧ ∀ j, j < i → l.getD j 0 ≠ v then ((Classical.choose h : Nat) : Int) else -1
theorem idx_of {l : List Int} {v : Int} {i : Nat} (hi : i < l.length) (h : l.getD i 0 = v) (hj : ∀ j, j < i → l.getD j 0 ≠ v) : idxV l v = i := by
  have hx : ∃ i : Nat, i < l.length ∧ l.getD i 0 = v ∧ ∀ j, j < i → l.getD j 0 ≠ v := ⟨i, hi, h, hj⟩
  unfold idxV
  rw [dif_pos hx]
  have := Classical.choose_spec hx
  rcases Nat.lt_trichotomy (Classical.choose hx) i with h1 | h1 | h1
  · exact absurd this.2.1 (hj _ h1)
  · rw [h1]
  · exact absurd h (this.2.2 _ h1)
theorem idx_none {l : List Int} {v : Int} (hj : ∀ j, j < l.length → l.getD j 0 ≠ v) : idxV l v = -1 := by
  unfold idxV
  rw [dif_neg]
  rintro ⟨i, hi, h, _⟩
  exact hj i hi h
theorem idx_cases (l : List Int) (v : Int) : (∃ i : Nat, i < l.length ∧ l.getD i 0 = v ∧ idxV l v = i) ∨ ((∀ j, j < l.length → l.getD j 0 ≠ v) ∧ idxV l v = -1) := by
  by_cases h : ∃ i : Nat, i < l.length ∧ l.getD i 0 = v
  · have key : ∀ n i : Nat, i < n → i < l.length → l.getD i 0 = v → ∃ i : Nat, i < l.length ∧ l.getD i 0 = v ∧ ∀ j, j < i → l.getD j 0 ≠ v := by
      intro n
      induction n with
      | zero => intro i hi; omega
      | succ n ih =>
        intro i hi hl hv
        by_cases hj : ∃ j, j < i ∧ l.getD j 0 = v
        · obtain ⟨j, h1, h2⟩ := hj; exact ih j (by omega) (by omega) h2
        · exact ⟨i, hl, hv, fun j hji he => hj ⟨j, hji, he⟩⟩
    obtain ⟨i, hi, hv⟩ := h
    obtain ⟨i, h1, h2, h3⟩ := key (i + 1) i (by omega) hi hv
    exact .inl ⟨i, h1, h2, idx_of h1 h2 h3⟩
  · have h' : ∀ j, j < l.length → l.getD j 0 ≠ v := fun j hj he => h ⟨j, hj, he⟩
    exact .inr ⟨h', idx_none h'⟩
theorem index_k (l : List Int) (v : Int) (hl : l.length ≤ 140737488355328) : fnK TY SP Tryz.f74 [.ro (.ints .i64 l), .int .i64 v] (.int .i64 (idxV l v)) := by
  refine Exists.intro [] <| lp (X := Nat) (fun k => [(8, .int .i64 k)]) (fun _ => []) (fun k => k ≤ l.length ∧ ∀ j, j < k → l.getD j 0 ≠ v) (fun k => l.length - k) 0 ⟨Nat.zero_le _, by omega⟩ ⟨⟨rfl, trivial⟩, trivial⟩ ?_
  intro k hk
  refine And.intro (fun h1 => ?_) (fun h1 => ?_)
  · refine And.intro (by omega) ?_
    refine And.intro (fun h2 => ?_) (fun h2 => ?_)
    · refine And.intro (show (k : Int) = idxV l v from ?_) trivial
      exact (idx_of (by omega) (by simpa using h2.symm) hk.2).symm
    · refine And.intro (by omega) ?_
      refine nx (k + 1) ⟨by omega, fun j hj => ?_⟩ (show l.length - (k + 1) < l.length - k by omega) ⟨⟨rfl, trivial⟩, trivial⟩
      by_cases hjk : j < k
      · exact hk.2 j hjk
      · have : j = k := by omega
        rw [this]; exact fun he => h2 (by simpa using he.symm)
  · refine And.intro (show -1 = idxV l v from ?_) trivial
    exact (idx_none (fun j hj => hk.2 j (by omega))).symm
theorem index_fn (l : List Int) (v : Int) : QF 74 [.ro (.ints .i64 l), .int .i64 v] (.int .i64 (idxV l v)) := mkQ Tryz.func74 (by decide +kernel) rfl (Nat.le_of_ble_eq_true rfl) fun hf => index_k l v hf.1.1
theorem rinv_k (t : List (List Int)) (hs : Sh t) (e x : Nat) (he : idV t = e) (hx : x < t.length) :
    fnEK TY SP Tryz.f38 [.ro (.rows .i64 t), .int .i64 x] (fun v : Int => .int .i64 v) (fun v => (∃ y : Nat, v = y ∧ y < t.length ∧ Inv t e x y) ∨ (v = -1 ∧ ∀ y, y < t.length → ¬ Inv t e x y)) := by
  have hpos := hs.pos
  have hmost := hs.most
  refine Or.inl (cq (rid_fn t hs) (And.intro rfl trivial) ?_)
  refine Exists.intro [] <| lp (X := Nat) (fun k => [(11, .int .i64 k)]) (fun _ => []) (fun k => k ≤ t.length ∧ ∀ y, y < k → ¬ Inv t e x y) (fun k => t.length - k) 0 ⟨Nat.zero_le _, by omega⟩ ⟨⟨rfl, trivial⟩, trivial⟩ ?_
  intro k hk
  refine And.intro (fun h1 => ?_) (fun h1 => ?_)
  · have hkl : k < t.length := by omega
    have a1 := hs.ent hx hkl
    have a2 := hs.ent hkl hx
    have l1 := hs.len hx
    have l2 := hs.len hkl
    refine And.intro (by omega) ?_
    refine And.intro (by simp only [Int.toNat_natCast]; omega) ?_
    refine And.intro (fun h2 => ?_) (fun h2 => ?_)
    · simp only [Int.toNat_natCast] at h2
      refine And.intro (by omega) ?_
      refine And.intro (by simp only [Int.toNat_natCast]; omega) ?_
      refine And.intro (fun h3 => ?_) (fun h3 => ?_)
      · simp only [Int.toNat_natCast] at h3
        refine Exists.intro (k : Int) (And.intro (.inl ⟨k, rfl, hkl, by omega, by omega⟩) ⟨rfl, trivial⟩)
      · simp only [Int.toNat_natCast] at h3
        refine And.intro (by omega) ?_
        refine nx (k + 1) ⟨by omega, fun y hy => ?_⟩ (show t.length - (k + 1) < t.length - k by omega) ⟨⟨rfl, trivial⟩, trivial⟩
        by_cases hyk : y < k
        · exact hk.2 y hyk
        · have : y = k := by omega
          rw [this]; intro hi; have := hi.2; omega
    · simp only [Int.toNat_natCast] at h2
      refine And.intro (by omega) ?_
      refine nx (k + 1) ⟨by omega, fun y hy => ?_⟩ (show t.length - (k + 1) < t.length - k by omega) ⟨⟨rfl, trivial⟩, trivial⟩
      by_cases hyk : y < k
      · exact hk.2 y hyk
      · have : y = k := by omega
        rw [this]; intro hi; have := hi.1; omega
  · refine Exists.intro (-1) (And.intro (.inr ⟨rfl, fun y hy => hk.2 y (by omega)⟩) ⟨rfl, trivial⟩)
theorem rinv_fn (t : List (List Int)) (hs : Sh t) (e x : Nat) (he : idV t = e) (hx : x < t.length) :
    EF 38 [.ro (.rows .i64 t), .int .i64 x] (fun v : Int => .int .i64 v) (fun v => (∃ y : Nat, v = y ∧ y < t.length ∧ Inv t e x y) ∨ (v = -1 ∧ ∀ y, y < t.length → ¬ Inv t e x y)) :=
  mkE Tryz.func38 (by decide +kernel) rfl (Nat.le_of_ble_eq_true rfl) fun _ => rinv_k t hs e x he hx
theorem grp_no_id {t : List (List Int)} (h : idV t < 0) : false = grpB t := by
  symm
  rw [grpB_false]
  rintro ⟨_, e, he, hn, _⟩
  rw [id_of he hn] at h
  omega
theorem grp_no_inv {t : List (List Int)} {e x : Nat} (_hs : Sh t) (he : idV t = e) (hx : x < t.length) (h : ∀ y, y < t.length → ¬ Inv t e x y) : false = grpB t := by
  symm
  rw [grpB_false]
  rintro ⟨_, e', he', hn, hi⟩
  rw [id_of he' hn] at he
  have : e' = e := by omega
  subst this
  obtain ⟨y, hy, hyi⟩ := hi x hx
  exact h y hy hyi
theorem grp_yes {t : List (List Int)} {e : Nat} (hs : Semi t) (he : idV t = e) (h : ∀ x, x < t.length → ∃ y, y < t.length ∧ Inv t e x y) : true = grpB t := by
  symm
  rw [grpB_true]
  rcases id_cases t with ⟨e', he', hn, h'⟩ | ⟨_, h'⟩
  · have : e' = e := by omega
    subst this
    exact ⟨hs, e', he', hn, h⟩
  · omega
theorem rgroup_fn (t : List (List Int)) : QF 10 [.ro (.rows .i64 t)] (.bool (.v (grpB t))) := mkQ Tryz.func10 (by decide +kernel) rfl (Nat.le_of_ble_eq_true rfl) fun _ => by
  refine Or.inl (cq (rvalid_fn t) (And.intro rfl trivial) ?_)
  refine And.intro (fun h1 => ?_) (fun h1 => ?_)
  · refine And.intro (show false = grpB t from ?_) trivial
    symm
    rw [grpB_false]
    intro hg
    rw [valid_zero.2 hg.toSemi] at h1
    cases h1
  have hs : Semi t := valid_zero.1 (by simpa using h1)
  have hpos := hs.pos
  have hmost := hs.most
  refine Or.inl (cq (rid_fn t hs.toSh) (And.intro rfl trivial) ?_)
  refine And.intro (fun h2 => ?_) (fun h2 => ?_)
  · refine And.intro (grp_no_id h2) trivial
  have he : idV t = ((idV t).toNat : Int) := by omega
  refine Exists.intro [] <| lp (X := Nat) (fun k => [(14, .int .i64 k)]) (fun _ => []) (fun k => k ≤ t.length ∧ ∀ x, x < k → ∃ y, y < t.length ∧ Inv t (idV t).toNat x y) (fun k => t.length - k) 0 ⟨Nat.zero_le _, by omega⟩ ⟨⟨rfl, trivial⟩, trivial⟩ ?_
  intro k hk
  refine And.intro (fun h3 => ?_) (fun h3 => ?_)
  · refine Or.inr (Or.inr (ce (rinv_fn t hs.toSh (idV t).toNat k he (by omega)) (And.intro rfl (And.intro rfl trivial)) fun v hv => ?_))
    refine And.intro (fun h4 => ?_) (fun h4 => ?_)
    · refine And.intro (grp_no_inv hs.toSh he (x := k) (by omega) ?_) trivial
      rcases hv with ⟨y, hy, _⟩ | ⟨_, hv⟩
      · omega
      · exact hv
    · refine And.intro (by omega) ?_
      refine nx (k + 1) ⟨by omega, fun x hx => ?_⟩ (show t.length - (k + 1) < t.length - k by omega) ⟨⟨rfl, trivial⟩, trivial⟩
      by_cases hxk : x < k
      · exact hk.2 x hxk
      · have : x = k := by omega
        rw [this]
        rcases hv with ⟨y, _, hy⟩ | ⟨hv, _⟩
        · exact ⟨y, hy⟩
        · omega
  · refine And.intro (show true = grpB t from ?_) trivial
    exact grp_yes hs he fun x hx => hk.2 x (by omega)
theorem build_fn (t : List (List Int)) (hs : Semi t) : QF 44 [.ro (.rows .i64 t)] (.tup [.agg [.any, .any, .any], .bool (.v (grpB t))]) := mkQ Tryz.func44 (by decide +kernel) rfl (Nat.le_of_ble_eq_true rfl) fun _ => by
  have hpos := hs.pos
  have hmost := hs.most
  refine Or.inl (cq (gid_fn t hs.toSh) (And.intro rfl trivial) ?_)
  refine And.intro (fun h1 => ?_) (fun h1 => ?_)
  · exact And.intro ⟨trivial, trivial, trivial, trivial⟩ ⟨grp_no_id h1, trivial⟩
  have he : idV t = ((idV t).toNat : Int) := by omega
  refine And.intro (by omega) ?_
  refine And.intro (by omega) ?_
  refine Exists.intro [] <| lp2 (fun (k : Nat) (iv : List Int) => [(19, .int .i64 k)]) (fun _ iv => [(16, .vec 0 (.ints .i64 iv) [])]) (fun k iv => k ≤ t.length ∧ iv.length = t.length ∧ ∀ x, x < k → ∃ y, y < t.length ∧ Inv t (idV t).toNat x y) (fun k _ => t.length - k) 0 (List.replicate t.length 0) ⟨Nat.zero_le _, by simp, by omega⟩ (by repeat' first | refine And.intro ?_ ?_ | exact True.intro | (show (_ : Int) = (_ : Int); omega) | omega | exact rfl | (simp only [RO.len]; omega)) ?_
  intro k iv hk
  refine And.intro (fun h3 => ?_) (fun h3 => ?_)
  · have hkl : k < t.length := by omega
    have l1 := hs.len hkl
    refine And.intro (by omega) ?_
    refine Or.inl (cq (index_fn (t.getD k []) (idV t)) (And.intro rfl (And.intro rfl trivial)) ?_)
    have hcase := idx_cases (t.getD k []) (idV t)
    refine And.intro (fun h4 => ?_) (fun h4 => ?_)
    · refine And.intro ⟨trivial, trivial, trivial, trivial⟩ ⟨grp_no_inv hs.toSh he hkl fun y hy hi => ?_, trivial⟩
      have a1 := hs.ent hkl hy
      rcases hcase with ⟨i, _, _, h⟩ | ⟨h, _⟩
      · omega
      · exact h y (by omega) (by rw [a1.1, hi.1]; omega)
    have hy : (idxV (t.getD k []) (idV t)).toNat < t.length ∧ en t k (idxV (t.getD k []) (idV t)).toNat = (idV t).toNat := by
      rcases hcase with ⟨i, h5, h6, h7⟩ | ⟨_, h⟩
      · have a1 := hs.ent hkl (y := i) (by omega)
        rw [h7]; simp only [Int.toNat_natCast]
        exact ⟨by omega, by omega⟩
      · omega
    have l2 := hs.len hy.1
    have a2 := hs.ent hy.1 hkl
    refine And.intro (by omega) ?_
    refine And.intro (by omega) ?_
    refine And.intro (fun h5 => ?_) (fun h5 => ?_)
    · refine And.intro ⟨trivial, trivial, trivial, trivial⟩ ⟨?_, trivial⟩
      show false = grpB t
      symm
      rw [grpB_false]
      rintro ⟨_, e', he', hn, hi⟩
      have h6 := id_of he' hn
      obtain ⟨z, hz, hzi⟩ := hi k hkl
      have : (idV t).toNat = e' := by omega
      have h7 := inv_right hs hn hkl hy.1 hz hzi (by omega)
      have h8 := hzi.2
      rw [← h7] at h8
      refine h5 ?_
      show (t.getD (idxV (t.getD k []) (idV t)).toNat []).getD k 0 = idV t
      omega
    · have h5 : (t.getD (idxV (t.getD k []) (idV t)).toNat []).getD k 0 = idV t := h5
      refine And.intro (by omega) ?_
      refine And.intro (by omega) ?_
      refine And.intro (by omega) ?_
      refine nx (k + 1, iv.set k (idxV (t.getD k []) (idV t))) ⟨by omega, by rw [List.length_set]; exact hk.2.1, fun x hx => ?_⟩ (show t.length - (k + 1) < t.length - k by omega) (by repeat' first | refine And.intro ?_ ?_ | exact True.intro | (show (_ : Int) = (_ : Int); omega) | omega | exact rfl | (simp only [RO.len]; omega))
      by_cases hxk : x < k
      · exact hk.2.2 x hxk
      · have : x = k := by omega
        rw [this]
        exact ⟨_, hy.1, hy.2, by omega⟩
  · exact And.intro ⟨trivial, trivial, trivial, trivial⟩ ⟨grp_yes hs he fun x hx => hk.2.2 x (by omega), trivial⟩
theorem open_fn (t : List (List Int)) : QF 15 [.ro (.rows .i64 t)] (.tup [.agg [.any, .any, .any], .bool (.v (grpB t))]) := mkQ Tryz.func15 (by decide +kernel) rfl (Nat.le_of_ble_eq_true rfl) fun _ => by
  refine Or.inl (cq (valid_fn t) (And.intro rfl trivial) ?_)
  refine And.intro (fun h1 => ?_) (fun h1 => ?_)
  · refine And.intro ⟨trivial, trivial, trivial, trivial⟩ ⟨?_, trivial⟩
    show false = grpB t
    symm
    rw [grpB_false]
    intro hg
    exact h1 (valid_zero.2 hg.toSemi)
  · refine Or.inl (cq (build_fn t (valid_zero.1 h1)) (And.intro rfl trivial) ?_)
    exact And.intro ⟨trivial, trivial, trivial, trivial⟩ ⟨rfl, trivial⟩
end Go.Proofs.YtpanlghofeebhaaGreat
end
section
/- The reference's relations of Green (semigroupref15): contracts; the class of a table (semigroupref17). -/
namespace Go.Proofs.YtpanlghofeebhaaGreat
open Go Go.AM
set_option maxRecDepth 100000
def rowsB (n : Nat) (e : Nat → Nat → Bool) : List (List Bool) := (List.range n).map fun x => setB n (e x)
end Go.Proofs.YtpanlghofeebhaaGreat
end
section
/- The reference of Rees matrix semigroups: its contracts. -/
namespace Go.Proofs.YtpanlghofeebhaaGreat
open Go Go.AM
set_option maxRecDepth 100000
theorem same_k (a b : List Int) (ha : a.length ≤ 140737488355328) (_hb : b.length ≤ 140737488355328) : fnK TY SP Tryz.f29 [.ro (.ints .i64 a), .ro (.ints .i64 b)] (.bool (.v (decide (a = b)))) := by
  refine And.intro (fun h1 => ?_) (fun h1 => ?_)
  · refine And.intro ?_ trivial
    show false = decide (a = b)
    rw [decide_eq_false (fun e => h1 (by rw [e]))]
  refine Exists.intro [] <| lp (X := Nat) (fun k => [(13, .int .i64 k)]) (fun _ => []) (fun k => k ≤ a.length ∧ ∀ j, j < k → a.getD j 0 = b.getD j 0) (fun k => a.length - k) 0 ⟨Nat.zero_le _, by omega⟩ (by repeat' first | refine And.intro ?_ ?_ | exact True.intro | (show (_ : Int) = (_ : Int); omega) | omega | exact rfl | (simp only [RO.len]; omega)) ?_
  intro k hk
  refine And.intro (fun h2 => ?_) (fun h2 => ?_)
  · refine Or.inl <| Exists.intro [false, false, false, false, false, false, false, false, false] (And.intro (by decide +kernel) ?_)
    refine And.intro (by omega) ?_
    refine And.intro (by omega) ?_
    refine And.intro (fun h3 => ?_) (fun h3 => ?_)
    · refine And.intro ?_ trivial
      show false = decide (a = b)
      rw [decide_eq_false (fun e => h3 (by rw [e]))]
    · refine And.intro (by omega) ?_
      refine nx (k + 1) ⟨by omega, fun j hj => ?_⟩ (show a.length - (k + 1) < a.length - k by omega) (by repeat' first | refine And.intro ?_ ?_ | exact True.intro | (show (_ : Int) = (_ : Int); omega) | omega | exact rfl | (simp only [RO.len]; omega))
      by_cases hjk : j < k
      · exact hk.2 j hjk
      · have : j = k := by omega
        rw [this]; exact h3
  · refine And.intro ?_ trivial
    show true = decide (a = b)
    rw [decide_eq_true (ext_getD 0 (by omega) fun i hi => hk.2 i (by omega))]
theorem same_fn (a b : List Int) : QF 29 [.ro (.ints .i64 a), .ro (.ints .i64 b)] (.bool (.v (decide (a = b)))) := mkQ Tryz.func29 (by decide +kernel) rfl (Nat.le_of_ble_eq_true rfl) fun hf => same_k a b hf.1.1 hf.2.1.1
end Go.Proofs.YtpanlghofeebhaaGreat
end
section
/- The members of a set; regular matrices, by the reference. -/
namespace Go.Proofs.YtpanlghofeebhaaGreat
open Go Go.AM
set_option maxRecDepth 100000
def memTo (l : List Bool) (k : Nat) : List Int := ((List.range k).filter fun i => l.getD i false).map fun i : Nat => (i : Int)
def memV (l : List Bool) : List Int := memTo l l.length
theorem memTo_yes {l : List Bool} {k : Nat} (h : l.getD k false = true) : memTo l (k + 1) = memTo l k ++ [(k : Int)] := by
  unfold memTo; rw [List.range_succ, List.filter_append, List.map_append, List.filter_cons_of_pos (p := fun i => l.getD i false) h]; rfl
theorem memTo_no {l : List Bool} {k : Nat} (h : l.getD k false = false) : memTo l (k + 1) = memTo l k := by
  unfold memTo; rw [List.range_succ, List.filter_append, List.map_append, List.filter_cons_of_neg (p := fun i => l.getD i false) (by rw [h]; decide)]; exact List.append_nil _
theorem memTo_len {l : List Bool} {k : Nat} : (memTo l k).length ≤ k := by
  unfold memTo; rw [List.length_map]
  exact Nat.le_trans (List.length_filter_le _ _) (by simp)
theorem members_k (l : List Bool) (hl : l.length ≤ 4096) : fnK TY SP Tryz.f86 [.ro (.bools l)] (.new (.ints .i64 (memV l))) := by
  refine Exists.intro [] <| lp (X := Nat) (fun k => [(8, .int .i64 k), (3, .vec 17)]) (fun k => [(17, .vec 0 (.ints .i64 (memTo l k)) [])]) (fun k => k ≤ l.length) (fun k => l.length - k) 0 (Nat.zero_le _) (by repeat' first | refine And.intro ?_ ?_ | exact True.intro | (show (_ : Int) = (_ : Int); omega) | omega | exact rfl | (simp only [RO.len]; omega)) ?_
  intro k hk
  have hm := memTo_len (l := l) (k := k)
  refine And.intro (fun h1 => ?_) (fun h1 => ?_)
  · refine And.intro (by omega) ?_
    refine And.intro (fun h2 => ?_) (fun h2 => ?_)
    · have h2 : l.getD k false = true := h2
      refine And.intro (by rw [List.length_append, List.length_singleton]; omega) ?_
      refine And.intro (by omega) ?_
      refine nx (k + 1) (by omega) (show l.length - (k + 1) < l.length - k by omega) ?_
      refine And.intro (by repeat' first | refine And.intro ?_ ?_ | exact True.intro | (show (_ : Int) = (_ : Int); omega) | omega | exact rfl | (simp only [RO.len]; omega)) (And.intro (And.intro (And.intro (by omega) (Nat.zero_le _)) (congrArg (RO.ints .i64) (memTo_yes h2).symm)) ?_)
      repeat' first | refine And.intro ?_ ?_ | exact True.intro | (show (_ : Int) = (_ : Int); omega) | omega | exact rfl | (simp only [RO.len]; omega)
    · have h2 : l.getD k false = false := h2
      refine And.intro (by omega) ?_
      refine nx (k + 1) (by omega) (show l.length - (k + 1) < l.length - k by omega) ?_
      refine And.intro (by repeat' first | refine And.intro ?_ ?_ | exact True.intro | (show (_ : Int) = (_ : Int); omega) | omega | exact rfl | (simp only [RO.len]; omega)) (And.intro (And.intro (And.intro (by omega) (Nat.zero_le _)) (congrArg (RO.ints .i64) (memTo_no h2).symm)) ?_)
      repeat' first | refine And.intro ?_ ?_ | exact True.intro | (show (_ : Int) = (_ : Int); omega) | omega | exact rfl | (simp only [RO.len]; omega)
  · have h1 : k = l.length := by omega
    refine And.intro ?_ trivial
    refine And.intro rfl ?_
    show RO.ints .i64 (memTo l k) = RO.ints .i64 (memTo l l.length)
    rw [h1]
theorem members_fn (l : List Bool) (hl : l.length ≤ 4096) : QF 86 [.ro (.bools l)] (.new (.ints .i64 (memV l))) := mkQ Tryz.func86 (by decide +kernel) rfl (Nat.le_of_ble_eq_true rfl) fun _ => members_k l hl
end Go.Proofs.YtpanlghofeebhaaGreat
end
section
/- Ideals of a table: plain. -/
namespace Go.Proofs.YtpanlghofeebhaaGreat
open Go Go.AM
open Classical
def setI (l : List Int) (x : Nat) : Bool := l.contains (x : Int)
theorem setI_iff {l : List Int} {x : Nat} : setI l x = true ↔ (x : Int) ∈ l := List.contains_iff_mem
theorem memV_mem {l : List Bool} {x : Int} : x ∈ memV l ↔ ∃ i : Nat, i < l.length ∧ l.getD i false = true ∧ x = (i : Int) := by
  unfold memV memTo
  simp only [List.mem_map, List.mem_filter, List.mem_range]
  constructor
  · rintro ⟨i, ⟨h1, h2⟩, rfl⟩; exact ⟨i, h1, h2, rfl⟩
  · rintro ⟨i, h1, h2, rfl⟩; exact ⟨i, ⟨h1, h2⟩, rfl⟩
theorem setB_congr {n : Nat} {f g : Nat → Bool} (h : ∀ x, x < n → f x = g x) : setB n f = setB n g :=
  List.map_congr_left fun x hx => h x (List.mem_range.1 hx)
def ascV (n : Nat) (f : Nat → Bool) : List Int := memV (setB n f)
theorem ascV_mem {n : Nat} {f : Nat → Bool} {x : Int} : x ∈ ascV n f ↔ ∃ i : Nat, i < n ∧ f i = true ∧ x = (i : Int) := by
  unfold ascV
  rw [memV_mem, setB_len]
  constructor
  · rintro ⟨i, h1, h2, h3⟩; rw [setB_get h1] at h2; exact ⟨i, h1, h2, h3⟩
  · rintro ⟨i, h1, h2, h3⟩; exact ⟨i, h1, by rw [setB_get h1]; exact h2, h3⟩
theorem ascV_congr {n : Nat} {f g : Nat → Bool} (h : ∀ x, x < n → f x = g x) : ascV n f = ascV n g := by unfold ascV; rw [setB_congr h]
theorem ascV_len (n : Nat) (f : Nat → Bool) : (ascV n f).length ≤ n := by
  have h := memTo_len (l := setB n f) (k := (setB n f).length)
  rw [setB_len] at h
  unfold ascV memV
  rw [setB_len]; exact h
theorem ascV_set {n : Nat} {f : Nat → Bool} {x : Nat} (hx : x < n) : setI (ascV n f) x = f x := by
  cases h : f x with
  | true => exact setI_iff.2 (ascV_mem.2 ⟨x, hx, h, rfl⟩)
  | false =>
    rw [Bool.eq_false_iff]
    intro h'
    obtain ⟨i, _, h2, h3⟩ := ascV_mem.1 (setI_iff.1 h')
    have : i = x := by omega
    rw [this, h] at h2; cases h2
theorem set_iff {r : List Bool} {n i : Nat} {Q : Nat → Prop} (hl : r.length = n) (h : ∀ x, x < n → (r.getD x false = true ↔ Q x)) (hi : i < n) : (r.set i true).length = n ∧ ∀ x, x < n → ((r.set i true).getD x false = true ↔ (Q x ∨ x = i)) :=
  ⟨by rw [List.length_set]; exact hl, fun x hx => by
    by_cases e : x = i
    · subst e; rw [getD_set_eq (by omega)]; simp
    · rw [getD_set_ne (Ne.symm e), h x hx]; simp [e]⟩
theorem setB_ofP {r : List Bool} {n : Nat} {f : Nat → Bool} (hl : r.length = n) (h : ∀ x, x < n → (r.getD x false = true ↔ f x = true)) : r = setB n f :=
  setB_of hl fun x hx => Bool.eq_iff_iff.2 (h x hx)
def inT (t : List (List Int)) (l : List Int) : Prop := ∀ x ∈ l, 0 ≤ x ∧ x < (t.length : Int)
instance (t : List (List Int)) (l : List Int) : Decidable (inT t l) := by unfold inT; infer_instance
def Asc (l : List Int) : Prop := ∀ i, i + 1 < l.length → l.getD i 0 < l.getD (i + 1) 0
noncomputable def ascB (t : List (List Int)) (l : List Int) : Bool := decide (0 < l.length ∧ Asc l ∧ inT t l)
theorem ascB_true {t : List (List Int)} {l : List Int} : ascB t l = true ↔ 0 < l.length ∧ Asc l ∧ inT t l := by unfold ascB; exact decide_eq_true_iff
theorem ascB_false {t : List (List Int)} {l : List Int} : ascB t l = false ↔ ¬ (0 < l.length ∧ Asc l ∧ inT t l) := by unfold ascB; exact decide_eq_false_iff_not
structure AscTo (t : List (List Int)) (l : List Int) (i : Nat) : Prop where
  le : i ≤ l.length
  ins : ∀ j, j < i → 0 ≤ l.getD j 0 ∧ l.getD j 0 < (t.length : Int)
  asc : ∀ j, j + 1 < i → l.getD j 0 < l.getD (j + 1) 0
theorem AscTo.start {t : List (List Int)} {l : List Int} : AscTo t l 0 := ⟨Nat.zero_le _, fun j hj => absurd hj (Nat.not_lt_zero _), fun j hj => by omega⟩
theorem AscTo.next {t : List (List Int)} {l : List Int} {i : Nat} (h : AscTo t l i) (hi : i < l.length) (h1 : 0 ≤ l.getD i 0) (h2 : l.getD i 0 < (t.length : Int)) (h3 : 0 < i → l.getD (i - 1) 0 < l.getD i 0) : AscTo t l (i + 1) :=
  ⟨hi, fun j hj => by
    by_cases e : j = i
    · subst e; exact ⟨h1, h2⟩
    · exact h.ins j (by omega), fun j hj => by
    by_cases e : j + 1 = i
    · subst e; exact h3 (by omega)
    · exact h.asc j (by omega)⟩
theorem AscTo.done {t : List (List Int)} {l : List Int} {i : Nat} (h : AscTo t l i) (hi : l.length ≤ i) : Asc l ∧ inT t l := by
  have e : i = l.length := Nat.le_antisymm h.le hi
  subst e
  refine ⟨fun j hj => h.asc j hj, fun x hx => ?_⟩
  obtain ⟨j, hj, rfl⟩ := mem_getD 0 hx
  exact h.ins j hj
end Go.Proofs.YtpanlghofeebhaaGreat
end
