/- The abstract machine: contents of slices: elements read, set, joined, cut. -/
import Derived.Test.YtmdlfcjbjjifoabAmHelp
namespace Go.AM
open Go

section
variable {w : World} {M : Msk} {ρ : Env}

theorem SlOf.isCell {n m : Nat} {C : Nat → Value → Prop} {v : Value} (h : SlOf w M n C m v) : isCell v := by
  obtain ⟨a, cap, rfl, _⟩ := h; trivial

theorem CellP.isCell {r : RO} {q : Nat} {c : Value} (h : CellP w M r q c) : isCell c := by
  cases r with
  | ints k l => rw [h.1]; trivial
  | bools l => rw [show c = _ from h]; trivial
  | rows k l => exact SlOf.isCell h.2
  | brows l => exact SlOf.isCell h.2
  | rows3 l => exact SlOf.isCell h.2
  | pairs l => simp only [CellP] at h; split at h <;> (rw [h.1]; trivial)

theorem RepC.isCell {a : AV} {v : Value} (h : RepC ρ w M a v) : isCell v := by
  cases a with
  | int k n => rw [h.1]; trivial
  | bool e => rw [show v = _ from h]; trivial
  | ro r => exact SlOf.isCell h.2
  | vec k => obtain ⟨o, _, rfl⟩ := h; trivial
  | ptr k off => obtain ⟨b, ⟨_, rfl⟩ | ⟨_, rfl⟩⟩ := ref_some h <;> trivial
  | rptr r i => obtain ⟨b, off, cap, _, _, _, rfl⟩ := h; trivial
  | vptr k i => obtain ⟨o, b, _, _, _, _, rfl⟩ := h; trivial
  | nils => rw [show v = _ from h]; trivial
  | any => exact h
  | fn f l => cases l with
    | nil => rw [show v = _ from h]; trivial
    | cons => exact h.elim
  | _ => exact h.elim

theorem RO.sz_pos (r : RO) : 0 < r.sz := by cases r <;> simp [RO.sz]

theorem rep_ints {k : IntKind} {l : List Int} {v : Value} : RepRO w M (.ints k l) v ↔ SlI w M k l v := by
  unfold RepRO SlI
  simp only [RO.cells, RO.len, RO.sz, Nat.mul_one]
  exact Iff.rfl
theorem rep_bools {l : List Bool} {v : Value} : RepRO w M (.bools l) v ↔ SlB w M l v := by
  unfold RepRO SlB
  simp only [RO.cells, RO.len, RO.sz, Nat.mul_one]
  exact Iff.rfl
theorem rep_rows {k : IntKind} {l : List (List Int)} {v : Value} : RepRO w M (.rows k l) v ↔ Sl2 w M k l v := by
  unfold RepRO Sl2
  simp only [RO.cells, RO.len, RO.sz, Nat.mul_one]
  exact Iff.rfl

/-- The cells of element i, put together: what 'get' says. -/
theorem get_one {r : RO} {i : Nat} {c : Value} (hs : r.sz = 1) (h : CellP w M r i c) (hl : i < r.len) : RepT ρ w M (r.get i) c := by
  cases r with
  | ints k l => exact h
  | bools l => exact h
  | rows k l => exact rep_ints.2 h
  | brows l => exact rep_bools.2 h
  | rows3 l => exact rep_rows.2 h
  | pairs l => simp [RO.sz] at hs

theorem get_two {l : List (Int × Int)} {i : Nat} {c d : Value} (h : CellP w M (.pairs l) (i * 2) c) (h' : CellP w M (.pairs l) (i * 2 + 1) d) :
    RepT ρ w M ((RO.pairs l).get i) (.agg #[c, d]) := by
  simp only [CellP, Nat.mul_mod_left, if_true, Nat.mul_div_cancel _ (Nat.succ_pos 1), show (i * 2 + 1) % 2 = 1 from by omega, show (i * 2 + 1) / 2 = i from by omega, Nat.one_ne_zero, if_false] at h h'
  exact ⟨_, rfl, h, h', trivial⟩

theorem getD_set {α : Type} (l : List α) (i j : Nat) (a d : α) (h : i < l.length) : (l.set i a).getD j d = if j = i then a else l.getD j d := by
  by_cases hj : j = i
  · subst hj; simp [List.getD, h]
  · simp [List.getD, hj, List.getElem?_set_ne (Ne.symm hj)]

/-- An element set: the cells of the new value in their places, all others as before. -/
theorem set_cells {r : RO} {i : Int} {v : AV} {K : RO → Prop} (h : setK r i v K) (hi : i.toNat < r.len) :
    ∃ r', K r' ∧ r'.len = r.len ∧ r'.sz = r.sz ∧ ∀ (ρ : Env) (w : World) (M : Msk) (u : Value), RepT ρ w M v u → u.cells.size = r.sz ∧
      (∀ j c, u.cells[j]? = some c → Go.AM.isCell c ∧ CellP w M r' (i.toNat * r.sz + j) c) ∧ ∀ q c, q / r.sz ≠ i.toNat → CellP w M r q c → CellP w M r' q c := by
  cases r with
  | ints k l =>
    cases v <;> try exact h.elim
    rename_i k' n
    simp only [setK, ifK_iff] at h
    obtain ⟨hk, h⟩ := h
    obtain rfl := kq_eq hk
    refine ⟨_, h, by simp [RO.len], rfl, fun ρ w M u hu => ?_⟩
    obtain ⟨rfl, hr⟩ := hu
    refine ⟨rfl, fun j c hj => ?_, fun q c hq hc => ?_⟩
    · have hj0 : j = 0 := by rcases j with _ | j; rfl; simp [Value.cells] at hj
      subst hj0; simp [Value.cells] at hj; subst hj
      simp only [RO.len] at hi
      refine ⟨trivial, ?_⟩
      simp only [CellP, RO.sz, Nat.mul_one, Nat.add_zero, getD_set _ _ _ _ _ hi, if_true]
      exact ⟨trivial, hr⟩
    · simp only [RO.sz, Nat.div_one] at hq
      simp only [CellP, getD_set _ _ _ _ _ hi, hq, if_false] at hc ⊢
      exact hc
  | bools l =>
    cases v <;> try exact h.elim
    rename_i e
    have h' : K (.bools (l.set i.toNat e.val)) := by cases e <;> exact h
    refine ⟨_, h', by simp [RO.len], rfl, fun ρ w M u hu => ?_⟩
    have hu' : u = .bool e.val := hu
    subst hu'
    refine ⟨rfl, fun j c hj => ?_, fun q c hq hc => ?_⟩
    · have hj0 : j = 0 := by rcases j with _ | j; rfl; simp [Value.cells] at hj
      subst hj0; simp [Value.cells] at hj; subst hj
      refine ⟨trivial, ?_⟩
      simp only [CellP, RO.sz, Nat.mul_one, Nat.add_zero, getD_set _ _ _ _ _ hi, if_true]
    · simp only [RO.sz, Nat.div_one] at hq
      simp only [CellP, getD_set _ _ _ _ _ hi, hq, if_false] at hc ⊢
      exact hc
  | rows k l =>
    have main : ∀ (m : List Int), K (.rows k (l.set i.toNat m)) → (∀ (ρ : Env) (w : World) (M : Msk) (u : Value), RepT ρ w M v u → SlI w M k m u) →
        ∃ r', K r' ∧ r'.len = (RO.rows k l).len ∧ r'.sz = (RO.rows k l).sz ∧ ∀ (ρ : Env) (w : World) (M : Msk) (u : Value), RepT ρ w M v u → u.cells.size = (RO.rows k l).sz ∧
          (∀ j c, u.cells[j]? = some c → Go.AM.isCell c ∧ CellP w M r' (i.toNat * (RO.rows k l).sz + j) c) ∧ ∀ q c, q / (RO.rows k l).sz ≠ i.toNat → CellP w M (.rows k l) q c → CellP w M r' q c := by
      intro m hK hm
      refine ⟨_, hK, by simp [RO.len], rfl, fun ρ w M u hu => ?_⟩
      have hs := hm ρ w M u hu
      have hs' := hs
      obtain ⟨_, a, cap, rfl, _⟩ := hs
      refine ⟨rfl, fun j c hj => ?_, fun q c hq hc => ?_⟩
      · have hj0 : j = 0 := by rcases j with _ | j; rfl; simp [Value.cells] at hj
        subst hj0; simp [Value.cells] at hj; subst hj
        refine ⟨trivial, ?_⟩
        simp only [CellP, RO.sz, Nat.mul_one, Nat.add_zero, getD_set _ _ _ _ _ hi, if_true]
        exact hs'
      · simp only [RO.sz, Nat.div_one] at hq
        simp only [CellP, getD_set _ _ _ _ _ hi, hq, if_false] at hc ⊢
        exact hc
    cases v <;> try exact h.elim
    · rename_i s
      cases s <;> try exact h.elim
      rename_i k' m
      simp only [setK, ifK_iff] at h
      obtain ⟨hk, h⟩ := h
      obtain rfl := kq_eq hk
      exact main m h fun ρ w M u hu => rep_ints.1 hu
    · exact main [] h fun ρ w M u hu => ⟨Nat.zero_le _, ⟨none, 0, hu, Nat.le_refl _, .inl rfl⟩⟩
  | brows l =>
    have main : ∀ (m : List Bool), K (.brows (l.set i.toNat m)) → (∀ (ρ : Env) (w : World) (M : Msk) (u : Value), RepT ρ w M v u → SlB w M m u) →
        ∃ r', K r' ∧ r'.len = (RO.brows l).len ∧ r'.sz = (RO.brows l).sz ∧ ∀ (ρ : Env) (w : World) (M : Msk) (u : Value), RepT ρ w M v u → u.cells.size = (RO.brows l).sz ∧
          (∀ j c, u.cells[j]? = some c → Go.AM.isCell c ∧ CellP w M r' (i.toNat * (RO.brows l).sz + j) c) ∧ ∀ q c, q / (RO.brows l).sz ≠ i.toNat → CellP w M (.brows l) q c → CellP w M r' q c := by
      intro m hK hm
      refine ⟨_, hK, by simp [RO.len], rfl, fun ρ w M u hu => ?_⟩
      have hs := hm ρ w M u hu
      have hs' := hs
      obtain ⟨_, a, cap, rfl, _⟩ := hs
      refine ⟨rfl, fun j c hj => ?_, fun q c hq hc => ?_⟩
      · have hj0 : j = 0 := by rcases j with _ | j; rfl; simp [Value.cells] at hj
        subst hj0; simp [Value.cells] at hj; subst hj
        refine ⟨trivial, ?_⟩
        simp only [CellP, RO.sz, Nat.mul_one, Nat.add_zero, getD_set _ _ _ _ _ hi, if_true]
        exact hs'
      · simp only [RO.sz, Nat.div_one] at hq
        simp only [CellP, getD_set _ _ _ _ _ hi, hq, if_false] at hc ⊢
        exact hc
    cases v <;> try exact h.elim
    · rename_i s
      cases s <;> try exact h.elim
      rename_i m
      exact main m h fun ρ w M u hu => rep_bools.1 hu
    · exact main [] h fun ρ w M u hu => ⟨Nat.zero_le _, ⟨none, 0, hu, Nat.le_refl _, .inl rfl⟩⟩
  | rows3 l =>
    have main : ∀ (m : List (List Int)), K (.rows3 (l.set i.toNat m)) → (∀ (ρ : Env) (w : World) (M : Msk) (u : Value), RepT ρ w M v u → Sl2 w M .i64 m u) →
        ∃ r', K r' ∧ r'.len = (RO.rows3 l).len ∧ r'.sz = (RO.rows3 l).sz ∧ ∀ (ρ : Env) (w : World) (M : Msk) (u : Value), RepT ρ w M v u → u.cells.size = (RO.rows3 l).sz ∧
          (∀ j c, u.cells[j]? = some c → Go.AM.isCell c ∧ CellP w M r' (i.toNat * (RO.rows3 l).sz + j) c) ∧ ∀ q c, q / (RO.rows3 l).sz ≠ i.toNat → CellP w M (.rows3 l) q c → CellP w M r' q c := by
      intro m hK hm
      refine ⟨_, hK, by simp [RO.len], rfl, fun ρ w M u hu => ?_⟩
      have hs := hm ρ w M u hu
      have hs' := hs
      obtain ⟨_, a, cap, rfl, _⟩ := hs
      refine ⟨rfl, fun j c hj => ?_, fun q c hq hc => ?_⟩
      · have hj0 : j = 0 := by rcases j with _ | j; rfl; simp [Value.cells] at hj
        subst hj0; simp [Value.cells] at hj; subst hj
        refine ⟨trivial, ?_⟩
        simp only [CellP, RO.sz, Nat.mul_one, Nat.add_zero, getD_set _ _ _ _ _ hi, if_true]
        exact hs'
      · simp only [RO.sz, Nat.div_one] at hq
        simp only [CellP, getD_set _ _ _ _ _ hi, hq, if_false] at hc ⊢
        exact hc
    cases v <;> try exact h.elim
    · rename_i s
      cases s <;> try exact h.elim
      rename_i k' m
      cases k' <;> try exact h.elim
      exact main m h fun ρ w M u hu => rep_rows.1 hu
    · exact main [] h fun ρ w M u hu => ⟨Nat.zero_le _, ⟨none, 0, hu, Nat.le_refl _, .inl rfl⟩⟩
  | pairs l =>
    cases v <;> try exact h.elim
    rename_i m
    match m, h with
    | [.int .i64 a, .int .i64 b], h =>
      refine ⟨_, h, by simp [RO.len], rfl, fun ρ w M u hu => ?_⟩
      obtain ⟨cs, rfl, hcs⟩ := hu
      match hcl : cs.toList, hcs with
      | [c, d], hcs =>
        obtain ⟨⟨rfl, ha⟩, ⟨rfl, hb⟩, _⟩ := hcs
        have hcs' : cs = #[.int .i64 a, .int .i64 b] := by
          have := congrArg List.toArray hcl; simpa using this
        subst hcs'
        refine ⟨rfl, fun j c hj => ?_, fun q c hq hc => ?_⟩
        · match j, hj with
          | 0, hj =>
            simp [Value.cells] at hj; subst hj
            refine ⟨trivial, ?_⟩
            simp only [CellP, RO.sz, Nat.add_zero, Nat.mul_mod_left, if_true, Nat.mul_div_cancel _ (Nat.succ_pos 1), getD_set _ _ _ _ _ hi]
            exact ⟨trivial, ha⟩
          | 1, hj =>
            simp [Value.cells] at hj; subst hj
            refine ⟨trivial, ?_⟩
            simp only [CellP, RO.sz, show (i.toNat * 2 + 1) % 2 = 1 from by omega, show (i.toNat * 2 + 1) / 2 = i.toNat from by omega, Nat.one_ne_zero, if_false, getD_set _ _ _ _ _ hi, if_true]
            exact ⟨trivial, hb⟩
          | j + 2, hj => simp [Value.cells] at hj
        · simp only [RO.sz] at hq
          simp only [CellP, getD_set _ _ _ _ _ hi, hq, if_false] at hc ⊢
          exact hc

theorem getD_app {α : Type} (l m : List α) (q : Nat) (d : α) : (l ++ m).getD q d = if q < l.length then l.getD q d else m.getD (q - l.length) d := by
  simp only [List.getD, List.getElem?_append]
  split <;> rfl

/-- Two contents one behind the other. -/
theorem cat_cells {r s : RO} {K : RO → Prop} (h : catK r s K) : ∃ t, K t ∧ t.len = r.len + s.len ∧ t.sz = r.sz ∧ s.sz = r.sz ∧
    ∀ (w : World) (M : Msk) q c, (if q < r.cells then CellP w M r q c else CellP w M s (q - r.cells) c) → CellP w M t q c := by
  cases r <;> cases s <;> try exact h.elim
  case ints.ints k l k' m =>
    simp only [catK, ifK_iff] at h
    obtain ⟨hk, h⟩ := h
    obtain rfl := kq_eq hk
    refine ⟨_, h, by simp [RO.len], rfl, rfl, fun w M q c hc => ?_⟩
    simp only [RO.cells, RO.len, RO.sz, Nat.mul_one, CellP, getD_app] at hc ⊢
    by_cases hq : q < l.length <;> simp only [hq, if_true, if_false] at hc ⊢ <;> exact hc
  case bools.bools l m =>
    refine ⟨_, h, by simp [RO.len], rfl, rfl, fun w M q c hc => ?_⟩
    simp only [RO.cells, RO.len, RO.sz, Nat.mul_one, CellP, getD_app] at hc ⊢
    by_cases hq : q < l.length <;> simp only [hq, if_true, if_false] at hc ⊢ <;> exact hc
  case rows.rows k l k' m =>
    simp only [catK, ifK_iff] at h
    obtain ⟨hk, h⟩ := h
    obtain rfl := kq_eq hk
    refine ⟨_, h, by simp [RO.len], rfl, rfl, fun w M q c hc => ?_⟩
    simp only [RO.cells, RO.len, RO.sz, Nat.mul_one, CellP, getD_app] at hc ⊢
    by_cases hq : q < l.length <;> simp only [hq, if_true, if_false] at hc ⊢ <;> exact hc
  case brows.brows l m =>
    refine ⟨_, h, by simp [RO.len], rfl, rfl, fun w M q c hc => ?_⟩
    simp only [RO.cells, RO.len, RO.sz, Nat.mul_one, CellP, getD_app] at hc ⊢
    by_cases hq : q < l.length <;> simp only [hq, if_true, if_false] at hc ⊢ <;> exact hc
  case rows3.rows3 l m =>
    refine ⟨_, h, by simp [RO.len], rfl, rfl, fun w M q c hc => ?_⟩
    simp only [RO.cells, RO.len, RO.sz, Nat.mul_one, CellP, getD_app] at hc ⊢
    by_cases hq : q < l.length <;> simp only [hq, if_true, if_false] at hc ⊢ <;> exact hc
  case pairs.pairs l m =>
    refine ⟨_, h, by simp [RO.len], rfl, rfl, fun w M q c hc => ?_⟩
    simp only [RO.cells, RO.len, RO.sz, CellP, getD_app] at hc ⊢
    by_cases hq : q < l.length * 2
    · have h2 : q / 2 < l.length := by omega
      simp only [hq, if_true, h2] at hc ⊢
      exact hc
    · have h2 : ¬ q / 2 < l.length := by omega
      have h3 : (q - l.length * 2) % 2 = q % 2 := by omega
      have h4 : (q - l.length * 2) / 2 = q / 2 - l.length := by omega
      simp only [hq, if_false, h2, h3, h4] at hc ⊢
      exact hc

theorem getD_cut {α : Type} (l : List α) (a b q : Nat) (d : α) (h : a + q < b) : ((l.take b).drop a).getD q d = l.getD (a + q) d := by
  simp [List.getD, h]

/-- A part of a content. -/
theorem cut_cells {r : RO} {a b : Nat} {K : RO → Prop} (h : cutK r a b K) (hab : a ≤ b) (hb : b ≤ r.len) : ∃ t, K t ∧ t.len = b - a ∧ t.sz = r.sz ∧
    ∀ (w : World) (M : Msk) q c, q < t.cells → (CellP w M r (a * r.sz + q) c → CellP w M t q c) := by
  cases r with
  | pairs l =>
    simp only [RO.len] at hb
    refine ⟨_, h, by simp [RO.len]; omega, rfl, fun w M q c hq hc => ?_⟩
    simp only [RO.cells, RO.len, RO.sz, List.length_drop, List.length_take] at hq
    have h1 : (a * 2 + q) / 2 = a + q / 2 := by omega
    have h2 : (a * 2 + q) % 2 = q % 2 := by omega
    simp only [CellP, RO.sz, h1, h2, getD_cut _ _ _ _ _ (show a + q / 2 < b from by omega)] at hc ⊢
    exact hc
  | _ l =>
    simp only [RO.len] at hb
    refine ⟨_, h, by simp [RO.len]; omega, rfl, fun w M q c hq hc => ?_⟩
    simp only [RO.cells, RO.len, RO.sz, Nat.mul_one, List.length_drop, List.length_take] at hq
    simp only [CellP, RO.sz, Nat.mul_one, getD_cut _ _ _ _ _ (show a + q < b from by omega)] at hc ⊢
    exact hc
end
end Go.AM
