/- The abstract machine: keys that are given up, and slices that become read only. -/
import Derived.Test.YtmdlfcjbjjifoabAmRo
namespace Go.AM
open Go

/-- From one reading to another: all lasts, but what names the key k: an owned slice reads as 'to'. -/
structure Conv (k : Nat) (to : AV) (ρ : Env) (w : World) (M : Msk) (ρ' : Env) (w' : World) (M' : Msk) : Prop where
  keep : Keep w M w' M'
  other : ∀ j, j ≠ k → ∀ o, ρ j = some o → ρ' j = some o
  self : ∀ v, RepC ρ w M (.vec k) v → RepC ρ' w' M' to v

section
variable {k : Nat} {to : AV}

theorem sweepA_sound {a : AV} {K : AV → Prop} (h : sweepA k to a K) :
    ∃ a', K a' ∧ ∀ ρ w M ρ' w' M', Conv k to ρ w M ρ' w' M' → ∀ v, RepC ρ w M a v → RepC ρ' w' M' a' v := by
  cases a with
  | vec j =>
    simp only [sweepA] at h
    cases hb : Nat.beq j k with
    | true => simp only [hb] at h; obtain rfl := beq_iff'.1 hb; exact ⟨_, h, fun ρ w M ρ' w' M' hc v hv => hc.self v hv⟩
    | false => simp only [hb] at h; exact ⟨_, h, fun ρ w M ρ' w' M' hc v ⟨o, h1, h2⟩ => ⟨o, bind_keep (hc.other _ (beq_false hb)) h1, h2⟩⟩
  | ptr j off =>
    simp only [sweepA] at h
    cases hb : Nat.beq j k with
    | true => simp only [hb] at h; exact ⟨_, h, fun ρ w M ρ' w' M' hc v hv => RepC.isCell hv⟩
    | false => simp only [hb] at h; exact ⟨_, h, fun ρ w M ρ' w' M' hc v h1 => bind_keep (hc.other _ (beq_false hb)) h1⟩
  | vptr j i =>
    simp only [sweepA] at h
    cases hb : Nat.beq j k with
    | true => simp only [hb] at h; exact ⟨_, h, fun ρ w M ρ' w' M' hc v hv => RepC.isCell hv⟩
    | false => simp only [hb] at h; exact ⟨_, h, fun ρ w M ρ' w' M' hc v ⟨o, b, h1, h2⟩ => ⟨o, b, bind_keep (hc.other _ (beq_false hb)) h1, h2⟩⟩
  | ro r => exact ⟨_, h, fun ρ w M ρ' w' M' hc v hv => RepRO.keep hc.keep hv⟩
  | rptr r i => exact ⟨_, h, fun ρ w M ρ' w' M' hc v ⟨b, off, cap, h1, h2⟩ => ⟨b, off, cap, h1.keep hc.keep, h2⟩⟩
  | fn f l =>
    cases l with
    | nil => exact ⟨_, h, fun ρ w M ρ' w' M' hc v hv => hv⟩
    | cons x l => exact ⟨_, h, fun ρ w M ρ' w' M' hc v hv => RepC.isCell hv⟩
  | int k n => exact ⟨_, h, fun ρ w M ρ' w' M' hc v hv => hv⟩
  | bool e => exact ⟨_, h, fun ρ w M ρ' w' M' hc v hv => hv⟩
  | nils => exact ⟨_, h, fun ρ w M ρ' w' M' hc v hv => hv⟩
  | _ => exact ⟨_, h, fun ρ w M ρ' w' M' hc v hv => RepC.isCell hv⟩

theorem sweepL_sound : ∀ {l : List AV} {K : List AV → Prop}, sweepL k to l K →
    ∃ l', K l' ∧ ∀ ρ w M ρ' w' M', Conv k to ρ w M ρ' w' M' → ∀ vs, RepL (RepC ρ w M) l vs → RepL (RepC ρ' w' M') l' vs
  | [], _, h => ⟨[], h, fun _ _ _ _ _ _ _ vs hv => by cases vs <;> exact hv⟩
  | a :: l, K, h => by
    obtain ⟨a', h1, ha⟩ := sweepA_sound h
    obtain ⟨l', h2, hl⟩ := sweepL_sound h1
    refine ⟨_, h2, fun ρ w M ρ' w' M' hc vs hv => ?_⟩
    cases vs with
    | nil => exact hv.elim
    | cons v vs => exact ⟨ha _ _ _ _ _ _ hc _ hv.1, hl _ _ _ _ _ _ hc _ hv.2⟩

/-- One slot that is no struct, tuple or closure. -/
theorem sweepA_T {a : AV} {K : AV → Prop} (ha : (∀ l, a ≠ .agg l) ∧ (∀ l, a ≠ .tup l) ∧ ∀ f l, a ≠ .fn f l) (h : sweepA k to a K) :
    ∃ a', K a' ∧ ∀ ρ w M ρ' w' M', Conv k to ρ w M ρ' w' M' → (∀ v, RepC ρ w M (.vec k) v → RepT ρ' w' M' to v ∧ RepG ρ' w' M' to v) → ∀ v, (RepT ρ w M a v → RepT ρ' w' M' a' v) ∧ (RepG ρ w M a v → RepG ρ' w' M' a' v) := by
  cases a with
  | agg l => exact absurd rfl (ha.1 l)
  | tup l => exact absurd rfl (ha.2.1 l)
  | fn f l => exact absurd rfl (ha.2.2 f l)
  | vec j =>
    simp only [sweepA] at h
    cases hb : Nat.beq j k with
    | true => simp only [hb] at h; obtain rfl := beq_iff'.1 hb; exact ⟨_, h, fun ρ w M ρ' w' M' hc hto v => ⟨fun hv => (hto v hv).1, fun hv => (hto v hv).2⟩⟩
    | false =>
      simp only [hb] at h
      refine ⟨_, h, fun ρ w M ρ' w' M' hc hto v => ⟨fun hv => ?_, fun hv => ?_⟩⟩ <;> (obtain ⟨o, h1, h2⟩ := hv; exact ⟨o, bind_keep (hc.other _ (beq_false hb)) h1, h2⟩)
  | ptr j off =>
    simp only [sweepA] at h
    cases hb : Nat.beq j k with
    | true => simp only [hb] at h; exact ⟨_, h, fun ρ w M ρ' w' M' hc _ v => ⟨fun _ => trivial, fun _ => trivial⟩⟩
    | false =>
      simp only [hb] at h
      refine ⟨_, h, fun ρ w M ρ' w' M' hc _ v => ⟨fun hv => ?_, fun hv => ?_⟩⟩ <;> exact bind_keep (hc.other _ (beq_false hb)) hv
  | vptr j i =>
    simp only [sweepA] at h
    cases hb : Nat.beq j k with
    | true => simp only [hb] at h; exact ⟨_, h, fun ρ w M ρ' w' M' hc _ v => ⟨fun _ => trivial, fun _ => trivial⟩⟩
    | false =>
      simp only [hb] at h
      refine ⟨_, h, fun ρ w M ρ' w' M' hc _ v => ⟨fun hv => ?_, fun hv => ?_⟩⟩ <;> (obtain ⟨o, b, h1, h2⟩ := hv; exact ⟨o, b, bind_keep (hc.other _ (beq_false hb)) h1, h2⟩)
  | ro r => exact ⟨_, h, fun ρ w M ρ' w' M' hc _ v => ⟨fun hv => RepRO.keep hc.keep hv, fun hv => RepRO.keep hc.keep hv⟩⟩
  | rptr r i =>
    refine ⟨_, h, fun ρ w M ρ' w' M' hc _ v => ⟨fun hv => ?_, fun hv => ?_⟩⟩ <;> (obtain ⟨b, off, cap, h1, h2⟩ := hv; exact ⟨b, off, cap, h1.keep hc.keep, h2⟩)
  | int k n => exact ⟨_, h, fun ρ w M ρ' w' M' hc _ v => ⟨fun hv => hv, fun hv => hv⟩⟩
  | bool e => exact ⟨_, h, fun ρ w M ρ' w' M' hc _ v => ⟨fun hv => hv, fun hv => hv⟩⟩
  | nils => exact ⟨_, h, fun ρ w M ρ' w' M' hc _ v => ⟨fun hv => hv, fun hv => hv⟩⟩
  | _ => exact ⟨_, h, fun ρ w M ρ' w' M' hc _ v => ⟨fun _ => trivial, fun _ => trivial⟩⟩

theorem sweepG_sound : ∀ {l : List AV} {K : List AV → Prop}, sweepG k to l K →
    ∃ l', K l' ∧ ∀ ρ w M ρ' w' M', Conv k to ρ w M ρ' w' M' → (∀ v, RepC ρ w M (.vec k) v → RepT ρ' w' M' to v ∧ RepG ρ' w' M' to v) → ∀ vs, RepL (RepG ρ w M) l vs → RepL (RepG ρ' w' M') l' vs
  | [], _, h => ⟨[], h, fun _ _ _ _ _ _ _ _ vs hv => by cases vs <;> exact hv⟩
  | a :: l, K, h => by
    have go : ∃ a' , (sweepG k to l fun l' => K (a' :: l')) ∧ ∀ ρ w M ρ' w' M', Conv k to ρ w M ρ' w' M' → (∀ v, RepC ρ w M (.vec k) v → RepT ρ' w' M' to v ∧ RepG ρ' w' M' to v) → ∀ v, RepG ρ w M a v → RepG ρ' w' M' a' v := by
      cases a with
      | agg m =>
        obtain ⟨m', h1, hm⟩ := sweepL_sound h
        exact ⟨_, h1, fun ρ w M ρ' w' M' hc _ v ⟨cs, h2, h3⟩ => ⟨cs, h2, hm _ _ _ _ _ _ hc _ h3⟩⟩
      | tup m => exact ⟨.any, h, fun ρ w M ρ' w' M' hc _ v _ => trivial⟩
      | fn f m =>
        cases m with
        | nil => exact ⟨_, h, fun ρ w M ρ' w' M' hc _ v hv => hv⟩
        | cons x m => exact ⟨.any, h, fun ρ w M ρ' w' M' hc _ v _ => trivial⟩
      | _ =>
        simp only [sweepG] at h
        obtain ⟨a', h1, ha⟩ := sweepA_T (by simp) h
        exact ⟨a', h1, fun ρ w M ρ' w' M' hc hto v hv => (ha _ _ _ _ _ _ hc hto v).2 hv⟩
    obtain ⟨a', h1, ha⟩ := go
    obtain ⟨l', h2, hl⟩ := sweepG_sound h1
    refine ⟨_, h2, fun ρ w M ρ' w' M' hc hto vs hv => ?_⟩
    cases vs with
    | nil => exact hv.elim
    | cons v vs => exact ⟨ha _ _ _ _ _ _ hc hto _ hv.1, hl _ _ _ _ _ _ hc hto _ hv.2⟩

theorem sweepT_sound : ∀ {l : List AV} {K : List AV → Prop}, sweepT k to l K →
    ∃ l', K l' ∧ l'.length = l.length ∧ ∀ ρ w M ρ' w' M', Conv k to ρ w M ρ' w' M' → (∀ v, RepC ρ w M (.vec k) v → RepT ρ' w' M' to v ∧ RepG ρ' w' M' to v) → ∀ i v, RepT ρ w M (nth l i) v → RepT ρ' w' M' (nth l' i) v
  | [], _, h => ⟨[], h, rfl, fun _ _ _ _ _ _ _ _ _ _ _ => trivial⟩
  | a :: l, K, h => by
    have go : ∃ a' , (sweepT k to l fun l' => K (a' :: l')) ∧ ∀ ρ w M ρ' w' M', Conv k to ρ w M ρ' w' M' → (∀ v, RepC ρ w M (.vec k) v → RepT ρ' w' M' to v ∧ RepG ρ' w' M' to v) → ∀ v, RepT ρ w M a v → RepT ρ' w' M' a' v := by
      cases a with
      | agg m =>
        obtain ⟨m', h1, hm⟩ := sweepL_sound h
        exact ⟨_, h1, fun ρ w M ρ' w' M' hc _ v ⟨cs, h2, h3⟩ => ⟨cs, h2, hm _ _ _ _ _ _ hc _ h3⟩⟩
      | tup m =>
        obtain ⟨m', h1, hm⟩ := sweepG_sound h
        exact ⟨_, h1, fun ρ w M ρ' w' M' hc hto v ⟨cs, h2, h3⟩ => ⟨cs, h2, hm _ _ _ _ _ _ hc hto _ h3⟩⟩
      | fn f m =>
        obtain ⟨m', h1, hm⟩ := sweepL_sound h
        exact ⟨_, h1, fun ρ w M ρ' w' M' hc _ v ⟨cs, h2, h3⟩ => ⟨cs, h2, hm _ _ _ _ _ _ hc _ h3⟩⟩
      | _ =>
        simp only [sweepT] at h
        obtain ⟨a', h1, ha⟩ := sweepA_T (by simp) h
        exact ⟨a', h1, fun ρ w M ρ' w' M' hc hto v hv => (ha _ _ _ _ _ _ hc hto v).1 hv⟩
    obtain ⟨a', h1, ha⟩ := go
    obtain ⟨l', h2, hlen, hl⟩ := sweepT_sound h1
    refine ⟨_, h2, by simp [hlen], fun ρ w M ρ' w' M' hc hto i v hv => ?_⟩
    cases i with
    | zero => exact ha _ _ _ _ _ _ hc hto _ hv
    | succ i => exact hl _ _ _ _ _ _ hc hto i _ hv

/-- A row put into its place. -/
theorem setRow_cells {r s : RO} {i : Int} {K : RO → Prop} (h : setRow r i s K) (hi : i.toNat < r.len) : ∃ r', K r' ∧ r'.len = r.len ∧ r'.sz = r.sz ∧ rowsQ r = true ∧
    ∀ (w : World) (M : Msk), (∀ c, RepRO w M s c → CellP w M r' i.toNat c) ∧ ∀ q c, q ≠ i.toNat → CellP w M r q c → CellP w M r' q c := by
  cases r <;> cases s <;> try exact h.elim
  case rows.ints k l k' m =>
    simp only [setRow, ifK_iff] at h
    obtain ⟨hk, h⟩ := h
    obtain rfl := kq_eq hk
    simp only [RO.len] at hi
    refine ⟨_, h, by simp [RO.len], rfl, rfl, fun w M => ⟨fun c hc => ?_, fun q c hq hc => ?_⟩⟩
    · simp only [CellP, getD_set _ _ _ _ _ hi, if_true]; exact rep_ints.1 hc
    · simp only [CellP, getD_set _ _ _ _ _ hi, hq, if_false] at hc ⊢; exact hc
  case brows.bools l m =>
    simp only [RO.len] at hi
    refine ⟨_, h, by simp [RO.len], rfl, rfl, fun w M => ⟨fun c hc => ?_, fun q c hq hc => ?_⟩⟩
    · simp only [CellP, getD_set _ _ _ _ _ hi, if_true]; exact rep_bools.1 hc
    · simp only [CellP, getD_set _ _ _ _ _ hi, hq, if_false] at hc ⊢; exact hc
  case rows3.rows l k' m =>
    cases k' <;> try exact h.elim
    simp only [RO.len] at hi
    refine ⟨_, h, by simp [RO.len], rfl, rfl, fun w M => ⟨fun c hc => ?_, fun q c hq hc => ?_⟩⟩
    · simp only [CellP, getD_set _ _ _ _ _ hi, if_true]; exact rep_rows.1 hc
    · simp only [CellP, getD_set _ _ _ _ _ hi, hq, if_false] at hc ⊢; exact hc

theorem rowsQ_sz {r : RO} (h : rowsQ r = true) : r.sz = 1 := by cases r <;> first | rfl | cases h

/-- One block, when the key k is given up. -/
def SwB (k : Nat) (to : AV) (B B' : Blk) : Prop :=
  ∀ (ρ : Env) (w : World) (M : Msk) (ρ' : Env) (M' : Msk) (j : Nat), Conv k to ρ w M ρ' w M' → ρ' j = ρ j → (∀ b, hasB ρ j b → ∀ off, M' b off ↔ M b off) → BlkH ρ w M j B → BlkH ρ' w M' j B'

theorem sweepS_sound : ∀ {S : Store} {K : Store → Prop}, sweepS k to S K →
    ∃ S', K S' ∧ ∀ j, match findS S j with | none => findS S' j = none | some B => ∃ B', findS S' j = some B' ∧ SwB k to B B'
  | [], _, h => ⟨[], h, fun _ => rfl⟩
  | (i, b) :: S, K, h => by
    have go : ∃ b', (sweepS k to S fun S' => K ((i, b') :: S')) ∧ SwB k to b b' := by
      cases b with
      | box m =>
        obtain ⟨m', h1, hm⟩ := sweepL_sound h
        refine ⟨_, h1, fun ρ w M ρ' M' j hc hρ hM hB => ?_⟩
        obtain ⟨b, h2, cs, ty, h3, h4, h5⟩ := hB
        refine ⟨b, by rw [hρ]; exact h2, cs, ty, h3, fun off => ?_, hm _ _ _ _ _ _ hc _ h5⟩
        rw [hM b (by simp [hasB, h2, Own.has]) off, h4]
      | map kd vk m =>
        refine ⟨_, h, fun ρ w M ρ' M' j hc hρ hM hB => ?_⟩
        obtain ⟨b, h2, es, n, h3, h4, h5⟩ := hB
        refine ⟨b, by rw [hρ]; exact h2, es, n, h3, fun off => ?_, h5⟩
        rw [hM b (by simp [hasB, h2, Own.has]) off, h4]
      | deep r hole =>
        refine ⟨_, h, fun ρ w M ρ' M' j hc hρ hM hB => ?_⟩
        obtain ⟨o, rows, h2, h3⟩ := hB
        exact ⟨o, rows, by rw [hρ]; exact h2, h3.ext hc.keep fun b hb => ⟨rfl, hM b (by simp only [hasB, h2]; exact hb)⟩⟩
      | vec wm r ov =>
        match ov, h with
        | [], h =>
          refine ⟨_, h, fun ρ w M ρ' M' j hc hρ hM hB => ?_⟩
          obtain ⟨⟨o, h2, h3, h4, h5, h6, h7⟩, _⟩ := hB
          refine ⟨⟨o, by rw [hρ]; exact h2, h3, h4, h5, h6, ?_⟩, .inl rfl⟩
          cases hb : o.blk with
          | none => simp only [hb] at h7 ⊢; exact h7
          | some b =>
            simp only [hb] at h7 ⊢
            obtain ⟨h8, cs, ty, h9, h10, h12, h13⟩ := h7
            refine ⟨h8, cs, ty, h9, h10, fun off => ?_, fun q hq => ?_⟩
            · rw [hM b (by simp [hasB, h2, Own.has, hb]) off, h12]
            · obtain ⟨c, h14, h15⟩ := h13 q hq; exact ⟨c, h14, h15.keep hc.keep⟩
        | [(x, y)], h =>
          simp only [sweepS] at h
          cases hb : Nat.beq y k with
          | false =>
            simp only [hb] at h
            refine ⟨_, h, fun ρ w M ρ' M' j hc hρ hM hB => ?_⟩
            obtain ⟨⟨o, h2, h3, h4, h5, h6, h7⟩, hov⟩ := hB
            refine ⟨⟨o, by rw [hρ]; exact h2, h3, h4, h5, h6, ?_⟩, hov⟩
            cases hb' : o.blk with
            | none => simp only [hb'] at h7 ⊢; exact h7
            | some b =>
              simp only [hb'] at h7 ⊢
              obtain ⟨h8, cs, ty, h9, h10, h12, h13⟩ := h7
              refine ⟨h8, cs, ty, h9, h10, fun off => ?_, fun q hq => ?_⟩
              · rw [hM b (by simp [hasB, h2, Own.has, hb']) off, h12]
              · obtain ⟨c, h14, h15⟩ := h13 q hq
                refine ⟨c, h14, ?_⟩
                split at h15
                · rename_i he; simp only [he, if_true]
                  obtain ⟨o', h16, h17⟩ := h15
                  exact ⟨o', bind_keep (hc.other _ (beq_false hb)) h16, h17⟩
                · rename_i he; simp only [he, if_false]; exact h15.keep hc.keep
          | true =>
            obtain rfl := beq_iff'.1 hb
            simp only [hb] at h
            cases to with
            | ro s =>
              by_cases hx : x.toNat < r.len
              · obtain ⟨r', h1, hl, hz, hq, hcell⟩ := setRow_cells h hx
                refine ⟨_, h1, fun ρ w M ρ' M' j hc hρ hM hB => ?_⟩
                obtain ⟨⟨o, h2, h3, h4, h5, h6, h7⟩, hov⟩ := hB
                refine ⟨⟨o, by rw [hρ]; exact h2, by rw [h3, hl], by rw [h4, hz], by rw [hl]; exact h5, by rw [hl]; exact h6, ?_⟩, .inl rfl⟩
                have hcells : r'.cells = r.cells := by simp [RO.cells, hl, hz]
                cases hb' : o.blk with
                | none => simp only [hb'] at h7 ⊢; rw [hl]; exact h7
                | some b =>
                  simp only [hb'] at h7 ⊢
                  obtain ⟨h8, cs, ty, h9, h10, h12, h13⟩ := h7
                  refine ⟨h8, cs, ty, h9, h10, fun off => ?_, fun q hq => ?_⟩
                  · rw [hM b (by simp [hasB, h2, Own.has, hb']) off, h12]
                  · rw [hcells] at hq
                    obtain ⟨c, h14, h15⟩ := h13 q hq
                    refine ⟨c, h14, ?_⟩
                    split at h15
                    · rename_i he
                      have : q = x.toNat := by omega
                      rw [this]; exact (hcell w M').1 c (hc.self _ h15)
                    · rename_i he
                      rcases hov with hov | ⟨i', j', hov, _, _, hi0, _⟩
                      · cases hov
                      · cases hov
                        exact (hcell w M').2 q c (by omega) (h15.keep hc.keep)
              · have hK : ∃ r', sweepS y (.ro s) S fun S' => K ((i, .vec wm r' []) :: S') := by
                  cases r <;> cases s <;> first
                    | exact h.elim
                    | (simp only [setRow, ifK_iff] at h; exact ⟨_, h.2⟩)
                    | exact ⟨_, h⟩
                    | (rename_i k' m _; cases k' <;> first | exact ⟨_, h⟩ | exact h.elim)
                obtain ⟨r', h1⟩ := hK
                refine ⟨_, h1, fun ρ w M ρ' M' j hc hρ hM hB => ?_⟩
                obtain ⟨_, hov⟩ := hB
                rcases hov with hov | ⟨i', j', hov, _, _, hi0, hi1⟩
                · cases hov
                · cases hov; omega
            | _ => exact h.elim
        | _ :: _ :: _, h => exact h.elim
    obtain ⟨b', h1, hb⟩ := go
    obtain ⟨S', h2, hS⟩ := sweepS_sound h1
    refine ⟨_, h2, fun j => ?_⟩
    by_cases hj : i = j
    · subst hj; simp only [find_cons, if_true]; exact ⟨b', rfl, hb⟩
    · simp only [find_cons, hj, if_false]; exact hS j

def dropE (ρ : Env) (k : Nat) : Env := fun j => if j = k then none else ρ j
def dropM (M : Msk) (ρ : Env) (k : Nat) : Msk := fun b off => M b off ∧ ¬ hasB ρ k b

theorem keep_drop (w : World) (M : Msk) (ρ : Env) (k : Nat) : Keep w M w (dropM M ρ k) := fun _ _ _ h h' => ⟨h, fun hm => h' hm.1⟩

/-- The state when the key k is given up. -/
theorem drop_sound {M0 : Base} {w0 w : World} {ρ : Env} {M : Msk} {T : List AV} {S : Store} {a : Act} {K : List AV → Store → Prop}
    (h : delS S k fun S => sweepT k to T fun T => sweepS k to S fun S => K T S) (st : St M0 w0 ρ M S w) (tm : Tm ρ w M T a)
    (hself : ∀ v, RepC ρ w M (.vec k) v → RepC (dropE ρ k) w (dropM M ρ k) to v ∧ RepT (dropE ρ k) w (dropM M ρ k) to v ∧ RepG (dropE ρ k) w (dropM M ρ k) to v) :
    ∃ T' S', K T' S' ∧ St M0 w0 (dropE ρ k) (dropM M ρ k) S' w ∧ Tm (dropE ρ k) w (dropM M ρ k) T' a ∧ T'.length = T.length ∧ findS S' k = none ∧
      (∀ i v, RepT ρ w M (nth T i) v → RepT (dropE ρ k) w (dropM M ρ k) (nth T' i) v) := by
  obtain ⟨S1, h1, hS1⟩ := del_store h
  obtain ⟨T', h2, hlen, hT⟩ := sweepT_sound h1
  obtain ⟨S', h3, hS'⟩ := sweepS_sound h2
  have hconv : Conv k to ρ w M (dropE ρ k) w (dropM M ρ k) := ⟨keep_drop _ _ _ _, fun j hj o ho => by simpa [dropE, hj] using ho, fun v hv => (hself v hv).1⟩
  have hto : ∀ v, RepC ρ w M (.vec k) v → RepT (dropE ρ k) w (dropM M ρ k) to v ∧ RepG (dropE ρ k) w (dropM M ρ k) to v := fun v hv => (hself v hv).2
  have hnone : findS S' k = none := by
    have := hS' k
    rw [hS1 k] at this; simpa using this
  refine ⟨T', S', h3, ⟨fun j => ?_, fun j B hB => ?_, fun i j b hi hj => ?_, fun b off hm => st.mlt b off hm.1, st.stp, fun b off hb hm => st.sub b off hb hm.1, fun b off hb hl hm => ⟨st.old b off hb hl hm, st.notFresh hb hl⟩, fun x b hx => ?_, fun x o hx ho => ?_⟩,
    ⟨tm.defers, by rw [hlen]; exact tm.size, fun i => hT _ _ _ _ _ _ hconv hto i _ (tm.tmp i)⟩, hlen, hnone, fun i v => hT _ _ _ _ _ _ hconv hto i v⟩
  · by_cases hj : j = k
    · subst hj; simp [dropE, hnone]
    · have := hS' j
      rw [hS1 j] at this
      simp only [hj, if_false] at this
      simp only [dropE, hj, if_false, st.dom j]
      cases hf : findS S j with
      | none => simp only [hf] at this; simp [this]
      | some B => simp only [hf] at this; obtain ⟨B', h4, _⟩ := this; simp [h4]
  · have hj : j ≠ k := fun e => by subst e; rw [hnone] at hB; cases hB
    have := hS' j
    rw [hS1 j] at this
    simp only [hj, if_false] at this
    cases hf : findS S j with
    | none => simp only [hf] at this; rw [this] at hB; cases hB
    | some B0 =>
      simp only [hf] at this
      obtain ⟨B', h4, h5⟩ := this
      rw [h4] at hB; cases hB
      refine h5 ρ w M _ _ j hconv (by simp [dropE, hj]) (fun b hb off => ?_) (st.blk j B0 hf)
      exact ⟨fun hm => hm.1, fun hm => ⟨hm, fun hk => hj (st.inj _ _ _ hb hk)⟩⟩
  · have h1 : ∀ x, hasB (dropE ρ k) x b → hasB ρ x b := fun x hx => by
      by_cases hxk : x = k
      · subst hxk; simp [hasB, dropE] at hx
      · simpa [hasB, dropE, hxk] using hx
    exact st.inj _ _ _ (h1 _ hi) (h1 _ hj)
  · by_cases hxk : x = k
    · subst hxk; simp [hasB, dropE] at hx
    · exact st.fresh x b (by simpa [hasB, dropE, hxk] using hx)
  · by_cases hxk : x = k
    · subst hxk; simp [dropE] at ho
    · exact st.pin x o hx (by simpa [dropE, hxk] using ho)

theorem kill_sound {M0 : Base} {w0 w : World} {ρ : Env} {M : Msk} {T : List AV} {S : Store} {a : Act} {K : List AV → Store → Prop}
    (h : killK k T S K) (st : St M0 w0 ρ M S w) (tm : Tm ρ w M T a) :
    ∃ T' S', K T' S' ∧ St M0 w0 (dropE ρ k) (dropM M ρ k) S' w ∧ Tm (dropE ρ k) w (dropM M ρ k) T' a ∧ T'.length = T.length ∧ findS S' k = none ∧ loc k = true := by
  obtain ⟨hloc, h⟩ := ifK_iff.1 h
  obtain ⟨T', S', h1, h2, h3, h4, h5, _⟩ := drop_sound h st tm fun v hv => ⟨RepC.isCell hv, trivial, trivial⟩
  exact ⟨T', S', h1, h2, h3, h4, h5, hloc⟩

theorem vec_reads' {w : World} {ρ' : Env} {M M' : Msk} {o : Sl} {wm : Nat} {r : RO} (hM : ∀ b off, M' b off → M b off) (hno : ∀ b off, o.blk = some b → ¬ M' b off) (hB : VecH ρ' w M o wm r []) : RepRO w M' r o.val := by
  have hk : Keep w M w M' := fun _ _ _ h h' => ⟨h, fun hm => h' (hM _ _ hm)⟩
  obtain ⟨h3, h4, h5, h6, h7⟩ := hB
  refine ⟨h5, o.blk.map fun b => ⟨b, 0, none⟩, o.cap, by rw [Sl.val, h3], ?_⟩
  cases hb : o.blk with
  | none => simp only [hb] at h7; exact ⟨by rw [h7.1]; exact Nat.zero_le _, .inl (by simp [RO.cells, h7.1])⟩
  | some b =>
    simp only [hb] at h7
    obtain ⟨h8, cs, ty, h9, h10, h12, h13⟩ := h7
    refine ⟨h3 ▸ h8, .inr ⟨b, 0, rfl, fun q hq => ?_⟩⟩
    obtain ⟨c, h14, h15⟩ := h13 q hq
    exact ⟨c, by rw [cell_of_heap h9, Nat.zero_add]; exact h14, hno _ _ hb, h15.keep hk⟩

/-- A row as it reads. -/
theorem row_cell {w : World} {M : Msk} {r : RO} {q : Nat} {c : Value} (hr : rowsQ r = true) : RepRO w M (r.row q) c ↔ CellP w M r q c := by
  cases r <;> try (cases hr; done)
  · exact rep_ints
  · exact rep_bools
  · exact rep_rows

/-- What nobody owns any more, read as its content. -/
theorem blk_reads {w : World} {ρ : Env} {M M' : Msk} {B : Blk} {r : RO} {v : Value} (hM : ∀ b off, M' b off → M b off) (hno : ∀ b off, hasB ρ k b → ¬ M' b off) (hB : BlkH ρ w M k B) (hf : frzB B = some r) (hv : RepC ρ w M (.vec k) v) : RepRO w M' r v := by
  obtain ⟨o, h8, rfl⟩ := hv
  cases B with
  | vec wm r' ov =>
    cases ov <;> simp only [frzB] at hf <;> try (cases hf; done)
    cases hf
    obtain ⟨⟨o', h2, h3⟩, _⟩ := hB
    obtain rfl := sli_sl h2 h8
    exact vec_reads' hM (fun b off hb => hno b off (by simp [hasB, h2, Own.has, hb])) h3
  | deep r' hole =>
    cases hole <;> simp only [frzB] at hf <;> try (cases hf; done)
    cases hf
    obtain ⟨o', rows, h2, h3⟩ := hB
    rw [of_dp h2] at h8; cases h8
    have hk : Keep w M w M' := fun _ _ _ h h' => ⟨h, fun hm => h' (hM _ _ hm)⟩
    refine ⟨h3.lb, o.blk.map fun b => ⟨b, 0, none⟩, o.cap, by rw [Sl.val, h3.len], ?_⟩
    have h7 := h3.outer
    have hsz := rowsQ_sz h3.rq
    cases hb : o.blk with
    | none => simp only [hb] at h7; exact ⟨by rw [h7.1]; exact Nat.zero_le _, .inl (by simp [RO.cells, h7.1])⟩
    | some b =>
      simp only [hb] at h7
      obtain ⟨h8, cs, ty, h9, h10, h12, h13⟩ := h7
      refine ⟨h3.len ▸ h8, .inr ⟨b, 0, rfl, fun q hq => ?_⟩⟩
      have hq : q < r.len := by simpa [RO.cells, hsz] using hq
      obtain ⟨c, h14, h15⟩ := h13 q hq
      refine ⟨c, by rw [cell_of_heap h9, Nat.zero_add]; exact h14, hno _ _ (by simp [hasB, h2, Own.has, hb]), ?_⟩
      rcases h15 with h15 | h15
      · cases h15
      · rw [h15]
        exact (row_cell h3.rq).1 (vec_reads' hM (fun b' off hb' => hno b' off (by simp only [hasB, h2]; exact .inr ⟨q, hb'⟩)) (h3.row q hq (by simp)))
  | box | map => simp [frzB] at hf

/-- An owned slice read as its content. -/
theorem vec_reads {w : World} {ρ : Env} {M : Msk} {r : RO} {wm : Nat} {v : Value} (hB : BlkH ρ w M k (.vec wm r [])) (hv : RepC ρ w M (.vec k) v) :
    RepRO w (dropM M ρ k) r v := blk_reads (fun _ _ h => h.1) (fun _ _ h h' => h'.2 h) hB rfl hv

theorem freeze_sound {M0 : Base} {w0 w : World} {ρ : Env} {M : Msk} {T : List AV} {S : Store} {a : Act} {K : List AV → Store → Prop}
    (h : freezeK k T S K) (st : St M0 w0 ρ M S w) (tm : Tm ρ w M T a) :
    ∃ B r, (findS S k = some B ∧ frzB B = some r) ∧ ∃ T' S', K T' S' ∧ St M0 w0 (dropE ρ k) (dropM M ρ k) S' w ∧ Tm (dropE ρ k) w (dropM M ρ k) T' a ∧ T'.length = T.length ∧
      (∀ v, RepC ρ w M (.vec k) v → RepRO w (dropM M ρ k) r v) := by
  have go : ∀ B r, findS S k = some B → frzB B = some r → (delS S k fun S => sweepT k (.ro r) T fun T => sweepS k (.ro r) S fun S => K T S) → ∃ B r, (findS S k = some B ∧ frzB B = some r) ∧ ∃ T' S', K T' S' ∧ St M0 w0 (dropE ρ k) (dropM M ρ k) S' w ∧ Tm (dropE ρ k) w (dropM M ρ k) T' a ∧ T'.length = T.length ∧
      (∀ v, RepC ρ w M (.vec k) v → RepRO w (dropM M ρ k) r v) := fun B r hf hr h => by
    have hB := st.blk k _ hf
    have rd : ∀ v, RepC ρ w M (.vec k) v → RepRO w (dropM M ρ k) r v := fun v hv => blk_reads (fun _ _ h => h.1) (fun _ _ h h' => h'.2 h) hB hr hv
    obtain ⟨T', S', h1, h2, h3, h4, h5, _⟩ := drop_sound h st tm fun v hv => ⟨rd v hv, rd v hv, rd v hv⟩
    exact ⟨B, r, ⟨hf, hr⟩, T', S', h1, h2, h3, h4, rd⟩
  unfold freezeK at h
  split at h
  · rename_i wm r hf
    exact go _ r hf rfl h
  · rename_i r hf
    exact go _ r hf rfl h
  · exact h.elim
end
end Go.AM
