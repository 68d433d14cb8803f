/- The abstract machine: what stands serves as what is wanted. -/
import Derived.Test.YtmdlfcjbjjifoabAmAppend
namespace Go.AM
open Go

theorem mem_find : ∀ {S : Store} {k : Nat} {B : Blk}, findS S k = some B → ∀ {p : Nat → Blk → Prop}, (∀ e ∈ S, p e.1 e.2) → p k B
  | [], _, _, h, _, _ => by cases h
  | (j, b) :: S, k, B, h, p, hp => by
    rw [find_cons] at h
    split at h
    · rename_i he; subst he; cases h; exact hp (j, b) (by simp)
    · exact mem_find h fun e he => hp e (List.mem_cons_of_mem _ he)

theorem leS_find {S S' : Store} : ∀ {R : Store} {k : Nat} {B' : Blk}, leS S S' R → findS R k = some B' →
    (match findS S k with | some b => leB S S' b B' | none => match B' with | .vec wm r [] => loc k = true ∧ wm = 0 ∧ r.len = 0 | _ => False)
  | [], _, _, _, h => by cases h
  | (j, b) :: R, k, B', h, hf => by
    rw [find_cons] at hf
    split at hf
    · rename_i he
      subst he; cases hf
      have h1 := h.1
      revert h1
      cases findS S j with
      | some => exact id
      | none =>
        cases b with
        | box => exact id
        | map => exact id
        | deep => exact id
        | vec wm r ov =>
          cases ov with
          | nil => exact fun h => ifK_iff.1 h
          | cons => exact id
    · exact leS_find h.2 hf

/-- From one store to another, in the same world. -/
def entE (S S' : Store) (ρ : Env) : Env := fun k => match findS S' k with
  | none => none
  | some B' => match findS S k with
    | some _ => ρ k
    | none => match B' with | .vec _ r _ => some (.sl ⟨none, 0, 0, r.sz⟩) | _ => none

def entM (S' : Store) (ρ : Env) (M : Msk) : Msk := fun b off => M b off ∧ ∀ k, hasB ρ k b → ∃ B', findS S' k = some B' ∧ ∀ wm r ov, B' = .vec wm r ov → wm * r.sz ≤ off

section
variable {P : Program} {TY : List TyE} {M0 : Base} {w0 w : World} {ρ : Env} {M : Msk} {S S' : Store}

theorem ent_keep (S' : Store) (ρ : Env) (w : World) (M : Msk) : Keep w M w (entM S' ρ M) := fun _ _ _ h h' => ⟨h, fun hm => h' hm.1⟩

theorem ent_live {k : Nat} (h : (findS S' k).isSome) (h' : (findS S k).isSome) : entE S S' ρ k = ρ k := by
  obtain ⟨B, hB⟩ := Option.isSome_iff_exists.1 h
  obtain ⟨B', hB'⟩ := Option.isSome_iff_exists.1 h'
  simp [entE, hB, hB']

theorem live_some {k : Nat} (h : liveB S k) : (findS S k).isSome := by
  unfold liveB at h; cases hf : findS S k <;> simp_all

theorem dead_none {k : Nat} (h : deadB S k) : findS S k = none := by
  unfold deadB at h; cases hf : findS S k <;> simp_all

/-- A slice that nobody owns any more, read as its content. -/
theorem dead_reads {k : Nat} {B : Blk} {r : RO} {v : Value} (hB : BlkH ρ w M k B) (hf : frzB B = some r) (hd : findS S' k = none) (hv : RepC ρ w M (.vec k) v) : RepRO w (entM S' ρ M) r v :=
  blk_reads (fun _ _ h => h.1) (fun b off h h' => by obtain ⟨B', hB', _⟩ := h'.2 k h; rw [hd] at hB'; cases hB') hB hf hv

theorem entA (st : St M0 w0 ρ M S w) {a b : AV} {v : Value} (h : leA S S' a b) :
    (RepT ρ w M a v → RepT (entE S S' ρ) w (entM S' ρ M) b v) ∧ (RepG ρ w M a v → RepG (entE S S' ρ) w (entM S' ρ M) b v) ∧ (RepC ρ w M a v → RepC (entE S S' ρ) w (entM S' ρ M) b v) := by
  have hk := ent_keep S' ρ w M
  cases b with
  | any => exact ⟨fun _ => trivial, fun _ => trivial, fun hv => RepC.isCell hv⟩
  | int k n =>
    cases a <;> try exact h.elim
    simp only [leA, ifK_iff] at h
    obtain ⟨h1, rfl⟩ := h
    obtain rfl := kq_eq h1
    exact ⟨id, id, id⟩
  | bool e =>
    cases a <;> try exact h.elim
    rename_i e'
    have h : e'.val = e.val := h
    refine ⟨fun hv => ?_, fun hv => ?_, fun hv => ?_⟩ <;> (have hv : v = .bool e'.val := hv; exact (by rw [hv, h] : v = .bool e.val))
  | ro r =>
    have nil_ro : r.len = 0 → v = .slice none 0 0 → RepRO w (entM S' ρ M) r v := fun hr hv => by
      subst hv
      exact ⟨by rw [hr]; exact Nat.zero_le _, none, 0, by rw [hr], by rw [hr]; exact Nat.le_refl _, .inl (by simp [RO.cells, hr])⟩
    cases a <;> try exact h.elim
    · have h : _ = r := h
      subst h; exact ⟨fun hv => RepRO.keep hk hv, fun hv => RepRO.keep hk hv, fun hv => RepRO.keep hk hv⟩
    · rename_i k
      simp only [leA] at h
      split at h
      · rename_i wm r0 hf
        obtain ⟨hd, rfl⟩ := h
        have hB := st.blk k _ hf
        exact ⟨fun hv => dead_reads hB rfl (dead_none hd) hv, fun hv => dead_reads hB rfl (dead_none hd) hv, fun hv => dead_reads hB rfl (dead_none hd) hv⟩
      · rename_i r0 hf
        obtain ⟨hd, rfl⟩ := h
        have hB := st.blk k _ hf
        exact ⟨fun hv => dead_reads hB rfl (dead_none hd) hv, fun hv => dead_reads hB rfl (dead_none hd) hv, fun hv => dead_reads hB rfl (dead_none hd) hv⟩
      · exact h.elim
    · exact ⟨fun hv => nil_ro h hv, fun hv => nil_ro h hv, fun hv => nil_ro h hv⟩
  | vec k' =>
    cases a <;> try exact h.elim
    · obtain ⟨rfl, h1, h2⟩ := h
      have he := ent_live (ρ := ρ) (live_some h1) (live_some h2)
      refine ⟨fun hv => ?_, fun hv => ?_, fun hv => ?_⟩ <;> (obtain ⟨o, g1, g2⟩ := hv; exact ⟨o, by rw [he]; exact g1, g2⟩)
    · simp only [leA] at h
      split at h
      · rename_i h1 h2
        rename_i wm0 r0 ov0
        have he : entE S S' ρ k' = some (.sl ⟨none, 0, 0, r0.sz⟩) := by simp only [entE, h1, h2]
        refine ⟨fun hv => ?_, fun hv => ?_, fun hv => ?_⟩ <;> (have hv : v = .slice none 0 0 := hv; exact ⟨_, of_sl he, by rw [hv]; rfl⟩)
      · exact h.elim
  | ptr k' o' =>
    cases a <;> try exact h.elim
    obtain ⟨rfl, rfl, h1, h2⟩ := h
    have he := ent_live (ρ := ρ) (live_some h1) (live_some h2)
    refine ⟨fun hv => ?_, fun hv => ?_, fun hv => ?_⟩ <;> (have hv : (ρ _).bind (Own.ref · _) = some v := hv; exact (by rw [he]; exact hv : ((entE S S' ρ) _).bind (Own.ref · _) = some v))
  | nils =>
    cases a <;> try exact h.elim
    exact ⟨id, id, id⟩
  | _ => exact h.elim

theorem entL (st : St M0 w0 ρ M S w) : ∀ {l m : List AV} {vs : List Value}, leL S S' l m → RepL (RepC ρ w M) l vs → RepL (RepC (entE S S' ρ) w (entM S' ρ M)) m vs
  | [], [], _, _, h => by cases ‹List Value› <;> exact h
  | _ :: _, _ :: _, _ :: _, h, hv => ⟨(entA st h.1).2.2 hv.1, entL st h.2 hv.2⟩
  | [], _ :: _, _, h, _ => h.elim
  | _ :: _, [], _, h, _ => h.elim
  | _ :: _, _ :: _, [], _, hv => hv.elim

theorem entG (st : St M0 w0 ρ M S w) : ∀ {l m : List AV} {vs : List Value}, leG S S' l m → RepL (RepG ρ w M) l vs → RepL (RepG (entE S S' ρ) w (entM S' ρ M)) m vs
  | [], [], _, _, h => by cases ‹List Value› <;> exact h
  | a :: l, b :: m, v :: vs, h, hv => by
    refine ⟨?_, entG st h.2 hv.2⟩
    have h1 := h.1
    cases b with
    | agg y =>
      cases a <;> try exact h1.elim
      obtain ⟨cs, h2, h3⟩ := hv.1
      exact ⟨cs, h2, entL st h1 h3⟩
    | _ => exact (entA st h1).2.1 hv.1
  | [], _ :: _, _, h, _ => h.elim
  | _ :: _, [], _, h, _ => h.elim
  | _ :: _, _ :: _, [], _, hv => hv.elim

theorem entT (st : St M0 w0 ρ M S w) {a b : AV} {v : Value} (h : leT S S' a b) (hv : RepT ρ w M a v) : RepT (entE S S' ρ) w (entM S' ρ M) b v := by
  cases b with
  | agg m =>
    cases a <;> try exact h.elim
    obtain ⟨cs, h2, h3⟩ := hv
    exact ⟨cs, h2, entL st h h3⟩
  | tup m =>
    cases a <;> try exact h.elim
    obtain ⟨cs, h2, h3⟩ := hv
    exact ⟨cs, h2, entG st h h3⟩
  | fn f m =>
    cases a <;> try exact h.elim
    obtain ⟨cs, h2, h3⟩ := hv
    obtain ⟨rfl, h⟩ := h
    exact ⟨cs, h2, entL st h h3⟩
  | _ => simp only [leT] at h; exact (entA st h).1 hv
theorem namesA_keep {a : AV} {v : Value} (hn : namesA S' a = true) (hS : ∀ k, (findS S' k).isSome → (ρ k).isSome → (findS S k).isSome) :
    ((∀ l, a ≠ .agg l) → (∀ l, a ≠ .tup l) → (∀ f l, a ≠ .fn f l) → RepT ρ w M a v → RepT (entE S S' ρ) w (entM S' ρ M) a v) ∧ ((∀ l, a ≠ .agg l) → RepG ρ w M a v → RepG (entE S S' ρ) w (entM S' ρ M) a v) ∧ (RepC ρ w M a v → RepC (entE S S' ρ) w (entM S' ρ M) a v) := by
  have hk := ent_keep S' ρ w M
  have hsome : ∀ k, (match findS S' k with | some _ => true | none => false) = true → (findS S' k).isSome := fun k h => by cases hf : findS S' k <;> simp_all
  have live : ∀ k, (findS S' k).isSome → ∀ o, ρ k = some o → entE S S' ρ k = some o := fun k h o ho => by
    rw [ent_live h (hS k h (by rw [ho]; rfl))]; exact ho
  cases a with
  | vec k => refine ⟨fun _ _ _ hv => ?_, fun _ hv => ?_, fun hv => ?_⟩ <;> (obtain ⟨o, g1, g2⟩ := hv; exact ⟨o, bind_keep (live k (hsome k hn)) g1, g2⟩)
  | ptr k off => refine ⟨fun _ _ _ hv => ?_, fun _ hv => ?_, fun hv => ?_⟩ <;> exact bind_keep (live k (hsome k hn)) hv
  | vptr k i => refine ⟨fun _ _ _ hv => ?_, fun _ hv => ?_, fun hv => ?_⟩ <;> (obtain ⟨o, b, g1, g2⟩ := hv; exact ⟨o, b, bind_keep (live k (hsome k hn)) g1, g2⟩)
  | ro r => exact ⟨fun _ _ _ hv => RepRO.keep hk hv, fun _ hv => RepRO.keep hk hv, fun hv => RepRO.keep hk hv⟩
  | rptr r i => refine ⟨fun _ _ _ hv => ?_, fun _ hv => ?_, fun hv => ?_⟩ <;> (obtain ⟨b, off, cap, h1, h2⟩ := hv; exact ⟨b, off, cap, h1.keep hk, h2⟩)
  | any => exact ⟨fun _ _ _ _ => trivial, fun _ _ => trivial, id⟩
  | int k n => exact ⟨fun _ _ _ => id, fun _ => id, id⟩
  | bool e => exact ⟨fun _ _ _ => id, fun _ => id, id⟩
  | nils => exact ⟨fun _ _ _ => id, fun _ => id, id⟩
  | new r => exact ⟨fun _ _ _ hv => hv.elim, fun _ hv => hv.elim, fun hv => hv.elim⟩
  | agg l => exact ⟨fun h => absurd rfl (h l), fun h => absurd rfl (h l), fun hv => hv.elim⟩
  | tup l => exact ⟨fun _ h => absurd rfl (h l), fun _ hv => hv.elim, fun hv => hv.elim⟩
  | fn f l =>
    cases l with
    | nil => exact ⟨fun _ _ h => absurd rfl (h f []), fun _ => id, id⟩
    | cons x l => exact ⟨fun _ _ h => absurd rfl (h f _), fun _ hv => hv.elim, fun hv => hv.elim⟩

theorem namesL_keep (hS : ∀ k, (findS S' k).isSome → (ρ k).isSome → (findS S k).isSome) : ∀ {l : List AV} {vs : List Value}, namesL S' l = true → RepL (RepC ρ w M) l vs → RepL (RepC (entE S S' ρ) w (entM S' ρ M)) l vs
  | [], [], _, _ => trivial
  | a :: l, v :: vs, hn, hv => by
    simp only [namesL] at hn
    split at hn
    · rename_i ha; exact ⟨(namesA_keep ha hS).2.2 hv.1, namesL_keep hS hn hv.2⟩
    · cases hn
  | [], _ :: _, _, hv => hv.elim
  | _ :: _, [], _, hv => hv.elim

theorem namesG_keep (hS : ∀ k, (findS S' k).isSome → (ρ k).isSome → (findS S k).isSome) : ∀ {l : List AV} {vs : List Value}, namesG S' l = true → RepL (RepG ρ w M) l vs → RepL (RepG (entE S S' ρ) w (entM S' ρ M)) l vs
  | [], [], _, _ => trivial
  | a :: l, v :: vs, hn, hv => by
    cases a with
    | agg m =>
      simp only [namesG] at hn
      split at hn
      · rename_i ha
        obtain ⟨cs, h1, h2⟩ := hv.1
        exact ⟨⟨cs, h1, namesL_keep hS ha h2⟩, namesG_keep hS hn hv.2⟩
      · cases hn
    | _ =>
      simp only [namesG] at hn
      split at hn
      · rename_i ha; exact ⟨(namesA_keep ha hS).2.1 (by simp) hv.1, namesG_keep hS hn hv.2⟩
      · cases hn
  | [], _ :: _, _, hv => hv.elim
  | _ :: _, [], _, hv => hv.elim

theorem namesT_keep (hS : ∀ k, (findS S' k).isSome → (ρ k).isSome → (findS S k).isSome) : ∀ {T : List AV} (i : Nat) {v : Value}, namesT S' T = true → RepT ρ w M (nth T i) v → RepT (entE S S' ρ) w (entM S' ρ M) (nth T i) v
  | [], _, _, _, _ => trivial
  | a :: T, i, v, hn, hv => by
    have split' : (match a with
      | .agg m => namesL S' m = true
      | .fn _ m => namesL S' m = true
      | .tup m => namesG S' m = true
      | a => namesA S' a = true) ∧ namesT S' T = true := by
      cases a <;> simp only [namesT] at hn <;> (split at hn) <;> first | exact ⟨by assumption, hn⟩ | cases hn
    obtain ⟨h1, h2⟩ := split'
    cases i with
    | succ i => exact namesT_keep hS i h2 hv
    | zero =>
      have hv : RepT ρ w M a v := hv
      show RepT _ w _ a v
      cases a with
      | agg m => obtain ⟨cs, g1, g2⟩ := hv; exact ⟨cs, g1, namesL_keep hS h1 g2⟩
      | fn f m => obtain ⟨cs, g1, g2⟩ := hv; exact ⟨cs, g1, namesL_keep hS h1 g2⟩
      | tup m => obtain ⟨cs, g1, g2⟩ := hv; exact ⟨cs, g1, namesG_keep hS h1 g2⟩
      | _ => exact (namesA_keep h1 hS).1 (by simp) (by simp) (by simp) hv

/-- The store that is wanted, where the store that stands serves. -/
theorem ent_st (st : St M0 w0 ρ M S w) (h : leS S S' S') : St M0 w0 (entE S S' ρ) (entM S' ρ M) S' w := by
  have hk := ent_keep S' ρ w M
  have hsub : ∀ k b, hasB (entE S S' ρ) k b → hasB ρ k b ∧ (findS S' k).isSome := by
    intro k b hb
    simp only [hasB, entE] at hb
    cases h1 : findS S' k with
    | none => rw [h1] at hb; simp at hb
    | some B' =>
      rw [h1] at hb
      cases h2 : findS S k with
      | some B => rw [h2] at hb; exact ⟨hb, rfl⟩
      | none => rw [h2] at hb; cases B' <;> simp [Own.has] at hb
  have hother : ∀ k b, hasB ρ k b → (findS S' k).isSome → ∀ off, entM S' ρ M b off ↔ M b off ∧ ∀ wm r ov, findS S' k = some (.vec wm r ov) → wm * r.sz ≤ off := by
    intro k b hb hs off
    obtain ⟨B', hB'⟩ := Option.isSome_iff_exists.1 hs
    constructor
    · intro hm
      refine ⟨hm.1, fun wm r ov hf => ?_⟩
      obtain ⟨B2, h1, h2⟩ := hm.2 k hb
      exact h2 wm r ov (by rw [h1] at hf; exact Option.some.inj hf)
    · intro hm
      refine ⟨hm.1, fun j hj => ?_⟩
      obtain rfl := st.inj _ _ _ hj hb
      exact ⟨B', hB', fun wm r ov he => hm.2 wm r ov (by rw [hB', he])⟩
  refine ⟨fun k => ?_, fun k B' hB' => ?_, fun i j b hi hj => st.inj _ _ _ (hsub _ _ hi).1 (hsub _ _ hj).1, fun b off hm => st.mlt b off hm.1, st.stp, fun b off hb hm => st.sub b off hb hm.1, fun b off hb hl hm => ⟨st.old b off hb hl hm, fun k hkb => absurd hkb (st.notFresh hb hl)⟩, fun k b hb => st.fresh k b (hsub k b hb).1, fun k o hk ho => ?_⟩
  · simp only [entE]
    cases h1 : findS S' k with
    | none => rfl
    | some B' =>
      have h2 := leS_find h h1
      cases h3 : findS S k with
      | some B => simp only [st.dom k, h3]; rfl
      | none =>
        rw [h3] at h2
        cases B' with
        | vec wm r ov => rfl
        | _ => exact h2.elim
  · have h2 := leS_find h hB'
    cases h3 : findS S k with
    | none =>
      rw [h3] at h2
      cases B' with
      | box l => exact h2.elim
      | map => exact h2.elim
      | deep => exact h2.elim
      | vec wm r ov =>
        cases ov with
        | cons => exact h2.elim
        | nil =>
          obtain ⟨_, hw, hr⟩ := h2
          exact ⟨⟨⟨none, 0, 0, r.sz⟩, by simp [entE, hB', h3], hr.symm, rfl, by rw [hr]; exact Nat.zero_le _, by omega, hr, rfl⟩, .inl rfl⟩
    | some B =>
      rw [h3] at h2
      have hρ := ent_live (ρ := ρ) (S := S) (S' := S') (k := k) (by rw [hB']; rfl) (by rw [h3]; rfl)
      have hB := st.blk k B h3
      have hlive : (findS S' k).isSome := by rw [hB']; rfl
      cases B with
      | box l =>
        cases B' with
        | vec => exact h2.elim
        | map => exact h2.elim
        | deep => exact h2.elim
        | box m =>
          obtain ⟨b, g1, cs, ty, g2, g3, g4⟩ := hB
          refine ⟨b, by rw [hρ]; exact g1, cs, ty, g2, fun off => ?_, entL st h2 g4⟩
          rw [hother k b (by simp [hasB, g1, Own.has]) hlive off, ← g3 off]
          exact ⟨fun hm => hm.1, fun hm => ⟨hm, fun wm r ov hf => by rw [hB'] at hf; cases hf⟩⟩
      | map kd vk m =>
        cases B' with
        | map kd' vk' m' =>
          have h2 : (kd = kd' ∧ vk = vk') ∧ m = m' := h2
          obtain ⟨⟨rfl, rfl⟩, rfl⟩ := h2
          obtain ⟨b, g1, es, n, g2, g3, g4⟩ := hB
          refine ⟨b, by rw [hρ]; exact g1, es, n, g2, fun off => ?_, g4⟩
          rw [hother k b (by simp [hasB, g1, Own.has]) hlive off, ← g3 off]
          exact ⟨fun hm => hm.1, fun hm => ⟨hm, fun wm r ov hf => by rw [hB'] at hf; cases hf⟩⟩
        | _ => first | done | exact h2.elim
      | deep r hole =>
        cases B' with
        | deep r' hole' =>
          cases hole <;> cases hole' <;> try exact h2.elim
          have h2 : r = r' := h2
          subst h2
          obtain ⟨o, rows, g1, g2⟩ := hB
          refine ⟨o, rows, by rw [hρ]; exact g1, g2.ext hk fun b hb => ⟨rfl, fun off => ?_⟩⟩
          rw [hother k b (by simp only [hasB, g1]; exact hb) hlive off]
          exact ⟨fun hm => hm.1, fun hm => ⟨hm, fun wm r ov hf => by rw [hB'] at hf; cases hf⟩⟩
        | _ => cases hole <;> exact h2.elim
      | vec wm r ov =>
        cases B' with
        | map => cases ov <;> first | exact h2.elim | (rename_i x y; cases y <;> exact h2.elim)
        | deep => cases ov <;> first | exact h2.elim | (rename_i x y; cases y <;> exact h2.elim)
        | box m => cases ov <;> first | exact h2.elim | (rename_i x y; cases y <;> exact h2.elim)
        | vec wm' r' ov' =>
          obtain ⟨⟨o, g1, g2, g3, g4, g5, g6⟩, hov⟩ := hB
          have hmask : ∀ b, o.blk = some b → r'.sz = r.sz → wm ≤ wm' → (∀ cs : Array Value, (∀ off, M b off ↔ wm * o.sz ≤ off ∧ off < cs.size) → ∀ off, entM S' ρ M b off ↔ wm' * o.sz ≤ off ∧ off < cs.size) := by
            intro b hb hz hw cs hM off
            rw [hother k b (by simp [hasB, g1, Own.has, hb]) hlive off, hM off]
            have hle : wm * o.sz ≤ wm' * o.sz := Nat.mul_le_mul_right _ hw
            constructor
            · intro hm
              have := hm.2 wm' r' ov' hB'
              rw [hz, ← g3] at this
              exact ⟨this, hm.1.2⟩
            · intro hm
              refine ⟨⟨by omega, hm.2⟩, fun wm2 r2 ov2 hf => ?_⟩
              rw [hB'] at hf; cases hf
              rw [hz, ← g3]; exact hm.1
          match ov, ov', h2 with
          | [], [], h2 =>
            obtain ⟨⟨hw1, hw2⟩, rfl⟩ := h2
            refine ⟨⟨o, by rw [hρ]; exact g1, g2, g3, g4, hw2, ?_⟩, .inl rfl⟩
            cases hbl : o.blk with
            | none => simp only [hbl] at g6 ⊢; exact g6
            | some b =>
              simp only [hbl] at g6 ⊢
              obtain ⟨g7, cs, ty, g8, g9, g10, g11⟩ := g6
              refine ⟨g7, cs, ty, g8, g9, hmask b hbl rfl hw1 cs g10, fun q hq => ?_⟩
              obtain ⟨c, g12, g13⟩ := g11 q hq; exact ⟨c, g12, CellP.keep hk g13⟩
          | [(i, j)], [], h2 =>
            simp only [leB] at h2
            split at h2
            · rename_i wmj s hj
              obtain ⟨hd, hw', hset⟩ := h2
              rcases hov with hov | ⟨i', j', hov, hrq, hwm0, hi0, hi1⟩
              · cases hov
              cases hov
              obtain ⟨r2, hr2, hl2, hz2, _, hcell⟩ := setRow_cells hset (by omega)
              subst hr2
              refine ⟨⟨o, by rw [hρ]; exact g1, by rw [g2, hl2], by rw [g3, hz2], by rw [hl2]; exact g4, by rw [hl2]; exact hw', ?_⟩, .inl rfl⟩
              cases hbl : o.blk with
              | none => simp only [hbl] at g6 ⊢; rw [hl2]; exact g6
              | some b =>
                simp only [hbl] at g6 ⊢
                obtain ⟨g7, cs, ty, g8, g9, g10, g11⟩ := g6
                refine ⟨g7, cs, ty, g8, g9, hmask b hbl hz2 (by omega) cs g10, fun q hq => ?_⟩
                obtain ⟨c, g12, g13⟩ := g11 q (by simpa [RO.cells, hl2, hz2] using hq)
                refine ⟨c, g12, ?_⟩
                split at g13
                · rename_i he
                  rw [show q = i.toNat from by omega]
                  exact (hcell w _).1 c (dead_reads (st.blk j _ hj) rfl (dead_none hd) g13)
                · rename_i he
                  exact (hcell w _).2 q c (by omega) (CellP.keep hk g13)
            · exact h2.elim
          | [(i, j)], [(i', j')], h2 =>
            obtain ⟨rfl, rfl, rfl, rfl, hl1, hl2⟩ := h2
            rcases hov with hov | ⟨i', j', hov, hrq, hwm0, hi0, hi1⟩
            · cases hov
            cases hov
            refine ⟨⟨o, by rw [hρ]; exact g1, g2, g3, g4, Nat.zero_le _, ?_⟩, .inr ⟨_, _, rfl, hrq, rfl, hi0, hi1⟩⟩
            cases hbl : o.blk with
            | none => simp only [hbl] at g6 ⊢; exact g6
            | some b =>
              simp only [hbl] at g6 ⊢
              obtain ⟨g7, cs, ty, g8, g9, g10, g11⟩ := g6
              refine ⟨g7, cs, ty, g8, g9, hmask b hbl rfl (by omega) cs g10, fun q hq => ?_⟩
              obtain ⟨c, g12, g13⟩ := g11 q hq
              refine ⟨c, g12, ?_⟩
              split at g13
              · rename_i he
                simp only [he, if_true]
                obtain ⟨o2, k1, k2⟩ := g13
                exact ⟨o2, by rw [ent_live (live_some hl1) (live_some hl2)]; exact k1, k2⟩
              · rename_i he
                simp only [he, if_false]
                exact CellP.keep hk g13
          | [], _ :: _, h2 => exact h2.elim
          | [_], _ :: _ :: _, h2 => exact h2.elim
          | _ :: _ :: _, _, h2 => exact h2.elim
  · simp only [entE] at ho
    cases h1 : findS S' k with
    | none => rw [h1] at ho; cases ho
    | some B' =>
      have h2 := leS_find h h1
      rw [h1] at ho
      cases h3 : findS S k with
      | some B => rw [h3] at ho; exact st.pin k o hk ho
      | none =>
        rw [h3] at h2
        cases B' with
        | box l => exact h2.elim
        | map => exact h2.elim
        | deep => exact h2.elim
        | vec wm r ov =>
          cases ov with
          | cons => exact h2.elim
          | nil => rw [h2.1] at hk; cases hk
end
end Go.AM
