/- The abstract machine: calls that change memory of the caller's. -/
import Derived.Test.YtmdlfcjbjjifoabAmEnt
namespace Go.AM
open Go

section
variable {P : Program} {TY : List TyE} {M0 : Base} {w0 w : World} {ρ : Env} {M : Msk} {S S' : Store}

/-! ### Keys that are given up -/

theorem forget1_sound {k : Nat} {T : List AV} {a : Act} {K : List AV → Store → Prop} (h : delS S k fun S => sweepT k .any T fun T => sweepS k .any S fun S => K T S) (st : St M0 w0 ρ M S w) (tm : Tm ρ w M T a) :
    ∃ T' S', K T' S' ∧ St M0 w0 (dropE ρ k) M S' w ∧ Tm (dropE ρ k) w M T' a ∧ T'.length = T.length := by
  obtain ⟨S1, h1, hS1⟩ := del_store h
  obtain ⟨T', h2, hlen, hT⟩ := sweepT_sound h1
  obtain ⟨S', h3, hS'⟩ := sweepS_sound h2
  have hconv : Conv k .any ρ w M (dropE ρ k) w M := ⟨Keep.refl _ _, fun j hj o ho => by simpa [dropE, hj] using ho, fun v hv => RepC.isCell hv⟩
  have hnone : findS S' k = none := by
    have := hS' k
    rw [hS1 k] at this; simpa using this
  refine ⟨T', S', h3, ⟨fun j => ?_, fun j B hB => ?_, fun i j b hi hj => ?_, st.mlt, st.stp, st.sub, st.old, fun x b hx => ?_, fun x o hx ho => ?_⟩,
    ⟨tm.defers, by rw [hlen]; exact tm.size, fun i => hT _ _ _ _ _ _ hconv (fun v _ => ⟨trivial, trivial⟩) i _ (tm.tmp i)⟩, hlen⟩
  · by_cases hj : j = k
    · subst hj; simp [dropE, hnone]
    · have := hS' j
      rw [hS1 j] at this
      simp only [hj, if_false] at this
      simp only [dropE, hj, if_false, st.dom j]
      cases hf : findS S j with
      | none => simp only [hf] at this; simp [this]
      | some B => simp only [hf] at this; obtain ⟨B', h4, _⟩ := this; simp [h4]
  · have hj : j ≠ k := fun e => by subst e; rw [hnone] at hB; cases hB
    have := hS' j
    rw [hS1 j] at this
    simp only [hj, if_false] at this
    cases hf : findS S j with
    | none => simp only [hf] at this; rw [this] at hB; cases hB
    | some B0 =>
      simp only [hf] at this
      obtain ⟨B', h4, h5⟩ := this
      rw [h4] at hB; cases hB
      exact h5 ρ w M _ _ j hconv (by simp [dropE, hj]) (fun b hb off => Iff.rfl) (st.blk j B0 hf)
  · have h1 : ∀ x, hasB (dropE ρ k) x b → hasB ρ x b := fun x hx => by
      by_cases hxk : x = k
      · subst hxk; simp [hasB, dropE] at hx
      · simpa [hasB, dropE, hxk] using hx
    exact st.inj _ _ _ (h1 _ hi) (h1 _ hj)
  · by_cases hxk : x = k
    · subst hxk; simp [hasB, dropE] at hx
    · exact st.fresh x b (by simpa [hasB, dropE, hxk] using hx)
  · by_cases hxk : x = k
    · subst hxk; simp [dropE] at ho
    · exact st.pin x o hx (by simpa [dropE, hxk] using ho)

def dropEs (ρ : Env) (ks : List Nat) : Env := fun k => if k ∈ ks then none else ρ k

theorem forgets_sound {a : Act} : ∀ {ks : List Nat} {T : List AV} {S : Store} {ρ : Env} {K : List AV → Store → Prop}, forgetsK ks T S K → St M0 w0 ρ M S w → Tm ρ w M T a →
    ∃ T' S', K T' S' ∧ St M0 w0 (dropEs ρ ks) M S' w ∧ Tm (dropEs ρ ks) w M T' a ∧ T'.length = T.length
  | [], T, S, ρ, K, h, st, tm => by
    have e : dropEs ρ [] = ρ := by funext k; simp [dropEs]
    rw [e]; exact ⟨T, S, h, st, tm, rfl⟩
  | k :: ks, T, S, ρ, K, h, st, tm => by
    obtain ⟨T1, S1, h1, h2, h3, h4⟩ := forget1_sound h st tm
    obtain ⟨T', S', h5, h6, h7, h8⟩ := forgets_sound h1 h2 h3
    have e : dropEs (dropE ρ k) ks = dropEs ρ (k :: ks) := by
      funext j
      simp only [dropEs, dropE, List.mem_cons]
      by_cases hj : j ∈ ks
      · simp [hj]
      · by_cases hjk : j = k
        · simp [hjk]
        · simp [hj, hjk]
    rw [e] at h6 h7
    exact ⟨T', S', h5, h6, h7, h8.trans h4⟩

/-! ### Names -/

section
variable {σ : List (Nat × Nat)} {ρ1 ρ2 : Env} {M2 : Msk}

theorem renC_back {b : AV} {v : Value} (hok : okC σ b = true) (h : RepC ρ w M (renC σ b) v) (hd : ∀ i j, fndN σ i = some j → ρ1 i = ρ j) : RepC ρ1 w M b v := by
  cases b with
  | vec k =>
    simp only [okC] at hok; simp only [renC] at h
    cases hf : fndN σ k with
    | none => rw [hf] at hok; cases hok
    | some j => rw [hf] at h; obtain ⟨o, h1, h2⟩ := h; exact ⟨o, by rw [hd k j hf]; exact h1, h2⟩
  | ptr k off =>
    simp only [okC] at hok; simp only [renC] at h
    cases hf : fndN σ k with
    | none => rw [hf] at hok; cases hok
    | some j =>
      rw [hf] at h
      have h : (ρ j).bind (Own.ref · off) = some v := h
      rw [← hd k j hf] at h
      exact h
  | vptr k i =>
    simp only [okC] at hok; simp only [renC] at h
    cases hf : fndN σ k with
    | none => rw [hf] at hok; cases hok
    | some j => rw [hf] at h; obtain ⟨o, b, h1, h2⟩ := h; exact ⟨o, b, by rw [hd k j hf]; exact h1, h2⟩
  | fn f l => cases l <;> first | exact h | cases hok
  | agg l => cases hok
  | tup l => cases hok
  | new r => cases hok
  | _ => exact h

theorem renC_fwd (hd : ∀ i j o, fndN σ i = some j → ρ2 i = some o → ρ j = some o) {b : AV} {v : Value} (h : RepC ρ2 w M b v) : RepC ρ w M (renC σ b) v := by
  cases b with
  | vec k =>
    simp only [renC]
    cases hf : fndN σ k with
    | none => exact RepC.isCell h
    | some j => obtain ⟨o, h1, h2⟩ := h; exact ⟨o, bind_keep (fun o' => hd k j o' hf) h1, h2⟩
  | ptr k off =>
    simp only [renC]
    cases hf : fndN σ k with
    | none => exact RepC.isCell h
    | some j => exact bind_keep (fun o' => hd k j o' hf) h
  | vptr k i =>
    simp only [renC]
    cases hf : fndN σ k with
    | none => exact RepC.isCell h
    | some j => obtain ⟨o, b, h1, h2⟩ := h; exact ⟨o, b, bind_keep (fun o' => hd k j o' hf) h1, h2⟩
  | fn f l => cases l <;> first | exact h | exact RepC.isCell h
  | agg l => exact h.elim
  | tup l => exact h.elim
  | new r => exact h.elim
  | any => exact h
  | _ => exact h

theorem renL_back (hd : ∀ i j, fndN σ i = some j → ρ1 i = ρ j) : ∀ {l : List AV} {vs : List Value}, okL σ l = true → RepL (RepC ρ w M) (renL σ l) vs → RepL (RepC ρ1 w M) l vs
  | [], [], _, _ => trivial
  | a :: l, v :: vs, hok, h => by
    simp only [okL] at hok
    split at hok
    · rename_i ha; exact ⟨renC_back ha h.1 hd, renL_back hd hok h.2⟩
    · cases hok
  | [], _ :: _, _, h => h.elim
  | _ :: _, [], _, h => h.elim

theorem renL_fwd (hd : ∀ i j o, fndN σ i = some j → ρ2 i = some o → ρ j = some o) : ∀ {l : List AV} {vs : List Value}, RepL (RepC ρ2 w M) l vs → RepL (RepC ρ w M) (renL σ l) vs
  | [], [], _ => trivial
  | _a :: _l, _v :: _vs, h => ⟨renC_fwd hd h.1, renL_fwd hd h.2⟩
  | [], _ :: _, h => h.elim
  | _ :: _, [], h => h.elim

theorem repG_of_repC {b : AV} {v : Value} (h : RepC ρ w M b v) : RepG ρ w M b v := by
  cases b with
  | agg l => exact h.elim
  | any => trivial
  | _ => simp only [RepG]; exact h

theorem renG_fwd (hd : ∀ i j o, fndN σ i = some j → ρ2 i = some o → ρ j = some o) : ∀ {l : List AV} {vs : List Value}, RepL (RepG ρ2 w M) l vs → RepL (RepG ρ w M) (renG σ l) vs
  | [], [], _ => trivial
  | a :: l, v :: vs, h => by
    refine ⟨?_, renG_fwd hd h.2⟩
    have h1 := h.1
    cases a with
    | agg m => obtain ⟨cs, h2, h3⟩ := h1; exact ⟨cs, h2, renL_fwd hd h3⟩
    | any => trivial
    | _ =>
      simp only [RepG] at h1
      exact repG_of_repC (renC_fwd hd h1)
  | [], _ :: _, h => h.elim
  | _ :: _, [], h => h.elim

theorem repT_of_C {b : AV} {v : Value} (h : RepC ρ w M b v) : RepT ρ w M b v := repT_of_repC h

theorem renT_fwd (hd : ∀ i j o, fndN σ i = some j → ρ2 i = some o → ρ j = some o) {a : AV} {v : Value} (h : RepT ρ2 w M a v) : RepT ρ w M (renT σ a) v := by
  cases a with
  | agg m => obtain ⟨cs, h2, h3⟩ := h; exact ⟨cs, h2, renL_fwd hd h3⟩
  | tup m => obtain ⟨cs, h2, h3⟩ := h; exact ⟨cs, h2, renG_fwd hd h3⟩
  | fn f m => obtain ⟨cs, h2, h3⟩ := h; exact ⟨cs, h2, renL_fwd hd h3⟩
  | any => trivial
  | _ => simp only [RepT] at h; exact repT_of_repC (renC_fwd hd h)

theorem renT_back (hd : ∀ i j, fndN σ i = some j → ρ1 i = ρ j) : ∀ {l : List AV} {vs : List Value}, okT σ l = true → RepL (RepT ρ w M) (renTL σ l) vs → RepL (RepT ρ1 w M) l vs
  | [], [], _, _ => trivial
  | a :: l, v :: vs, hok, h => by
    have hC : ∀ {b : AV}, okC σ b = true → RepT ρ w M (renC σ b) v → RepT ρ1 w M b v := fun {b} hb hv => by
      by_cases hany : b = .any
      · subst hany; trivial
      · refine repT_of_repC (renC_back hb ?_ hd)
        revert hv
        cases b with
        | any => exact absurd rfl hany
        | agg l => cases hb
        | tup l => cases hb
        | new r => cases hb
        | fn f l =>
          cases l with
          | nil => rintro ⟨cs, h1, h2⟩; obtain ⟨l⟩ := cs; cases l <;> first | exact h1 | exact h2.elim
          | cons => cases hb
        | vec k => simp only [okC] at hb; simp only [renC]; cases hf : fndN σ k <;> rw [hf] at hb <;> first | cases hb; done | exact id
        | ptr k o => simp only [okC] at hb; simp only [renC]; cases hf : fndN σ k <;> rw [hf] at hb <;> first | cases hb; done | exact id
        | vptr k o => simp only [okC] at hb; simp only [renC]; cases hf : fndN σ k <;> rw [hf] at hb <;> first | cases hb; done | exact id
        | _ => exact id
    cases a with
    | agg m =>
      simp only [okT] at hok
      split at hok
      · rename_i hm
        obtain ⟨⟨cs, h2, h3⟩, h4⟩ := h
        exact ⟨⟨cs, h2, renL_back hd hm h3⟩, renT_back hd hok h4⟩
      · cases hok
    | fn f m =>
      simp only [okT] at hok
      split at hok
      · rename_i hm
        obtain ⟨⟨cs, h2, h3⟩, h4⟩ := h
        exact ⟨⟨cs, h2, renL_back hd hm h3⟩, renT_back hd hok h4⟩
      · cases hok
    | tup m => simp [okT, okC] at hok
    | _ =>
      simp only [okT] at hok
      split at hok
      · rename_i hm
        exact ⟨hC hm h.1, renT_back hd hok h.2⟩
      · cases hok
  | [], _ :: _, _, h => h.elim
  | _ :: _, [], _, h => h.elim
end

/-! ### The lists of names -/

theorem hasN_false : ∀ {n : Nat} {l : List Nat}, hasN n l = false → n ∉ l
  | _, [], _ => by simp
  | n, m :: l, h => by
    simp only [hasN] at h
    split at h
    · cases h
    · rename_i hb
      simp only [List.mem_cons, not_or]
      exact ⟨beq_false hb, hasN_false h⟩

theorem difN_nodup : ∀ {l : List Nat}, difN l = true → l.Nodup
  | [], _ => by simp
  | n :: l, h => by
    simp only [difN] at h
    split at h
    · cases h
    · rename_i hb; exact List.nodup_cons.2 ⟨hasN_false hb, difN_nodup h⟩

theorem locs_mem : ∀ {l : List Nat}, locs l = true → ∀ n ∈ l, loc n = true
  | [], _, _, hn => by cases hn
  | m :: l, h, n, hn => by
    simp only [locs] at h
    split at h
    · rename_i hm
      rcases List.mem_cons.1 hn with rfl | hn
      · exact hm
      · exact locs_mem h n hn
    · cases h

theorem fnd_cons {i j k : Nat} {σ : List (Nat × Nat)} : fndN ((i, j) :: σ) k = if i = k then some j else fndN σ k := by
  simp only [fndN]
  cases h : Nat.beq i k with
  | true => simp [beq_iff'.1 h]
  | false => simp [beq_false h]

theorem fnd_mem : ∀ {σ : List (Nat × Nat)} {i j : Nat}, fndN σ i = some j → (i, j) ∈ σ
  | [], _, _, h => by cases h
  | (a, b) :: σ, i, j, h => by
    rw [fnd_cons] at h
    split at h
    · rename_i e; subst e; cases h; simp
    · exact List.mem_cons_of_mem _ (fnd_mem h)

theorem snd_mem : ∀ {σ : List (Nat × Nat)} {i j : Nat}, (i, j) ∈ σ → j ∈ snds σ
  | (a, b) :: σ, i, j, h => by
    simp only [snds, List.mem_cons]
    rcases List.mem_cons.1 h with e | h
    · cases e; exact .inl rfl
    · exact .inr (snd_mem h)

theorem fnd_inj : ∀ {σ : List (Nat × Nat)}, (snds σ).Nodup → ∀ {i i' j : Nat}, fndN σ i = some j → fndN σ i' = some j → i = i'
  | [], _, _, _, _, h, _ => by cases h
  | (a, b) :: σ, hn, i, i', j, h, h' => by
    simp only [snds, List.nodup_cons] at hn
    rw [fnd_cons] at h h'
    split at h
    · rename_i e
      subst e
      split at h'
      · rename_i e; exact e
      · cases h; exact absurd (snd_mem (fnd_mem h')) hn.1
    · split at h'
      · cases h'; exact absurd (snd_mem (fnd_mem h)) hn.1
      · exact fnd_inj hn.2 h h'

theorem fst_mem {α : Type} : ∀ {S : List (Nat × α)} {k : Nat} {B : α}, (k, B) ∈ S → k ∈ fsts S
  | (j, b) :: S, k, B, h => by
    simp only [fsts, List.mem_cons]
    rcases List.mem_cons.1 h with e | h
    · cases e; exact .inl rfl
    · exact .inr (fst_mem h)

theorem find_mem : ∀ {S : Store} {k : Nat} {B : Blk}, findS S k = some B → (k, B) ∈ S
  | (j, b) :: S, k, B, h => by
    rw [find_cons] at h
    split at h
    · rename_i e; subst e; cases h; simp
    · exact List.mem_cons_of_mem _ (find_mem h)

theorem okS_mem {σ : List (Nat × Nat)} : ∀ {S : Store}, okS σ S = true → ∀ {k : Nat} {B : Blk}, (k, B) ∈ S → (∃ j, fndN σ k = some j) ∧ okB σ B = true
  | (i, b) :: S, h, k, B, hm => by
    simp only [okS] at h
    split at h
    · rename_i j hj hb
      rcases List.mem_cons.1 hm with e | hm
      · cases e; exact ⟨⟨_, hj⟩, hb⟩
      · exact okS_mem h hm
    · cases h

theorem plainS_mem : ∀ {S : Store}, plainS S = true → ∀ {k : Nat} {B : Blk}, (k, B) ∈ S → ∀ wm r ov, B = .vec wm r ov → ov = []
  | (i, b) :: S, h, k, B, hm, wm, r, ov, e => by
    subst e
    rcases List.mem_cons.1 hm with e | hm
    · cases e
      cases ov with
      | nil => rfl
      | cons x l => simp [plainS] at h
    · refine plainS_mem (S := S) ?_ hm wm r ov rfl
      cases b with
      | box l => exact h
      | map => exact h
      | deep => simp [plainS] at h
      | vec wm' r' ov' => cases ov' <;> first | exact h | (simp [plainS] at h)

theorem renS_mem {σ : List (Nat × Nat)} : ∀ {S : Store} {k : Nat} {B : Blk} {j : Nat}, (k, B) ∈ S → fndN σ k = some j → (j, renB σ B) ∈ renS σ S
  | (i, b) :: S, k, B, j, hm, hf => by
    simp only [renS]
    rcases List.mem_cons.1 hm with e | hm
    · cases e; rw [hf]; simp
    · split
      · exact List.mem_cons_of_mem _ (renS_mem hm hf)
      · exact renS_mem hm hf

theorem renS_keys {σ : List (Nat × Nat)} : ∀ {S : Store} {j : Nat}, j ∈ fsts (renS σ S) → ∃ i, i ∈ fsts S ∧ fndN σ i = some j
  | (i, b) :: S, j, h => by
    simp only [renS] at h
    split at h
    · rename_i j' hj'
      simp only [fsts, List.mem_cons] at h
      rcases h with rfl | h
      · exact ⟨i, by simp [fsts], hj'⟩
      · obtain ⟨i', h1, h2⟩ := renS_keys h; exact ⟨i', by simp [fsts, h1], h2⟩
    · obtain ⟨i', h1, h2⟩ := renS_keys h; exact ⟨i', by simp [fsts, h1], h2⟩

theorem renS_nodup {σ : List (Nat × Nat)} (hσ : (snds σ).Nodup) : ∀ {S : Store}, (fsts S).Nodup → (fsts (renS σ S)).Nodup
  | [], _ => by simp [renS, fsts]
  | (i, b) :: S, h => by
    simp only [fsts, List.nodup_cons] at h
    simp only [renS]
    split
    · rename_i j hj
      simp only [fsts, List.nodup_cons]
      refine ⟨fun hm => ?_, renS_nodup hσ h.2⟩
      obtain ⟨i', h1, h2⟩ := renS_keys hm
      obtain rfl := fnd_inj hσ hj h2
      exact h.1 h1
    · exact renS_nodup hσ h.2

theorem updS_find : ∀ {V S : Store} {K : Store → Prop}, updS V S K → ∃ S', K S' ∧ (∀ k, k ∉ fsts V → findS S' k = findS S k) ∧ ((fsts V).Nodup → ∀ k B, (k, B) ∈ V → findS S' k = some B)
  | [], S, K, h => ⟨S, h, fun _ _ => rfl, fun _ k B hm => by cases hm⟩
  | (i, b) :: V, S, K, h => by
    simp only [updS] at h
    have step : ∃ S1, updS V S1 K ∧ ∀ k, findS S1 k = if i = k then some b else findS S k := by
      cases hf : findS S i with
      | none =>
        rw [hf] at h
        exact ⟨_, h, fun k => find_cons⟩
      | some B =>
        rw [hf] at h
        obtain ⟨S1, h1, h2⟩ := set_store h
        refine ⟨S1, h1, fun k => ?_⟩
        rw [h2 k]
        by_cases hk : i = k
        · subst hk; simp [hf]
        · simp [hk, Ne.symm hk]
    obtain ⟨S1, h1, h2⟩ := step
    obtain ⟨S', h3, h4, h5⟩ := updS_find h1
    refine ⟨S', h3, fun k hk => ?_, fun hn k B hm => ?_⟩
    · simp only [fsts, List.mem_cons, not_or] at hk
      rw [h4 k hk.2, h2 k, if_neg (Ne.symm hk.1)]
    · simp only [fsts, List.nodup_cons] at hn
      rcases List.mem_cons.1 hm with e | hm
      · cases e
        rw [h4 _ hn.1, h2, if_pos rfl]
      · exact h5 hn.2 k B hm

theorem gone_mem {S1 S2 : Store} : ∀ {σ : List (Nat × Nat)} {i j : Nat}, (i, j) ∈ σ → j ∈ gone S1 S2 σ ∨ ((findS S1 i).isSome ∧ (findS S2 i).isSome ∧ loc i = false)
  | (a, b) :: σ, i, j, h => by
    simp only [gone]
    rcases List.mem_cons.1 h with e | h
    · cases e
      split
      · rename_i h1 h2 h3; exact .inr ⟨by rw [h1]; rfl, by rw [h2]; rfl, h3⟩
      · exact .inl (by simp)
    · rcases gone_mem (S1 := S1) (S2 := S2) h with h | h
      · exact .inl (by split <;> simp [h])
      · exact .inr h

theorem putS_find {σ : List (Nat × Nat)} (hσ : (snds σ).Nodup) : ∀ {R S : Store} {K : Store → Prop}, (fsts R).Nodup → putS σ R S K →
    ∃ S', K S' ∧ ∀ k, findS S' k = (match (fsts R).find? (fun i => fndN σ i == some k) with | some i => (findS R i).map (renB σ) | none => findS S k)
  | [], S, K, _, h => ⟨S, h, fun k => by simp [fsts]⟩
  | (i, b) :: R, S, K, hn, h => by
    simp only [fsts, List.nodup_cons] at hn
    simp only [putS] at h
    have tail : ∀ {S1 : Store}, putS σ R S1 K → (∀ k, findS S1 k = if fndN σ i = some k then some (renB σ b) else findS S k) →
        ∃ S', K S' ∧ ∀ k, findS S' k = (match (fsts ((i, b) :: R)).find? (fun i => fndN σ i == some k) with | some i' => (findS ((i, b) :: R) i').map (renB σ) | none => findS S k) := by
      intro S1 h1 h2
      obtain ⟨S', h3, h4⟩ := putS_find hσ hn.2 h1
      refine ⟨S', h3, fun k => ?_⟩
      rw [h4 k]
      simp only [fsts, List.find?_cons]
      by_cases hik : fndN σ i = some k
      · simp only [hik, beq_self_eq_true]
        have : (fsts R).find? (fun i => fndN σ i == some k) = none := by
          rw [List.find?_eq_none]
          intro i' hi' hh
          have := fnd_inj hσ hik (by simpa using hh)
          subst this
          exact hn.1 hi'
        rw [this]
        simp [h2 k, hik, find_cons]
      · have hb : (fndN σ i == some k) = false := by simpa using hik
        simp only [hb]
        cases hfi : (fsts R).find? (fun i => fndN σ i == some k) with
        | none => simp [h2 k, hik]
        | some i' =>
          have hm := List.mem_of_find?_eq_some hfi
          have hne : i ≠ i' := fun e => hn.1 (e ▸ hm)
          simp [find_cons, hne]
    cases hf : fndN σ i with
    | none =>
      rw [hf] at h
      exact tail h fun k => by simp [hf]
    | some j =>
      rw [hf] at h
      simp only at h
      cases hfs : findS S j with
      | some B =>
        rw [hfs] at h
        obtain ⟨S1, h1, h2⟩ := set_store h
        refine tail h1 fun k => ?_
        rw [h2 k]
        by_cases hjk : j = k
        · subst hjk; simp [hfs, hf]
        · simp [hf, hjk, Ne.symm hjk]
      | none =>
        rw [hfs] at h
        refine tail h fun k => ?_
        rw [find_cons]
        by_cases hjk : j = k <;> simp [hf, hjk]

theorem leTs_sound (st : St M0 w0 ρ M S w) : ∀ {l m : List AV} {vs : List Value}, leTs S S' l m → RepL (RepT ρ w M) l vs → RepL (RepT (entE S S' ρ) w (entM S' ρ M)) m vs
  | [], [], vs, _, h => by cases vs <;> exact h
  | _ :: _, _ :: _, _ :: _, h, hv => ⟨entT st h.1 hv.1, leTs_sound st h.2 hv.2⟩
  | [], _ :: _, _, h, _ => h.elim
  | _ :: _, [], _, h, _ => h.elim
  | _ :: _, _ :: _, [], _, hv => hv.elim

theorem find_none_of {S : Store} {k : Nat} (h : k ∉ fsts S) : findS S k = none := by
  cases hf : findS S k with
  | none => rfl
  | some B => exact absurd (fst_mem (find_mem hf)) h

theorem mem_fsts : ∀ {S : Store} {k : Nat}, k ∈ fsts S → (findS S k).isSome
  | (j, b) :: S, k, h => by
    rw [find_cons]
    split
    · rfl
    · rename_i hne
      simp only [fsts, List.mem_cons] at h
      exact mem_fsts (h.resolve_left (Ne.symm hne))

theorem fnd_lent {S1 : Store} : ∀ {σ : List (Nat × Nat)} {i j : Nat}, fndN (lentN S1 σ) i = some j ↔ (findS S1 i).isSome ∧ fndN σ i = some j
  | [], i, j => by simp [lentN, fndN]
  | (a, b) :: σ, i, j => by
    have ih := fnd_lent (S1 := S1) (σ := σ) (i := i) (j := j)
    simp only [lentN]
    cases hf : findS S1 a with
    | some B =>
      simp only [fnd_cons]
      by_cases hai : a = i
      · subst hai; simp [hf]
      · simp only [hai, if_false]; exact ih
    | none =>
      simp only [fnd_cons]
      by_cases hai : a = i
      · subst hai
        rw [ih]; simp [hf]
      · simp only [hai, if_false]; exact ih

theorem snds_lent {S1 : Store} : ∀ {σ : List (Nat × Nat)}, (snds σ).Nodup → (snds (lentN S1 σ)).Nodup
  | [], _ => by simp [lentN, snds]
  | (a, b) :: σ, h => by
    simp only [snds, List.nodup_cons] at h
    simp only [lentN]
    have sub : ∀ {σ : List (Nat × Nat)} {x : Nat}, x ∈ snds (lentN S1 σ) → x ∈ snds σ := by
      intro σ
      induction σ with
      | nil => intro x hx; exact hx
      | cons e σ ih =>
        intro x hx
        obtain ⟨i, j⟩ := e
        simp only [lentN] at hx
        split at hx
        · simp only [snds, List.mem_cons] at hx ⊢
          exact hx.imp id ih
        · simp only [snds, List.mem_cons]; exact .inr (ih hx)
    split
    · simp only [snds, List.nodup_cons]
      exact ⟨fun hm => h.1 (sub hm), snds_lent h.2⟩
    · exact snds_lent h.2

/-- What the callee is entered with. -/
theorem lend_sound (st : St M0 w0 ρ M S w) {σ : List (Nat × Nat)} (hσ : (snds σ).Nodup) {S1 : Store} (hall : ∀ i j, fndN σ i = some j → (findS S1 i).isSome) (hok : okS σ S1 = true) (hS : ∀ j B, (j, B) ∈ renS σ S1 → findS S j = some B) :
    St (lentBase (fun i => (fndN σ i).bind ρ) M) w (fun i => (fndN σ i).bind ρ) M S1 w ∧ (∀ i, (findS S1 i).isSome → ∃ j, fndN σ i = some j ∧ (ρ j).isSome) := by
  have name : ∀ i B, findS S1 i = some B → ∃ j, fndN σ i = some j ∧ findS S j = some (renB σ B) ∧ okB σ B = true := fun i B hB => by
    have hm := find_mem hB
    obtain ⟨⟨j, hj⟩, hb⟩ := okS_mem hok hm
    exact ⟨j, hj, hS _ _ (renS_mem hm hj), hb⟩
  have hd : ∀ i j, fndN σ i = some j → (fndN σ i).bind ρ = ρ j := fun i j h => by rw [h]; rfl
  have hblk : ∀ i b, hasB (fun i => (fndN σ i).bind ρ) i b → ∃ j, fndN σ i = some j ∧ hasB ρ j b := fun i b hb => by
    cases hf : fndN σ i with
    | none => simp [hasB, hf] at hb
    | some j => exact ⟨j, rfl, by simpa [hasB, hf] using hb⟩
  refine ⟨⟨fun i => ?_, fun i B hB => ?_, fun i i' b hi hi' => ?_, st.mlt, Stp.refl _ _, fun b off _ hm => hm, fun b off _ _ hm => hm, fun k b hk => .inr ⟨k, hk⟩, fun k o _ hk => hk⟩, fun i hi => ?_⟩
  · cases hB : findS S1 i with
    | none =>
      cases hf : fndN σ i with
      | none => rfl
      | some j => have := hall i j hf; rw [hB] at this; cases this
    | some B =>
      obtain ⟨j, h1, h3, _⟩ := name i B hB
      show ((fndN σ i).bind ρ).isSome = _
      rw [hd i j h1, st.dom j, h3]; rfl
  · obtain ⟨j, h1, h3, h4⟩ := name i B hB
    have hBj := st.blk j _ h3
    cases B with
    | box l =>
      obtain ⟨b, g1, cs, ty, g2, g3, g4⟩ := hBj
      exact ⟨b, (hd i j h1).trans g1, cs, ty, g2, g3, renL_back hd h4 g4⟩
    | map kd vk m =>
      obtain ⟨b, g1, g2⟩ := hBj
      exact ⟨b, (hd i j h1).trans g1, g2⟩
    | deep r hole => simp [okB] at h4
    | vec wm r ov =>
      have hov : ov = [] := by cases ov <;> first | rfl | (simp [okB] at h4)
      subst hov
      obtain ⟨⟨o, g1, g2, g3, g4, g5, g6⟩, _⟩ := hBj
      refine ⟨⟨o, (hd i j h1).trans g1, g2, g3, g4, g5, ?_⟩, .inl rfl⟩
      cases hbl : o.blk with
      | none => simp only [hbl] at g6 ⊢; exact g6
      | some b => simp only [hbl] at g6 ⊢; exact g6
  · obtain ⟨j, h1, h2⟩ := hblk i b hi
    obtain ⟨j', h1', h2'⟩ := hblk i' b hi'
    obtain rfl := st.inj _ _ _ h2 h2'
    exact fnd_inj hσ h1 h1'
  · obtain ⟨B, hB⟩ := Option.isSome_iff_exists.1 hi
    obtain ⟨j, h1, h3, _⟩ := name i B hB
    exact ⟨j, h1, by rw [st.dom j, h3]; rfl⟩

/-- What stands behind the call. -/
theorem back_sound {ρk ρ1 ρ2 : Env} {M2 : Msk} {w' : World} {σ : List (Nat × Nat)} {S1 S2 Sk Sf : Store} {T : List AV} {a : Act} {ret : AV} {v : Value} (hσ : (snds σ).Nodup) (_hn2 : (fsts S2).Nodup) (hp2 : plainS S2 = true) (hloc : locs (gone S1 S2 σ) = true)
    (hρ1 : ∀ i o, ρ1 i = some o → ∃ j, fndN σ i = some j ∧ ρ j = some o) (hρ1' : ∀ i j, (findS S1 i).isSome → fndN σ i = some j → ρ1 i = ρ j) (hk : ρk = dropEs ρ (gone S1 S2 σ)) (st0 : St M0 w0 ρ M S w) (st : St M0 w0 ρk M Sk w) (tm : Tm ρk w M T a)
    (st2 : St (lentBase ρ1 M) w ρ2 M2 S2 w') (hv : RepT ρ2 w' M2 ret v)
    (hSf : ∀ k, findS Sf k = (match (fsts S2).find? (fun i => fndN σ i == some k) with | some i => (findS S2 i).map (renB σ) | none => findS Sk k)) :
    ∃ ρ', St M0 w0 ρ' M2 Sf w' ∧ Tm ρ' w' M2 T a ∧ RepT ρ' w' M2 (renT σ ret) v := by
  -- the key of the contract under which k stands behind the call
  let nm : Nat → Option Nat := fun k => (fsts S2).find? (fun i => fndN σ i == some k)
  have nm_some : ∀ {k i}, nm k = some i → i ∈ fsts S2 ∧ fndN σ i = some k := fun {k i} h => ⟨List.mem_of_find?_eq_some h, by have := List.find?_some h; simpa using this⟩
  have nm_of : ∀ {k i}, (findS S2 i).isSome → fndN σ i = some k → nm k = some i := fun {k i} h1 h2 => by
    cases hn : nm k with
    | none =>
      obtain ⟨B, hB⟩ := Option.isSome_iff_exists.1 h1
      have := List.find?_eq_none.1 hn i (fst_mem (find_mem hB))
      simp [h2] at this
    | some i' =>
      obtain ⟨_, h3⟩ := nm_some hn
      rw [fnd_inj hσ h3 h2]
  let ρ' : Env := fun k => match nm k with | some i => ρ2 i | none => ρk k
  have hlent : ∀ b, (lentBase ρ1 M).lent b → ∃ j, hasB ρ j b := fun b ⟨i, hi⟩ => by
    cases ho : ρ1 i with
    | none => simp [hasB, ho] at hi
    | some o =>
      obtain ⟨j, _, h2⟩ := hρ1 i o ho
      exact ⟨j, by simpa [hasB, h2, ho] using hi⟩
  -- what keeps its name keeps what it stands for
  have keepρ : ∀ k o, ρk k = some o → ρ' k = some o := fun k o ho => by
    show (match nm k with | some i => ρ2 i | none => ρk k) = some o
    cases hn : nm k with
    | none => exact ho
    | some i =>
      obtain ⟨h1, h2⟩ := nm_some hn
      rcases gone_mem (S1 := S1) (S2 := S2) (fnd_mem h2) with h3 | ⟨h3, h4, h5⟩
      · rw [hk] at ho; simp [dropEs, h3] at ho
      · have hs : (ρ2 i).isSome := by rw [st2.dom i]; exact h4
        obtain ⟨o2, ho2⟩ := Option.isSome_iff_exists.1 hs
        have h6 := st2.pin i o2 h5 ho2
        have h6 : ρ1 i = some o2 := h6
        rw [hρ1' i k h3 h2] at h6
        have h7 : ρk k = ρ k := by
          rw [hk] at ho ⊢
          simp only [dropEs] at ho ⊢
          split at ho
          · cases ho
          · rename_i hng; rw [if_neg hng]
        rw [h7, h6] at ho
        show ρ2 i = some o
        rw [ho2]; exact ho
  have fwd : ∀ i j o, fndN σ i = some j → ρ2 i = some o → ρ' j = some o := fun i j o h1 h2 => by
    have hs : (findS S2 i).isSome := by rw [← st2.dom i, h2]; rfl
    show (match nm j with | some i => ρ2 i | none => ρk j) = some o
    rw [nm_of hs h1]; exact h2
  have hkM : Keep w M w' M2 := fun b off c hc hm => by
    have hlt := cell_lt hc
    refine ⟨st2.stp.cell hc (fun hh => hm hh.2), fun h2 => hm (st2.sub b off hlt h2)⟩
  -- a block of a key that keeps its name is not lent
  have notlent : ∀ k b, nm k = none → hasB ρk k b → ¬ (lentBase ρ1 M).lent b := fun k b hn hb ⟨i, hi⟩ => by
    have hkk : ρk k = ρ k ∧ k ∉ gone S1 S2 σ := by
      rw [hk] at hb ⊢
      by_cases hg : k ∈ gone S1 S2 σ
      · simp [hasB, dropEs, hg] at hb
      · exact ⟨by simp [dropEs, hg], hg⟩
    cases ho : ρ1 i with
    | none => simp [hasB, ho] at hi
    | some o =>
      obtain ⟨j, h1, h2⟩ := hρ1 i o ho
      have hj : hasB ρ j b := by simpa [hasB, h2, ho] using hi
      have hk2 : hasB ρ k b := by simpa [hasB, hkk.1] using hb
      obtain rfl := st0.inj _ _ _ hk2 hj
      rcases gone_mem (S1 := S1) (S2 := S2) (fnd_mem h1) with h3 | ⟨h3, h4, h5⟩
      · exact hkk.2 h3
      · rw [nm_of h4 h1] at hn; cases hn
  have hblk : ∀ k b, hasB ρ' k b → (∃ i, nm k = some i ∧ hasB ρ2 i b) ∨ (nm k = none ∧ hasB ρk k b) := fun k b hb => by
    simp only [hasB, ρ'] at hb
    cases hn : nm k with
    | none => rw [hn] at hb; exact .inr ⟨rfl, hb⟩
    | some i => rw [hn] at hb; exact .inl ⟨i, rfl, hb⟩
  have hheap : ∀ b, b < w.heap.size → ¬ (lentBase ρ1 M).lent b → w'.heap[b]? = w.heap[b]? ∧ ∀ off, M2 b off ↔ M b off := fun b hb hl => by
    refine ⟨?_, fun off => ⟨fun h => st2.sub b off hb h, fun h => st2.old b off hb hl h⟩⟩
    rcases st2.stp.2 b hb with h | ⟨cs, cs', ty, h1, h2, h3, h4⟩ | ⟨_, _, _, _, _, _, hh⟩
    · exact h
    · rw [h1, h2]
      have : cs' = cs := Array.ext_getElem? fun i => h4 i (fun hh => hl hh.1)
      rw [this]
    · exact absurd hh.1 hl
  refine ⟨ρ', ⟨fun k => ?_, fun k B hB => ?_, fun i j b hi hj => ?_, st2.mlt, st.stp.trans st2.stp (fun b off hb hm => ?_), fun b off hb hm => ?_, fun b off hb hl hm => ?_, fun k b hb => ?_, fun k o hl ho => ?_⟩,
    ⟨tm.defers, tm.size, fun i => RepT.keep hkM keepρ (tm.tmp i)⟩, renT_fwd fwd hv⟩
  · rw [hSf k]
    show (match nm k with | some i => ρ2 i | none => ρk k).isSome = (match nm k with | some i => _ | none => _ : Option Blk).isSome
    cases hn : nm k with
    | none => exact st.dom k
    | some i => simp only [Option.isSome_map]; exact st2.dom i
  · rw [hSf k] at hB
    change (match nm k with | some i => _ | none => _ : Option Blk) = some B at hB
    cases hn : nm k with
    | none =>
      rw [hn] at hB
      have hkk : ρ' k = ρk k := by show (match nm k with | some i => ρ2 i | none => ρk k) = _; rw [hn]
      have h1 := BlkH.ext (ρ' := ρ') (w' := w') (M' := M2) hkM keepρ (fun b hb => hheap b (blk_lt st hb) (notlent k b hn hb)) (st.blk k B hB)
      exact h1
    | some i =>
      rw [hn] at hB
      replace hB : (findS S2 i).map (renB σ) = some B := hB
      obtain ⟨hi1, hi2⟩ := nm_some hn
      cases hB2 : findS S2 i with
      | none => rw [hB2] at hB; cases hB
      | some B2 =>
        rw [hB2] at hB; cases hB
        have hBi := st2.blk i B2 hB2
        cases B2 with
        | box l =>
          obtain ⟨b, g1, cs, ty, g2, g3, g4⟩ := hBi
          exact ⟨b, fwd i k _ hi2 g1, cs, ty, g2, g3, renL_fwd fwd g4⟩
        | map kd vk m =>
          obtain ⟨b, g1, g2⟩ := hBi
          exact ⟨b, fwd i k _ hi2 g1, g2⟩
        | deep r hole =>
          obtain ⟨o, rows, g1, g2⟩ := hBi
          exact ⟨o, rows, fwd i k _ hi2 g1, g2⟩
        | vec wm r ov =>
          obtain rfl := plainS_mem hp2 (find_mem hB2) wm r ov rfl
          obtain ⟨⟨o, g1, g2, g3, g4, g5, g6⟩, _⟩ := hBi
          refine ⟨⟨o, fwd i k _ hi2 g1, g2, g3, g4, g5, ?_⟩, .inl rfl⟩
          cases hbl : o.blk with
          | none => simp only [hbl] at g6 ⊢; exact g6
          | some b => simp only [hbl] at g6 ⊢; exact g6
  · rcases hblk i b hi with ⟨x, hx, hxb⟩ | ⟨hx, hxb⟩ <;> rcases hblk j b hj with ⟨y, hy, hyb⟩ | ⟨hy, hyb⟩
    · obtain rfl := st2.inj _ _ _ hxb hyb
      have h1 := (nm_some hx).2
      rw [(nm_some hy).2] at h1
      exact (Option.some.inj h1).symm
    · have hlt := blk_lt st hyb
      exact absurd ((st2.fresh x b hxb).resolve_left (Nat.not_le_of_lt hlt)) (notlent j b hy hyb)
    · have hlt := blk_lt st hxb
      exact absurd ((st2.fresh y b hyb).resolve_left (Nat.not_le_of_lt hlt)) (notlent i b hx hxb)
    · exact st.inj _ _ _ hxb hyb
  · obtain ⟨j, hj⟩ := hlent b hm.1
    have hm2 : M b off := hm.2
    exact ⟨(st0.fresh j b hj).resolve_left (Nat.not_le_of_lt hb), st0.sub b off hb hm2⟩
  · exact st.sub b off hb (st2.sub b off (Nat.lt_of_lt_of_le hb st.stp.1) hm)
  · refine st2.old b off (Nat.lt_of_lt_of_le hb st.stp.1) (fun hh => ?_) (st.old b off hb hl hm)
    obtain ⟨j, hj⟩ := hlent b hh
    exact st0.notFresh hb hl hj
  · rcases hblk k b hb with ⟨x, hx, hxb⟩ | ⟨hx, hxb⟩
    · rcases st2.fresh x b hxb with h | h
      · exact .inl (Nat.le_trans st.stp.1 h)
      · obtain ⟨j, hj⟩ := hlent b h
        exact st0.fresh j b hj
    · exact st.fresh k b hxb
  · have ho : (match nm k with | some i => ρ2 i | none => ρk k) = some o := ho
    cases hn : nm k with
    | none => rw [hn] at ho; exact st.pin k o hl ho
    | some i =>
      rw [hn] at ho
      obtain ⟨h1, h2⟩ := nm_some hn
      rcases gone_mem (S1 := S1) (S2 := S2) (fnd_mem h2) with h3 | ⟨h3, h4, h5⟩
      · rw [locs_mem hloc k h3] at hl; cases hl
      · have h6 : ρ1 i = some o := st2.pin i o h5 ho
        rw [hρ1' i k h3 h2] at h6
        exact st0.pin k o hl h6

theorem callM_callable {F : Spec} (hF : SpecOk P F) {f : FuncId} {xs : List Operand} {x : Operand} {T : List AV} {K : AV → List AV → Store → Prop} (h : callMK F f xs x T S K) : Callable P f := by
  obtain ⟨fz, σ, S1, as2, ret, S2, hf, _⟩ := h
  exact (hF.m f as2 S1 ret S2 hf).1

theorem callM_sound {F : Spec} (hF : SpecOk P F) {f : FuncId} {xs : List Operand} {x : Operand} {T : List AV} {K : AV → List AV → Store → Prop} {a : Act} (h : callMK F f xs x T S K) (st : St M0 w0 ρ M S w) (tm : Tm ρ w M T a) :
    ∃ cs : List Value, a.eval x = .func (.func f) #[] cs.toArray ∧ Calls P f (xs.map a.eval ++ cs).toArray w fun e w' => ∃ u, e = .returned u ∧ ∃ ρ' M' T' S' v, K v T' S' ∧ St M0 w0 ρ' M' S' w' ∧ Tm ρ' w' M' T' a ∧ T'.length = T.length ∧ RepT ρ' w' M' v u := by
  obtain ⟨fz, σ, S1, as2, ret, S2, hf, h⟩ := h
  rw [ifK_iff] at h
  obtain ⟨hok, h⟩ := h
  have hoks : (difN (fsts σ) = true ∧ difN (snds σ) = true ∧ difN (fsts S1) = true ∧ difN (fsts S2) = true) ∧ okT (lentN S1 σ) as2 = true ∧ okS (lentN S1 σ) S1 = true ∧ plainS S2 = true ∧ locs (gone S1 S2 σ) = true := by
    unfold okM at hok
    split at hok
    · rename_i h1 h2 h3 h4
      split at hok
      · rename_i h5 h6 h7 h8; exact ⟨⟨h1, h2, h3, h4⟩, h5, h6, h7, h8⟩
      · cases hok
    · cases hok
  obtain ⟨⟨d1, d2, d3, d4⟩, ok1, ok2, ok3, ok4⟩ := hoks
  have hσ := difN_nodup d2
  obtain ⟨T1, Sa, ρa, Ma, hh, sta, tma, hla, _⟩ := freezes_sound h st tm
  clear h
  simp only [evals_iff, capK, eval_iff] at hh
  split at hh
  · rename_i g cap hx
    rw [ifK_iff] at hh
    obtain ⟨hg, h⟩ := hh
    obtain rfl := beq_iff'.1 hg
    obtain ⟨S', h, _, hfind⟩ := updS_find h
    rw [ifK_iff] at h
    obtain ⟨hnames, ⟨hle, hargs⟩, h⟩ := h
    have hxv := eval_rep tma x
    rw [hx] at hxv
    obtain ⟨cs, hxv, hcs⟩ := hxv
    refine ⟨cs.toList, by simpa using hxv, ?_⟩
    have hall : ∀ i j, fndN (lentN S1 σ) i = some j → (findS S1 i).isSome := fun i j hij => (fnd_lent.1 hij).1
    have hσ1 := snds_lent (S1 := S1) hσ
    -- the caller's state, told as the callee wants it
    have stb := ent_st sta hle
    have tmb : Tm (entE Sa S' ρa) w (entM S' ρa Ma) T1 a := ⟨tma.defers, tma.size, fun i => namesT_keep (fun k hk hρ => by rw [sta.dom k] at hρ; exact hρ) i hnames (tma.tmp i)⟩
    have hav : RepL (RepT (entE Sa S' ρa) w (entM S' ρa Ma)) (renTL (lentN S1 σ) as2) (xs.map a.eval ++ cs.toList) := by
      refine leTs_sound sta hargs ?_
      rw [show appA (xs.map (evalF T1)) cap = xs.map (evalF T1) ++ cap from by
        have : ∀ l m : List AV, appA l m = l ++ m := fun l m => by induction l with | nil => rfl | cons a l ih => simp [appA, ih]
        exact this _ _]
      refine RepL.append ?_ (hcs.imp fun _ _ => repT_of_repC)
      have : ∀ xs : List Operand, RepL (RepT ρa w Ma) (xs.map (evalF T1)) (xs.map a.eval) := fun xs => by
        induction xs with
        | nil => trivial
        | cons y ys ih => exact ⟨eval_rep tma y, ih⟩
      exact this xs
    obtain ⟨st1, hst1⟩ := lend_sound stb hσ1 hall ok2 (fun j B hm => hfind (renS_nodup hσ1 (difN_nodup d3)) j B hm)
    have hav1 := renT_back (ρ1 := fun i => (fndN (lentN S1 σ) i).bind (entE Sa S' ρa)) (fun i j hij => by simp only [hij]; rfl) ok1 hav
    obtain ⟨Tk, Sk, h, stk, tmk, hlk⟩ := forgets_sound h stb tmb
    refine ((hF.m g as2 S1 ret S2 hf).2 _ _ w _ st1 hav1).mono fun e w' ⟨v, ρ2, M2, he, st2, hv⟩ => ⟨v, he, ?_⟩
    obtain ⟨Sf, hK, hSf⟩ := putS_find hσ (difN_nodup d4) h
    obtain ⟨ρ', g1, g2, g3⟩ := back_sound (σ := σ) (S1 := S1) (S2 := S2) (Sf := Sf) (ρ := entE Sa S' ρa) hσ (difN_nodup d4) ok3 ok4 (fun i o hi => by
      cases hij : fndN (lentN S1 σ) i with
      | none => simp [hij] at hi
      | some j => exact ⟨j, (fnd_lent.1 hij).2, by simpa [hij] using hi⟩) (fun i j hs hij => by
      have : fndN (lentN S1 σ) i = some j := fnd_lent.2 ⟨hs, hij⟩
      simp [this]) rfl stb stk tmk st2 hv hSf
    exact ⟨ρ', M2, Tk, Sf, _, hK, g1, g2, hlk.trans hla, g3⟩
  · exact hh.elim
end
end Go.AM
