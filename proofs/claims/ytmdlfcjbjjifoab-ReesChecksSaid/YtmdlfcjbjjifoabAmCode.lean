/- The abstract machine: what stands serves as what is wanted; texts; functions. -/
import Derived.Test.YtmdlfcjbjjifoabAmAny
import Derived.Scope
namespace Go.AM
open Go

section
variable {P : Program} {TY : List TyE} {M0 : Base} {w0 w : World} {ρ : Env} {M : Msk} {S S' : Store}
/-- Slots that are written later are forgotten. -/
theorem forget_iff {W : List Nat} : ∀ {T : List AV} {i : Nat} {K : List AV → Prop}, forgetK W i T K → ∃ T', K T' ∧ T'.length = T.length ∧ ∀ j, nth T' j = nth T j ∨ nth T' j = .any
  | [], _, _, h => ⟨[], h, rfl, fun _ => .inl rfl⟩
  | a :: T, i, K, h => by
    obtain ⟨T', h1, h2, h3⟩ := forget_iff (T := T) h
    cases hm : memN i W with
    | true =>
      rw [hm] at h1
      exact ⟨_, h1, by simp [h2], fun j => by cases j with | zero => exact .inr rfl | succ j => exact h3 j⟩
    | false =>
      rw [hm] at h1
      exact ⟨_, h1, by simp [h2], fun j => by cases j with | zero => exact .inl rfl | succ j => exact h3 j⟩

theorem upd_iff : ∀ {U : List (Nat × AV)} {T : List AV} {K : List AV → Prop}, updK U T K → ∃ T', K T' ∧ T'.length = T.length ∧ ∀ j, nth T' j = nth T j ∨ ∃ v, (j, v) ∈ U ∧ nth T' j = v
  | [], T, K, h => ⟨T, h, rfl, fun _ => .inl rfl⟩
  | (i, v) :: U, T, K, h => by
    simp only [updK, put_iff] at h
    obtain ⟨T', h1, h2, h3⟩ := upd_iff h
    refine ⟨T', h1, by rw [h2]; simp, fun j => ?_⟩
    rcases h3 j with h4 | ⟨u, h4, h5⟩
    · rw [h4, nth_set]
      split
      · rename_i hj; obtain ⟨rfl, _⟩ := hj; exact .inr ⟨v, by simp, rfl⟩
      · exact .inl rfl
    · exact .inr ⟨u, List.mem_cons_of_mem _ h4, h5⟩

theorem leU_mem {T : List AV} : ∀ {U : List (Nat × AV)}, leU S S' T U → ∀ {i : Nat} {v : AV}, (i, v) ∈ U → leT S S' (nth T i) v
  | [], _, _, _, h => by cases h
  | (j, u) :: U, h, i, v, hm => by
    rcases List.mem_cons.1 hm with he | hm
    · cases he; exact h.1
    · exact leU_mem h.2 hm

theorem updS_iff : ∀ {V : Store} {S : Store} {K : Store → Prop}, updS V S K → ∃ S', K S' ∧ ∀ K', updS V S K' → K' S'
  | [], S, K, h => ⟨S, h, fun _ h => h⟩
  | (k, b) :: V, S, K, h => by
    simp only [updS] at h
    cases hf : findS S k with
    | none =>
      rw [hf] at h
      obtain ⟨S', h1, h2⟩ := updS_iff h
      exact ⟨S', h1, fun K' h' => h2 K' (by simpa only [updS, hf] using h')⟩
    | some B =>
      rw [hf] at h
      have det : ∀ {S : Store} {K : Store → Prop}, setS S k b K → ∃ S', K S' ∧ ∀ K', setS S k b K' → K' S' := by
        intro S
        induction S with
        | nil => exact fun h => ⟨[], h, fun _ h => h⟩
        | cons e S ih =>
          intro K h
          simp only [setS] at h
          cases hb : Nat.beq e.1 k with
          | true => rw [hb] at h; exact ⟨_, h, fun K' h' => by simpa only [setS, hb] using h'⟩
          | false =>
            rw [hb] at h
            obtain ⟨S', h1, h2⟩ := ih h
            exact ⟨_, h1, fun K' h' => h2 (fun S' => K' ((e.1, e.2) :: S')) (by simpa only [setS, hb] using h')⟩
      obtain ⟨S1, h1, h2⟩ := det h
      obtain ⟨S', h3, h4⟩ := updS_iff h1
      exact ⟨S', h3, fun K' h' => h4 K' (h2 _ (by simpa only [updS, hf] using h'))⟩

theorem det_upd {U : List (Nat × AV)} : ∀ {T : List AV} {K : List AV → Prop}, updK U T K → ∃ T', K T' ∧ ∀ K', updK U T K' → K' T' := by
  induction U with
  | nil => exact fun h => ⟨_, h, fun _ h => h⟩
  | cons e U ih =>
    intro T K h
    simp only [updK, put_iff] at h
    obtain ⟨T', h1, h2⟩ := ih h
    exact ⟨T', h1, fun K' h' => h2 K' (by simpa only [updK, put_iff] using h')⟩

/-- What serves at a loop's head. -/
theorem head_of {T T0 T1 : List AV} {U : List (Nat × AV)} {a : Act} (st : St M0 w0 ρ M S w) (tm : Tm ρ w M T a) (hl : T0.length = T.length) (hl1 : T1.length = T0.length) (hf : ∀ j, nth T0 j = nth T j ∨ nth T0 j = .any)
    (hu : ∀ j, nth T1 j = nth T0 j ∨ ∃ v, (j, v) ∈ U ∧ nth T1 j = v) (hn : namesT S' T0 = true) (hU : leU S S' T U) (hS : leS S S' S') :
    St M0 w0 (entE S S' ρ) (entM S' ρ M) S' w ∧ Tm (entE S S' ρ) w (entM S' ρ M) T1 a := by
  refine ⟨ent_st st hS, tm.defers, by rw [tm.size, ← hl, ← hl1], fun i => ?_⟩
  rcases hu i with h1 | ⟨v, h1, h2⟩
  · rw [h1]
    have h0 : RepT ρ w M (nth T0 i) (a.tmps.getD i undef) := by
      rcases hf i with h2 | h2
      · rw [h2]; exact tm.tmp i
      · rw [h2]; trivial
    exact namesT_keep (fun k hk hρ => by rw [st.dom k] at hρ; exact hρ) i hn h0
  · rw [h2]; exact entT st (leU_mem hU h1) (tm.tmp i)

def exitOf : EX → Exit
  | .normal => .normal | .exit i => .exit i | .ret => .ret

theorem wp_loop_ix {P : Program} {Q : Exit → Act → World → Prop} {a : Act} {w : World} {c : Code} {X : Type} (I : X → Act → World → Prop) (μ : X → Nat) (x0 : X) (h₀ : I x0 a w)
    (round : ∀ x a w, I x a w → c.wp P (Exit.then (fun a' w' => ∃ x', I x' a' w' ∧ μ x' < μ x) Q) a w) : (Code.loop c).wp P Q a w := by
  intro b k cs
  have key : ∀ n x a w, μ x = n → I x a w →
      ∃ e a' w', Q e a' w' ∧ Arrives P (lone (b.at a (.code c :: .inLoop c :: k)) cs w) b k cs e a' w' := by
    intro n
    induction n using Nat.strongRecOn with
    | _ n ih =>
      intro x a w hn hI
      obtain ⟨e, a₁, w₁, hq, harr⟩ := round x a w hI b (.inLoop c :: k) cs
      cases e with
      | normal =>
        obtain ⟨x', hI₁, hlt⟩ := hq
        obtain ⟨e₂, a₂, w₂, hq₂, harr₂⟩ := ih (μ x') (hn ▸ hlt) x' a₁ w₁ rfl hI₁
        exact ⟨e₂, a₂, w₂, hq₂, .of_steps (Steps.trans harr (.one step_inLoop)) harr₂⟩
      | exit id => exact ⟨_, a₁, w₁, hq, .pass (x := .inLoop c) rfl (fun _ _ => .inl (by simp)) harr⟩
      | goto l => exact ⟨_, a₁, w₁, hq, .pass (x := .inLoop c) rfl (fun _ _ => .inl (by simp)) harr⟩
      | ret => exact ⟨_, a₁, w₁, hq, .pass (x := .inLoop c) rfl (fun _ _ => .inl (by simp)) harr⟩
      | panic ch => exact ⟨_, a₁, w₁, hq, .pass (x := .inLoop c) rfl (fun _ _ => .inl (by simp)) harr⟩
      | outgrown => exact ⟨_, a₁, w₁, hq, .pass (x := .inLoop c) rfl (fun _ _ => .inl (by simp)) harr⟩
  obtain ⟨e, a', w', hq, harr⟩ := key _ x0 a w rfl h₀
  exact ⟨e, a', w', hq, .of_steps (.one step_loop) harr⟩

theorem exK_sound (hty : TyOk P TY) {F : Spec} (hF : SpecOk P F) (hm : P.follows .mixedOrders = true) : ∀ (c : Code) {T : List AV} {S : Store} {ρ : Env} {M : Msk} {w : World} {a : Act} {Q : EX → List AV → Store → Prop} {R : Exit → Act → World → Prop},
    exK TY F c T S Q → St M0 w0 ρ M S w → Tm ρ w M T a → (∀ e a w, End M0 w0 T.length (Q e) a w → R (exitOf e) a w) → c.wp P R a w
  | .skip, T, S, ρ, M, w, a, Q, R, h, st, tm, hR => wp_skip (hR .normal a w ⟨ρ, M, T, S, h, st, tm, rfl⟩)
  | .ret, T, S, ρ, M, w, a, Q, R, h, st, tm, hR => wp_ret (hR .ret a w ⟨ρ, M, T, S, h, st, tm, rfl⟩)
  | .exit id, T, S, ρ, M, w, a, Q, R, h, st, tm, hR => wp_exit (hR (.exit id) a w ⟨ρ, M, T, S, h, st, tm, rfl⟩)
  | .region id ops false, T, S, ρ, M, w, a, Q, R, h, st, tm, hR => wp_region (by
      have := opsK_sound (Q := R) hty hF (ops := ops) ops.toList 0 rfl h st tm (fun a w hE => hR .normal a w hE)
      rw [List.range_eq_range', ← Array.length_toList]; exact this)
  | .region id ops true, T, S, ρ, M, w, a, Q, R, h, st, tm, hR => by
    obtain ⟨g, hok, h⟩ := h
    exact draw_sound hty hF hm hok h st tm (fun a w hE => hR .normal a w hE)
  | .seq x y, T, S, ρ, M, w, a, Q, R, h, st, tm, hR => wp_seq (exK_sound hty hF hm x h st tm fun e a w hE => by
      obtain ⟨ρ', M', T', S', h1, h2, h3, h4⟩ := hE
      cases e with
      | normal => exact exK_sound hty hF hm y h1 h2 h3 fun e a w hE => hR e a w (by rw [h4] at hE; exact hE)
      | exit i => exact hR (.exit i) a w ⟨ρ', M', T', S', h1, h2, h3, h4⟩
      | ret => exact hR .ret a w ⟨ρ', M', T', S', h1, h2, h3, h4⟩)
  | .cond c x y, T, S, ρ, M, w, a, Q, R, h, st, tm, hR => by
    simp only [exK, eval_iff] at h
    have hv := eval_rep tm c
    split at h
    · rename_i e he
      rw [he] at hv
      have hv : a.eval c = .bool e.val := hv
      have h1 := split_val h
      refine wp_cond hv ?_
      cases hb : e.val with
      | true => rw [hb] at h1; exact exK_sound hty hF hm x h1 st tm hR
      | false => rw [hb] at h1; exact exK_sound hty hF hm y h1 st tm hR
    · exact h.elim
  | .block id x, T, S, ρ, M, w, a, Q, R, h, st, tm, hR => wp_block (exK_sound hty hF hm x h st tm fun e a w hE => by
      obtain ⟨ρ', M', T', S', h1, h2, h3, h4⟩ := hE
      cases e with
      | normal => exact hR .normal a w ⟨ρ', M', T', S', h1, h2, h3, h4⟩
      | ret => exact hR .ret a w ⟨ρ', M', T', S', h1, h2, h3, h4⟩
      | exit j =>
        simp only [exitOf, Exit.inBlock]
        cases hb : Nat.beq j id with
        | true =>
          rw [if_pos (beq_iff'.1 hb)]
          simp only [hb] at h1
          exact hR .normal a w ⟨ρ', M', T', S', h1, h2, h3, h4⟩
        | false =>
          rw [if_neg (beq_false hb)]
          simp only [hb] at h1
          exact hR (.exit j) a w ⟨ρ', M', T', S', h1, h2, h3, h4⟩)
  | .scope x, T, S, ρ, M, w, a, Q, R, h, st, tm, hR => wp_scope_straight (exK_sound hty hF hm x h st tm fun e a w hE => by
      have := hR e a w hE
      cases e <;> exact this)
  | .loop x, T, S, ρ, M, w, a, Q, R, h, st, tm, hR => by
    obtain ⟨W, h⟩ := h
    obtain ⟨T0, h, hl0, hf0⟩ := forget_iff h
    obtain ⟨X, U, V, ok, μ, x0, ⟨hok0, h0⟩, hround⟩ := h
    let I : X → Act → World → Prop := fun x a w => ok x ∧ ∃ ρ M T1 S1, (∀ K, updK (U x) T0 K → K T1) ∧ (∀ K, updS (V x) S K → K S1) ∧ T1.length = T0.length ∧ St M0 w0 ρ M S1 w ∧ Tm ρ w M T1 a
    -- the head's state out of what stands
    have enter : ∀ {x' : X} {T2 : List AV} {S2 : Store} {ρ2 : Env} {M2 : Msk} {w : World} {a : Act}, ok x' → St M0 w0 ρ2 M2 S2 w → Tm ρ2 w M2 T2 a → T0.length = T2.length → (∀ j, nth T0 j = nth T2 j ∨ nth T0 j = .any) →
        (updS (V x') S fun S3 => ifK (namesT S3 T0) (leU S2 S3 T2 (U x') ∧ leS S2 S3 S3)) → (∃ T1, T1.length = T0.length ∧ (∀ K, updK (U x') T0 K → K T1) ∧ ∀ j, nth T1 j = nth T0 j ∨ ∃ v, (j, v) ∈ U x' ∧ nth T1 j = v) → I x' a w := by
      intro x' T2 S2 ρ2 M2 w a hok st tm hl hf h ⟨T1, hl1, hT1, hu⟩
      obtain ⟨S3, h1, h2⟩ := updS_iff h
      rw [ifK_iff] at h1
      obtain ⟨g1, g2⟩ := head_of st tm hl hl1 hf hu h1.1 h1.2.1 h1.2.2
      exact ⟨hok, _, _, T1, S3, hT1, h2, hl1, g1, g2⟩
    have tab : ∀ x', ∃ T1, T1.length = T0.length ∧ (∀ K, updK (U x') T0 K → K T1) ∧ ∀ j, nth T1 j = nth T0 j ∨ ∃ v, (j, v) ∈ U x' ∧ nth T1 j = v := by
      intro x'
      have hex : updK (U x') T0 fun _ => True := by
        have : ∀ (U : List (Nat × AV)) (T : List AV), updK U T fun _ => True := by
          intro U
          induction U with
          | nil => exact fun _ => trivial
          | cons e U ih => intro T; simp only [updK, put_iff]; exact ih _
        exact this _ _
      obtain ⟨T1, _, h2⟩ := det_upd hex
      obtain ⟨T1', h3, h4, h5⟩ := upd_iff (h2 (fun T => T = T1) |> fun _ => hex)
      have hlen := h2 (fun T => T.length = T0.length ∧ ∀ j, nth T j = nth T0 j ∨ ∃ v, (j, v) ∈ U x' ∧ nth T j = v) (by
        have : ∀ (U : List (Nat × AV)) (T : List AV) (K : List AV → Prop), (∀ T', T'.length = T.length → (∀ j, nth T' j = nth T j ∨ ∃ v, (j, v) ∈ U ∧ nth T' j = v) → K T') → updK U T K := by
          intro U
          induction U with
          | nil => exact fun T K h => h T rfl fun j => .inl rfl
          | cons e U ih =>
            intro T K h
            simp only [updK, put_iff]
            refine ih _ _ fun T' h1 h2 => h T' (by rw [h1]; simp) fun j => ?_
            rcases h2 j with h3 | ⟨v, h3, h4⟩
            · rw [h3, nth_set]
              split
              · rename_i hj; obtain ⟨rfl, _⟩ := hj; exact .inr ⟨e.2, by simp, rfl⟩
              · exact .inl rfl
            · exact .inr ⟨v, List.mem_cons_of_mem _ h3, h4⟩
        exact this _ _ _ fun T' h1 h2 => ⟨h1, h2⟩)
      exact ⟨T1, hlen.1, h2, hlen.2⟩
    refine wp_loop_ix I μ x0 (enter hok0 st tm hl0 hf0 h0 (tab x0)) fun x1 a w ⟨hok, ρ1, M1, T1, S1, hT1, hS1, hlen1, st1, tm1⟩ => ?_
    have hr := hS1 _ (hT1 _ (hround x1 hok))
    refine exK_sound hty hF hm x hr st1 tm1 fun e a w ⟨ρ2, M2, T2, S2, h1, h2, h3, h4⟩ => ?_
    cases e with
    | normal =>
      obtain ⟨T3, h5, hl3, hf3⟩ := forget_iff h1
      obtain ⟨x', ⟨hok', hlt⟩, rfl, h6⟩ := h5
      exact ⟨x', enter hok' h2 h3 hl3 hf3 h6 (tab x'), hlt⟩
    | exit i => exact hR (.exit i) a w ⟨ρ2, M2, T2, S2, h1, h2, h3, by rw [h4, hlen1, hl0]⟩
    | ret => exact hR .ret a w ⟨ρ2, M2, T2, S2, h1, h2, h3, by rw [h4, hlen1, hl0]⟩
  | .label _, _, _, _, _, _, _, _, _, h, _, _, _ => h.elim
  | .goto _, _, _, _, _, _, _, _, _, h, _, _, _ => h.elim
end
end Go.AM
