/- The abstract machine: the operations of a region, one after another or in any order. -/
import Derived.Test.YtmdlfcjbjjifoabAmOps
namespace Go.AM
open Go

/-- The same value, but for how a truth value is written. -/
def AEq (x y : AV) : Prop := x = y ∨ ∃ e e', x = .bool e ∧ y = .bool e' ∧ e.val = e'.val

theorem AEq.refl (x : AV) : AEq x x := .inl rfl
theorem AEq.symm {x y : AV} (h : AEq x y) : AEq y x := by
  rcases h with rfl | ⟨e, e', h1, h2, h3⟩
  · exact .inl rfl
  · exact .inr ⟨e', e, h2, h1, h3.symm⟩
theorem AEq.trans {x y z : AV} (h : AEq x y) (h' : AEq y z) : AEq x z := by
  rcases h with rfl | ⟨e, e', rfl, rfl, h3⟩
  · exact h'
  · rcases h' with rfl | ⟨f, f', h4, rfl, h6⟩
    · exact .inr ⟨e, e', rfl, rfl, h3⟩
    · cases h4; exact .inr ⟨e, f', rfl, rfl, h3.trans h6⟩
theorem AEq.rep {x y : AV} {ρ : Env} {w : World} {M : Msk} {v : Value} (h : AEq x y) (hv : RepT ρ w M x v) : RepT ρ w M y v := by
  rcases h with rfl | ⟨e, e', rfl, rfl, h3⟩
  · exact hv
  · have hv : v = .bool e.val := hv
    exact (by rw [hv, h3] : v = .bool e'.val)

def GuardIs (ops : Array Oper) (T : List AV) (g : Option (Nat × Bool)) (r : Bool) : Prop :=
  match g with
  | none => r = true
  | some (j, want) => ∃ d, (ops[j]?).bind (·.dst) = some d ∧ ((∃ e, nth T d = .bool e ∧ r = (some e.val == some want)) ∨ (nth T d = .tup [] ∧ r = false))

theorem guard_iff {ops : Array Oper} {g : Option (Nat × Bool)} {T : List AV} {yes no : List AV → Prop} (h : guardK ops.toList g T yes no) :
    ∃ r T', GuardIs ops T g r ∧ T'.length = T.length ∧ (∀ t, AEq (nth T t) (nth T' t)) ∧ (if r then yes T' else no T') := by
  unfold guardK at h
  split at h
  · exact ⟨true, T, rfl, rfl, fun t => AEq.refl _, h⟩
  · rename_i j want
    split at h
    · rename_i d hd
      have hd' : (ops[j]?).bind (·.dst) = some d := by
        simp only [List.getD, Array.getElem?_toList] at hd
        cases ho : ops[j]? with
        | none => rw [ho] at hd; exact absurd hd (by simp; rintro ⟨⟩)
        | some o => rw [ho] at hd; simpa using hd
      split at h
      · rename_i e he
        have h1 := split_val h
        rw [put_iff] at h1
        refine ⟨some e.val == some want, T.set d (.bool (.lit e.val)), ⟨d, hd', .inl ⟨e, he, rfl⟩⟩, List.length_set, fun t => ?_, ?_⟩
        · rw [nth_set]
          split
          · rename_i ht; obtain ⟨rfl, _⟩ := ht
            rw [he]; exact .inr ⟨e, .lit e.val, rfl, rfl, rfl⟩
          · exact AEq.refl _
        · revert h1; cases e.val <;> cases want <;> intro h1 <;> exact h1
      · rename_i he
        exact ⟨false, T, ⟨d, hd', .inr ⟨he, rfl⟩⟩, rfl, fun t => AEq.refl _, by simpa using h⟩
      · exact h.elim
    · exact h.elim

theorem wanted_undef {ops : Array Oper} {j d : Nat} {want : Bool} {a : Act} {ρ : Env} {w : World} {M : Msk} (h1 : (ops[j]?).bind (·.dst) = some d) (h3 : RepT ρ w M (.tup []) (a.tmps.getD d undef)) : (yielded ops a.tmps j == some want) = false := by
  obtain ⟨cs, h4, _⟩ := h3
  unfold yielded
  rw [h1]
  simp only [Option.bind_some]
  cases hd : a.tmps[d]? with
  | none => rfl
  | some v =>
    have : a.tmps.getD d undef = v := by simp [Array.getD_eq_getD_getElem?, hd]
    rw [this] at h4
    subst h4
    rfl

theorem guard_wanted {ops : Array Oper} {o : Oper} {T : List AV} {r : Bool} {a : Act} {ρ : Env} {w : World} {M : Msk} (h : GuardIs ops T o.guard r) (hsz : a.tmps.size = T.length)
    (hd : ∀ j want d, o.guard = some (j, want) → (ops[j]?).bind (·.dst) = some d → RepT ρ w M (nth T d) (a.tmps.getD d undef)) :
    Region.wanted o (yielded ops a.tmps) = r := by
  unfold GuardIs at h
  unfold Region.wanted
  cases hg : o.guard with
  | none => rw [hg] at h; exact h.symm
  | some jw =>
    obtain ⟨j, want⟩ := jw
    rw [hg] at h
    obtain ⟨d, h1, h2⟩ := h
    have h3 := hd j want d hg h1
    rcases h2 with ⟨e, h2, rfl⟩ | ⟨h2, rfl⟩
    · rw [h2] at h3
      have h3 : a.tmps.getD d undef = .bool e.val := h3
      have hlt : d < a.tmps.size := by
        rcases Nat.lt_or_ge d a.tmps.size with h' | h'
        · exact h'
        · rw [nth_ge T d (by omega)] at h2; cases h2
      have h4 : a.tmps[d]? = some (.bool e.val) := by
        rw [Array.getElem?_eq_getElem hlt]
        simp [Array.getD, hlt] at h3
        rw [h3]
      simp [yielded, h1, h4]
    · rw [h2] at h3
      exact wanted_undef h1 h3

section
variable {P : Program} {TY : List TyE} {M0 : Base} {w0 w : World} {ρ : Env} {M : Msk} {S : Store} {d : Nat} {Q : Exit → Act → World → Prop}

theorem Tm.aeq {T T' : List AV} {a : Act} (tm : Tm ρ w M T a) (hl : T'.length = T.length) (h : ∀ t, AEq (nth T t) (nth T' t)) : Tm ρ w M T' a :=
  ⟨tm.defers, by rw [hl]; exact tm.size, fun i => (h i).rep (tm.tmp i)⟩

theorem Tm.put {T : List AV} {a : Act} {dst : Option Nat} {v : AV} {u : Value} (tm : Tm ρ w M T a) (hv : RepT ρ w M v u) {K : List AV → Prop} (h : dstK dst T v K) :
    ∃ T', K T' ∧ T'.length = T.length ∧ Tm ρ w M T' (a.put dst u) := by
  cases dst with
  | none => exact ⟨T, h, rfl, tm⟩
  | some d =>
    simp only [dstK, put_iff] at h
    refine ⟨_, h, List.length_set, tm.defers, by simp [Act.put, tm.size], fun i => ?_⟩
    rw [nth_set]
    by_cases hi : i = d
    · subst hi
      by_cases hlt : i < T.length
      · simp [hlt, Act.put, tm.size, hv]
      · rw [if_neg (by simp [hlt])]
        rw [nth_ge T i (by omega)]; trivial
    · rw [if_neg (by simp [hi])]
      have : (a.put (some d) u).tmps.getD i undef = a.tmps.getD i undef := by
        simp [Act.put, Array.getD_eq_getD_getElem?, Array.getElem?_setIfInBounds_ne (Ne.symm hi)]
      rw [this]; exact tm.tmp i

/-- What a region's execution, or a whole text's, leaves. -/
def End (M0 : Base) (w0 : World) (n : Nat) (K : List AV → Store → Prop) (a : Act) (w : World) : Prop :=
  ∃ ρ M T S, K T S ∧ St M0 w0 ρ M S w ∧ Tm ρ w M T a ∧ T.length = n

/-- One operation with its guard. -/
theorem oper_sound (hty : TyOk P TY) {F : Spec} (hF : SpecOk P F) {ops : Array Oper} {i : Nat} {o : Oper} (hi : ops[i]? = some o) {T : List AV} {K : List AV → Store → Prop} {N : Act → World → Prop} {a : Act}
    (h : guardK ops.toList o.guard T (fun T => opK TY F (o.dst.getD 999) o.op T S fun v T S => dstK o.dst T v fun T => K T S) (fun T => dstK o.dst T (.tup []) fun T => K T S))
    (st : St M0 w0 ρ M S w) (tm : Tm ρ w M T a) (hN : ∀ a w, End M0 w0 T.length K a w → N a w) : wpOp P ops Q i N a w := by
  obtain ⟨r, T1, hg, hl, heq, h1⟩ := guard_iff h
  have hw := guard_wanted (ρ := ρ) (w := w) (M := M) hg tm.size (fun j want d _ _ => tm.tmp d)
  have tm1 := tm.aeq hl heq
  simp only [wpOp, hi]
  cases r with
  | true =>
    rw [if_pos hw]
    rw [if_pos rfl] at h1
    refine .inl ((opK_sound hty hF (oo := o) h1 rfl st tm1).wp fun u w' ⟨ρ', M', T', S', v, g1, g2, g3, g4, g5⟩ => hN _ _ ?_)
    obtain ⟨T2, h2, h3, h4⟩ := g3.put g5 g1
    exact ⟨ρ', M', T2, S', h2, g2, h4, by rw [h3, g4, hl]⟩
  | false =>
    rw [if_neg (by rw [hw]; simp)]
    rw [if_neg (by simp)] at h1
    obtain ⟨T2, h2, h3, h4⟩ := tm1.put (v := .tup []) (u := undef) ⟨#[], rfl, trivial⟩ h1
    exact hN _ _ ⟨ρ, M, T2, S, h2, st, h4, by rw [h3, hl]⟩

theorem opsK_sound (hty : TyOk P TY) {F : Spec} (hF : SpecOk P F) {ops : Array Oper} : ∀ (rest : List Oper) (i : Nat) {T : List AV} {S : Store} {ρ : Env} {M : Msk} {w : World} {K : List AV → Store → Prop} {a : Act},
    ops.toList.drop i = rest → opsK TY F ops.toList rest T S K → St M0 w0 ρ M S w → Tm ρ w M T a → (∀ a w, End M0 w0 T.length K a w → Q .normal a w) → wpOps P ops Q (List.range' i rest.length) a w
  | [], i, T, S, ρ, M, w, K, a, _, h, st, tm, hQ => hQ _ _ ⟨ρ, M, T, S, h, st, tm, rfl⟩
  | o :: rest, i, T, S, ρ, M, w, K, a, hr, h, st, tm, hQ => by
    have hi : ops[i]? = some o := by
      have := congrArg (·.head?) hr
      simp [List.head?_drop] at this
      exact this
    have hr' : ops.toList.drop (i + 1) = rest := by
      have := congrArg List.tail hr
      simpa [List.tail_drop] using this
    rw [List.length_cons, List.range'_succ, wpOps_cons]
    simp only [opsK, dN_iff] at h
    refine oper_sound (K := fun T S => opsK TY F ops.toList rest T S K) hty hF hi h st tm fun a w ⟨ρ', M', T', S', h1, h2, h3, h4⟩ => ?_
    exact opsK_sound hty hF rest (i + 1) hr' h1 h2 h3 (fun a w hE => hQ a w (by rw [h4] at hE; exact hE))
end
end Go.AM
