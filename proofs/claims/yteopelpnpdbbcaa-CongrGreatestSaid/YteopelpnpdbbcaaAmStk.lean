/- The abstract machine: a slice that is lent, taken as a stack from the start. -/
import Derived.Test.YteopelpnpdbbcaaAmRet
namespace Go.AM
open Go

def stkB : Blk → Blk
  | .vec 0 r [] => .stk r.len r | b => b
/-- The slice k as a stack. -/
def stk1 (k : Nat) : Store → Store
  | [] => []
  | (j, b) :: S => match Nat.beq j k with
    | true => (j, stkB b) :: S
    | false => (j, b) :: stk1 k S

theorem find_stk (k : Nat) : ∀ (S : Store) (j : Nat), findS (stk1 k S) j = if j = k then (findS S k).map stkB else findS S j
  | [], j => by simp [stk1, findS]
  | (i, b) :: S, j => by
    have ih := find_stk k S j
    cases hb : Nat.beq i k with
    | true =>
      have hik : i = k := beq_iff'.1 hb
      subst hik
      have e : stk1 i ((i, b) :: S) = (i, stkB b) :: S := by
        show (match Nat.beq i i with | true => _ | false => _) = _
        rw [hb]
      rw [e]
      have hii : Nat.beq i i = true := beq_iff'.2 rfl
      by_cases hj : j = i
      · subst hj; simp [findS, hii]
      · have : Nat.beq i j = false := by
          cases h : Nat.beq i j with
          | true => exact absurd (beq_iff'.1 h).symm hj
          | false => rfl
        simp [findS, this, hj]
    | false =>
      have e : stk1 k ((i, b) :: S) = (i, b) :: stk1 k S := by
        show (match Nat.beq i k with | true => _ | false => _) = _
        rw [hb]
      rw [e]
      have hki : Nat.beq i k = false := hb
      cases h : Nat.beq i j with
      | true =>
        have : i = j := beq_iff'.1 h
        subst this
        have hik : i ≠ k := beq_false hb
        simp [findS, h, hik]
      | false =>
        simp only [findS, h, hki]
        exact ih

section
variable {P : Program} {TY : List TyE} {M0 : Base} {w0 w : World} {ρ : Env} {M : Msk} {S : Store}
/-- What the key k stands for, as a stack. -/
def stE (k : Nat) (ρ : Env) : Env := fun j => if j = k then (match ρ k with | some (.sl o) => some (.st o o) | x => x) else ρ j
theorem stE_view (k : Nat) (ρ : Env) : View ρ (stE k ρ) := by
  refine ⟨fun j o h => ?_, fun j off v h => ?_⟩
  · by_cases e : j = k
    · subst e
      cases hr : ρ j with
      | none => rw [hr] at h; cases h
      | some x => rw [hr] at h; cases x <;> simp only [stE, if_pos, hr] <;> exact h
    · simp only [stE, e, if_false]; exact h
  · by_cases e : j = k
    · subst e
      cases hr : ρ j with
      | none => rw [hr] at h; cases h
      | some x => rw [hr] at h; cases x <;> simp only [stE, if_pos, hr] <;> first | exact h | cases h
    · simp only [stE, e, if_false]; exact h
theorem stE_has {k j b : Nat} (h : hasB (stE k ρ) j b) : hasB ρ j b := by
  by_cases e : j = k
  · subst e
    unfold hasB at h ⊢
    cases hr : ρ j with
    | none => simp [stE, hr] at h
    | some x =>
      cases x <;> simp only [stE, if_pos, hr] at h <;> first | exact h | exact h.elim id id
  · unfold hasB at h ⊢
    simp only [stE, e, if_false] at h; exact h
theorem St.toStk (st : St M0 w0 ρ M S w) {k : Nat} {r : RO} (hf : findS S k = some (.vec 0 r [])) : St M0 w0 (stE k ρ) M (stk1 k S) w := by
  have hv := stE_view k ρ
  refine ⟨fun j => ?_, fun j B hB => ?_, fun i j b hi hj => st.inj i j b (stE_has hi) (stE_has hj), st.mlt, st.stp, st.sub, st.old, fun j b h => st.fresh j b (stE_has h), fun j o hl ho => ?_⟩
  · rw [find_stk]
    by_cases e : j = k
    · subst e
      rw [if_pos rfl, Option.isSome_map, ← st.dom j]
      simp only [stE, if_pos]
      cases ρ j with
      | none => rfl
      | some x => cases x <;> rfl
    · rw [if_neg e, ← st.dom j]
      simp only [stE, e, if_false]
  · rw [find_stk] at hB
    by_cases e : j = k
    · subst e
      rw [if_pos rfl, hf] at hB
      have hB : Blk.stk r.len r = B := by simpa [stkB] using hB
      subst hB
      obtain ⟨⟨o, h1, h2⟩, _⟩ := st.blk j _ hf
      refine ⟨o, o, by simp [stE, h1], h2.view hv, ?_⟩
      obtain ⟨h3, h4, h5, _, h6⟩ := h2
      refine ⟨h3, h4, h5, ?_⟩
      cases hb : o.blk with
      | none => simp only [hb] at h6 ⊢; exact h6
      | some b =>
        simp only [hb] at h6 ⊢
        obtain ⟨h7, cs, ty, h8, h9, h10, _⟩ := h6
        exact ⟨h7, cs, ty, h8, h9, fun off => by rw [h10 off]; simp⟩
    · rw [if_neg e] at hB
      have := st.blk j B hB
      have he : stE k ρ j = ρ j := by simp [stE, e]
      cases B with
      | vec wm r ov => obtain ⟨⟨o, h1, h2⟩, h3⟩ := this; exact ⟨⟨o, by rw [he]; exact h1, h2.view hv⟩, h3⟩
      | box l => obtain ⟨b, h1, cs, ty, h2, h3, h4⟩ := this; exact ⟨b, by rw [he]; exact h1, cs, ty, h2, h3, h4.imp fun _ _ => RepC.view hv⟩
      | map kd vk m => obtain ⟨b, h1, h2⟩ := this; exact ⟨b, by rw [he]; exact h1, h2⟩
      | deep r hole => obtain ⟨o, rows, h1, h2⟩ := this; exact ⟨o, rows, by rw [he]; exact h1, h2⟩
      | stk n r => obtain ⟨o, cur, h1, h2, h3⟩ := this; exact ⟨o, cur, by rw [he]; exact h1, h2.view hv, h3⟩
      | jnk n z => obtain ⟨o, h1, h2⟩ := this; exact ⟨o, by rw [he]; exact h1, h2⟩
  · by_cases e : j = k
    · subst e
      cases hr : ρ j with
      | none => simp [stE, hr] at ho
      | some x =>
        have := st.pin j x hl hr
        cases x <;> simp only [stE, if_pos, hr, Option.some.injEq] at ho <;> subst ho <;> exact this
    · simp only [stE, e, if_false] at ho; exact st.pin j o hl ho

/-- FROM THE OBLIGATION TO THE CONTRACT, where memory is changed and the slice k is lent as a stack. -/
theorem fnS_of_ex (hty : TyOk P TY) {F : Spec} (hF : SpecOk P F) (hm : P.follows .mixedOrders = true) {f : FuncId} {fn : Func} (hf : P.funcs[f]? = some fn) (hname : fn.name ≠ "runtime.NumGoroutine") (hb : fn.body.isSome = true)
    {args : List AV} {S1 : Store} {ret : AV} {S2 : Store} {k : Nat} {r : RO} (hk : findS S1 k = some (.vec 0 r [])) (h : factsL args → fnMK TY F fn args (stk1 k S1) ret S2) : FnM P f args S1 ret S2 := by
  refine ⟨⟨fn, hf, hname, hb⟩, fun ρ M w vs st hv => ?_⟩
  have h := h (facts_L hv)
  obtain ⟨c, hc⟩ := Option.isSome_iff_exists.1 hb
  simp only [fnMK, hc] at h
  refine calls_of_wp hf hc ?_
  have hvl : args.length = vs.length := hv.length
  refine exK_sound hty hF hm c h (M0 := lentBase ρ M) (w0 := w) (ρ := stE k ρ) (M := M) (st.toStk hk)
    ⟨rfl, ?_, fun i => ?_⟩ fun e a w' hE => ?_
  · simp [evalF_app, len_repl, drop_eq, hvl]
  · rw [nth_app]
    split
    · rename_i hi
      obtain ⟨v, h1, h2⟩ := hv.get i hi
      have : (vs.toArray ++ Array.replicate (fn.ntmps - vs.toArray.size) undef).getD i undef = v := by
        rw [Array.getD_eq_getD_getElem?, Array.getElem?_append_left (by simp; omega)]
        simp [h1]
      rw [this]; exact h2.view (stE_view k ρ)
    · rw [nth_repl]; trivial
  · obtain ⟨ρ', M', T, S, h1, st, tm, _⟩ := hE
    cases e with
    | exit i => exact h1.elim
    | normal =>
      obtain ⟨T', S', ρ2, g1, g2, g3, _⟩ := unstk_sound h1 st tm
      exact endM_sound hty g2 g3 g1
    | ret =>
      obtain ⟨T', S', ρ2, g1, g2, g3, _⟩ := unstk_sound h1 st tm
      exact endM_sound hty g2 g3 g1
end
end Go.AM
