/- The abstract machine: all the quiet operations but calls of functions. -/
import Derived.Test.YtmdlfcjbjjifoabAmQMem
namespace Go.AM
open Go

theorem fold_set (off : Nat) : ∀ (vs : List Value) (k : Nat) (cells : Array Value), off + k + vs.length ≤ cells.size →
    ((vs.zipIdx k).foldl (fun (cs : Array Value) (x : Value × Nat) => cs.setIfInBounds (off + x.2) x.1) cells).toList = cells.toList.take (off + k) ++ (vs ++ cells.toList.drop (off + k + vs.length))
  | [], k, cells, _ => by simp
  | v :: vs, k, cells, h => by
    simp only [List.length_cons] at h
    simp only [List.zipIdx_cons, List.foldl_cons]
    rw [fold_set off vs (k + 1) _ (by simp; omega)]
    simp only [Array.toList_setIfInBounds, List.length_cons]
    have hlt : off + k < cells.toList.length := by simp; omega
    rw [show off + (k + 1) = (off + k) + 1 from by omega, List.take_succ_eq_append_getElem (by simpa using hlt)]
    simp only [List.getElem_set_self, List.take_set_of_le (Nat.le_refl _)]
    rw [List.drop_set_of_lt (by omega), show off + k + 1 + vs.length = off + k + (vs.length + 1) from by omega]
    simp

section
variable {P : Program} {TY : List TyE} {M0 : Base} {w0 w : World} {ρ : Env} {M : Msk} {S S0 : Store} {d : Nat}

theorem fill_sound {T : List AV} {place place' : Nat → Option (Nat × Nat)} (hp : ∀ i x, place i = some x → place' i = some x) :
    ∀ {ps : List (Nat × Operand)} {l : List AV} {K : List AV → Prop}, fillK T place ps l K →
      ∃ m, K m ∧ m.length = l.length ∧ ∀ (ρ : Env) (w : World) (M : Msk) (e : Operand → Value) (cells : Array Value), (∀ i x, (i, x) ∈ ps → RepT ρ w M (evalF T x) (e x)) → RepL (RepC ρ w M) l cells.toList →
        ∃ cells', Instr.fill place' cells (ps.map fun (i, x) => (i, e x)) = some cells' ∧ RepL (RepC ρ w M) m cells'.toList
  | [], l, K, h => ⟨l, h, rfl, fun _ _ _ _ cells _ hl => ⟨cells, rfl, hl⟩⟩
  | (i, x) :: ps, l, K, h => by
    simp only [fillK, eval_iff] at h
    cases hpl : place i with
    | none => rw [hpl] at h; simp at h
    | some os =>
      obtain ⟨off, sz⟩ := os
      rw [hpl] at h
      have main : ∀ m, m.length = sz → (∀ (ρ : Env) (w : World) (M : Msk) (u : Value), RepT ρ w M (evalF T x) u → RepL (RepC ρ w M) m u.cells.toList) →
          (spliceK l off m fun l' => fillK T place ps l' K) →
          ∃ m, K m ∧ m.length = l.length ∧ ∀ (ρ : Env) (w : World) (M : Msk) (e : Operand → Value) (cells : Array Value), (∀ j y, (j, y) ∈ (i, x) :: ps → RepT ρ w M (evalF T y) (e y)) → RepL (RepC ρ w M) l cells.toList →
            ∃ cells', Instr.fill place' cells (((i, x) :: ps).map fun (i, x) => (i, e x)) = some cells' ∧ RepL (RepC ρ w M) m cells'.toList := by
        intro m hm hrep hs
        obtain ⟨h1, h2⟩ := splice_iff hs
        obtain ⟨m', h3, h4, h5⟩ := fill_sound hp h2
        refine ⟨m', h3, by rw [h4]; simp; omega, fun ρ w M e cells he hl => ?_⟩
        have hu := hrep ρ w M (e x) (he i x (by simp))
        have hlen : l.length = cells.size := by rw [RepL.length hl, Array.length_toList]
        have hul : m.length = (e x).cells.size := by rw [RepL.length hu, Array.length_toList]
        have hfold := fold_set off (e x).cells.toList 0 cells (by simp; omega)
        have hstep : (((e x).cells.zipIdx.foldl (fun cs (c, j) => cs.setIfInBounds (off + j) c) cells).toList) = cells.toList.take off ++ ((e x).cells.toList ++ cells.toList.drop (off + m.length)) := by
          rw [← Array.foldl_toList, Array.toList_zipIdx, hul]
          simpa [← Array.length_toList] using hfold
        obtain ⟨cells', h6, h7⟩ := h5 ρ w M e ((e x).cells.zipIdx.foldl (fun cs (c, j) => cs.setIfInBounds (off + j) c) cells) (fun j y hy => he j y (List.mem_cons_of_mem _ hy))
          (by rw [hstep]; exact (hl.take off).append (hu.append (hl.drop _)))
        refine ⟨cells', ?_, h7⟩
        simp only [List.map_cons, Instr.fill, hp i _ hpl]
        rw [if_neg]
        · exact h6
        · simp only [Bool.or_eq_true, decide_eq_true_eq, not_or, ne_eq, Decidable.not_not]
          exact ⟨by omega, by omega⟩
      have one : (match cellOK (evalF T x) with | true => (match sameLen [evalF T x] sz with | true => spliceK l off [evalF T x] fun l' => fillK T place ps l' K | false => False) | false => False) →
          ∃ m, K m ∧ m.length = l.length ∧ ∀ (ρ : Env) (w : World) (M : Msk) (e : Operand → Value) (cells : Array Value), (∀ j y, (j, y) ∈ (i, x) :: ps → RepT ρ w M (evalF T y) (e y)) → RepL (RepC ρ w M) l cells.toList →
            ∃ cells', Instr.fill place' cells (((i, x) :: ps).map fun (i, x) => (i, e x)) = some cells' ∧ RepL (RepC ρ w M) m cells'.toList := by
        intro h
        cases hc : cellOK (evalF T x) with
        | false => rw [hc] at h; exact h.elim
        | true =>
          rw [hc] at h
          cases hs : sameLen [evalF T x] sz with
          | false => simp only [hs] at h
          | true =>
            simp only [hs] at h
            refine main _ (same_len hs) (fun ρ w M u hu => ?_) h
            have hu := cellOK_rep hc hu
            have hcell := RepC.isCell hu
            cases u <;> first | exact ⟨hu, trivial⟩ | exact hcell.elim
      cases hx : evalF T x with
      | agg m =>
        rw [hx] at h
        simp only at h
        cases hs : sameLen m sz with
        | false => rw [hs] at h; exact h.elim
        | true =>
          rw [hs] at h
          refine main m (same_len hs) (fun ρ w M u hu => ?_) h
          rw [hx] at hu
          obtain ⟨cs, rfl, hcs⟩ := hu
          exact hcs
      | _ => rw [hx] at h one; exact one h

theorem q_pure {o : Op} {T : List AV} {K : AV → Option Blk → Prop} {v : AV} (hK : K v none)
    (h : ∀ (ρ : Env) (w : World) (M : Msk) (e : Operand → Value) (oo : Oper), oo.op = o → (∀ x ∈ o.operands, RepT ρ w M (evalF T x) (e x)) → ∃ u, (execOp e oo).run P w = .ok (.value u) w ∧ RepT ρ w M v u) :
    ∃ v B, K v B ∧ QS P d o T S0 v B :=
  ⟨v, none, hK, fun M0 w0 ρ M w S' e oo ho _ st he _ => by
    obtain ⟨u, h1, h2⟩ := h ρ w M e oo ho he
    exact .val h1 (Out.pure st h2)⟩

/-- A pure operation that looks at the store. -/
theorem q_look {o : Op} {T : List AV} {K : AV → Option Blk → Prop} {v : AV} (hK : K v none)
    (h : ∀ (M0 : Base) (w0 : World) (ρ : Env) (w : World) (M : Msk) (S' : Store) (e : Operand → Value) (oo : Oper), oo.op = o → Cmp S0 S' → St M0 w0 ρ M S' w → (∀ x ∈ o.operands, RepT ρ w M (evalF T x) (e x)) → ∃ u, (execOp e oo).run P w = .ok (.value u) w ∧ RepT ρ w M v u) :
    ∃ v B, K v B ∧ QS P d o T S0 v B :=
  ⟨v, none, hK, fun M0 w0 ρ M w S' e oo ho hc st he _ => by
    obtain ⟨u, h1, h2⟩ := h M0 w0 ρ w M S' e oo ho hc st he
    exact .val h1 (Out.pure st h2)⟩

theorem fieldOff_get : ∀ {l : List (Nat × Nat)} {i : Nat} {x : Nat × Nat}, fieldOff l i = some x → l[i]? = some x
  | a :: l, 0, x, h => by simpa [fieldOff] using h
  | a :: l, i + 1, x, h => by simpa using fieldOff_get (l := l) (by simpa [fieldOff] using h)
  | [], i, x, h => by simp [fieldOff] at h

theorem struct_row (hty : TyOk P TY) {t : Nat} {fs : List (Nat × Nat)} (hd : (nthT TY t).d = .struct fs) :
    ∃ F : Array Field, P.underlying t = some (.struct F) ∧ fs = F.toList.map fun f => (f.offset, f.type) := by
  obtain ⟨u, h1, h2, _⟩ := (hty.at (t := t) (.inr (by rw [hd]; simp))).under
  rw [hd] at h2
  cases u <;> try exact h2.elim
  exact ⟨_, h1, h2⟩

theorem slice_row (hty : TyOk P TY) {t e : Nat} (hd : (nthT TY t).d = .slice e) : P.underlying t = some (.slice e) := by
  obtain ⟨u, h1, h2, _⟩ := (hty.at (t := t) (.inr (by rw [hd]; simp))).under
  rw [hd] at h2
  cases u <;> try exact h2.elim
  rw [h1, show e = _ from h2]

theorem arr_row (hty : TyOk P TY) {t n e : Nat} (hd : (nthT TY t).d = .arr n e) : P.underlying t = some (.array n e) := by
  obtain ⟨u, h1, h2, _⟩ := (hty.at (t := t) (.inr (by rw [hd]; simp))).under
  rw [hd] at h2
  cases u <;> try exact h2.elim
  obtain ⟨rfl, rfl⟩ := h2
  exact h1

theorem okSl_row (hty : TyOk P TY) {t : Nat} {r : RO} (h : okSl TY t r = true) : ∃ e, (nthT TY t).d = .slice e ∧ P.underlying t = some (.slice e) ∧ (nthT TY e).sz = r.sz ∧ TyRow P e (nthT TY e) := by
  unfold okSl at h
  split at h
  · rename_i e hd
    have hs : (nthT TY e).sz = r.sz := by cases r <;> simp only at h <;> exact beq_iff'.1 h
    exact ⟨e, hd, slice_row hty hd, hs, hty.at (.inl (by rw [hs]; exact Nat.ne_of_gt r.sz_pos))⟩
  · cases h

theorem build_sound (hty : TyOk P TY) {F : Spec} {t : Nat} {ps : Array (Nat × Operand)} {T : List AV} {K : AV → Option Blk → Prop} (h : qK TY F d (.build t ps) T S0 K) :
    ∃ v B, K v B ∧ QS P d (.build t ps) T S0 v B := by
  have hmem : ∀ {e : Operand → Value} {ρ : Env} {w : World} {M : Msk}, (∀ y ∈ (Op.build t ps).operands, RepT ρ w M (evalF T y) (e y)) → ∀ i x, (i, x) ∈ ps.toList → RepT ρ w M (evalF T x) (e x) :=
    fun h i x hx => h x (by simp only [Op.operands, List.mem_toArray, List.mem_map]; exact ⟨_, hx, rfl⟩)
  have hz : ∀ {E : TyE}, zeroB E.zero = true → E.zero ≠ [] := fun {E} hb he => by rw [he] at hb; cases hb
  have hzr : ∀ (ρ : Env) (w : World) (M : Msk) {l : List AV} {m : List Value}, RepL zC l m → RepL (RepC ρ w M) l m := fun ρ w M => RepL.imp fun a v h => h ρ w M
  simp only [qK] at h
  split at h
  · rename_i fs hd
    rw [ifK_iff] at h
    obtain ⟨hzb, h⟩ := h
    obtain ⟨F', hu, hfs⟩ := struct_row hty hd
    have hrow := hty.at (t := t) (.inr (by rw [hd]; simp))
    obtain ⟨i, u, hi, hu', _, _, _, hzero⟩ := hrow.row
    obtain ⟨z, hz1, hz2⟩ := hzero (hz hzb)
    -- the places, as the program lays them
    have key : ∀ (l : List Field), (∀ f ∈ l, f.type < TY.length) → ∀ w, (l.mapM fun f => Prod.mk f.offset <$> sizeOf f.type : Sem (List (Nat × Nat))).run P w = .ok (l.map fun f => (f.offset, (nthT TY f.type).sz)) w := by
      intro l
      induction l with
      | nil => intro _ w; simp
      | cons f l ih =>
        intro hl w
        have hn := (hty.row f.type (hl f (by simp))).size w
        simp [List.mapM_cons, hn, ih (fun g hg => hl g (List.mem_cons_of_mem _ hg))]
    have hpl : ∀ w, (F'.mapM fun f => Prod.mk f.offset <$> sizeOf f.type : Sem (Array (Nat × Nat))).run P w = .ok (F'.toList.map fun f => (f.offset, (nthT TY f.type).sz)).toArray w := by
      intro w
      have := key F'.toList (fun f hf => hty.closed t fs hd (f.offset, f.type) (by rw [hfs]; exact List.mem_map.2 ⟨f, hf, rfl⟩)) w
      have he : F' = F'.toList.toArray := by simp
      rw [he, List.mapM_toArray]
      simp [this]
    have hplace : ∀ j x, qK.fieldPlace TY fs j = some x → (F'.toList.map fun f => (f.offset, (nthT TY f.type).sz)).toArray[j]? = some x := by
      intro j x hx
      unfold qK.fieldPlace at hx
      split at hx
      · rename_i o u ho
        cases hx
        have := fieldOff_get ho
        rw [hfs, List.getElem?_map] at this
        cases hg : F'.toList[j]? with
        | none => rw [hg] at this; cases this
        | some f => rw [hg] at this; cases this; simp only [List.getElem?_toArray, List.getElem?_map, hg]; rfl
      · cases hx
    obtain ⟨m, h1, h2, h3⟩ := fill_sound (place' := fun j => (F'.toList.map fun f => (f.offset, (nthT TY f.type).sz)).toArray[j]?) hplace h
    refine q_pure h1 fun ρ w M e oo ho he => ?_
    obtain ⟨cells', h4, h5⟩ := h3 ρ w M e z.cells (hmem he) (hzr ρ w M hz2.1)
    refine ⟨.agg cells', ?_, cells', rfl, h5⟩
    have hzv : (zeroValue t).run P w = .ok z w := by simp [zeroValue, typeInfo, hi, hz1]
    have hub : (underlying t).run P w = .ok (.struct F') w := by simp [underlying, hu]
    simp only [List.getElem?_toArray, List.getElem?_map, Array.getElem?_toList] at h4
    simp [execOp, ho, Instr.build, hzv, hub, hpl]
    rw [h4]
    rfl
  · rename_i n e' hd
    rw [ifK_iff, ifK_iff] at h
    obtain ⟨hzb, hsz, h⟩ := h
    have hu := arr_row hty hd
    have hrow := hty.at (t := t) (.inr (by rw [hd]; simp))
    obtain ⟨i, u, hi, hu', _, _, _, hzero⟩ := hrow.row
    obtain ⟨z, hz1, hz2⟩ := hzero (hz hzb)
    have hrow' := hty.at (t := e') (.inl (by rw [Nat.ble_eq] at hsz; omega))
    obtain ⟨m, h1, h2, h3⟩ := fill_sound (place' := fun i => some (i * (nthT TY e').sz, (nthT TY e').sz)) (fun i x hx => hx) h
    refine q_pure h1 fun ρ w M e oo ho he => ?_
    obtain ⟨cells', h4, h5⟩ := h3 ρ w M e z.cells (hmem he) (hzr ρ w M hz2.1)
    refine ⟨.agg cells', ?_, cells', rfl, h5⟩
    have hzv : (zeroValue t).run P w = .ok z w := by simp [zeroValue, typeInfo, hi, hz1]
    have hub : (underlying t).run P w = .ok (.array n e') w := by simp [underlying, hu]
    simp [execOp, ho, Instr.build, hzv, hub, hrow'.size, h4]
  · exact h.elim

theorem simple_sound (hty : TyOk P TY) {F : Spec} {o : Op} {T : List AV} {K : AV → Option Blk → Prop} (h : qK TY F d o T S0 K)
    (ho : (∃ x, o = .move x ∨ o = .assign x ∨ o = .nilCheck x) ∨ (∃ op t x, o = .unOp op t x) ∨ (∃ op t x y ty, o = .binOp op t x y ty) ∨ (∃ c a b, o = .pick c a b) ∨ (∃ x i, o = .extract x i) ∨ ∃ fn first cap, o = .makeFunc fn first cap) :
    ∃ v B, K v B ∧ QS P d o T S0 v B := by
  rcases ho with ⟨x, rfl | rfl | rfl⟩ | ⟨op, t, x, rfl⟩ | ⟨op, t, x, y, ty, rfl⟩ | ⟨c, a, b, rfl⟩ | ⟨x, i, rfl⟩ | ⟨fn, first, cap, rfl⟩
  · simp only [qK, eval_iff] at h
    exact q_pure h fun ρ w M e oo ho he => ⟨e x, by simp [execOp, ho], he x (by simp [Op.operands])⟩
  · simp only [qK, eval_iff] at h
    exact q_pure h fun ρ w M e oo ho he => ⟨e x, by simp [execOp, ho], he x (by simp [Op.operands])⟩
  · simp only [qK, eval_iff] at h
    split at h
    · rename_i k off hx
      refine q_pure h fun ρ w M e oo ho he => ?_
      have := he x (by simp [Op.operands])
      rw [hx] at this
      have h1 : (ρ k).bind (Own.ref · off) = some (e x) := this
      obtain ⟨b, ⟨_, h2⟩ | ⟨_, h2⟩⟩ := ref_some h1
      · exact ⟨e x, by simp [execOp, ho, h2], h1⟩
      · exact ⟨e x, by simp [execOp, ho, h2], h1⟩
    · rename_i f l hx
      refine q_pure h fun ρ w M e oo ho he => ?_
      have := he x (by simp [Op.operands])
      rw [hx] at this
      obtain ⟨cs, h1, h2⟩ := this
      exact ⟨e x, by simp [execOp, ho, h1], cs, h1, h2⟩
    · exact h.elim
  · simp only [qK, eval_iff] at h
    split at h
    · rename_i e0 hx
      obtain ⟨e', h1, h2⟩ := not_val h
      refine q_pure h1 fun ρ w M e oo ho he => ?_
      have := he x (by simp [Op.operands])
      rw [hx] at this
      have hv : e x = .bool e0.val := this
      exact ⟨.bool (!e0.val), by simp [execOp, ho, hv, Op.unary], by show Value.bool _ = _; rw [h2]⟩
    · rename_i k n hx
      rw [rangeP_iff] at h
      refine q_pure h.2 fun ρ w M e oo ho he => ?_
      have := he x (by simp [Op.operands])
      rw [hx] at this
      have hv : e x = .int k n := this.1
      exact ⟨.int k (k.wrap (0 - n)), by simp [execOp, ho, hv, Op.unary, Op.intArith], wrap_rep h.1⟩
    · exact h.elim
  · simp only [qK, eval_iff] at h
    obtain ⟨v, h1, h2⟩ := bin_sound hty h
    refine q_pure h1 fun ρ w M e oo ho he => ?_
    obtain ⟨u, h3, h4⟩ := h2 ρ w M x y (e x) (e y) (he x (by simp [Op.operands])) (he y (by simp [Op.operands]))
    refine ⟨u, ?_, h4⟩
    simp only [execOp, ho]
    rw [Sem.run_bind, h3]
    rfl
  · simp only [qK, eval_iff] at h
    split at h
    · rename_i e0 hx
      have h := split_val h
      have hK : K (if e0.val then evalF T a else evalF T b) none := by
        cases hv : e0.val <;> rw [hv] at h <;> simpa using h
      refine q_pure hK fun ρ w M e oo ho he => ?_
      have := he c (by simp [Op.operands])
      rw [hx] at this
      have hv : e c = .bool e0.val := this
      refine ⟨if e0.val then e a else e b, ?_, ?_⟩
      · cases hb : e0.val <;> simp [execOp, ho, hv, hb, asBool]
      · cases hb : e0.val
        · simpa using he b (by simp [Op.operands])
        · simpa using he a (by simp [Op.operands])
    · exact h.elim
  · simp only [qK, eval_iff] at h
    split at h
    · rename_i l hx
      obtain ⟨h1, h2⟩ := drop_iff h
      have h5 := take_nth l i
      cases hd : l.drop i with
      | nil => rw [hd] at h2; exact h2.elim
      | cons a m =>
        rw [hd] at h2 h5
        have hlt : i < l.length := by
          rcases Nat.lt_or_ge i l.length with h' | h'
          · exact h'
          · rw [List.drop_eq_nil_of_le h'] at hd; cases hd
        simp [hlt] at h5
        refine q_pure (force_iff.1 h2) fun ρ w M e oo ho he => ?_
        have := he x (by simp [Op.operands])
        rw [hx] at this
        obtain ⟨cs, h6, h7⟩ := this
        obtain ⟨u, h8, h9⟩ := h7.get i hlt
        rw [← h5] at h9
        rw [Array.getElem?_toList] at h8
        refine ⟨u, by simp [execOp, ho, h6, Instr.extract, h8], ?_⟩
        cases a with
        | agg l => exact h9
        | any => trivial
        | tup l => exact h9.elim
        | fn f l =>
          cases l with
          | nil => have h9 : u = _ := h9; subst h9; exact ⟨#[], rfl, trivial⟩
          | cons => exact h9.elim
        | _ => exact h9
    · exact h.elim
  · cases fn with
    | func f =>
      simp only [qK] at h
      split at h
      · rename_i hf
        rw [evals_iff, ifK_iff] at h
        obtain ⟨hok, h⟩ := h
        refine q_pure h fun ρ w M e oo ho he => ?_
        have hf' : first = #[] := by simpa using congrArg List.toArray hf
        subst hf'
        refine ⟨.func (.func f) #[] (cap.map e), by simp [execOp, ho, Instr.makeFunc], cap.map e, rfl, ?_⟩
        have hall : ∀ x ∈ cap.toList, RepT ρ w M (evalF T x) (e x) := fun x hx => he x (by simp [Op.operands]; exact Array.mem_toList_iff.1 hx)
        rw [Array.toList_map]
        have key : ∀ (l : List Operand), cellsOK (l.map (evalF T)) = true → (∀ x ∈ l, RepT ρ w M (evalF T x) (e x)) → RepL (RepC ρ w M) (l.map (evalF T)) (l.map e) := by
          intro l
          induction l with
          | nil => intro _ _; trivial
          | cons x l ih =>
            intro hc hl
            simp only [List.map_cons, cellsOK] at hc
            cases hx : cellOK (evalF T x) with
            | false => rw [hx] at hc; cases hc
            | true => rw [hx] at hc; exact ⟨cellOK_rep hx (hl x (by simp)), ih hc fun y hy => hl y (List.mem_cons_of_mem _ hy)⟩
        exact key _ hok hall
      · exact h.elim
    | _ => exact h.elim
end
end Go.AM
