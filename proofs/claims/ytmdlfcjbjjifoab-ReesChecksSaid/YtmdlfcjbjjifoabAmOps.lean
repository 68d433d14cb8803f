/- The abstract machine: literals, the head of an owned slice, and all operations together. -/
import Derived.Test.YtmdlfcjbjjifoabAmMut
namespace Go.AM
open Go

section
variable {P : Program} {TY : List TyE} {M0 : Base} {w0 w : World} {ρ : Env} {M : Msk} {S S0 : Store} {d : Nat}

theorem ints_keep {ρ ρ' : Env} {w w' : World} {M M' : Msk} : ∀ {l : List AV} {vs : List Value}, intsA l = true → RepL (RepC ρ w M) l vs → RepL (RepC ρ' w' M') l vs
  | [], [], _, _ => trivial
  | [], _ :: _, _, h => h.elim
  | _ :: _, [], _, h => h.elim
  | a :: l, v :: vs, hi, h => by
    cases a <;> try (cases hi; done)
    exact ⟨h.1, ints_keep hi h.2⟩

theorem plain_keep {ρ ρ' : Env} {w w' : World} {M M' : Msk} {a : AV} {v : Value} (hp : plainA a = true) (hk : Keep w M w' M') (h : RepT ρ w M a v) : RepT ρ' w' M' a v := by
  cases a <;> try (cases hp; done)
  case ro r => exact RepRO.keep hk h
  case agg l => obtain ⟨cs, h1, h2⟩ := h; exact ⟨cs, h1, ints_keep hp h2⟩
  all_goals exact h

/-- Owned slices that go into a literal: read only from here on. -/
theorem thaw_sound {a : Act} : ∀ {l : List AV} {T : List AV} {S : Store} {ρ : Env} {M : Msk} {K : List AV → List AV → Store → Prop} {vs : List Value}, thawK l T S K → St M0 w0 ρ M S w → Tm ρ w M T a →
    (∀ (i : Nat) (x : AV) (v : Value), l[i]? = some x → vs[i]? = some v → plainA x = true → RepT ρ w M x v) → (∀ (i : Nat) (k : Nat) (v : Value), l[i]? = some (AV.vec k) → vs[i]? = some v → (findS S k).isSome → RepC ρ w M (.vec k) v) → l.length = vs.length →
    ∃ l' T' S' ρ' M', K l' T' S' ∧ St M0 w0 ρ' M' S' w ∧ Tm ρ' w M' T' a ∧ T'.length = T.length ∧ RepL (RepT ρ' w M') l' vs ∧ (∀ x ∈ l', plainA x = true) ∧ Keep w M w M'
  | [], T, S, ρ, M, K, vs, h, st, tm, _, _, hl => by
    have : vs = [] := List.eq_nil_of_length_eq_zero hl.symm
    subst this
    exact ⟨[], T, S, ρ, M, h, st, tm, rfl, trivial, by simp, Keep.refl _ _⟩
  | x :: l, T, S, ρ, M, K, vs, h, st, tm, hp, hv, hl => by
    cases vs with
    | nil => simp at hl
    | cons v vs =>
      have hl' : l.length = vs.length := by simpa using hl
      have plain : plainA x = true → (thawK l T S fun m T S => K (x :: m) T S) → ∃ l' T' S' ρ' M', K l' T' S' ∧ St M0 w0 ρ' M' S' w ∧ Tm ρ' w M' T' a ∧ T'.length = T.length ∧ RepL (RepT ρ' w M') l' (v :: vs) ∧ (∀ x ∈ l', plainA x = true) ∧ Keep w M w M' := by
        intro hx h
        obtain ⟨l', T', S', ρ', M', h1, h2, h3, h4, h5, h6, h7⟩ := thaw_sound (K := fun m T S => K (x :: m) T S) h st tm (fun i y u hy hu => hp (i + 1) y u (by simpa using hy) (by simpa using hu)) (fun i k u hy hu => hv (i + 1) k u (by simpa using hy) (by simpa using hu)) hl'
        refine ⟨x :: l', T', S', ρ', M', h1, h2, h3, h4, ⟨plain_keep hx h7 (hp 0 x v rfl rfl hx), h5⟩, fun y hy => ?_, h7⟩
        rcases List.mem_cons.1 hy with rfl | hy
        · exact hx
        · exact h6 y hy
      cases x with
      | vec k =>
        simp only [thawK] at h
        split at h
        · rename_i wm r hf
          obtain ⟨B', r', ⟨hf', hr'⟩, T1, S1, g1, g2, g3, g4, g5⟩ := freeze_sound h st tm
          rw [hf] at hf'; cases hf'
          simp only [frzB, Option.some.injEq] at hr'
          subst hr'
          have hgone : findS S1 k = none := by
            have := g2.dom k
            cases hh : findS S1 k with
            | none => rfl
            | some B => rw [hh] at this; simp [dropE] at this
          obtain ⟨l', T', S', ρ', M', h1, h2, h3, h4, h5, h6, h7⟩ := thaw_sound (K := fun m T S => K (.ro r :: m) T S) g1 g2 g3
            (fun i y u hy hu hpl => plain_keep hpl (keep_drop _ _ _ _) (hp (i + 1) y u (by simpa using hy) (by simpa using hu) hpl))
            (fun i j u hy hu hs => by
              have hjk : j ≠ k := fun e => by subst e; rw [hgone] at hs; cases hs
              have hs' : (findS S j).isSome := by
                have h1 := g2.dom j; rw [hs] at h1
                rw [← st.dom j]; simpa [dropE, hjk] using h1
              obtain ⟨o, h1, h2⟩ := hv (i + 1) j u (by simpa using hy) (by simpa using hu) hs'
              exact ⟨o, by simpa [dropE, hjk] using h1, h2⟩) hl'
          have hro : RepRO w (dropM M ρ k) r v := g5 v (hv 0 k v rfl rfl (by rw [hf]; rfl))
          refine ⟨.ro r :: l', T', S', ρ', M', h1, h2, h3, h4.trans g4, ⟨RepRO.keep h7 hro, h5⟩, fun y hy => ?_, fun b off c hc hm => h7 b off c hc fun hm' => hm hm'.1⟩
          rcases List.mem_cons.1 hy with rfl | hy
          · rfl
          · exact h6 y hy
        · exact h.elim
      | _ =>
        simp only [thawK, ifK_iff] at h
        exact plain h.1 h.2

theorem splice_td {A s t : Nat} {c l m X : List Value} (hl : l.length = A) (hm : m.length = s) :
    (l ++ (m ++ c.drop (A + s))).take (A + s) ++ (X ++ (l ++ (m ++ c.drop (A + s))).drop (A + s + t)) = l ++ (m ++ (X ++ c.drop (A + s + t))) := by
  have hlm : (l ++ m).length = A + s := by simp [hl, hm]
  rw [← List.append_assoc l m, ← hlm, List.take_left, List.drop_append, List.drop_of_length_le (by omega)]
  simp [List.drop_drop, List.append_assoc]

/-- The parts of a literal, put in. -/
theorem fill_parts {sz : Nat} : ∀ {ps : List (Nat × Operand)} {n : Nat} {K : List Operand → Prop}, partsK n ps K → ∀ (e : Operand → Value) (cells : Array Value), (∀ x ∈ ps.map (·.2), (e x).cells.size = sz) → (n + ps.length) * sz ≤ cells.size →
    ∃ cells', Instr.fill (fun i => some (i * sz, sz)) cells (ps.map fun (i, x) => (i, e x)) = some cells' ∧
      cells'.toList = cells.toList.take (n * sz) ++ (((ps.map (·.2)).flatMap fun x => (e x).cells.toList) ++ cells.toList.drop ((n + ps.length) * sz))
  | [], n, K, _, e, cells, _, _ => ⟨cells, rfl, by simp⟩
  | (i, x) :: ps, n, K, h, e, cells, hs, hle => by
    simp only [partsK] at h
    split at h
    · rename_i hb
      obtain rfl := beq_iff'.1 hb
      have hx := hs x (by simp)
      have hle' : i * sz + sz + ps.length * sz ≤ cells.size := by
        have : (i + (ps.length + 1)) * sz = i * sz + sz + ps.length * sz := by simp only [Nat.add_mul, Nat.one_mul]; omega
        simp only [List.length_cons] at hle; omega
      have hfold := fold_set (i * sz) (e x).cells.toList 0 cells (by simp [hx]; omega)
      have hstep : (((e x).cells.zipIdx.foldl (fun cs (c, j) => cs.setIfInBounds (i * sz + j) c) cells).toList) = cells.toList.take (i * sz) ++ ((e x).cells.toList ++ cells.toList.drop (i * sz + sz)) := by
        rw [← Array.foldl_toList, Array.toList_zipIdx]
        simpa [hx] using hfold
      have hsz2 : ((e x).cells.zipIdx.foldl (fun cs (c, j) => cs.setIfInBounds (i * sz + j) c) cells).size = cells.size := by
        rw [← Array.length_toList, hstep]; simp [hx]; omega
      obtain ⟨cells', h1, h2⟩ := fill_parts h e ((e x).cells.zipIdx.foldl (fun cs (c, j) => cs.setIfInBounds (i * sz + j) c) cells) (fun y hy => hs y (by simp at hy ⊢; exact .inr hy))
        (by rw [hsz2]; simp only [Nat.add_mul, Nat.one_mul]; omega)
      refine ⟨cells', ?_, ?_⟩
      · simp only [List.map_cons, Instr.fill]
        rw [if_neg]
        · exact h1
        · simp only [Bool.or_eq_true, decide_eq_true_eq, not_or, ne_eq, Decidable.not_not]
          exact ⟨hx, by omega⟩
      · rw [h2, hstep]
        have e1 : (i + 1) * sz = i * sz + sz := by simp [Nat.add_mul]
        have e2 : (i + 1 + ps.length) * sz = (i + (ps.length + 1)) * sz := by congr 1; omega
        have e3 : (i + (ps.length + 1)) * sz = i * sz + sz + ps.length * sz := by simp only [Nat.add_mul, Nat.one_mul]; omega
        rw [e1, e2, e3, splice_td (by simp; omega) (by simp [hx])]
        simp only [List.map_cons, List.flatMap_cons, List.length_cons, List.append_assoc, e3]
    · exact h.elim

theorem buildSlice_sound (hty : TyOk P TY) {F : Spec} {t n : Nat} {ps : Array (Nat × Operand)} {T : List AV} {K : AV → List AV → Store → Prop} {a : Act} {oo : Oper} (h : opB TY F d (.buildSlice t n ps) T S K)
    (ho : oo.op = .buildSlice t n ps) (st : St M0 w0 ρ M S w) (tm : Tm ρ w M T a) : Runs P (execOp a.eval oo) w (Post M0 w0 a T.length K) := by
  simp only [opB, quietOp] at h
  split at h
  · rename_i e hd
    rw [ifK_iff, ifK_iff] at h
    obtain ⟨hzb, hn, h⟩ := h
    rw [Nat.ble_eq] at hn
    have hparts := h
    have h := (parts_iff h).1
    split at h
    · rename_i hlen
      have hlen := same_lenO hlen
      rw [evals_iff] at h
      have hreps : ∀ (i : Nat) (x : AV) (v : Value), ((ps.toList.map (·.2)).map (evalF T))[i]? = some x → ((ps.toList.map (·.2)).map a.eval)[i]? = some v → RepT ρ w M x v := fun i x v hx hv => by
        simp only [List.map_map, List.getElem?_map, Option.map_eq_some_iff, Function.comp] at hx hv
        obtain ⟨p, h1, rfl⟩ := hx
        obtain ⟨p', h2, rfl⟩ := hv
        rw [h1] at h2; cases h2
        exact eval_rep tm p.2
      obtain ⟨l', T1, S1, ρ1, M1, h, st1, tm1, hT1, hrep, hpl, _⟩ := thaw_sound (vs := (ps.toList.map (·.2)).map a.eval) h st tm (fun i x v hx hv _ => hreps i x v hx hv) (fun i k v hx hv _ => hreps i _ v hx hv) (by simp)
      obtain ⟨r0, h, hr0, i, z, hi, hz1, hsz, hby, hzs, _⟩ := zeros_sound (n := 0) hty hzb h
      obtain ⟨r, h, hrl, hrz, hcell⟩ := elems_sound h
      rw [ifK_iff] at h
      obtain ⟨hok, h⟩ := h
      obtain ⟨e', hd', hu, hes, hrow⟩ := okSl_row hty hok
      rw [hd] at hd'; cases hd'
      obtain ⟨hus, hcs⟩ := hcell ρ1 w M1 _ hrep
      have hl'len : l'.length = n := by rw [hrep.length, List.length_map, hlen]
      have hpsn : ps.toList.length = n := by rw [← hlen]; simp
      have hrn : r.len = n := by rw [hrl, hr0, hl'len]; omega
      have hisz : i.size = r.sz := by rw [hsz, hes]
      have hnsz : n * i.size ≤ 16777216 := by
        have : r.sz ≤ 2 := by cases r <;> simp [RO.sz]
        have : n * i.size ≤ n * 2 := Nat.mul_le_mul_left _ (by omega)
        omega
      obtain ⟨cells', hf1, hf2⟩ := fill_parts (sz := i.size) hparts a.eval ((Array.range (n * i.size)).map fun j => ((if n * i.size = 0 then #[] else z.cells) : Array Value)[j % ((if n * i.size = 0 then #[] else z.cells) : Array Value).size]!)
        (fun x hx => by
          have := hus (a.eval x) (List.mem_map.2 ⟨x, hx, rfl⟩)
          rw [this, hisz, hrz]) (by simp [hpsn])
      have hf2' : cells'.toList = (ps.toList.map (·.2)).flatMap fun x => (a.eval x).cells.toList := by
        rw [hf2]
        rw [List.drop_of_length_le (by simp [hpsn])]
        simp
      have hcsz : cells'.size = n * r.sz := by
        rw [← Array.length_toList, hf2', List.length_flatMap]
        have : ((ps.toList.map (·.2)).map fun x => (a.eval x).cells.toList.length) = (ps.toList.map (·.2)).map fun _ => r.sz := by
          refine List.map_congr_left fun x hx => ?_
          have := hus (a.eval x) (List.mem_map.2 ⟨x, hx, rfl⟩)
          rw [Array.length_toList, this, hrz]
        rw [this, List.map_const', List.length_map, hpsn, List.sum_replicate_nat]
      obtain ⟨T', S', ρ', M', q1, q2, q3, q4, q5⟩ := newKey_sound h st1 tm1 (w' := w.alloc (.cells cells' e)) (cs := cells') (ty := e) (cap := n) (wm := 0) (r := r) rfl ⟨rfl, rfl⟩ hcsz (by omega) (by simp only [LB]; omega) (Nat.zero_le _)
        (fun q hq => by
          have hlt : q < cells'.size := by rw [hcsz, ← hrn]; exact hq
          refine ⟨cells'[q], by simp [hlt], hcs q _ ?_⟩
          have h0 : r0.cells = 0 := by simp [RO.cells, hr0]
          rw [if_neg (by omega), h0, Nat.sub_zero, List.flatMap_map, ← hf2', Array.getElem?_toList]
          simp [hlt])
      refine .val (v := .slice (some ⟨w.heap.size, 0, none⟩) n n) (w' := w.alloc (.cells cells' e)) ?_ ⟨ρ', M', T', _, _, q1, q2, q3, by rw [q4, hT1], _, of_sl q5, by simp [Sl.val, hrn]⟩
      have hub : (underlying t).run P w = .ok (.slice e) w := by simp [underlying, hu]
      have hzv : (zeroValue e).run P w = .ok z w := by simp [zeroValue, typeInfo, hi, hz1]
      have hsv : (sizeOf e).run P w = .ok i.size w := by rw [hrow.size, hsz]
      have hf1' : Instr.fill (fun j => some (j * i.size, i.size)) ((Array.range (n * i.size)).map fun j => ((if n * i.size = 0 then #[] else z.cells) : Array Value)[j % ((if n * i.size = 0 then #[] else z.cells) : Array Value).size]!) (ps.map fun (j, x) => (j, a.eval x)).toList = some cells' := by
        rw [Array.toList_map]; exact hf1
      by_cases h0 : n * i.size = 0
      · simp [h0] at hf1'
        simp [execOp, ho, Instr.buildSlice, hub, hsv, h0, hf1', newRow]
      · simp [h0] at hf1'
        have : ¬ n * i.size > 2 ^ 24 := by omega
        simp [execOp, ho, Instr.buildSlice, hub, hsv, h0, this, hzv, hf1', newRow]
    · exact h.elim
  · exact h.elim

/-- The same where the literal's parts are plain: nothing that is there changes. -/
theorem buildQ_sound (hty : TyOk P TY) {F : Spec} {t n : Nat} {ps : Array (Nat × Operand)} {T : List AV} {K : AV → Option Blk → Prop} (h : qK TY F d (.buildSlice t n ps) T S0 K) : ∃ v B, K v B ∧ QS P d (.buildSlice t n ps) T S0 v B := by
  simp only [qK] at h
  split at h
  · rename_i e hd
    rw [ifK_iff, ifK_iff] at h
    obtain ⟨hzb, hn, h⟩ := h
    rw [Nat.ble_eq] at hn
    have hparts := h
    have h := (parts_iff h).1
    split at h
    · rename_i hlen
      have hlen := same_lenO hlen
      rw [evals_iff, ifK_iff] at h
      obtain ⟨_, h⟩ := h
      obtain ⟨r0, h, hr0, i, z, hi, hz1, hsz, hby, hzs, _⟩ := zeros_sound (n := 0) hty hzb h
      obtain ⟨r, h, hrl, hrz, hcell⟩ := elems_sound h
      rw [ifK_iff] at h
      obtain ⟨hok, h⟩ := h
      obtain ⟨e', hd', hu, hes, hrow⟩ := okSl_row hty hok
      rw [hd] at hd'; cases hd'
      refine ⟨_, _, h, fun M0 w0 ρ M w S' ev oo ho hc st he hdn => ?_⟩
      have hrep : RepL (RepT ρ w M) ((ps.toList.map (·.2)).map (evalF T)) ((ps.toList.map (·.2)).map ev) := by
        have : ∀ l : List Operand, (∀ x ∈ l, RepT ρ w M (evalF T x) (ev x)) → RepL (RepT ρ w M) (l.map (evalF T)) (l.map ev) := by
          intro l
          induction l with
          | nil => exact fun _ => trivial
          | cons x l ih => exact fun hh => ⟨hh x (by simp), ih fun y hy => hh y (by simp [hy])⟩
        refine this _ fun x hx => he x ?_
        simp only [Op.operands]
        obtain ⟨p, hp, rfl⟩ := List.mem_map.1 hx
        first | exact Array.mem_map.2 ⟨p, Array.mem_toList_iff.1 hp, rfl⟩ | (simp; exact ⟨p.1, by simpa using hp⟩)
      obtain ⟨hus, hcs⟩ := hcell ρ w M _ hrep
      have hl'len : ((ps.toList.map (·.2)).map (evalF T)).length = n := by rw [hrep.length, List.length_map, hlen]
      have hpsn : ps.toList.length = n := by rw [← hlen]; simp
      have hrn : r.len = n := by rw [hrl, hr0, hl'len]; omega
      have hisz : i.size = r.sz := by rw [hsz, hes]
      have hnsz : n * i.size ≤ 16777216 := by
        have : r.sz ≤ 2 := by cases r <;> simp [RO.sz]
        have : n * i.size ≤ n * 2 := Nat.mul_le_mul_left _ (by omega)
        omega
      obtain ⟨cells', hf1, hf2⟩ := fill_parts (sz := i.size) hparts ev ((Array.range (n * i.size)).map fun j => ((if n * i.size = 0 then #[] else z.cells) : Array Value)[j % ((if n * i.size = 0 then #[] else z.cells) : Array Value).size]!)
        (fun x hx => by
          have := hus (ev x) (List.mem_map.2 ⟨x, hx, rfl⟩)
          rw [this, hisz, hrz]) (by simp [hpsn])
      have hf2' : cells'.toList = (ps.toList.map (·.2)).flatMap fun x => (ev x).cells.toList := by
        rw [hf2]
        rw [List.drop_of_length_le (by simp [hpsn])]
        simp
      have hcsz : cells'.size = n * r.sz := by
        rw [← Array.length_toList, hf2', List.length_flatMap]
        have : ((ps.toList.map (·.2)).map fun x => (ev x).cells.toList.length) = (ps.toList.map (·.2)).map fun _ => r.sz := by
          refine List.map_congr_left fun x hx => ?_
          have := hus (ev x) (List.mem_map.2 ⟨x, hx, rfl⟩)
          rw [Array.length_toList, this, hrz]
        rw [this, List.map_const', List.length_map, hpsn, List.sum_replicate_nat]
      obtain ⟨ρ', M', g1, g2, g3, g4⟩ := st.push (w' := w.alloc (.cells cells' e)) (cs := cells') (ty := e) (own := .sl ⟨some w.heap.size, r.len, n, r.sz⟩) (B := .vec 0 r []) (hdn (by simp)).1 (hdn (by simp)).2 rfl ⟨rfl, rfl⟩ (fun _ h => (Option.some.inj h).symm)
        (fun ρ' M' hρ hM hk hext => ⟨⟨_, hρ, rfl, rfl, by simp only [LB]; omega, Nat.zero_le _, by
          refine ⟨by simp only; omega, cells', e, by show (w.heap.push _)[w.heap.size]? = _; simp, hcsz, fun off => ?_, fun q hq => ?_⟩
          · rw [hM off]; simp
          · have hlt : q < cells'.size := by rw [hcsz, ← hrn]; exact hq
            refine ⟨cells'[q], by simp [hlt], CellP.keep hk (hcs q _ ?_)⟩
            have h0 : r0.cells = 0 := by simp [RO.cells, hr0]
            rw [if_neg (by omega), h0, Nat.sub_zero, List.flatMap_map, ← hf2', Array.getElem?_toList]
            simp [hlt]⟩, .inl rfl⟩)
      refine .val (v := .slice (some ⟨w.heap.size, 0, none⟩) n n) (w' := w.alloc (.cells cells' e)) ?_ ⟨ρ', M', g1, ⟨_, of_sl g2, by simp [Sl.val, hrn]⟩, g3, g4⟩
      have hub : (underlying t).run P w = .ok (.slice e) w := by simp [underlying, hu]
      have hzv : (zeroValue e).run P w = .ok z w := by simp [zeroValue, typeInfo, hi, hz1]
      have hsv : (sizeOf e).run P w = .ok i.size w := by rw [hrow.size, hsz]
      have hf1' : Instr.fill (fun j => some (j * i.size, i.size)) ((Array.range (n * i.size)).map fun j => ((if n * i.size = 0 then #[] else z.cells) : Array Value)[j % ((if n * i.size = 0 then #[] else z.cells) : Array Value).size]!) (ps.map fun (j, x) => (j, ev x)).toList = some cells' := by
        rw [Array.toList_map]; exact hf1
      by_cases h0 : n * i.size = 0
      · simp [h0] at hf1'
        simp [execOp, ho, Instr.buildSlice, hub, hsv, h0, hf1', newRow]
      · simp [h0] at hf1'
        have : ¬ n * i.size > 2 ^ 24 := by omega
        simp [execOp, ho, Instr.buildSlice, hub, hsv, h0, this, hzv, hf1', newRow]
    · exact h.elim
  · exact h.elim


/-- The head of an owned slice, read only: what stands there is not written again. -/
theorem head_sound (hty : TyOk P TY) {F : Spec} {t k : Nat} {x : Operand} {lo hi : Option Operand} {T : List AV} {K : AV → List AV → Store → Prop} {a : Act} {oo : Oper} (hx : evalF T x = .vec k) (h : opB TY F d (.slice t x lo hi none) T S K)
    (ho : oo.op = .slice t x lo hi none) (st : St M0 w0 ρ M S w) (tm : Tm ρ w M T a) : Runs P (execOp a.eval oo) w (Post M0 w0 a T.length K) := by
  simp only [opB, quietOp, eval_iff, hx] at h
  split at h
  · rename_i wm r hf
    rw [ifK_iff, len_iff] at h
    obtain ⟨hok, h⟩ := h
    obtain ⟨m, h, hm⟩ := hi_iff h
    obtain ⟨⟨h0, h1⟩, h⟩ := h
    obtain ⟨r', h, g1, g2, g3⟩ := cut_cells h (Nat.zero_le _) (by omega)
    obtain ⟨S', hK, hS⟩ := set_store h
    rw [hf] at hS
    obtain ⟨e', hd', hu, hes, hrow⟩ := okSl_row hty hok
    have hxv := eval_rep tm x
    rw [hx] at hxv
    obtain ⟨o, k1, hv⟩ := hxv
    have hBH := st.blk k _ hf
    obtain ⟨⟨o', k2, k3, k4, k5, k6, k7⟩, _⟩ := hBH
    obtain rfl := sli_sl k2 k1
    replace k1 := k2
    have hlc : o.len ≤ o.cap ∧ (o.blk = none → o.len = 0 ∧ o.cap = 0) := by
      cases hb : o.blk with
      | none => simp only [hb] at k7; exact ⟨by omega, fun _ => ⟨by omega, k7.2⟩⟩
      | some b => simp only [hb] at k7; exact ⟨k7.1, fun he => by cases he⟩
    have hub : (underlying t).run P w = .ok (.slice e') w := by simp [underlying, hu]
    have hb := run_bounds (P := P) (ρ := ρ) (w := w) (M := M) (T := T) (e := a.eval) (l := 0) (h := m) (lo := none) (hi := hi) (len := o.len) hlc.1 (.inl ⟨rfl, rfl⟩) (by rw [k3]; exact hm) (fun y _ => eval_rep tm y) (Int.le_refl _) h0 (by omega)
    let M' : Msk := fun b off => M b off ∧ ¬ (o.blk = some b ∧ off < m.toNat * r.sz)
    have hkeep : Keep w M w M' := fun b off c hc hn => ⟨hc, fun hm => hn hm.1⟩
    have hother : ∀ j, j ≠ k → ∀ b, hasB ρ j b → o.blk ≠ some b := fun j hj b hjb hb => hj (st.inj _ _ _ hjb (by simp [hasB, k1, Own.has, hb]))
    refine .val (v := .slice (o.blk.map fun b => ⟨b, 0, none⟩) m.toNat o.cap) (w' := w) ?_ ⟨ρ, M', T, S', _, hK, ⟨fun j => ?_, fun j C hC => ?_, st.inj, fun b off hm => st.mlt b off hm.1, st.stp, fun b off hb hm => st.sub b off hb hm.1, fun b off hb hl hm => ⟨st.old b off hb hl hm, fun hh => absurd (by simp [hasB, k1, Own.has, hh.1]) (st.notFresh (k := k) hb hl)⟩, st.fresh, st.pin⟩,
      ⟨tm.defers, tm.size, fun i => RepT.keep hkeep (fun _ _ h => h) (tm.tmp i)⟩, rfl, ?_⟩
    · have hz : (o.blk.map fun b => (⟨b, 0, none⟩ : Addr)).map (fun a => a.add (0 * r.sz)) = o.blk.map fun b => ⟨b, 0, none⟩ := by cases o.blk <;> simp [addr_add]
      have hb' : (Instr.sliceBounds true o.len o.cap none (hi.map a.eval) none).run P w = .ok (0, m.toNat, o.cap) w := hb
      simp [execOp, ho, hv, Sl.val, Instr.sliceAt, hub, Instr.slice, hb', hrow.size, hes]
      try (cases o.blk <;> simp [addr_add])
    · rw [hS j, st.dom j]
      by_cases hj : j = k
      · subst hj; simp [hf]
      · simp [hj]
    · rw [hS j] at hC
      by_cases hj : j = k
      · subst hj
        simp at hC; subst hC
        refine ⟨⟨o, k1, k3, k4, k5, by omega, ?_⟩, .inl rfl⟩
        cases hbl : o.blk with
        | none => simp only [hbl] at k7 ⊢; exact k7
        | some b =>
          simp only [hbl] at k7 ⊢
          obtain ⟨k8, cs, ty, k9, k10, k11, k12⟩ := k7
          refine ⟨k8, cs, ty, k9, k10, fun off => ?_, fun q hq => ?_⟩
          · have hmax : max wm m.toNat * o.sz ≤ off ↔ wm * o.sz ≤ off ∧ m.toNat * o.sz ≤ off := by
              rcases Nat.le_total wm m.toNat with hle | hle
              · rw [Nat.max_eq_right hle]; exact ⟨fun h' => ⟨Nat.le_trans (Nat.mul_le_mul_right _ hle) h', h'⟩, fun h' => h'.2⟩
              · rw [Nat.max_eq_left hle]; exact ⟨fun h' => ⟨h', Nat.le_trans (Nat.mul_le_mul_right _ hle) h'⟩, fun h' => h'.1⟩
            rw [hmax]
            constructor
            · intro hmm
              have := (k11 off).1 hmm.1
              exact ⟨⟨this.1, Nat.le_of_not_lt fun hlt => hmm.2 ⟨hbl, by rw [← k4]; exact hlt⟩⟩, this.2⟩
            · intro hmm
              exact ⟨(k11 off).2 ⟨hmm.1.1, hmm.2⟩, fun hh => by have := hh.2; rw [← k4] at this; have := hmm.1.2; omega⟩
          · obtain ⟨c, k13, k14⟩ := k12 q hq; exact ⟨c, k13, CellP.keep hkeep k14⟩
      · simp only [hj, if_false] at hC
        exact BlkH.ext hkeep (fun _ _ h => h) (fun b hb => ⟨rfl, fun off => ⟨fun hm => hm.1, fun hm => ⟨hm, fun hh => hother j hj b hb hh.1⟩⟩⟩) (st.blk j C hC)
    · refine ⟨by rw [g1]; simp only [LB] at k5 ⊢; omega, _, _, by rw [g1, Nat.sub_zero], by rw [g1]; omega, ?_⟩
      cases hbl : o.blk with
      | none =>
        have := (hlc.2 hbl).1
        exact .inl (by simp only [RO.cells, g1]; rw [show m.toNat - 0 = 0 from by omega]; simp)
      | some b =>
        simp only [hbl] at k7
        obtain ⟨k8, cs, ty, k9, k10, k11, k12⟩ := k7
        refine .inr ⟨b, 0, rfl, fun q hq => ?_⟩
        have hq' : q < m.toNat * r.sz := by simpa [RO.cells, g1, g2] using hq
        have hle : m.toNat * r.sz ≤ r.len * r.sz := Nat.mul_le_mul_right _ (by omega)
        obtain ⟨c, k13, k14⟩ := k12 q (by simp only [RO.cells]; omega)
        refine ⟨c, by rw [cell_of_heap k9, Nat.zero_add]; exact k13, fun hm => hm.2 ⟨hbl, by omega⟩, ?_⟩
        exact g3 w M' q c hq (CellP.keep hkeep (by simpa using k14))
  · exact h.elim
theorem q_sound (hty : TyOk P TY) {F : Spec} {o : Op} {T : List AV} {K : AV → Option Blk → Prop} (hq : quietOp o = true) (h : qK TY F d o T S0 K) : ∃ v B, K v B ∧ QS P d o T S0 v B := by
  cases o <;> try (first | (cases hq; done) | exact h.elim)
  case move => exact simple_sound hty h (.inl ⟨_, .inl rfl⟩)
  case assign => exact simple_sound hty h (.inl ⟨_, .inr (.inl rfl)⟩)
  case pick => exact simple_sound hty h (.inr (.inr (.inr (.inl ⟨_, _, _, rfl⟩))))
  case alloc => exact alloc_sound hty h
  case box => exact box_sound hty h
  case build => exact build_sound hty h
  case load => exact load_sound hty h
  case nilCheck => exact simple_sound hty h (.inl ⟨_, .inr (.inr rfl)⟩)
  case binOp => exact simple_sound hty h (.inr (.inr (.inl ⟨_, _, _, _, _, rfl⟩)))
  case unOp => exact simple_sound hty h (.inr (.inl ⟨_, _, _, rfl⟩))
  case makeFunc => exact simple_sound hty h (.inr (.inr (.inr (.inr (.inr ⟨_, _, _, rfl⟩)))))
  case makeSlice => exact make_sound hty h
  case fieldAddr => exact fieldAddr_sound hty h
  case field => exact field_sound hty h
  case indexAddr => exact indexAddr_sound hty h
  case index => exact index_sound hty h
  case extract => exact simple_sound hty h (.inr (.inr (.inr (.inr (.inl ⟨_, _, rfl⟩)))))
  case makeMap => exact makeMap_sound hty h
  case lookup => exact lookup_sound hty h
  case call c =>
    simp only [quietOp] at hq
    cases hc : c.callee with
    | builtin b => exact builtin_sound hty hc h
    | invoke => rw [hc] at hq; cases hq
    | value => rw [hc] at hq; cases hq

theorem run_call {f : FuncId} {c : Call} {oo : Oper} {e : Operand → Value} {x : Operand} {cs : List Value} (hc : Callable P f) (ho : oo.op = .call c) (hx : c.callee = .value x) (hv : e x = .func (.func f) #[] cs.toArray) (w : World) :
    (execOp e oo).run P w = .ok (.enter f (c.args.toList.map e ++ cs).toArray) w := by
  obtain ⟨fn, h1, h2, h3⟩ := hc
  have hb : fn.body.isNone = false := by cases hh : fn.body <;> simp_all
  have e1 : (#[] ++ c.args.map e ++ cs.toArray) = (c.args.toList.map e ++ cs).toArray := by
    apply Array.ext'
    simp
  have hb' : fn.body ≠ none := fun hh => by rw [hh] at h3; cases h3
  rw [← e1]
  simp [execOp, ho, resolve, hx, hv, Deferred.ofValue, invoke, callFunc, h1, h2, hb']

theorem evalF_app {l m : List AV} : appA l m = l ++ m := by
  induction l with
  | nil => rfl
  | cons a l ih => simp [appA, ih]

theorem repL_map {T : List AV} {a : Act} (tm : Tm ρ w M T a) : ∀ (xs : List Operand), RepL (RepT ρ w M) (xs.map (evalF T)) (xs.map a.eval)
  | [] => trivial
  | x :: xs => ⟨eval_rep tm x, repL_map tm xs⟩

theorem call_sound {F : Spec} (hF : SpecOk P F) {f : FuncId} {c : Call} {x : Operand} {cap : List AV} {T : List AV} {K : AV → List AV → Store → Prop} {a : Act} {oo : Oper} (ho : oo.op = .call c) (hx : c.callee = .value x)
    (hxv : evalF T x = .fn f cap) (h : callK F d f ((c.args.toList.map (evalF T)) ++ cap) T S K) (st : St M0 w0 ρ M S w) (tm : Tm ρ w M T a) : Runs P (execOp a.eval oo) w (Post M0 w0 a T.length K) := by
  have hv := eval_rep tm x
  rw [hxv] at hv
  obtain ⟨cs, hv, hcs⟩ := hv
  have hrun := run_call (callK_callable hF h) ho hx (e := a.eval) (cs := cs.toList) (by rw [hv]) w
  refine .inr (.inr ⟨f, _, w, hrun, ?_⟩)
  refine (callK_sound hF h st tm ((repL_map tm c.args.toList).append (hcs.imp fun _ _ => repT_of_repC))).mono fun e w' ⟨u, he, ρ', M', T', S', v, h1, h2, h3, h4, h5⟩ => ⟨u, he, ρ', M', T', S', v, h1, h2, h3, h4, h5⟩

theorem setMap_heap {b : Nat} {o o' : Obj} (h : w.heap[b]? = some o) (b' : Nat) : (w.heap.setIfInBounds b o')[b']? = if b' = b then some o' else w.heap[b']? := by
  have hb : b < w.heap.size := by
    rcases Nat.lt_or_ge b w.heap.size with h' | h'
    · exact h'
    · rw [Array.getElem?_eq_none h'] at h; cases h
  rw [Array.getElem?_setIfInBounds]
  by_cases he : b = b'
  · subst he; simp [hb]
  · simp [he, Ne.symm he]

theorem mapUpdate_sound (hty : TyOk P TY) {t : Nat} {x k y : Operand} {T : List AV} {K : AV → List AV → Store → Prop} {a : Act} {oo : Oper} (h : putMK TY t x k y T S K)
    (ho : oo.op = .mapUpdate t x k y ∨ oo.op = .insert t x k y) (st : St M0 w0 ρ M S w) (tm : Tm ρ w M T a) : Runs P (execOp a.eval oo) w (Post M0 w0 a T.length K) := by
  unfold putMK at h
  obtain ⟨kt, et, kd, vk, h, hu, hk, z, hz, hzv⟩ := map_row hty h
  simp only [eval_iff] at h
  split at h
  · rename_i j off hx
    split at h
    · rename_i kd' vk' m hf
      rw [ifK_iff, ifK_iff] at h
      obtain ⟨h1, h2, h⟩ := h
      obtain rfl := kdq_eq h1
      obtain rfl := vkq_eq h2
      obtain ⟨key, hkey, h⟩ := key_iff h
      obtain ⟨n, hn, h⟩ := val_iff h
      obtain ⟨S', hK, hS⟩ := set_store h
      rw [hf] at hS
      have hx' := eval_rep tm x
      rw [hx] at hx'
      have hx' : (ρ j).bind (Own.ref · off) = some (a.eval x) := hx'
      obtain ⟨b, g1, es, c, g2, g3, g4⟩ := st.blk j _ hf
      have hex := ref_mp g1 hx'
      obtain ⟨es', c', hr, hrep⟩ := run_mapUpdate (mty := t) hu hk g2 g4 (key_rep hkey (eval_rep tm k)) (val_rep hn (eval_rep tm y))
      have hheap := fun b' => setMap_heap (o' := .map es' c') g2 b'
      have hM : M b 0 := (g3 0).2 rfl
      have hb : hasB ρ j b := by simp [hasB, g1, Own.has]
      have hstp : ∀ M' : Msk, M' b 0 → Stp M' w { w with heap := w.heap.setIfInBounds b (.map es' c') } := fun M' hM' => ⟨by simp, fun b' hb' => by
        by_cases he : b' = b
        · subst he; exact .inr (.inr ⟨es, es', c, c', g2, by simp [hheap], hM'⟩)
        · exact .inl (by simp [hheap, he]), rfl, rfl⟩
      have hkeep : Keep w M { w with heap := w.heap.setIfInBounds b (.map es' c') } M := (hstp M hM).keep fun b off _ h => h
      have hblt : b < w.heap.size := blk_lt st hb
      have st' : St M0 w0 ρ M S' { w with heap := w.heap.setIfInBounds b (.map es' c') } := by
        refine ⟨fun i => ?_, fun i C hC => ?_, st.inj, fun b off hm => by simpa using st.mlt b off hm, ?_, st.sub, st.old, st.fresh, st.pin⟩
        · rw [hS i, st.dom i]
          by_cases hi : i = j
          · subst hi; simp [hf]
          · simp [hi]
        · rw [hS i] at hC
          by_cases hi : i = j
          · subst hi
            simp at hC; subst hC
            exact ⟨b, g1, es', c', by simp [hheap], g3, hrep⟩
          · simp only [hi, if_false] at hC
            exact BlkH.ext hkeep (fun _ _ h => h) (fun b' hb' => ⟨by
              have : b' ≠ b := fun e => hi (st.inj _ _ b (e ▸ hb') hb)
              simp [hheap, this], fun _ => Iff.rfl⟩) (st.blk i C hC)
        · exact st.stp.trans (hstp (fun b' off => b' = b ∧ M b' off) ⟨rfl, hM⟩) (fun b' off hb' he => by obtain ⟨rfl, hm⟩ := he; exact ⟨(st.fresh j b' hb).resolve_left (Nat.not_le_of_lt hb'), st.sub b' off hb' hm⟩)
      refine .inr (.inl ⟨{ w with heap := w.heap.setIfInBounds b (.map es' c') }, ?_, ρ, M, T, S', .any, hK, st', ⟨tm.defers, tm.size, fun i => RepT.keep hkeep (fun _ _ h => h) (tm.tmp i)⟩, rfl, trivial⟩)
      rcases ho with ho | ho <;> simp [execOp, ho, hex, hr]
    · exact h.elim
  · exact h.elim

theorem opB_sound (hty : TyOk P TY) {F : Spec} (hF : SpecOk P F) {o : Op} {T : List AV} {K : AV → List AV → Store → Prop} {a : Act} {oo : Oper} (h : opB TY F d o T S K)
    (ho : oo.op = o) (st : St M0 w0 ρ M S w) (tm : Tm ρ w M T a) : Runs P (execOp a.eval oo) w (Post M0 w0 a T.length K) := by
  have quiet : ∀ {ρ : Env} {M : Msk} {T' : List AV} {S : Store} {K' : AV → Option Blk → Prop}, qK TY F d o T' S K' → (∃ v B, K' v B ∧ QS P d o T' S v B) → St M0 w0 ρ M S w → Tm ρ w M T' a → T'.length = T.length → ((findS S d = none ∧ loc d = true) ∨ ∀ v b, ¬ K' v (some b)) →
      (∀ v B, K' v B → K v T' (addS d B S)) → Runs P (execOp a.eval oo) w (Post M0 w0 a T.length K) := by
    intro ρ M T' S K' _ hs st tm hlen hd hK
    obtain ⟨v, B, h1, h2⟩ := hs
    refine (h2 M0 w0 ρ M w S a.eval oo ho (Cmp.refl S) st (fun x _ => eval_rep tm x) (fun hB => ?_)).mono fun u w' ⟨ρ', M', g1, g2, g3, g4⟩ => ⟨ρ', M', T', _, v, hK v B h1, g1, ⟨tm.defers, tm.size, fun i => RepT.keep g3 g4 (tm.tmp i)⟩, hlen, g2⟩
    rcases hd with hd | hd
    · exact hd
    · cases B with
      | none => exact absurd rfl hB
      | some b => exact absurd h1 (hd v b)
  unfold opB at h
  cases hq : quietOp o with
  | true =>
    rw [hq] at h
    cases hm : makesOp o with
    | true =>
      rw [hm] at h
      obtain ⟨T', S', h1, h2, h3, h4, h5, hloc⟩ := kill_sound h st tm
      exact quiet h1 (q_sound hty hq h1) h2 h3 h4 (.inl ⟨h5, hloc⟩) fun v B hv => by cases B <;> first | exact hv.elim | exact hv
    | false =>
      rw [hm] at h
      exact quiet h (q_sound hty hq h) st tm rfl (.inr fun v b hv => hv) fun v B hv => by cases B <;> first | exact hv.elim | exact hv
  | false =>
    cases o <;> try (first | (cases hq; done) | (rw [hq] at h; exact h.elim))
    case buildSlice t n ps => exact buildSlice_sound hty (d := d) (F := F) (by simpa only [opB] using h) ho st tm
    case store t x y => exact store_sound hty (d := d) (F := F) (by simpa only [opB] using h) ho st tm
    case mapUpdate t x k y => exact mapUpdate_sound hty h (.inl ho) st tm
    case insert t x k y => exact mapUpdate_sound hty h (.inr ho) st tm
    case slice t x lo hi mx =>
      cases mx with
      | some _ => exact h.elim
      | none =>
        by_cases hx : ∃ k, evalF T x = .vec k
        · obtain ⟨k, hx⟩ := hx
          exact head_sound hty (d := d) (F := F) hx (by simpa only [opB] using h) ho st tm
        · have h' : qK TY F d (.slice t x lo hi none) T S fun v b => match b with | none => K v T S | some _ => False := by
            simp only [quietOp, eval_iff] at h
            split at h
            · rename_i k hk; exact absurd ⟨k, hk⟩ hx
            · exact h
          exact quiet h' (slice_sound hty h') st tm rfl (.inr fun v b hv => hv) fun v B hv => by cases B <;> first | exact hv.elim | exact hv
    case call c =>
      simp only [quietOp] at hq h
      cases hc : c.callee with
      | invoke => rw [hc] at h; exact h.elim
      | builtin b =>
        rw [hc] at hq
        cases b <;> try (cases hq; done)
        exact append_sound hty (d := d) (F := F) hc (by simpa only [opB, quietOp, hc] using h) ho st tm
      | value x =>
        rw [hc] at h
        have mcall : ∀ {f : FuncId}, callMK F f c.args.toList x T S K → Runs P (execOp a.eval oo) w (Post M0 w0 a T.length K) := fun {f} h => by
          obtain ⟨cs, h1, h2⟩ := callM_sound hF h st tm
          have hrun := run_call (callM_callable hF h) ho hc (e := a.eval) (cs := cs) h1 w
          exact .inr (.inr ⟨f, _, w, hrun, h2.mono fun e w' ⟨u, he, ρ', M', T', S', v, h1, h2, h3, h4, h5⟩ => ⟨u, he, ρ', M', T', S', v, h1, h2, h3, h4, h5⟩⟩)
        cases x with
        | func f =>
          rcases h with h | h | h
          · simp only [evals_iff] at h
            exact call_sound hF (cap := []) ho hc rfl (by simpa using h) st tm
          · exact mcall h
          · simp only [evals_iff] at h
            have hrun := run_call (callEK_callable hF h) ho hc (e := a.eval) (cs := []) rfl w
            rw [List.append_nil] at hrun
            exact .inr (.inr ⟨f, _, w, hrun, (callEK_sound hF h st tm (repL_map tm c.args.toList)).mono fun e w' ⟨u, he, ρ', M', T', S', v, h1, h2, h3, h4, h5⟩ => ⟨u, he, ρ', M', T', S', v, h1, h2, h3, h4, h5⟩⟩)
        | _ =>
          simp only [eval_iff] at h
          split at h
          · rename_i f cap hx
            rcases h with h | h
            · simp only [evals_iff, evalF_app] at h
              exact call_sound hF ho hc hx h st tm
            · exact mcall h
          · exact h.elim

theorem ldDeep_sound (hty : TyOk P TY) {o : Op} {T : List AV} {K : AV → List AV → Store → Prop} {a : Act} {oo : Oper} (h : ldDeep TY d o T S K)
    (ho : oo.op = o) (st : St M0 w0 ρ M S w) (tm : Tm ρ w M T a) : Runs P (execOp a.eval oo) w (Post M0 w0 a T.length K) := by
  cases o <;> try exact h.elim
  rename_i t x
  obtain ⟨T1, S1, h, st1, tm1, hT1, hnone, hloc⟩ := kill_sound h st tm
  rw [eval_iff] at h
  have hx := eval_rep tm1 x
  split at h
  · rename_i k i hxk
    rw [hxk] at hx
    split at h
    · rename_i r hf
      rw [ifK_iff, ifK_iff] at h
      obtain ⟨hok, hlk, h⟩ := h
      have h := rowK_iff h
      obtain ⟨S2, hK, hS⟩ := set_store h
      rw [hf] at hS
      obtain ⟨o, b, g1, g2, g3, g4, g5⟩ := hx
      obtain ⟨o', rows, g6, hD⟩ := st1.blk k _ hf
      rw [of_dp g6] at g1; cases g1
      have hlen := hD.len
      have hdk : d ≠ k := fun e => by rw [← e, hnone] at hf; cases hf
      obtain ⟨ρ2, st2, hv2, hrep⟩ := st1.takeRow (S' := (d, .vec 0 (r.row i.toNat) []) :: S2) hnone hloc hlk g6 hD ⟨g3, by omega⟩ hf (fun j => by
        rw [find_cons]
        by_cases hj : j = d
        · simp [hj]
        · rw [if_neg (Ne.symm hj), if_neg hj, hS j]; rfl)
      have h7 := hD.outer
      simp only [g2] at h7
      obtain ⟨g19, cs, ty, g20, g21, g22, g23⟩ := h7
      have hil : i.toNat < r.len := by omega
      obtain ⟨c, hc1, hc2⟩ := g23 i.toNat hil
      have hc2 := hc2.resolve_left (by simp)
      subst hc2
      obtain ⟨hs, hag⟩ := okEl_facts hok
      have hsz1 := rowsQ_sz hD.rq
      have hrow := hty.at (t := t) (.inl (by rw [hs, hsz1]; decide))
      have hag' : isAggD (nthT TY t).d = false := by rw [hag]; have := hD.rq; cases r <;> first | rfl | cases this
      have hl := run_load1 (t := t) (b := b) (off := i.toNat) (c := (rows.getD i.toNat nilSl).val) hrow hag' (by rw [cell_of_heap g20]; exact hc1)
      refine .val (v := (rows.getD i.toNat nilSl).val) (w' := w) ?_ ⟨ρ2, dropM M ρ d, T1, _, .vec d, hK, st2, ⟨tm1.defers, tm1.size, fun j => (tm1.tmp j).view hv2⟩, hT1, hrep⟩
      rw [hD.osz, Nat.mul_one] at g5
      simp [execOp, ho, g5, hl]
    · exact h.elim
  · exact h.elim

theorem opK_sound (hty : TyOk P TY) {F : Spec} (hF : SpecOk P F) {o : Op} {T : List AV} {K : AV → List AV → Store → Prop} {a : Act} {oo : Oper} (h : opK TY F d o T S K)
    (ho : oo.op = o) (st : St M0 w0 ρ M S w) (tm : Tm ρ w M T a) : Runs P (execOp a.eval oo) w (Post M0 w0 a T.length K) := by
  unfold opK at h
  split at h
  · exact ldDeep_sound hty h ho st tm
  · exact opB_sound hty hF h ho st tm
end
end Go.AM
