/- The abstract machine: reading memory; addresses; what makes a block. -/
import Derived.Test.YtmdlfcjbjjifoabAmQOps
namespace Go.AM
open Go

section
variable {P : Program} {TY : List TyE} {M0 : Base} {w0 w : World} {ρ : Env} {M : Msk} {S S0 : Store} {d : Nat}

theorem repT_of_repC {a : AV} {v : Value} (h : RepC ρ w M a v) : RepT ρ w M a v := by
  cases a with
  | any => trivial
  | agg l => exact h.elim
  | tup l => exact h.elim
  | fn f l =>
    cases l with
    | nil => have h : v = _ := h; subst h; exact ⟨#[], rfl, trivial⟩
    | cons => exact h.elim
  | _ => exact h

theorem okEl_facts {t : Nat} {r : RO} (h : okEl TY t r = true) : (nthT TY t).sz = r.sz ∧ isAggD (nthT TY t).d = (match r with | .pairs _ => true | _ => false) := by
  cases r <;> simp only [okEl] at h <;> split at h <;> first
    | (cases h; done)
    | (rename_i hd; exact ⟨by rw [beq_iff'.1 h]; rfl, hd⟩)

/-- One cell is read. -/
theorem run_load1 {t b off : Nat} {c : Value} (hrow : TyRow P t (nthT TY t)) (ha : isAggD (nthT TY t).d = false) (hc : w.cell? ⟨b, off, none⟩ = some c) :
    (Instr.loadAt t (.pointer (some ⟨b, off, none⟩))).run P w = .ok c w := by
  simp [Instr.loadAt, Instr.sureAddr, loadVar, hrow.agg, ha, hc]

/-- Several cells are read. -/
theorem run_loadN {t b off : Nat} {cs : List Value} (hrow : TyRow P t (nthT TY t)) (ha : isAggD (nthT TY t).d = true) (hn : cs.length = (nthT TY t).sz)
    (hc : ∀ j c, cs[j]? = some c → w.cell? ⟨b, off + j, none⟩ = some c) :
    (Instr.loadAt t (.pointer (some ⟨b, off, none⟩))).run P w = .ok (.agg cs.toArray) w := by
  have h := run_loadCells_list (P := P) w ⟨b, off, none⟩ cs (fun j v hj => by rw [addr_add]; exact hc j v hj)
  rw [hn] at h
  simp [Instr.loadAt, Instr.sureAddr, loadVar, hrow.agg, ha, hrow.size, h]

theorem run_loadEl {t b off i : Nat} {r : RO} (hty : TyOk P TY) (hok : okEl TY t r = true) (hi : i < r.len)
    (hc : ∀ q, q < r.cells → ∃ c, w.cell? ⟨b, off + q, none⟩ = some c ∧ CellP w M r q c) :
    ∃ u, (Instr.loadAt t (.pointer (some ⟨b, off + i * r.sz, none⟩))).run P w = .ok u w ∧ RepT ρ w M (r.get i) u := by
  obtain ⟨hs, ha⟩ := okEl_facts hok
  have hrow := hty.at (t := t) (.inl (by rw [hs]; exact Nat.ne_of_gt r.sz_pos))
  cases r with
  | pairs l =>
    have hl : i < l.length := hi
    obtain ⟨c, h1, h2⟩ := hc (i * 2) (by simp only [RO.cells, RO.len, RO.sz]; omega)
    obtain ⟨c', h1', h2'⟩ := hc (i * 2 + 1) (by simp only [RO.cells, RO.len, RO.sz]; omega)
    refine ⟨_, run_loadN (cs := [c, c']) hrow ha (by rw [hs]; rfl) (fun j v hj => ?_), get_two h2 h2'⟩
    match j, hj with
    | 0, hj => simp at hj; subst hj; exact h1
    | 1, hj => simp at hj; subst hj; simpa [Nat.add_assoc, RO.sz] using h1'
    | j + 2, hj => simp at hj
  | _ =>
    obtain ⟨c, h1, h2⟩ := hc i (by simp only [RO.cells, RO.sz, Nat.mul_one]; exact hi)
    exact ⟨c, run_load1 hrow ha (by simpa [RO.sz] using h1), get_one rfl h2 hi⟩

/-- The cells behind a slice that is read only. -/
theorem ro_cells {r : RO} {b off cap m : Nat} (h : RepRO w M r (.slice (some ⟨b, off, none⟩) m cap)) :
    ∀ q, q < r.cells → ∃ c, w.cell? ⟨b, off + q, none⟩ = some c ∧ CellP w M r q c := by
  intro q hq
  obtain ⟨_, a, cap', hv, _, h⟩ := h
  cases hv
  rcases h with h | ⟨b', off', ha, h⟩
  · omega
  · cases ha
    obtain ⟨c, h1, _, h2⟩ := h q hq
    exact ⟨c, h1, h2⟩

theorem ro_addr {r : RO} {v : Value} (h : RepRO w M r v) (hn : 0 < r.len) : ∃ b off cap, v = .slice (some ⟨b, off, none⟩) r.len cap := by
  obtain ⟨_, a, cap, rfl, _, h⟩ := h
  rcases h with h | ⟨b, off, rfl, _⟩
  · have := r.sz_pos
    have : 0 < r.cells := Nat.mul_pos hn this
    omega
  · exact ⟨b, off, cap, rfl⟩

theorem load_sound (hty : TyOk P TY) {F : Spec} {t : Nat} {x : Operand} {T : List AV} {K : AV → Option Blk → Prop} (h : qK TY F d (.load t x) T S0 K) :
    ∃ v B, K v B ∧ QS P d (.load t x) T S0 v B := by
  simp only [qK, eval_iff] at h
  have hmem : ∀ {e : Operand → Value} {ρ : Env} {w : World} {M : Msk}, (∀ y ∈ (Op.load t x).operands, RepT ρ w M (evalF T y) (e y)) → RepT ρ w M (evalF T x) (e x) := fun h => h x (by simp [Op.operands])
  generalize ha : evalF T x = a at h hmem
  cases a with
  | rptr r i =>
    simp only [ifK_iff, get_iff] at h
    obtain ⟨hok, h⟩ := h
    refine ⟨_, _, h, fun M0 w0 ρ M w S' e oo ho hc st he _ => ?_⟩
    obtain ⟨b, off, cap, h1, h2, h3, h4⟩ := hmem he
    obtain ⟨u, h5, h6⟩ := run_loadEl (ρ := ρ) (t := t) hty hok (i := i.toNat) (by omega) (ro_cells h1)
    exact .val (by simp [execOp, ho, h4, h5]) (Out.pure st h6)
  | vptr k i =>
    simp only at h
    split at h
    · rename_i wm r hf
      simp only [ifK_iff, get_iff] at h
      obtain ⟨hok, h⟩ := h
      refine ⟨_, _, h, fun M0 w0 ρ M w S' e oo ho hc st he _ => ?_⟩
      obtain ⟨o, b, h1, h2, h3, h4, h5⟩ := hmem he
      obtain ⟨⟨o', h6, h7, h8, h9, h10, h11⟩, _⟩ := st.blk k _ (st.find' hc hf h1)
      obtain rfl := sli_sl h6 h1
      simp only [h2] at h11
      obtain ⟨h12, cs, ty, h13, h14, h15, h16⟩ := h11
      obtain ⟨u, h17, h18⟩ := run_loadEl (ρ := ρ) (w := w) (M := M) (t := t) (b := b) (off := 0) hty hok (i := i.toNat) (by omega)
        (fun q hq => by obtain ⟨c, h1, h2⟩ := h16 q hq; exact ⟨c, by rw [cell_of_heap h13, Nat.zero_add]; exact h1, h2⟩)
      rw [Nat.zero_add, ← h8] at h17
      exact .val (by simp [execOp, ho, h5, h17]) (Out.pure st h18)
    · rename_i wm r j k' hf
      simp only [ifK_iff, get_iff] at h
      obtain ⟨hok, h, h'⟩ := h
      by_cases hij : i = j
      · refine ⟨_, _, h hij, fun M0 w0 ρ M w S' e oo ho hc st he _ => ?_⟩
        obtain ⟨o, b, h1, h2, h3, h4, h5⟩ := hmem he
        obtain ⟨⟨o', h6, h7, h8, h9, h10, h11⟩, hov⟩ := st.blk k _ (st.find' hc hf h1)
        obtain rfl := sli_sl h6 h1
        simp only [h2] at h11
        obtain ⟨h12, cs, ty, h13, h14, h15, h16⟩ := h11
        rcases hov with hov | ⟨_, _, hov, hq, _, _, _⟩
        · cases hov
        · cases hov
          have hsz := rowsQ_sz hq
          obtain ⟨hs, hag⟩ := okEl_facts hok
          have hrow := hty.at (t := t) (.inl (by rw [hs, hsz]; decide))
          obtain ⟨c, h17, h18⟩ := h16 i.toNat (by simp only [RO.cells, hsz]; omega)
          rw [if_pos (by omega)] at h18
          have hag' : isAggD (nthT TY t).d = false := by rw [hag]; cases r <;> first | rfl | cases hq
          refine .val (v := c) (w' := w) ?_ (Out.pure st (show RepT ρ w M (.vec k') c from h18))
          have := run_load1 (P := P) (w := w) (b := b) (off := i.toNat * o.sz) hrow hag' (c := c) (by rw [cell_of_heap h13, h8, hsz, Nat.mul_one]; exact h17)
          simp [execOp, ho, h5, this]
      · refine ⟨_, _, h' hij, fun M0 w0 ρ M w S' e oo ho hc st he _ => ?_⟩
        obtain ⟨o, b, h1, h2, h3, h4, h5⟩ := hmem he
        obtain ⟨⟨o', h6, h7, h8, h9, h10, h11⟩, hov⟩ := st.blk k _ (st.find' hc hf h1)
        obtain rfl := sli_sl h6 h1
        simp only [h2] at h11
        obtain ⟨h12, cs, ty, h13, h14, h15, h16⟩ := h11
        rcases hov with hov | ⟨_, _, hov, hq, _, _, _⟩
        · cases hov
        · cases hov
          have hsz := rowsQ_sz hq
          obtain ⟨hs, hag⟩ := okEl_facts hok
          have hrow := hty.at (t := t) (.inl (by rw [hs, hsz]; decide))
          obtain ⟨c, h17, h18⟩ := h16 i.toNat (by simp only [RO.cells, hsz]; omega)
          rw [if_neg (by omega)] at h18
          have hag' : isAggD (nthT TY t).d = false := by rw [hag]; cases r <;> first | rfl | cases hq
          refine .val (v := c) (w' := w) ?_ (Out.pure st (get_one hsz h18 (by omega)))
          have := run_load1 (P := P) (w := w) (b := b) (off := i.toNat * o.sz) hrow hag' (c := c) (by rw [cell_of_heap h13, h8, hsz, Nat.mul_one]; exact h17)
          simp [execOp, ho, h5, this]
    · exact h.elim
  | ptr k off =>
    simp only at h
    split at h
    · rename_i l hf
      obtain ⟨v, hK, hlen, hv⟩ := part_iff h
      refine ⟨_, _, hK, fun M0 w0 ρ M w S' e oo ho hc st he _ => ?_⟩
      have h1 : (ρ k).bind (Own.ref · off) = some (e x) := hmem he
      obtain ⟨b, h3, cs, ty, h4, h5, h6⟩ := st.blk k _ (st.find' hc hf h1)
      have h2 := ref_bx h3 h1
      have hsize : l.length = cs.size := by rw [RepL.length h6, Array.length_toList]
      rcases hv with ⟨hag, rfl⟩ | ⟨hag, hs, rfl⟩
      · have hrow := hty.at (t := t) (.inr (fun e => by rw [e] at hag; cases hag))
        refine .val (v := .agg ((cs.toList.drop off).take (nthT TY t).sz).toArray) (w' := w) ?_ (Out.pure st ⟨_, rfl, by simpa using (h6.drop off).take _⟩)
        have := run_loadN (P := P) (w := w) (b := b) (off := off) (cs := (cs.toList.drop off).take (nthT TY t).sz) hrow hag (by simp; omega) (fun j c hj => by
          rw [List.getElem?_take] at hj
          split at hj
          · rw [List.getElem?_drop, Array.getElem?_toList] at hj; rw [cell_of_heap h4]; exact hj
          · cases hj)
        simp [execOp, ho, h2, this]
      · have hrow := hty.at (t := t) (.inl (by rw [hs]; decide))
        obtain ⟨c, h7, h8⟩ := h6.get off (by omega)
        refine .val (v := c) (w' := w) ?_ (Out.pure st ?_)
        · have := run_load1 (P := P) (w := w) (b := b) (off := off) hrow hag (c := c) (by rw [cell_of_heap h4]; simpa using h7)
          simp [execOp, ho, h2, this]
        · exact repT_of_repC h8
    · exact h.elim
  | _ => exact h.elim
end
end Go.AM
