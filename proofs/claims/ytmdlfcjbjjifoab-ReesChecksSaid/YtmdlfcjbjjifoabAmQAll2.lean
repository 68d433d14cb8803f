/- The abstract machine: the quiet operations on memory: new blocks, addresses, parts, lengths. -/
import Derived.Test.YtmdlfcjbjjifoabAmQAll
namespace Go.AM
open Go

section
variable {P : Program} {TY : List TyE} {M0 : Base} {w0 w : World} {ρ : Env} {M : Msk} {S S0 : Store} {d : Nat}

theorem alloc_sound (hty : TyOk P TY) {F : Spec} {t : Nat} {T : List AV} {K : AV → Option Blk → Prop} (h : qK TY F d (.alloc t) T S0 K) :
    ∃ v B, K v B ∧ QS P d (.alloc t) T S0 v B := by
  simp only [qK, ifK_iff] at h
  obtain ⟨hl, hzb, h⟩ := h
  refine ⟨_, _, h, fun M0 w0 ρ M w S' e oo ho hc st he hd => ?_⟩
  have hne : (nthT TY t).zero ≠ [] := fun he => by rw [he] at hzb; cases hzb
  have hrow := hty.at (t := t) (.inl (by rw [← same_len hl]; exact fun he => hne (List.eq_nil_of_length_eq_zero he)))
  obtain ⟨i, u, hi, hu', _, _, _, hzero⟩ := hrow.row
  obtain ⟨z, hz1, hz2⟩ := hzero hne
  have hzv : (zeroValue t).run P w = .ok z w := by simp [zeroValue, typeInfo, hi, hz1]
  obtain ⟨ρ', M', h1, h2, h3, h4⟩ := st.push (w' := { w with heap := w.heap.push (.cells z.cells t) }) (cs := z.cells) (ty := t) (own := .bx w.heap.size) (B := .box (nthT TY t).zero) (hd (by simp)).1 (hd (by simp)).2 rfl ⟨rfl, rfl⟩ (fun _ h => h.symm)
    (fun ρ' M' hρ hM hk hext => ⟨w.heap.size, hρ, z.cells, t, by simp, hM, hz2.1.imp fun a v h => h _ _ _⟩)
  refine .val (v := .pointer (some ⟨w.heap.size, 0, none⟩)) (w' := { w with heap := w.heap.push (.cells z.cells t) }) ?_ ⟨ρ', M', h1, of_bx 0 h2, h3, h4⟩
  simp [execOp, ho, Instr.alloc, hzv, newVar, newRow]

theorem box_sound (_hty : TyOk P TY) {F : Spec} {t : Nat} {x : Operand} {T : List AV} {K : AV → Option Blk → Prop} (h : qK TY F d (.box t x) T S0 K) :
    ∃ v B, K v B ∧ QS P d (.box t x) T S0 v B := by
  simp only [qK, eval_iff] at h
  obtain ⟨m, hK, hlen, hm⟩ := cells_iff h
  refine ⟨_, _, hK, fun M0 w0 ρ M w S' e oo ho hc st he hd => ?_⟩
  have hx := he x (by simp [Op.operands])
  have hrep : RepL (RepC ρ w M) m (e x).cells.toList := by
    rcases hm with ⟨_, hm⟩ | ⟨_, hc, rfl⟩
    · rw [hm] at hx
      obtain ⟨cs, h1, h2⟩ := hx
      rw [h1]; exact h2
    · have hx := cellOK_rep hc hx
      have hcell := RepC.isCell hx
      revert hx hcell
      cases e x <;> intro hx hcell <;> first | exact ⟨hx, trivial⟩ | exact hcell.elim
  obtain ⟨ρ', M', h1, h2, h3, h4⟩ := st.push (w' := { w with heap := w.heap.push (.cells (e x).cells t) }) (cs := (e x).cells) (ty := t) (own := .bx w.heap.size) (B := .box m) (hd (by simp)).1 (hd (by simp)).2 rfl ⟨rfl, rfl⟩ (fun _ h => h.symm)
    (fun ρ' M' hρ hM hk hext => ⟨w.heap.size, hρ, (e x).cells, t, by simp, hM, hrep.imp fun a v => RepC.keep hk hext⟩)
  refine .val (v := .pointer (some ⟨w.heap.size, 0, none⟩)) (w' := { w with heap := w.heap.push (.cells (e x).cells t) }) ?_ ⟨ρ', M', h1, of_bx 0 h2, h3, h4⟩
  simp [execOp, ho, Instr.box, newVar, newRow]

theorem getD_rep {α : Type} (n q : Nat) (a : α) : (List.replicate n a).getD q a = a := by
  simp only [List.getD, List.getElem?_replicate]
  split <;> rfl

theorem made_one {z c : Value} {m q : Nat} (hz : z.cells = #[c]) (hq : q < m) : (madeCells z.cells m)[q]? = some c := by
  simp [madeCells, hz, hq, Nat.mod_one]

theorem made_two {z c d : Value} {m q : Nat} (hz : z.cells = #[c, d]) (hq : q < m) : (madeCells z.cells m)[q]? = some (if q % 2 = 0 then c else d) := by
  simp only [madeCells, hz]
  have : q % 2 = 0 ∨ q % 2 = 1 := by omega
  rcases this with h | h <;> simp [hq, h]

theorem zeroPair_eq : ∀ {l : List AV}, zeroPair l = true → l = [.int .i64 0, .int .i64 0]
  | [.int .i64 (.ofNat 0), .int .i64 (.ofNat 0)], _ => rfl

theorem sl_nil (w : World) (M : Msk) (C : Nat → Value → Prop) : SlOf w M 0 C 0 (.slice none 0 0) := ⟨none, 0, rfl, Nat.le_refl _, .inl rfl⟩

/-- n zeros: their cells. -/
theorem zeros_sound {e n : Nat} {K : RO → Prop} (hty : TyOk P TY) (hzb : zeroB (nthT TY e).zero = true) (h : zerosK TY e n K) :
    ∃ r, K r ∧ r.len = n ∧ ∃ i z, P.info? e = some i ∧ i.zero = some z ∧ i.size = (nthT TY e).sz ∧ i.bytes = (nthT TY e).bytes ∧ z.cells.size = r.sz ∧
      ∀ (w : World) (M : Msk) q, q < r.cells → ∃ c, (madeCells z.cells r.cells)[q]? = some c ∧ CellP w M r q c := by
  have hne : (nthT TY e).zero ≠ [] := fun he => by rw [he] at hzb; cases hzb
  have get : (nthT TY e).d ≠ .other → ∃ i z, P.info? e = some i ∧ i.zero = some z ∧ i.size = (nthT TY e).sz ∧ i.bytes = (nthT TY e).bytes ∧ zeroOK (nthT TY e) z := by
    intro hd
    obtain ⟨i, u, hi, hu, h1, h2, _, hzero⟩ := (hty.at (t := e) (.inr hd)).row
    obtain ⟨z, hz1, hz2⟩ := hzero hne
    exact ⟨i, z, hi, hz1, h1, h2, hz2⟩
  -- one cell an element
  have one : ∀ (r : RO), r.sz = 1 → r.len = n → K r → (nthT TY e).d ≠ .other → (∀ z, zKind (nthT TY e).d z → ∃ c, z.cells = #[c] ∧ ∀ w M q, CellP w M r q c) →
      ∃ r, K r ∧ r.len = n ∧ ∃ i z, P.info? e = some i ∧ i.zero = some z ∧ i.size = (nthT TY e).sz ∧ i.bytes = (nthT TY e).bytes ∧ z.cells.size = r.sz ∧
      ∀ (w : World) (M : Msk) q, q < r.cells → ∃ c, (madeCells z.cells r.cells)[q]? = some c ∧ CellP w M r q c := by
    intro r hs hl hK hd hc
    obtain ⟨i, z, h1, h2, h3, h4, h5⟩ := get hd
    obtain ⟨c, h6, h7⟩ := hc z h5.2.2.2.1
    exact ⟨r, hK, hl, i, z, h1, h2, h3, h4, by rw [h6, hs]; rfl, fun w M q hq => ⟨c, made_one h6 hq, h7 w M q⟩⟩
  unfold zerosK zerosG at h
  split at h
  · rename_i k hd
    exact one _ rfl (by simp [RO.len]) h (by rw [hd]; simp) fun z hz => by
      rw [hd] at hz
      have hz : z = .int k 0 := hz
      subst hz
      exact ⟨_, rfl, fun w M q => by simp only [CellP, getD_rep]; exact ⟨trivial, in_zero k⟩⟩
  · rename_i hd
    exact one _ rfl (by simp [RO.len]) h (by rw [hd]; simp) fun z hz => by
      rw [hd] at hz
      have hz : z = .bool false := hz
      subst hz
      exact ⟨_, rfl, fun w M q => by simp only [CellP, getD_rep]⟩
  · rename_i f hd
    have hz' : ∀ z, zKind (nthT TY e).d z → z = .slice none 0 0 := fun z hz => by rw [hd] at hz; exact hz
    split at h
    · exact one _ rfl (by simp [RO.len]) h (by rw [hd]; simp) fun z hz => by
        rw [hz' z hz]
        exact ⟨_, rfl, fun w M q => by simp only [CellP, getD_rep]; exact ⟨Nat.zero_le _, sl_nil _ _ _⟩⟩
    · exact one _ rfl (by simp [RO.len]) h (by rw [hd]; simp) fun z hz => by
        rw [hz' z hz]
        exact ⟨_, rfl, fun w M q => by simp only [CellP, getD_rep]; exact ⟨Nat.zero_le _, sl_nil _ _ _⟩⟩
    · split at h
      · exact one _ rfl (by simp [RO.len]) h (by rw [hd]; simp) fun z hz => by
          rw [hz' z hz]
          exact ⟨_, rfl, fun w M q => by simp only [CellP, getD_rep]; exact ⟨Nat.zero_le _, sl_nil _ _ _⟩⟩
      · exact h.elim
    · exact h.elim
  · rename_i f hd
    split at h
    · rw [ifK_iff] at h
      obtain ⟨hzp, h⟩ := h
      obtain ⟨i, z, h1, h2, h3, h4, h5⟩ := get (by rw [hd]; simp)
      obtain ⟨cs, rfl⟩ := h5.2.1 (by rw [hd]; rfl)
      have h6 := h5.1
      rw [zeroPair_eq hzp] at h6
      have hcs : cs = #[.int .i64 0, .int .i64 0] := by
        match hc : cs.toList, h6 with
        | [a, b], h6 =>
          obtain ⟨ha, hb, _⟩ := h6
          have ha := (ha noEnv default (fun _ _ => False)).1
          have hb := (hb noEnv default (fun _ _ => False)).1
          subst ha; subst hb
          simpa using congrArg List.toArray hc
      subst hcs
      refine ⟨_, h, by simp [RO.len], i, _, h1, h2, h3, h4, rfl, fun w M q hq => ⟨_, made_two rfl hq, ?_⟩⟩
      simp only [CellP, getD_rep]
      split <;> exact ⟨rfl, in_zero _⟩
    · exact h.elim
  · exact h.elim

theorem rowSz {r : RO} (hr : rowsQ r = true) (q : Nat) : (r.row q).sz = 1 := by cases r <;> first | rfl | cases hr

theorem zeros_rows {e n : Nat} {K : RO → Prop} (h : zerosK TY e n K) : zerosK TY e n fun r => K r ∧ (rowsQ r = true → (∀ q, (r.row q).len = 0) ∧ ∃ f, (nthT TY e).d = .slice f) := by
  unfold zerosK zerosG at *
  split at h
  · exact ⟨h, fun h => by cases h⟩
  · exact ⟨h, fun h => by cases h⟩
  · rename_i f hd
    split at h
    · exact ⟨h, fun _ => ⟨fun q => by simp only [RO.row, getD_rep]; rfl, f, hd⟩⟩
    · exact ⟨h, fun _ => ⟨fun q => by simp only [RO.row, getD_rep]; rfl, f, hd⟩⟩
    · split at h
      · exact ⟨h, fun _ => ⟨fun q => by simp only [RO.row, getD_rep]; rfl, f, hd⟩⟩
      · exact h.elim
    · exact h.elim
  · split at h
    · rw [ifK_iff] at h ⊢
      exact ⟨h.1, h.2, fun h => by cases h⟩
    · exact h.elim
  · exact h.elim

theorem make_sound (hty : TyOk P TY) {F : Spec} {t : Nat} {l c : Operand} {T : List AV} {K : AV → Option Blk → Prop} (h : qK TY F d (.makeSlice t l c) T S0 K) :
    ∃ v B, K v B ∧ QS P d (.makeSlice t l c) T S0 v B := by
  simp only [qK, eval_iff] at h
  split at h
  · rename_i e hd
    obtain ⟨kl, ln, hl, h⟩ := bound_iff h
    obtain ⟨kc, cn, hc, ⟨h0, h1⟩, h⟩ := bound_iff h
    obtain ⟨h2, _, h⟩ := capP_of h (by omega)
    -- the zero is known
    have hz : zeroB (nthT TY e).zero = true := by
      unfold zerosK zerosG at h
      revert h
      repeat' split
      all_goals (intro h; first | exact h.elim | (simp only [ifK_iff] at h; first | exact h.2.1 | exact h.2.2.1))
    obtain ⟨r, ⟨hK, hrows⟩, hlen, i, z, hi, hz1, hsz, hby, hzs, hcell⟩ := zeros_sound hty hz (zeros_rows h)
    rw [ifK_iff, ifK_iff, ifK_iff] at hK
    obtain ⟨hby1, _, hok, hK⟩ := hK
    rw [Nat.ble_eq] at hby1
    obtain ⟨e', hd', hu, hes, hrow⟩ := okSl_row hty hok
    rw [hd] at hd'; cases hd'
    have hK2 : ∃ B, K (.vec d) (some B) ∧ (B = .vec 0 r [] ∨ B = .deep r none ∧ rowsQ r = true) := by
      unfold mkSl at hK
      split at hK
      · exact ⟨_, hK, .inl rfl⟩
      · rename_i hq
        rcases hK with hK | hK
        · exact ⟨_, hK, .inl rfl⟩
        · exact ⟨_, hK, .inr ⟨rfl, hq⟩⟩
    obtain ⟨B, hK, hBB⟩ := hK2
    refine ⟨_, _, hK, fun M0 w0 ρ M w S' ev oo ho hcm st he hdn => ?_⟩
    have hel := he l (by simp [Op.operands])
    have hec := he c (by simp [Op.operands])
    rw [hl] at hel; rw [hc] at hec
    have hb : (i.bytes : Int) * cn ≤ 281474976710656 := by rw [hby, Int.mul_comm]; omega
    have hcn0 : 0 ≤ cn := by omega
    have hcn : cn ≤ 140737488355328 := by
      have h3 : cn * 1 ≤ cn * ((nthT TY e).bytes : Int) := Int.mul_le_mul_of_nonneg_left (by omega) hcn0
      omega
    have hrun := run_make (P := P) w t e i z hu hi hz1 kl kc ln cn h0 h1 hb (by omega)
    have hsz' : i.size = r.sz := by rw [hsz, hes]
    have hw : (w.alloc (.cells (madeCells z.cells (cn.toNat * i.size)) e)).heap = w.heap.push (.cells (madeCells z.cells (cn.toNat * i.size)) e (0, 0)) := rfl
    have hle : r.cells ≤ cn.toNat * i.size := by rw [hsz']; simp only [RO.cells, hlen]; exact Nat.mul_le_mul_right _ (by omega)
    have hmade : ∀ q, q < r.cells → (madeCells z.cells (cn.toNat * i.size))[q]? = (madeCells z.cells r.cells)[q]? := fun q hq => by
      simp [madeCells, hq, Nat.lt_of_lt_of_le hq hle]
    have hpush : ∃ ρ' M', St M0 w0 ρ' M' ((d, B) :: S') (w.alloc (.cells (madeCells z.cells (cn.toNat * i.size)) e)) ∧ (ρ' d).bind Own.sli = some ⟨some w.heap.size, r.len, cn.toNat, r.sz⟩ ∧ Keep w M (w.alloc (.cells (madeCells z.cells (cn.toNat * i.size)) e)) M' ∧ ∀ k o, ρ k = some o → ρ' k = some o := by
      rcases hBB with rfl | ⟨rfl, hrq⟩
      · obtain ⟨ρ', M', g1, g2, g3, g4⟩ := st.push (own := .sl ⟨some w.heap.size, r.len, cn.toNat, r.sz⟩) (B := .vec 0 r []) (hdn (by simp)).1 (hdn (by simp)).2 hw ⟨rfl, rfl⟩ (fun _ h => (Option.some.inj h).symm)
          (fun ρ' M' hρ hM hk hext => ⟨⟨_, hρ, rfl, rfl, by simp only [LB]; omega, Nat.zero_le _, by
            refine ⟨by simp only; omega, madeCells z.cells (cn.toNat * i.size), e, by rw [hw]; simp, by simp only [size_madeCells, hsz'], fun off => ?_, fun q hq => ?_⟩
            · rw [hM off]; simp
            · obtain ⟨c, g5, g6⟩ := hcell _ M' q hq
              exact ⟨c, by rw [hmade q hq]; exact g5, g6⟩⟩, .inl rfl⟩)
        exact ⟨ρ', M', g1, of_sl g2, g3, g4⟩
      · have hr1 : r.sz = 1 := rowsQ_sz hrq
        have hnil : (∀ q, (r.row q).len = 0) ∧ ∀ (q : Nat) (c : Value), (madeCells z.cells r.cells)[q]? = some c → c = nilSl.val := by
          obtain ⟨h1, f, hdf⟩ := hrows hrq
          refine ⟨h1, fun q c hc => ?_⟩
          obtain ⟨i', u, hi', _, _, _, _, hzero⟩ := (hty.at (t := e) (.inr (by rw [hdf]; simp))).row
          rw [hi] at hi'; cases hi'
          obtain ⟨z', hz', hzk⟩ := hzero fun he => by rw [he] at hz; cases hz
          rw [hz1] at hz'; cases hz'
          have hzk := hzk.2.2.2.1
          rw [hdf] at hzk
          have hzk : z = .slice none 0 0 := hzk
          subst hzk
          have hq : q < r.cells := by
            rcases Nat.lt_or_ge q r.cells with h | h
            · exact h
            · rw [Array.getElem?_eq_none (by simp [size_madeCells]; exact h)] at hc; cases hc
          have := made_one (z := .slice none 0 0) (c := .slice none 0 0) rfl hq
          rw [hc] at this
          exact Option.some.inj this
        have hgetN : ∀ q, (List.replicate r.len nilSl).getD q nilSl = nilSl := fun q => by simp only [List.getD, List.getElem?_replicate]; split <;> rfl
        obtain ⟨ρ', M', g1, g2, g3, g4⟩ := st.push (own := .dp ⟨some w.heap.size, r.len, cn.toNat, r.sz⟩ (List.replicate r.len nilSl)) (B := .deep r none) (hdn (by simp)).1 (hdn (by simp)).2 hw ⟨rfl, rfl⟩
          (fun b h => by
            rcases h with h | ⟨q, h⟩
            · exact (Option.some.inj h).symm
            · rw [hgetN] at h; cases h)
          (fun ρ' M' hρ hM hk hext => ⟨_, _, hρ, {
            rq := hrq, len := rfl, osz := hr1, lb := by simp only [LB]; omega, rlen := by simp
            outer := by
              refine ⟨by simp only; omega, madeCells z.cells (cn.toNat * i.size), e, by rw [hw]; simp, by simp only [size_madeCells, hsz', hr1, Nat.mul_one], fun off => hM off, fun q hq => ?_⟩
              obtain ⟨c, g5, g6⟩ := hcell (w.alloc (.cells (madeCells z.cells (cn.toNat * i.size)) e)) M' q (by simp [RO.cells, hr1, hq])
              refine ⟨c, by rw [hmade q (by simp [RO.cells, hr1, hq])]; exact g5, .inr ?_⟩
              rw [hgetN]
              exact hnil.2 q c g5
            row := fun q hq _ => by
              rw [hgetN]
              have := hnil.1 q
              refine ⟨by rw [this]; rfl, by rw [rowSz hrq]; rfl, by rw [this]; exact Nat.zero_le _, Nat.zero_le _, this, rfl⟩
            hol := fun i h => by cases h
            out := fun q b h => by rw [hgetN] at h; cases h
            apart := fun q q' b h => by rw [hgetN] at h; cases h }⟩)
        exact ⟨ρ', M', g1, of_dp g2, g3, g4⟩
    obtain ⟨ρ', M', g1, g2, g3, g4⟩ := hpush
    refine .val (v := .slice (some ⟨w.heap.size, 0, none⟩) ln.toNat cn.toNat) (w' := w.alloc (.cells (madeCells z.cells (cn.toNat * i.size)) e)) ?_ ⟨ρ', M', g1, ⟨_, g2, by simp [Sl.val, hlen]⟩, g3, g4⟩
    have hel' : ev l = .int kl ln := hel.1
    have hec' : ev c = .int kc cn := hec.1
    simp [execOp, ho, hel', hec', hrun]
  · exact h.elim
end
end Go.AM
