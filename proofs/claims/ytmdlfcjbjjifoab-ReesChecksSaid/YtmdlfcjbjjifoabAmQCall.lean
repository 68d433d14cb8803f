/- The abstract machine: addresses, parts, lengths; calls that hand back what they made. -/
import Derived.Test.YtmdlfcjbjjifoabAmMap
namespace Go.AM
open Go

section
variable {P : Program} {TY : List TyE} {M0 : Base} {w0 w : World} {ρ : Env} {M : Msk} {S S0 : Store} {d : Nat}

theorem fieldAddr_sound (hty : TyOk P TY) {F : Spec} {t : Nat} {x : Operand} {f : Nat} {T : List AV} {K : AV → Option Blk → Prop} (h : qK TY F d (.fieldAddr t x f) T S0 K) :
    ∃ v B, K v B ∧ QS P d (.fieldAddr t x f) T S0 v B := by
  simp only [qK, eval_iff] at h
  split at h
  · rename_i k off fs hx hd
    split at h
    · rename_i lb hfk
      split at h
      · rename_i o u ho'
        split at h
        · rename_i hz
          obtain ⟨F', hu, hfs⟩ := struct_row hty hd
          have hg := fieldOff_get ho'
          rw [hfs, List.getElem?_map] at hg
          cases hF : F'.toList[f]? with
          | none => rw [hF] at hg; cases hg
          | some g =>
            rw [hF] at hg; cases hg
            rw [Array.getElem?_toList] at hF
            have hrow := hty.at (t := g.type) (.inl (fun e => by rw [e] at hz; cases hz))
            refine q_look h fun M0 w0 ρ w M S' e oo ho hc st he => ?_
            have h1 := he x (by simp [Op.operands])
            rw [hx] at h1
            have h1 : (ρ k).bind (Own.ref · off) = some (e x) := h1
            obtain ⟨b, h3, _⟩ := st.blk k _ (st.find' hc hfk h1)
            have h2 := ref_bx h3 h1
            refine ⟨.pointer (some ⟨b, off + g.offset, none⟩), ?_, of_bx _ h3⟩
            have hub : (underlying t).run P w = .ok (.struct F') w := by simp [underlying, hu]
            have hsz := hrow.size w
            have hne : (nthT TY g.type).sz ≠ 0 := fun e => by rw [e] at hz; cases hz
            simp [execOp, ho, h2, Instr.fieldAt, hub, hF, Instr.sureAddr, fieldPlace, hsz, hne, addr_add]
        · exact h.elim
      · exact h.elim
    · exact h.elim
  · exact h.elim

theorem run_part {t off : Nat} {cs : Array Value} {l : List AV} (hty : TyOk P TY) (hl : RepL (RepC ρ w M) l cs.toList) {K : AV → Prop} (h : partK TY t l off K) :
    ∃ a, K a ∧ ∃ u, (part t cs off).run P w = .ok u w ∧ RepT ρ w M a u := by
  obtain ⟨a, hK, hlen, ha⟩ := part_iff h
  refine ⟨a, hK, ?_⟩
  have hsize : l.length = cs.size := by rw [hl.length, Array.length_toList]
  rcases ha with ⟨hag, rfl⟩ | ⟨hag, hs, rfl⟩
  · have hrow := hty.at (t := t) (.inr (fun e => by rw [e] at hag; cases hag))
    refine ⟨.agg (cs.extract off (off + (nthT TY t).sz)), by simp [part, hrow.agg, hag, hrow.size], _, rfl, ?_⟩
    have : (cs.extract off (off + (nthT TY t).sz)).toList = (cs.toList.drop off).take (nthT TY t).sz := by
      rw [Array.toList_extract, List.extract_eq_take_drop]; simp
    rw [this]
    exact (hl.drop off).take _
  · have hrow := hty.at (t := t) (.inl (by rw [hs]; decide))
    obtain ⟨c, h7, h8⟩ := hl.get off (by omega)
    rw [Array.getElem?_toList] at h7
    exact ⟨c, by simp [part, hrow.agg, hag, h7], repT_of_repC h8⟩

theorem field_sound (hty : TyOk P TY) {F : Spec} {t : Nat} {x : Operand} {f : Nat} {T : List AV} {K : AV → Option Blk → Prop} (h : qK TY F d (.field t x f) T S0 K) :
    ∃ v B, K v B ∧ QS P d (.field t x f) T S0 v B := by
  simp only [qK, eval_iff] at h
  split at h
  · rename_i l fs hx hd
    split at h
    · rename_i o u ho'
      obtain ⟨F', hu, hfs⟩ := struct_row hty hd
      have hg := fieldOff_get ho'
      rw [hfs, List.getElem?_map] at hg
      cases hF : F'.toList[f]? with
      | none => rw [hF] at hg; cases hg
      | some g =>
        rw [hF] at hg; cases hg
        rw [Array.getElem?_toList] at hF
        obtain ⟨a, hK, _⟩ := part_iff h
        -- which part it is does not hang on the world
        have hpart := part_iff h
        obtain ⟨a, hK, hlen, ha⟩ := hpart
        refine q_pure hK fun ρ w M e oo ho he => ?_
        have := he x (by simp [Op.operands])
        rw [hx] at this
        obtain ⟨cs, h1, h2⟩ := this
        have hsize : l.length = cs.size := by rw [h2.length, Array.length_toList]
        have hub : (underlying t).run P w = .ok (.struct F') w := by simp [underlying, hu]
        rcases ha with ⟨hag, rfl⟩ | ⟨hag, hs, rfl⟩
        · have hrow := hty.at (t := g.type) (.inr (fun e => by rw [e] at hag; cases hag))
          refine ⟨.agg (cs.extract g.offset (g.offset + (nthT TY g.type).sz)), by simp [execOp, ho, h1, Instr.field, hub, hF, asAgg, part, hrow.agg, hag, hrow.size], _, rfl, ?_⟩
          have : (cs.extract g.offset (g.offset + (nthT TY g.type).sz)).toList = (cs.toList.drop g.offset).take (nthT TY g.type).sz := by
            rw [Array.toList_extract, List.extract_eq_take_drop]; simp
          rw [this]
          exact (h2.drop _).take _
        · have hrow := hty.at (t := g.type) (.inl (by rw [hs]; decide))
          obtain ⟨c, h7, h8⟩ := h2.get g.offset (by omega)
          rw [Array.getElem?_toList] at h7
          exact ⟨c, by simp [execOp, ho, h1, Instr.field, hub, hF, asAgg, part, hrow.agg, hag, h7], repT_of_repC h8⟩
    · exact h.elim
  · exact h.elim

theorem indexAddr_sound (hty : TyOk P TY) {F : Spec} {t : Nat} {x i : Operand} {T : List AV} {K : AV → Option Blk → Prop} (h : qK TY F d (.indexAddr t x i) T S0 K) :
    ∃ v B, K v B ∧ QS P d (.indexAddr t x i) T S0 v B := by
  simp only [qK, eval_iff] at h
  obtain ⟨k, n, hi, h⟩ := bound_iff h
  split at h
  · rename_i r hx
    rw [ifK_iff, len_iff] at h
    obtain ⟨hok, ⟨h1, h2⟩, h⟩ := h
    obtain ⟨e', hd', hu, hes, hrow⟩ := okSl_row hty hok
    refine q_pure h fun ρ w M e oo ho he => ?_
    have hxv := he x (by simp [Op.operands])
    have hiv := he i (by simp [Op.operands])
    rw [hx] at hxv
    rw [hi] at hiv
    obtain ⟨b, off, cap, hv⟩ := ro_addr hxv (by omega)
    have hub : (underlying t).run P w = .ok (.slice e') w := by simp [underlying, hu]
    refine ⟨.pointer (some ⟨b, off + n.toNat * r.sz, none⟩), ?_, b, off, cap, by rw [← hv]; exact hxv, h1, h2, rfl⟩
    simp [execOp, ho, hv, hiv.1, Instr.indexAt, asIntOf, hub, h1, h2, hrow.size, hes, addr_add]
  · rename_i kk hx
    split at h
    · rename_i wm r ov hf
      rw [ifK_iff, len_iff] at h
      obtain ⟨hok, ⟨h1, h2⟩, h⟩ := h
      obtain ⟨e', hd', hu, hes, hrow⟩ := okSl_row hty hok
      refine q_look h fun M0 w0 ρ w M S' e oo ho hc st he => ?_
      have hxv := he x (by simp [Op.operands])
      have hiv := he i (by simp [Op.operands])
      rw [hx] at hxv
      rw [hi] at hiv
      obtain ⟨o, g1, g2⟩ := hxv
      obtain ⟨⟨o', g3, g4, g5, _, _, g6⟩, _⟩ := st.blk kk _ (st.find' hc hf g1)
      obtain rfl := sli_sl g3 g1
      have hub : (underlying t).run P w = .ok (.slice e') w := by simp [underlying, hu]
      cases hb : o.blk with
      | none => simp only [hb] at g6; omega
      | some b =>
        refine ⟨.pointer (some ⟨b, n.toNat * o.sz, none⟩), ?_, o, b, g1, hb, h1, by rw [g4]; exact h2, rfl⟩
        have hlt : n < (o.len : Int) := by rw [g4]; exact h2
        simp [execOp, ho, g2, Sl.val, hb, hiv.1, Instr.indexAt, asIntOf, hub, h1, hlt, hrow.size, hes, addr_add, g5]
    · rename_i r hole hf
      rw [ifK_iff, len_iff] at h
      obtain ⟨hok, ⟨h1, h2⟩, h⟩ := h
      obtain ⟨e', hd', hu, hes, hrow⟩ := okSl_row hty hok
      refine q_look h fun M0 w0 ρ w M S' e oo ho hc st he => ?_
      have hxv := he x (by simp [Op.operands])
      have hiv := he i (by simp [Op.operands])
      rw [hx] at hxv
      rw [hi] at hiv
      obtain ⟨o, g1, g2⟩ := hxv
      obtain ⟨o', rows, g3, g4⟩ := st.blk kk _ (st.find' hc hf g1)
      have g1' := g1
      rw [of_dp g3] at g1; cases g1
      have g6 := g4.outer
      have hub : (underlying t).run P w = .ok (.slice e') w := by simp [underlying, hu]
      cases hb : o.blk with
      | none => simp only [hb] at g6; omega
      | some b =>
        refine ⟨.pointer (some ⟨b, n.toNat * o.sz, none⟩), ?_, o, b, g1', hb, h1, by rw [g4.len]; exact h2, rfl⟩
        have hlt : n < (o.len : Int) := by rw [g4.len]; exact h2
        have hsz : o.sz = r.sz := by rw [g4.osz, rowsQ_sz g4.rq]
        simp [execOp, ho, g2, Sl.val, hb, hiv.1, Instr.indexAt, asIntOf, hub, h1, hlt, hrow.size, hes, addr_add, hsz]
    · exact h.elim
  · exact h.elim

theorem idx_iff : ∀ {l : List AV} {j i : Int} {K : AV → Prop}, idxK l j i K → ∀ n : Nat, i = j + n → n < l.length → K (nth l n)
  | [], _, _, _, _, n, _, hn => by simp at hn
  | a :: l, j, i, K, h, 0, hi, _ => force_iff.1 (h.1 (by omega))
  | a :: l, j, i, K, h, n + 1, hi, hn => idx_iff (l := l) (j := j + 1) h.2 n (by omega) (by simpa using hn)

theorem index_sound (hty : TyOk P TY) {F : Spec} {t : Nat} {x i : Operand} {T : List AV} {K : AV → Option Blk → Prop} (h : qK TY F d (.index t x i) T S0 K) :
    ∃ v B, K v B ∧ QS P d (.index t x i) T S0 v B := by
  simp only [qK, eval_iff] at h
  obtain ⟨k, n, hi, h⟩ := bound_iff h
  split at h
  · rename_i l m e' hx hd
    split at h
    · rename_i hs hz hag
      obtain ⟨⟨h1, h2⟩, h⟩ := h
      have hu := arr_row hty hd
      have hz := beq_iff'.1 hz
      have hrow := hty.at (t := e') (.inl (by rw [hz]; decide))
      have hlen := same_len hs
      refine q_pure (idx_iff h n.toNat (by omega) (by omega)) fun ρ w M e oo ho he => ?_
      have hxv := he x (by simp [Op.operands])
      have hiv := he i (by simp [Op.operands])
      rw [hx] at hxv
      rw [hi] at hiv
      obtain ⟨cs, g1, g2⟩ := hxv
      obtain ⟨c, g3, g4⟩ := g2.get n.toNat (by omega)
      rw [Array.getElem?_toList] at g3
      have hub : (underlying t).run P w = .ok (.array m e') w := by simp [underlying, hu]
      have h2' : n < (m : Int) := h2
      exact ⟨c, by simp [execOp, ho, g1, hiv.1, Instr.index, asIntOf, hub, h1, h2', part, hrow.agg, hag, hrow.size, hz, g3], repT_of_repC g4⟩
    · exact h.elim
  · exact h.elim

theorem slice_bound {_n y : Nat} {k : IntKind} {i : Int} {code : BoundsCode} (h0 : 0 ≤ i) (h1 : i ≤ y) (w : World) : (Instr.sliceBound (.int k i) y code).run P w = .ok i.toNat w := by
  simp [Instr.sliceBound, asIntOf, h0, h1]

theorem lo_iff {lo : Option Operand} {T : List AV} {K : Int → Prop} (h : qK.loK T lo K) :
    ∃ n, K n ∧ ((lo = none ∧ n = 0) ∨ ∃ x k, lo = some x ∧ evalF T x = .int k n) := by
  cases lo with
  | none => exact ⟨0, h, .inl ⟨rfl, rfl⟩⟩
  | some x =>
    simp only [qK.loK, eval_iff] at h
    obtain ⟨k, n, h1, h2⟩ := bound_iff h
    exact ⟨n, h2, .inr ⟨x, k, rfl, h1⟩⟩

theorem hi_iff {hi : Option Operand} {T : List AV} {m : Nat} {K : Int → Prop} (h : qK.hiK T hi m K) :
    ∃ n, K n ∧ ((hi = none ∧ n = m) ∨ ∃ x k, hi = some x ∧ evalF T x = .int k n) := by
  cases hi with
  | none => exact ⟨m, h, .inl ⟨rfl, rfl⟩⟩
  | some x =>
    simp only [qK.hiK, eval_iff] at h
    obtain ⟨k, n, h1, h2⟩ := bound_iff h
    exact ⟨n, h2, .inr ⟨x, k, rfl, h1⟩⟩

/-- The bounds of a slice expression, without a third index. -/
theorem run_bounds {T : List AV} {e : Operand → Value} {len cap : Nat} {l h : Int} {lo hi : Option Operand} (hlc : len ≤ cap)
    (h1 : (lo = none ∧ l = 0) ∨ ∃ x k, lo = some x ∧ evalF T x = .int k l) (h2 : (hi = none ∧ h = len) ∨ ∃ x k, hi = some x ∧ evalF T x = .int k h)
    (he : ∀ x, lo = some x ∨ hi = some x → RepT ρ w M (evalF T x) (e x)) (hl0 : 0 ≤ l) (hlh : l ≤ h) (hh : h ≤ len) :
    (Instr.sliceBounds true len cap (lo.map e) (hi.map e) none).run P w = .ok (l.toNat, h.toNat, cap) w := by
  have hlow : ∀ (x : Operand) (k : IntKind) (y : Nat), lo = some x → evalF T x = .int k l → h.toNat = y → (Instr.sliceBound (e x) y .sliceB).run P w = .ok l.toNat w := fun x k y h3 h4 h5 => by
    have := he x (.inl h3)
    rw [h4] at this
    rw [this.1]
    exact slice_bound (_n := 0) hl0 (by omega) w
  rcases h2 with ⟨rfl, rfl⟩ | ⟨y, k', rfl, hy⟩
  · rcases h1 with ⟨rfl, rfl⟩ | ⟨x, k, rfl, hx⟩
    · simp [Instr.sliceBounds]
    · simp [Instr.sliceBounds, hlow x k len rfl hx (by omega)]
  · have hy' := he y (.inr rfl)
    rw [hy] at hy'
    have hb := slice_bound (P := P) (_n := 0) (k := k') (i := h) (y := cap) (code := .sliceAcap) (by omega) (by omega) w
    rcases h1 with ⟨rfl, rfl⟩ | ⟨x, k, rfl, hx⟩
    · simp [Instr.sliceBounds, hy'.1, hb]
    · simp [Instr.sliceBounds, hy'.1, hb, hlow x k h.toNat rfl hx rfl]

theorem slice_sound (hty : TyOk P TY) {F : Spec} {t : Nat} {x : Operand} {lo hi : Option Operand} {T : List AV} {K : AV → Option Blk → Prop} (h : qK TY F d (.slice t x lo hi none) T S0 K) :
    ∃ v B, K v B ∧ QS P d (.slice t x lo hi none) T S0 v B := by
  simp only [qK, eval_iff] at h
  split at h
  · rename_i r hx
    rw [ifK_iff, len_iff] at h
    obtain ⟨hok, h⟩ := h
    obtain ⟨l, h, hl⟩ := lo_iff h
    obtain ⟨m, h, hm⟩ := hi_iff h
    obtain ⟨⟨⟨h0, h1⟩, h2⟩, h⟩ := h
    obtain ⟨r', hK, g1, g2, g3⟩ := cut_cells h (by omega) (by omega)
    obtain ⟨e', hd', hu, hes, hrow⟩ := okSl_row hty hok
    refine q_pure hK fun ρ w M e oo ho he => ?_
    have hxv := he x (by simp [Op.operands])
    rw [hx] at hxv
    obtain ⟨h5, a, cap, hv, hcap, h6⟩ := hxv
    have hub : (underlying t).run P w = .ok (.slice e') w := by simp [underlying, hu]
    have hb := run_bounds (P := P) (ρ := ρ) (w := w) (M := M) (T := T) (e := e) (l := l) (h := m) hcap hl hm (fun y hy => he y (by rcases hy with rfl | rfl <;> simp [Op.operands])) h0 h1 h2
    refine ⟨.slice (if cap = l.toNat then a else a.map (·.add (l.toNat * r.sz))) (m.toNat - l.toNat) (cap - l.toNat), ?_, ?_⟩
    · simp [execOp, ho, hv, Instr.sliceAt, hub, Instr.slice, hb, hrow.size, hes]
    · refine ⟨by rw [g1]; simp only [LB] at h5 ⊢; omega, _, _, by rw [g1], by rw [g1]; omega, ?_⟩
      rcases Nat.eq_zero_or_pos r'.cells with h7 | h7
      · exact .inl h7
      · have hlen : 0 < r'.len := by
          rcases Nat.eq_zero_or_pos r'.len with h8 | h8
          · simp [RO.cells, h8] at h7
          · exact h8
        rw [g1] at hlen
        rcases h6 with h6 | ⟨b, off, rfl, h6⟩
        · have := r.sz_pos
          have : 0 < r.cells := Nat.mul_pos (by omega) this
          omega
        · refine .inr ⟨b, off + l.toNat * r.sz, ?_, fun q hq => ?_⟩
          · rw [if_neg (by omega)]; simp [addr_add]
          · have hlt : l.toNat * r.sz + q < r.cells := by
              have h8 : r'.cells = (m.toNat - l.toNat) * r.sz := by simp [RO.cells, g1, g2]
              have h9 : l.toNat * r.sz + (m.toNat - l.toNat) * r.sz = m.toNat * r.sz := by rw [← Nat.add_mul]; congr 1; omega
              have h10 : m.toNat * r.sz ≤ r.len * r.sz := Nat.mul_le_mul_right _ (by omega)
              simp only [RO.cells] at h8 hq ⊢
              omega
            obtain ⟨c, h8, h9, h10⟩ := h6 _ hlt
            rw [← Nat.add_assoc] at h8 h9
            exact ⟨c, h8, h9, g3 w M q c hq h10⟩
  · exact h.elim

theorem int_max (a b : Int) : (if b > a then b else a) = max a b := by simp only [gt_iff_lt]; split <;> omega
theorem int_min (a b : Int) : (if b < a then b else a) = min a b := by split <;> omega

theorem args_two {c : Call} {x y : Operand} (h : c.args.toList = [x, y]) : c.args = #[x, y] := by simpa using congrArg List.toArray h
theorem args_one {c : Call} {x : Operand} (h : c.args.toList = [x]) : c.args = #[x] := by simpa using congrArg List.toArray h

/-- The length of what reads as a slice. -/
theorem run_len {t ty e : Nat} {a : Option Addr} {n cap : Nat} (hu : P.underlying t = some (.slice e)) (w : World) : (Builtin.len_ #[t] ty #[.slice a n cap]).run P w = .ok (.int .i64 n) w := by
  simp [Builtin.len_, underlying, hu, goInt]

theorem len_in {n : Nat} (h : n ≤ LB) : inK .i64 (n : Int) := in_i64 (by omega) (by simp only [LB] at h; omega)

theorem builtin_sound (hty : TyOk P TY) {F : Spec} {c : Call} {b : Builtin} {T : List AV} {K : AV → Option Blk → Prop} (hb : c.callee = .builtin b) (h : qK TY F d (.call c) T S0 K) :
    ∃ v B, K v B ∧ QS P d (.call c) T S0 v B := by
  have hops : ∀ x ∈ c.args.toList, x ∈ (Op.call c).operands := fun x hx => by simp [Op.operands, Call.operands, hb]; exact Array.mem_toList_iff.1 hx
  simp only [qK, hb] at h
  cases b <;> try exact h.elim
  case len =>
    simp only at h
    split at h
    · rename_i x t hargs htys
      have hsl : sliceT TY t = true → ∃ e, P.underlying t = some (.slice e) := fun hs => by
        unfold sliceT at hs
        split at hs
        · rename_i e hd; exact ⟨e, slice_row hty hd⟩
        · cases hs
      cases hs : sliceT TY t with
      | false =>
        rw [hs] at h
        obtain ⟨kt, et, kd, vk, h, hu, hk, z, hz, hzv⟩ := map_row hty h
        rw [eval_iff] at h
        have hat : c.argTypes = #[t] := by simpa using congrArg List.toArray htys
        split at h
        · rename_i k off hx
          split at h
          · rename_i kd' vk' m hf
            obtain ⟨hle, h⟩ := h
            refine q_look h fun M0 w0 ρ w M S' e oo ho hc st he => ?_
            have hv := he x (hops x (by rw [hargs]; simp))
            rw [hx] at hv
            have hv : (ρ k).bind (Own.ref · off) = some (e x) := hv
            obtain ⟨b, g1, es, n, g2, g3, g4⟩ := st.blk k _ (st.find' hc hf hv)
            have hex := ref_mp g1 hv
            have hlen : m.length = es.size := by rw [g4.length]; simp
            refine ⟨.int .i64 es.size, ?_, by rw [hlen], in_i64 (by omega) (by omega)⟩
            simp [execOp, ho, resolve, hb, invoke, builtin, args_one hargs, hat, hex, Builtin.len_, underlying, hu, MapKept.run_getObj_map g2, goInt]
          · exact h.elim
        · exact h.elim
      | true =>
      rw [hs] at h
      simp only [eval_iff] at h
      obtain ⟨e', hu⟩ := hsl hs
      have hat : c.argTypes = #[t] := by simpa using congrArg List.toArray htys
      have hx' : x ∈ (Op.call c).operands := hops x (by rw [hargs]; simp)
      have fin : ∀ (M0 : Base) (w0 : World) (ρ : Env) (w : World) (M : Msk) (S' : Store) (e : Operand → Value) (oo : Oper) (a : Option Addr) (n cap : Nat), oo.op = .call c → e x = .slice a n cap → (execOp e oo).run P w = .ok (.value (.int .i64 n)) w := by
        intro M0 w0 ρ w M S' e oo a n cap ho hv
        simp [execOp, ho, resolve, hb, invoke, builtin, args_one hargs, hat, hv, run_len hu]
      split at h
      · rename_i r hr
        rw [len_iff] at h
        refine q_look h fun M0 w0 ρ w M S' e oo ho hc st he => ?_
        have hv := he x hx'
        rw [hr] at hv
        obtain ⟨h5, a, cap, hv, _⟩ := hv
        exact ⟨_, fin M0 w0 ρ w M S' e oo a r.len cap ho hv, rfl, len_in h5⟩
      · rename_i hr
        refine q_look h fun M0 w0 ρ w M S' e oo ho hc st he => ?_
        have hv := he x hx'
        rw [hr] at hv
        exact ⟨_, fin M0 w0 ρ w M S' e oo none 0 0 ho hv, rfl, in_zero _⟩
      · rename_i k hr
        split at h
        · rename_i wm r ov hf
          rw [len_iff] at h
          refine q_look h fun M0 w0 ρ w M S' e oo ho hc st he => ?_
          have hv := he x hx'
          rw [hr] at hv
          obtain ⟨o, g1, g2⟩ := hv
          obtain ⟨⟨o', g3, g4, g5, g6, _⟩, _⟩ := st.blk k _ (st.find' hc hf g1)
          obtain rfl := sli_sl g3 g1
          refine ⟨_, fin M0 w0 ρ w M S' e oo _ o.len o.cap ho g2, by rw [g4], len_in g6⟩
        · rename_i r hole hf
          rw [len_iff] at h
          refine q_look h fun M0 w0 ρ w M S' e oo ho hc st he => ?_
          have hv := he x hx'
          rw [hr] at hv
          obtain ⟨o, g1, g2⟩ := hv
          obtain ⟨o', rows, g3, g4⟩ := st.blk k _ (st.find' hc hf g1)
          rw [of_dp g3] at g1; cases g1
          exact ⟨_, fin M0 w0 ρ w M S' e oo _ o.len o.cap ho g2, by rw [g4.len], len_in g4.lb⟩
        · exact h.elim
      · exact h.elim
    · exact h.elim
  case max =>
    simp only at h
    split at h
    · rename_i x y hargs
      rw [eval_iff, eval_iff] at h
      split at h
      · rename_i k a k' b hx hy
        rw [ifK_iff] at h
        obtain ⟨hk, h⟩ := h
        obtain rfl := kq_eq hk
        refine q_pure h fun ρ w M e oo ho he => ?_
        have h1 := he x (hops x (by rw [hargs]; simp))
        have h2 := he y (hops y (by rw [hargs]; simp))
        rw [hx] at h1; rw [hy] at h2
        refine ⟨.int k (max a b), ?_, rfl, by obtain ⟨_, h3, h4⟩ := h1; obtain ⟨_, h5, h6⟩ := h2; exact ⟨by omega, by omega⟩⟩
        have := int_max a b
        simp only [gt_iff_lt] at this
        simp [execOp, ho, resolve, hb, invoke, builtin, args_two hargs, h1.1, h2.1, Builtin.max_, Builtin.max2, this]
      · exact h.elim
    · exact h.elim
  case min =>
    simp only at h
    split at h
    · rename_i x y hargs
      rw [eval_iff, eval_iff] at h
      split at h
      · rename_i k a k' b hx hy
        rw [ifK_iff] at h
        obtain ⟨hk, h⟩ := h
        obtain rfl := kq_eq hk
        refine q_pure h fun ρ w M e oo ho he => ?_
        have h1 := he x (hops x (by rw [hargs]; simp))
        have h2 := he y (hops y (by rw [hargs]; simp))
        rw [hx] at h1; rw [hy] at h2
        refine ⟨.int k (min a b), ?_, rfl, by obtain ⟨_, h3, h4⟩ := h1; obtain ⟨_, h5, h6⟩ := h2; exact ⟨by omega, by omega⟩⟩
        simp [execOp, ho, resolve, hb, invoke, builtin, args_two hargs, h1.1, h2.1, Builtin.min_, Builtin.min2, int_min a b]
      · exact h.elim
    · exact h.elim
end
end Go.AM
