/- The abstract machine: stores, appends, literals, parts of owned slices. -/
import Derived.Test.YtmdlfcjbjjifoabAmDeep
import Derived.Laws.CopyRow
namespace Go.AM
open Go

theorem oneCell_of {v : Value} (h : isCell v) : v.oneCell' = true := by cases v <;> first | rfl | exact h.elim

section
variable {P : Program} {TY : List TyE} {M0 : Base} {w0 w : World} {ρ : Env} {M : Msk} {S S0 : Store} {d : Nat}

theorem setRow_stp {b : Nat} {cs cs' : Array Value} {ty : TypeId} (hcs : w.heap[b]? = some (.cells cs ty (0, 0))) (hsz : cs'.size = cs.size) (hdiff : ∀ off, ¬ M b off → cs'[off]? = cs[off]?) : Stp M w (w.setRow b cs') := by
  refine ⟨by simp [World.setRow], fun b' hb' => ?_, rfl, rfl⟩
  by_cases he : b' = b
  · subst he; exact .inr (.inl ⟨cs, cs', ty, hcs, setRow_heap w b' cs cs' ty _ hcs, hsz, hdiff⟩)
  · exact .inl (setRow_other w b b' cs' he)

theorem St.write {k b : Nat} {cs cs' : Array Value} {ty : TypeId} {B B' : Blk} {S' : Store} (st : St M0 w0 ρ M S w) (hf : findS S k = some B) (hb : hasB ρ k b)
    (hcs : w.heap[b]? = some (.cells cs ty (0, 0))) (hsz : cs'.size = cs.size) (hdiff : ∀ off, ¬ M b off → cs'[off]? = cs[off]?)
    (hB : Keep w M (w.setRow b cs') M → BlkH ρ (w.setRow b cs') M k B') (hS : ∀ j, findS S' j = if j = k then some B' else findS S j) :
    St M0 w0 ρ M S' (w.setRow b cs') ∧ Keep w M (w.setRow b cs') M := by
  have hstp := setRow_stp hcs hsz hdiff
  have hk : Keep w M (w.setRow b cs') M := hstp.keep fun b off _ h => h
  refine ⟨⟨fun j => ?_, fun j C hC => ?_, st.inj, fun b off hm => Nat.lt_of_lt_of_le (st.mlt b off hm) hstp.1, st.stp.trans (setRow_stp (M := fun b' off => b' = b ∧ M b' off) hcs hsz fun off hn => hdiff off fun hm => hn ⟨rfl, hm⟩) (fun b' off hb' he => by obtain ⟨rfl, hm⟩ := he; exact ⟨(st.fresh k b' hb).resolve_left (Nat.not_le_of_lt hb'), st.sub b' off hb' hm⟩), st.sub, st.old, st.fresh, st.pin⟩, hk⟩
  · rw [hS j, st.dom j]
    by_cases hj : j = k
    · subst hj; simp [hf]
    · simp [hj]
  · rw [hS j] at hC
    by_cases hj : j = k
    · subst hj; simp at hC; subst hC; exact hB hk
    · simp only [hj, if_false] at hC
      refine BlkH.ext hk (fun _ _ h => h) (fun b' hb' => ⟨setRow_other w b b' cs' fun e => hj (st.inj _ _ b (e ▸ hb') hb), fun _ => Iff.rfl⟩) (st.blk j C hC)

theorem run_storeAt {t b o : Nat} {cs : Array Value} {ty : TypeId} {u : Value} (hrow : TyRow P t (nthT TY t)) (hsz : u.cells.size = (nthT TY t).sz) (hcs : w.heap[b]? = some (.cells cs ty (0, 0)))
    (ho : o + u.cells.size ≤ cs.size) (hc : ∀ (j : Nat) (c : Value), u.cells[j]? = some c → isCell c) :
    (Instr.storeAt t (.pointer (some ⟨b, o, none⟩)) u).run P w = .ok () (w.setRow b (cs.toList.take o ++ u.cells.toList ++ cs.toList.drop (o + u.cells.size)).toArray) := by
  have h := run_storeCells_at P b o ty u.cells.toList 0 cs w hcs (by simpa using ho) (fun v hv => by
    obtain ⟨j, hj⟩ := List.mem_iff_getElem?.1 hv
    exact oneCell_of (hc j v (by rw [← Array.getElem?_toList]; exact hj)))
  simp only [Nat.add_zero, Array.length_toList] at h
  simp [Instr.storeAt, Instr.sureAddr, storeVar, hrow.size, hsz]
  rw [← hsz]
  simpa using h

/-- The cells behind a store. -/
theorem splice_get {l m : List Value} {o q : Nat} (ho : o + m.length ≤ l.length) : (l.take o ++ m ++ l.drop (o + m.length))[q]? = if o ≤ q ∧ q < o + m.length then m[q - o]? else l[q]? := by
  by_cases h1 : q < o
  · rw [if_neg (by omega), List.getElem?_append_left (by simp; omega), List.getElem?_append_left (by simp; omega), List.getElem?_take, if_pos h1]
  · by_cases h2 : q < o + m.length
    · rw [if_pos ⟨by omega, h2⟩, List.getElem?_append_left (by simp; omega), List.getElem?_append_right (by simp; omega)]
      congr 1; simp; omega
    · rw [if_neg (by omega), List.getElem?_append_right (by simp; omega), List.getElem?_drop]
      congr 1; simp; omega

theorem store_sound (hty : TyOk P TY) {F : Spec} {t : Nat} {x y : Operand} {T : List AV} {K : AV → List AV → Store → Prop} {a : Act} {oo : Oper} (h : opB TY F d (.store t x y) T S K)
    (ho : oo.op = .store t x y) (st : St M0 w0 ρ M S w) (tm : Tm ρ w M T a) :
    Runs P (execOp a.eval oo) w fun u w' => ∃ ρ' M' T' S' v, K v T' S' ∧ St M0 w0 ρ' M' S' w' ∧ Tm ρ' w' M' T' a ∧ T'.length = T.length ∧ RepT ρ' w' M' v u := by
  simp only [opB, quietOp, eval_iff] at h
  have hx := eval_rep tm x
  have hy := eval_rep tm y
  generalize hu : a.eval y = u at hy
  generalize evalF T y = v at h hy
  split at h
  · -- into an owned slice
    rename_i k i hxk
    rw [hxk] at hx
    split at h
    · rename_i wm r ov hf
      rw [ifK_iff] at h
      obtain ⟨hok, hwm, h⟩ := h
      obtain ⟨o, b, g1, g2, g3, g4, g5⟩ := hx
      obtain ⟨⟨o', g6, g7, g8, g9, g10, g11⟩, hov⟩ := st.blk k _ hf
      obtain rfl := sli_sl g6 g1
      have g1 := g6
      simp only [g2] at g11
      obtain ⟨g12, cs, ty, g13, g14, g15, g16⟩ := g11
      obtain ⟨hs, hag⟩ := okEl_facts hok
      have hrow := hty.at (t := t) (.inl (by rw [hs]; exact Nat.ne_of_gt r.sz_pos))
      have hilt : i.toNat < r.len := by omega
      have hroom : i.toNat * o.sz + r.sz ≤ cs.size := by
        rw [g14, g8]
        have h1 : (i.toNat + 1) * r.sz ≤ o.cap * r.sz := Nat.mul_le_mul_right _ (by omega)
        rw [Nat.add_mul, Nat.one_mul] at h1; exact h1
      have hMcell : ∀ j, j < r.sz → M b (i.toNat * o.sz + j) := fun j hj => by
        rw [g15]
        refine ⟨?_, by omega⟩
        rw [g8]
        have h1 : wm * r.sz ≤ i.toNat * r.sz := Nat.mul_le_mul_right _ (by omega)
        omega
      -- the store itself, once the value's cells are known
      have fin : ∀ (B' : Blk) (S' : Store), u.cells.size = r.sz → (∀ (j : Nat) (c : Value), u.cells[j]? = some c → isCell c) → (∀ j, findS S' j = if j = k then some B' else findS S j) →
          (∀ cs', cs'.size = cs.size → (∀ q, cs'[q]? = if i.toNat * o.sz ≤ q ∧ q < i.toNat * o.sz + r.sz then u.cells[q - i.toNat * o.sz]? else cs[q]?) → Keep w M (w.setRow b cs') M → BlkH ρ (w.setRow b cs') M k B') →
          K .any T S' → Runs P (execOp a.eval oo) w fun u w' => ∃ ρ' M' T' S' v, K v T' S' ∧ St M0 w0 ρ' M' S' w' ∧ Tm ρ' w' M' T' a ∧ T'.length = T.length ∧ RepT ρ' w' M' v u := by
        intro B' S' hus huc hS hB hK
        have hrun := run_storeAt (P := P) (TY := TY) (t := t) (b := b) (o := i.toNat * o.sz) (u := u) hrow (by rw [hus, hs]) g13 (by rw [hus]; exact hroom) huc
        let cs' := (cs.toList.take (i.toNat * o.sz) ++ u.cells.toList ++ cs.toList.drop (i.toNat * o.sz + u.cells.size)).toArray
        have hget : ∀ q, cs'[q]? = if i.toNat * o.sz ≤ q ∧ q < i.toNat * o.sz + r.sz then u.cells[q - i.toNat * o.sz]? else cs[q]? := fun q => by
          have := splice_get (l := cs.toList) (m := u.cells.toList) (o := i.toNat * o.sz) (q := q) (by simp [hus]; exact hroom)
          simp only [Array.length_toList, Array.getElem?_toList, hus] at this
          simp only [cs', List.getElem?_toArray, hus]
          exact this
        have hsz : cs'.size = cs.size := by simp [cs', hus]; omega
        have hw := st.write (k := k) (cs' := cs') hf (by simp [hasB, g1, Own.has, g2]) g13 hsz (fun off hn => by
          rw [hget off, if_neg]
          intro hh
          have := hMcell (off - i.toNat * o.sz) (by omega)
          rw [show i.toNat * o.sz + (off - i.toNat * o.sz) = off from by omega] at this
          exact hn this) (hB cs' hsz hget) hS
        refine .inr (.inl ⟨w.setRow b cs', ?_, ρ, M, T, S', .any, hK, hw.1, ⟨tm.defers, tm.size, fun j => RepT.keep hw.2 (fun _ _ h => h) (tm.tmp j)⟩, rfl, trivial⟩)
        simp [execOp, ho, g5, hu, hrun, cs']
      split at h
      · -- an owned row goes in
        rename_i k'
        split at h
        · rename_i wm' s hf'
          rw [ifK_iff, ifK_iff] at h
          obtain ⟨hrq, hwm0, h⟩ := h
          have hwm0 := beq_iff'.1 hwm0
          subst hwm0
          obtain ⟨S', hK, hS⟩ := set_store h
          rw [hf] at hS
          have hsz1 := rowsQ_sz hrq
          obtain ⟨ok', g17, rfl⟩ := hy
          refine fin _ S' (by rw [hsz1]; rfl) (fun j c hj => by
            rcases j with _ | j
            · simp [Sl.val, Value.cells] at hj; subst hj; trivial
            · simp [Sl.val, Value.cells] at hj) (fun j => by rw [hS j]; rfl) (fun cs' hcs' hget hkp => ?_) hK
          refine ⟨⟨o, g1, g7, g8, g9, Nat.zero_le _, ?_⟩, .inr ⟨i, k', rfl, hrq, rfl, g3, by omega⟩⟩
          simp only [g2]
          refine ⟨g12, cs', ty, setRow_heap w b cs cs' ty _ g13, by rw [hcs']; exact g14, fun off => by rw [hcs']; exact g15 off, fun q hq => ?_⟩
          rw [hget q]
          by_cases hqi : q = i.toNat
          · rw [if_pos (by rw [g8, hsz1]; omega)]
            have hqi' : (q : Int) = i := by omega
            refine ⟨ok'.val, ?_, by simp only [hqi', if_true]; exact ⟨ok', g17, rfl⟩⟩
            rw [show q - i.toNat * o.sz = 0 from by rw [g8, hsz1]; omega]
            rfl
          · rw [if_neg (by rw [g8, hsz1]; omega)]
            have hqi' : (q : Int) ≠ i := by omega
            obtain ⟨c, g18, g19⟩ := g16 q hq
            exact ⟨c, g18, by simp only [hqi', if_false]; exact CellP.keep hkp g19⟩
        · exact h.elim
      · obtain ⟨r', hr', hl', hz', hcell⟩ := set_cells h hilt
        obtain ⟨S', hK, hS⟩ := set_store hr'
        rw [hf] at hS
        obtain ⟨c1, c2, c3⟩ := hcell ρ w M u hy
        refine fin _ S' c1 (fun j c hj => (c2 j c hj).1) (fun j => by rw [hS j]; rfl) (fun cs' hcs' hget hkp => ?_) hK
        refine ⟨⟨o, g1, by rw [hl']; exact g7, by rw [hz']; exact g8, by rw [hl']; exact g9, by rw [hl']; exact g10, ?_⟩, .inl rfl⟩
        simp only [g2]
        refine ⟨g12, cs', ty, setRow_heap w b cs cs' ty _ g13, by rw [hcs']; exact g14, fun off => by rw [hcs']; exact g15 off, fun q hq => ?_⟩
        rw [hget q]
        have hq' : q < r.cells := by simpa [RO.cells, hl', hz'] using hq
        by_cases hqi : i.toNat * o.sz ≤ q ∧ q < i.toNat * o.sz + r.sz
        · rw [if_pos hqi]
          rw [g8] at hqi ⊢
          have hlt : q - i.toNat * r.sz < u.cells.size := by omega
          refine ⟨u.cells[q - i.toNat * r.sz], by simp [hlt], ?_⟩
          have := (c2 (q - i.toNat * r.sz) u.cells[q - i.toNat * r.sz] (by simp [hlt])).2
          rw [show i.toNat * r.sz + (q - i.toNat * r.sz) = q from by omega] at this
          exact CellP.keep hkp this
        · rw [if_neg hqi]
          obtain ⟨c, g18, g19⟩ := g16 q hq'
          refine ⟨c, g18, CellP.keep hkp (c3 q c (fun e => hqi ?_) g19)⟩
          rw [g8]
          have hp := r.sz_pos
          have h1 := Nat.div_add_mod q r.sz
          have h2 := Nat.mod_lt q hp
          rw [e, Nat.mul_comm] at h1
          omega
      · exact h.elim
    · -- an owned row goes back
      rename_i r j hf
      rw [ifK_iff, ifK_iff] at h
      obtain ⟨hok, hlk, hij, h⟩ := h
      subst hij
      obtain ⟨o, b, g1, g2, g3, g4, g5⟩ := hx
      obtain ⟨o', rows, g6, hD⟩ := st.blk k _ hf
      rw [of_dp g6] at g1; cases g1
      split at h
      · rename_i h'
        split at h
        · rename_i wm s hf'
          rw [ifK_iff, ifK_iff] at h
          obtain ⟨hwm0, hnb, h⟩ := h
          obtain rfl := beq_iff'.1 hwm0
          obtain ⟨r', h, hr1, hr2, hr3, hr4⟩ := setRow_rows h
          obtain ⟨ok', g17, rfl⟩ := hy
          obtain ⟨⟨oh, g18, hV⟩, _⟩ := st.blk h' _ hf'
          obtain rfl := sli_sl g18 g17
          obtain ⟨T1, S1, h, st1, tm1, hT1, hnone⟩ := garb_sound (K := fun T S => setS S k (.deep r' none) fun S => K .any T S) h st tm
          obtain ⟨S2, hK, hS⟩ := set_store h
          have hne := nb_ne hnb
          have e1 : dropE ρ h' k = some (.dp o rows) := by simp [dropE, hne, g6]
          have hsome : (findS S1 k).isSome := by rw [← st1.dom k, e1]; rfl
          have hD' := hD.outer
          simp only [g2] at hD'
          obtain ⟨g19, cs, ty, g20, g21, g22, g23⟩ := hD'
          have hilt : i.toNat < r.len := by have := hD.len; omega
          have hlen := hD.len
          have hic : i.toNat < cs.size := by omega
          obtain ⟨hs, hag⟩ := okEl_facts hok
          have hsz1 := rowsQ_sz hD.rq
          have hrow := hty.at (t := t) (.inl (by rw [hs, hsz1]; decide))
          have hrun := run_storeAt (P := P) (TY := TY) (t := t) (b := b) (o := i.toNat * o.sz) (u := ok'.val) hrow (by rw [hs, hsz1]; rfl) g20 (by rw [hD.osz, Nat.mul_one]; exact hic) (fun j c hj => by
            rcases j with _ | j
            · simp [Sl.val, Value.cells] at hj; subst hj; trivial
            · simp [Sl.val, Value.cells] at hj)
          let cs' := (cs.toList.take (i.toNat * o.sz) ++ ok'.val.cells.toList ++ cs.toList.drop (i.toNat * o.sz + ok'.val.cells.size)).toArray
          have hcl : ok'.val.cells = #[ok'.val] := rfl
          have hsz : cs'.size = cs.size := by simp [cs', hcl, hD.osz]; omega
          have hget : ∀ q, cs'[q]? = if q = i.toNat then some ok'.val else cs[q]? := fun q => by
            have := splice_get (l := cs.toList) (m := ok'.val.cells.toList) (o := i.toNat * o.sz) (q := q) (by rw [hcl, hD.osz]; simp; omega)
            simp only [Array.length_toList, Array.getElem?_toList] at this
            simp only [cs', List.getElem?_toArray]
            rw [this, hcl, hD.osz]
            by_cases hq : q = i.toNat
            · subst hq; simp
            · rw [if_neg hq, if_neg (by simp; omega)]
          have hold : ∀ j b, hasB (dropE ρ h') j b → j ≠ h' ∧ hasB ρ j b := fun j b hj => by
            by_cases hjh : j = h'
            · subst hjh; simp [hasB, dropE] at hj
            · exact ⟨hjh, by simpa [hasB, dropE, hjh] using hj⟩
          obtain ⟨ρ2, st2, hv2, hk2⟩ := st1.putRow (r' := r') (s := s) (S' := S2) (oh := ok') (cs' := cs') hlk e1 hD hV.env (fun b' hb' j hj => (hold j b' hj).1 (st.inj _ _ b' (hold j b' hj).2 (by simp only [hasB, g18]; exact hb')))
            (fun b' hb' => st.fresh h' b' (by simp only [hasB, g18]; exact hb')) hr1 hr2 (hr3 hilt) hr4 (fun j => by
              rw [hS j]
              obtain ⟨B, hB⟩ := Option.isSome_iff_exists.1 hsome
              rw [hB]; rfl) hsome g2 g20 hsz hget
          refine .inr (.inl ⟨w.setRow b cs', ?_, ρ2, M, T1, S2, .any, hK, st2, ⟨tm1.defers, tm1.size, fun j => RepT.keep hk2 (fun _ _ h => h) ((tm1.tmp j).view hv2)⟩, hT1, trivial⟩)
          simp [execOp, ho, g5, hu, hrun, cs']
        · exact h.elim
      · exact h.elim
    · exact h.elim
  · -- into a variable
    rename_i k off hxk
    rw [hxk] at hx
    split at h
    · rename_i l hf
      obtain ⟨m, hm, hlen, hmv⟩ := cells_iff h
      obtain ⟨hsp, hset⟩ := splice_iff hm
      obtain ⟨S', hK, hS⟩ := set_store hset
      rw [hf] at hS
      have hx : (ρ k).bind (Own.ref · off) = some (a.eval x) := hx
      obtain ⟨b, g1, cs, ty, g4, g5, g6⟩ := st.blk k _ hf
      have g2 := ref_bx g1 hx
      have hlsz : l.length = cs.size := by rw [g6.length, Array.length_toList]
      have hrep : RepL (RepC ρ w M) m u.cells.toList := by
        rcases hmv with ⟨_, hv⟩ | ⟨_, hc, rfl⟩
        · rw [hv] at hy; obtain ⟨cs0, rfl, h2⟩ := hy; exact h2
        · have hy := cellOK_rep hc hy
          have hcell := RepC.isCell hy
          revert hy hcell
          cases u <;> intro hy hcell <;> first | exact ⟨hy, trivial⟩ | exact hcell.elim
      have hus : u.cells.size = m.length := by rw [hrep.length, Array.length_toList]
      have huc : ∀ (j : Nat) (c : Value), u.cells[j]? = some c → isCell c := fun j c hj => by
        have hlt : j < m.length := by
          rw [← hus]
          rcases Nat.lt_or_ge j u.cells.size with h' | h'
          · exact h'
          · rw [Array.getElem?_eq_none h'] at hj; cases hj
        obtain ⟨c', h1, h2⟩ := hrep.get j hlt
        rw [Array.getElem?_toList, hj] at h1; cases h1
        exact RepC.isCell h2
      have hrow : TyRow P t (nthT TY t) := by
        rcases hmv with ⟨hag, _⟩ | ⟨_, _, rfl⟩
        · exact hty.at (.inr fun e => by rw [e] at hag; cases hag)
        · exact hty.at (.inl (by rw [← hlen]; simp))
      have hrun := run_storeAt (P := P) (TY := TY) (t := t) (b := b) (o := off) (u := u) hrow (by rw [hus, hlen]) g4 (by rw [hus, ← hlsz]; exact hsp) huc
      let cs' := (cs.toList.take off ++ u.cells.toList ++ cs.toList.drop (off + u.cells.size)).toArray
      have hsz : cs'.size = cs.size := by simp [cs', hus]; omega
      have hw := st.write (k := k) (cs' := cs') hf (by simp [hasB, g1, Own.has]) g4 hsz (fun q hn => by
        have hge : cs.size ≤ q := Nat.le_of_not_lt fun hlt => hn ((g5 q).2 hlt)
        rw [Array.getElem?_eq_none hge, Array.getElem?_eq_none (by rw [hsz]; exact hge)])
        (B' := .box (l.take off ++ (m ++ l.drop (off + m.length)))) (fun hkp => ⟨b, g1, cs', ty, setRow_heap w b cs cs' ty _ g4, fun q => by rw [hsz]; exact g5 q, by
          have := (g6.take off).append (hrep.append (g6.drop (off + m.length)))
          have := this.imp fun _ _ => RepC.keep (ρ := ρ) (ρ' := ρ) hkp (fun _ _ h => h)
          simpa [cs', hus] using this⟩) (fun j => by rw [hS j]; rfl)
      refine .inr (.inl ⟨w.setRow b cs', ?_, ρ, M, T, S', .any, hK, hw.1, ⟨tm.defers, tm.size, fun j => RepT.keep hw.2 (fun _ _ h => h) (tm.tmp j)⟩, rfl, trivial⟩)
      simp [execOp, ho, g2, hu, hrun, cs']
    · exact h.elim
  · exact h.elim

/-- What a source of an append has: its cells, wherever they lie. -/
theorem src_iff {b : AV} {K : Option RO → Prop} (h : srcK S b K) (st : St M0 w0 ρ M S w) {u : Value} (hu : RepT ρ w M b u) :
    (K none ∧ u = .slice none 0 0) ∨ ∃ r, K (some r) ∧ r.len ≤ LB ∧ ∃ ad cap, u = .slice ad r.len cap ∧ (r.cells = 0 ∨ ∃ b off, ad = some ⟨b, off, none⟩ ∧ ∀ q, q < r.cells → ∃ c, w.cell? ⟨b, off + q, none⟩ = some c ∧ CellP w M r q c) := by
  cases b with
  | ro r =>
    obtain ⟨h1, ad, cap, h2, _, h3⟩ := hu
    refine .inr ⟨r, h, h1, ad, cap, h2, ?_⟩
    rcases h3 with h3 | ⟨b, off, h4, h5⟩
    · exact .inl h3
    · exact .inr ⟨b, off, h4, fun q hq => by obtain ⟨c, h6, _, h7⟩ := h5 q hq; exact ⟨c, h6, h7⟩⟩
  | nils => exact .inl ⟨h, hu⟩
  | vec j =>
    simp only [srcK] at h
    split at h
    · rename_i wm r hf
      obtain ⟨o, g1, rfl⟩ := hu
      obtain ⟨⟨o', g2, g3, g4, g5, _, g6⟩, _⟩ := st.blk j _ hf
      obtain rfl := sli_sl g2 g1
      refine .inr ⟨r, h, g5, _, _, by rw [Sl.val, g3], ?_⟩
      cases hb : o.blk with
      | none => simp only [hb] at g6; exact .inl (by simp [RO.cells, g6.1])
      | some b =>
        simp only [hb] at g6
        obtain ⟨_, cs, ty, g7, _, _, g8⟩ := g6
        exact .inr ⟨b, 0, rfl, fun q hq => by obtain ⟨c, g9, g10⟩ := g8 q hq; exact ⟨c, by rw [cell_of_heap g7, Nat.zero_add]; exact g9, g10⟩⟩
    · exact h.elim
  | _ => exact h.elim

/-- The cells as a list. -/
theorem cells_list {w : World} {b off n : Nat} {C : Nat → Value → Prop} (h : ∀ q, q < n → ∃ c, w.cell? ⟨b, off + q, none⟩ = some c ∧ C q c) :
    ∃ l : List Value, l.length = n ∧ (∀ j v, l[j]? = some v → w.cell? ⟨b, off + j, none⟩ = some v) ∧ ∀ q, q < n → ∃ c, l[q]? = some c ∧ C q c := by
  induction n with
  | zero => exact ⟨[], rfl, by simp, by simp⟩
  | succ n ih =>
    obtain ⟨l, h1, h2, h3⟩ := ih fun q hq => h q (by omega)
    obtain ⟨c, h4, h5⟩ := h n (by omega)
    refine ⟨l ++ [c], by simp [h1], fun j v hj => ?_, fun q hq => ?_⟩
    · by_cases hjn : j < n
      · rw [List.getElem?_append_left (by omega)] at hj; exact h2 j v hj
      · by_cases hjn' : j = n
        · subst hjn'; rw [List.getElem?_append_right (by omega)] at hj; simp [h1] at hj; subst hj; exact h4
        · rw [List.getElem?_eq_none (by simp; omega)] at hj; cases hj
    · by_cases hqn : q < n
      · obtain ⟨c', h6, h7⟩ := h3 q hqn
        exact ⟨c', by rw [List.getElem?_append_left (by omega)]; exact h6, h7⟩
      · have : q = n := by omega
        subst this
        exact ⟨c, by rw [List.getElem?_append_right (by omega)]; simp [h1], h5⟩
end
end Go.AM
