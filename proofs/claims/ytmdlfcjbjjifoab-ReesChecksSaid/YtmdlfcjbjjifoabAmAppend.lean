/- The abstract machine: append; literals; the head of an owned slice. -/
import Derived.Test.YtmdlfcjbjjifoabAmStore
namespace Go.AM
open Go

section
variable {P : Program} {TY : List TyE} {M0 : Base} {w0 w : World} {ρ : Env} {M : Msk} {S S0 : Store} {d : Nat}

/-- The key k is bound anew: nothing names the old one any more. -/
theorem rekey_sound {k : Nat} {T : List AV} {a : Act} {K : List AV → Store → Prop} (h : killK k T S K) (st : St M0 w0 ρ M S w) (tm : Tm ρ w M T a)
    {ρ' : Env} {w' : World} {M' : Msk} {B : Blk} (hkeep : Keep w M w' M') (hρ : ∀ j, j ≠ k → ρ' j = ρ j) (hρk : (ρ' k).isSome)
    (hblk : ∀ j, j ≠ k → ∀ b, hasB ρ j b → w'.heap[b]? = w.heap[b]? ∧ ∀ off, M' b off ↔ M b off)
    (hstp : Stp (fun b off => w0.heap.size ≤ b ∨ (M0.lent b ∧ M0.mask b off)) w w') (hlt : ∀ b off, M' b off → b < w'.heap.size) (hsub : ∀ b off, b < w0.heap.size → M' b off → M b off) (hold : ∀ b off, b < w0.heap.size → ¬ M0.lent b → M b off → M' b off) (hfr : ∀ b, hasB ρ' k b → w0.heap.size ≤ b ∨ M0.lent b)
    (hB : BlkH ρ' w' M' k B) (hinj : ∀ b, hasB ρ' k b → ∀ j, j ≠ k → ¬ hasB ρ j b) :
    ∃ T' S', K T' S' ∧ St M0 w0 ρ' M' ((k, B) :: S') w' ∧ Tm ρ' w' M' T' a ∧ T'.length = T.length := by
  unfold killK at h
  obtain ⟨hloc, h⟩ := ifK_iff.1 h
  obtain ⟨S1, h1, hS1⟩ := del_store h
  obtain ⟨T', h2, hlen, hT⟩ := sweepT_sound h1
  obtain ⟨S', h3, hS'⟩ := sweepS_sound h2
  have hother : ∀ j, j ≠ k → ∀ o, ρ j = some o → ρ' j = some o := fun j hj o ho => by rw [hρ j hj]; exact ho
  have hconv : Conv k .any ρ w M ρ' w' M' := ⟨hkeep, hother, fun v hv => RepC.isCell hv⟩
  have hconv' : Conv k .any ρ w' M' ρ' w' M' := ⟨Keep.refl _ _, hother, fun v hv => RepC.isCell hv⟩
  refine ⟨T', S', h3, ⟨fun j => ?_, fun j C hC => ?_, fun i j b hi hj => ?_, hlt, st.stp.trans hstp (fun b off hb hm => hm.resolve_left (Nat.not_le_of_lt hb)), fun b off hb hm => st.sub b off hb (hsub b off hb hm), fun b off hb hl hm => hold b off hb hl (st.old b off hb hl hm), fun x b hx => ?_, fun x o hx ho => ?_⟩,
    ⟨tm.defers, by rw [hlen]; exact tm.size, fun i => hT _ _ _ _ _ _ hconv (fun v _ => ⟨trivial, trivial⟩) i _ (tm.tmp i)⟩, hlen⟩
  · by_cases hj : j = k
    · subst hj; simp [find_cons, hρk]
    · have := hS' j
      rw [hS1 j] at this
      simp only [hj, if_false] at this
      simp only [find_cons, Ne.symm hj, if_false, hρ j hj, st.dom j]
      cases hf : findS S j with
      | none => simp only [hf] at this; simp [this]
      | some C => simp only [hf] at this; obtain ⟨C', h4, _⟩ := this; simp [h4]
  · by_cases hj : j = k
    · subst hj; simp only [find_cons, if_true] at hC; cases hC; exact hB
    · simp only [find_cons, Ne.symm hj, if_false] at hC
      have := hS' j
      rw [hS1 j] at this
      simp only [hj, if_false] at this
      cases hf : findS S j with
      | none => simp only [hf] at this; rw [this] at hC; cases hC
      | some C0 =>
        simp only [hf] at this
        obtain ⟨C', h4, h5⟩ := this
        rw [h4] at hC; cases hC
        exact h5 ρ w' M' ρ' M' j hconv' (hρ j hj) (fun _ _ _ => Iff.rfl) (BlkH.ext hkeep (fun _ _ h => h) (hblk j hj) (st.blk j C0 hf))
  · have h1 : ∀ x, x ≠ k → hasB ρ' x b → hasB ρ x b := fun x hx hb => by simpa [hasB, hρ x hx] using hb
    by_cases hik : i = k
    · by_cases hjk : j = k
      · rw [hik, hjk]
      · subst hik; exact absurd (h1 j hjk hj) (hinj b hi j hjk)
    · by_cases hjk : j = k
      · subst hjk; exact absurd (h1 i hik hi) (hinj b hj i hik)
      · exact st.inj _ _ _ (h1 i hik hi) (h1 j hjk hj)
  · by_cases hxk : x = k
    · subst hxk; exact hfr b hx
    · exact st.fresh x b (by simpa [hasB, hρ x hxk] using hx)
  · by_cases hxk : x = k
    · subst hxk; rw [hloc] at hx; cases hx
    · exact st.pin x o hx (by rw [← hρ x hxk]; exact ho)

/-- An empty source: nothing is done. -/
theorem run_append_empty {t ty e : Nat} {i : TypeInfo} (ht : P.underlying t = some (.slice e)) (hi : P.info? e = some i) (base ad : Option Addr) (n cap c : Nat) (h : n ≤ cap) (w : World) :
    (Builtin.append_ #[t, t] ty #[.slice base n cap, .slice ad 0 c]).run P w = .ok (.slice base n cap) w := by
  cases base <;> cases ad <;> simp [Builtin.append_, underlying, ht, sizeOf, typeInfo, hi, Builtin.lenOf, h, Builtin.firstCells, loadCells, loadCellsFrom, storeCells]

/-- A new array for a key: the block lies behind all others. -/
theorem newKey_sound {k : Nat} {T : List AV} {a : Act} {K : List AV → Store → Prop} (h : killK k T S K) (st : St M0 w0 ρ M S w) (tm : Tm ρ w M T a)
    {w' : World} {cs : Array Value} {ty cap wm : Nat} {r : RO} (hw : w'.heap = w.heap.push (.cells cs ty (0, 0))) (hio : w'.os = w.os ∧ w'.output = w.output) (hcs : cs.size = cap * r.sz) (hcap : r.len ≤ cap) (hlb : r.len ≤ LB) (hwm : wm ≤ r.len)
    (hc : ∀ q, q < r.cells → ∃ c, cs[q]? = some c ∧ CellP w M r q c) :
    ∃ T' S' ρ' M', K T' S' ∧ St M0 w0 ρ' M' ((k, .vec wm r []) :: S') w' ∧ Tm ρ' w' M' T' a ∧ T'.length = T.length ∧ ρ' k = some (.sl ⟨some w.heap.size, r.len, cap, r.sz⟩) := by
  have hs : Stp (fun _ _ => False) w w' := ⟨by rw [hw]; simp, fun b hb => .inl (by rw [hw]; simp [Array.getElem?_push, Nat.ne_of_lt hb]), hio⟩
  let M' : Msk := fun b off => dropM M ρ k b off ∨ (b = w.heap.size ∧ wm * r.sz ≤ off ∧ off < cs.size)
  have hkeep : Keep w M w' M' := fun b off c h1 h2 => ⟨hs.cell h1 (fun h => h), fun hm => hm.elim (fun hm => h2 hm.1) (fun hm => absurd hm.1 (Nat.ne_of_lt (cell_lt h1)))⟩
  have hnd : ∀ off, ¬ dropM M ρ k w.heap.size off := fun off hm => absurd (st.mlt _ _ hm.1) (Nat.lt_irrefl _)
  refine (fun ⟨T', S', g1, g2, g3, g4⟩ => ⟨T', S', fun j => if j = k then some (.sl ⟨some w.heap.size, r.len, cap, r.sz⟩) else ρ j, M', g1, g2, g3, g4, by simp⟩)
    (rekey_sound h st tm (ρ' := fun j => if j = k then some (.sl ⟨some w.heap.size, r.len, cap, r.sz⟩) else ρ j) (w' := w') (M' := M') (B := .vec wm r []) hkeep (fun j hj => by simp [hj]) (by simp) (fun j hj b hb => ?_) ?_ (fun b off hm => ?_) (fun b off hb hm => ?_) (fun b off hb hl hm => .inl ⟨hm, st.notFresh hb hl⟩) (fun b hb => ?_) ?_ (fun b hb j hj hjb => ?_))
  · have hblt := blk_lt st hb
    refine ⟨by rw [hw]; simp [Array.getElem?_push, Nat.ne_of_lt hblt], fun off => ⟨fun hm => hm.elim (fun hm => hm.1) (fun hm => absurd hm.1 (Nat.ne_of_lt hblt)), fun hm => .inl ⟨hm, fun hk => hj (st.inj _ _ _ hb hk)⟩⟩⟩
  · exact ⟨hs.1, fun b hb => (hs.2 b hb).imp id fun hh => hh.imp (fun ⟨c1, c2, t, h1, h2, h3, h4⟩ => ⟨c1, c2, t, h1, h2, h3, fun off _ => h4 off (by simp)⟩) (fun ⟨_, _, _, _, _, _, hf⟩ => hf.elim), hs.3⟩
  · rw [hw]; simp
    rcases hm with hm | hm
    · exact Nat.lt_succ_of_lt (st.mlt _ _ hm.1)
    · rw [hm.1]; exact Nat.lt_succ_self _
  · have hb' := Nat.lt_of_lt_of_le hb st.stp.1
    exact hm.elim (fun hm => hm.1) (fun hm => absurd hm.1 (Nat.ne_of_lt hb'))
  · simp [hasB, Own.has] at hb
    rw [← hb]; exact .inl st.stp.1
  · refine ⟨⟨⟨some w.heap.size, r.len, cap, r.sz⟩, by simp, rfl, rfl, hlb, hwm, hcap, cs, ty, by rw [hw]; simp, hcs, fun off => ?_, fun q hq => ?_⟩, .inl rfl⟩
    · exact ⟨fun hm => hm.elim (fun hm => absurd hm (hnd off)) (fun hm => hm.2), fun hm => .inr ⟨rfl, hm⟩⟩
    · obtain ⟨c, h1, h2⟩ := hc q hq; exact ⟨c, h1, h2.keep hkeep⟩
  · have := blk_lt st hjb
    simp [hasB, Own.has] at hb
    omega

/-- A key for a slice that has no array. -/
theorem nilKey_sound {k : Nat} {T : List AV} {a : Act} {K : List AV → Store → Prop} (h : killK k T S K) (st : St M0 w0 ρ M S w) (tm : Tm ρ w M T a) {wm : Nat} {r : RO} (hr : r.len = 0) (hwm : wm ≤ r.len) :
    ∃ T' S' ρ' M', K T' S' ∧ St M0 w0 ρ' M' ((k, .vec wm r []) :: S') w ∧ Tm ρ' w M' T' a ∧ T'.length = T.length ∧ ρ' k = some (.sl ⟨none, 0, 0, r.sz⟩) := by
  refine (fun ⟨T', S', g1, g2, g3, g4⟩ => ⟨T', S', fun j => if j = k then some (.sl ⟨none, 0, 0, r.sz⟩) else ρ j, dropM M ρ k, g1, g2, g3, g4, by simp⟩)
    (rekey_sound h st tm (ρ' := fun j => if j = k then some (.sl ⟨none, 0, 0, r.sz⟩) else ρ j) (w' := w) (M' := dropM M ρ k) (B := .vec wm r []) (keep_drop _ _ _ _) (fun j hj => by simp [hj]) (by simp) (fun j hj b hb => ?_) (Stp.refl _ _) (fun b off hm => st.mlt b off hm.1) (fun b off hb hm => hm.1) (fun b off hb hl hm => ⟨hm, st.notFresh hb hl⟩) (fun b hb => by simp [hasB, Own.has] at hb) ?_ (fun b hb => ?_))
  · exact ⟨rfl, fun off => ⟨fun hm => hm.1, fun hm => ⟨hm, fun hk => hj (st.inj _ _ _ hb hk)⟩⟩⟩
  · exact ⟨⟨⟨none, 0, 0, r.sz⟩, by simp, hr.symm, rfl, by rw [hr]; exact Nat.zero_le _, hwm, hr, rfl⟩, .inl rfl⟩
  · simp [hasB, Own.has] at hb

/-- An owned slice whose array is written behind its end (or that is left as it is). -/
theorem sameKey_sound {k b : Nat} {T : List AV} {a : Act} {K : List AV → Store → Prop} (h : killK k T S K) (st : St M0 w0 ρ M S w) (tm : Tm ρ w M T a)
    {o : Sl} {wm : Nat} {r r' : RO} {cs cs' : Array Value} {ty : Nat} (hk : ρ k = some (.sl o)) (hb : o.blk = some b) (hf : findS S k = some (.vec wm r [])) (hcs : w.heap[b]? = some (.cells cs ty (0, 0)))
    (hsz : cs'.size = cs.size) (hpre : ∀ q, q < wm * r.sz → cs'[q]? = cs[q]?) (hz : r'.sz = r.sz) (hle : r.len ≤ r'.len) (hcap : r'.len ≤ o.cap) (hlb : r'.len ≤ LB)
    (hc : ∀ q, q < r'.cells → ∃ c, cs'[q]? = some c ∧ CellP w M r' q c) :
    ∃ T' S' ρ' M', K T' S' ∧ St M0 w0 ρ' M' ((k, .vec wm r' []) :: S') (w.setRow b cs') ∧ Tm ρ' (w.setRow b cs') M' T' a ∧ T'.length = T.length ∧ ρ' k = some (.sl ⟨some b, r'.len, o.cap, r'.sz⟩) := by
  obtain ⟨⟨o', g1, g2, g3, g4, g5, g6⟩, _⟩ := st.blk k _ hf
  rw [hk] at g1; cases g1
  simp only [hb] at g6
  obtain ⟨g7, cs0, ty0, g8, g9, g10, g11⟩ := g6
  rw [hcs] at g8; cases g8
  have hdiff : ∀ off, ¬ M b off → cs'[off]? = cs[off]? := fun off hn => by
    by_cases h1 : off < wm * r.sz
    · exact hpre off h1
    · have h2 : cs.size ≤ off := Nat.le_of_not_lt fun hlt => hn ((g10 off).2 ⟨by rw [g3]; omega, hlt⟩)
      rw [Array.getElem?_eq_none h2, Array.getElem?_eq_none (by rw [hsz]; exact h2)]
  have hstp := setRow_stp (M := M) hcs hsz hdiff
  have hkeep : Keep w M (w.setRow b cs') M := hstp.keep fun _ _ _ h => h
  have hbk : hasB ρ k b := by simp [hasB, hk, Own.has, hb]
  refine (fun ⟨T', S', g1, g2, g3, g4⟩ => ⟨T', S', fun j => if j = k then some (.sl ⟨some b, r'.len, o.cap, r'.sz⟩) else ρ j, M, g1, g2, g3, g4, by simp⟩)
    (rekey_sound h st tm (ρ' := fun j => if j = k then some (.sl ⟨some b, r'.len, o.cap, r'.sz⟩) else ρ j) (w' := w.setRow b cs') (M' := M) (B := .vec wm r' []) hkeep (fun j hj => by simp [hj]) (by simp) (fun j hj b' hb' => ?_) ((setRow_stp (M := fun b' off => b' = b ∧ M b' off) hcs hsz fun off hn => hdiff off fun hm => hn ⟨rfl, hm⟩).weaken fun b' off he => by obtain ⟨rfl, hm⟩ := he; exact (Nat.lt_or_ge b' w0.heap.size).elim (fun hlt => .inr ⟨(st.fresh k b' hbk).resolve_left (Nat.not_le_of_lt hlt), st.sub b' off hlt hm⟩) .inl) (fun b' off hm => Nat.lt_of_lt_of_le (st.mlt b' off hm) hstp.1) (fun _ _ _ hm => hm) (fun _ _ _ _ hm => hm) (fun b' hb' => by simp [hasB, Own.has] at hb'; rw [← hb']; exact st.fresh k b hbk) ?_ (fun b' hb' j hj hjb => ?_))
  · exact ⟨setRow_other w b b' cs' fun e => hj (st.inj _ _ b (e ▸ hb') hbk), fun _ => Iff.rfl⟩
  · refine ⟨⟨⟨some b, r'.len, o.cap, r'.sz⟩, by simp, rfl, rfl, hlb, by omega, hcap, cs', ty, setRow_heap w b cs cs' ty _ hcs, by rw [hsz, g9, g3, hz], fun off => ?_, fun q hq => ?_⟩, .inl rfl⟩
    · rw [g10 off, hsz, g3, hz]
    · obtain ⟨c, h1, h2⟩ := hc q hq; exact ⟨c, h1, h2.keep hkeep⟩
  · simp [hasB, Own.has] at hb'
    subst hb'
    exact hj (st.inj _ _ _ hjb hbk)

theorem run_append_room' (t ty e : TypeId) (i : TypeInfo) (ht : P.underlying t = some (.slice e)) (hi : P.info? e = some i)
    (g sLen sCap tag : Nat) (cur : Array Value) (hg : w.heap[g]? = some (.cells cur tag (0, 0)))
    (a : Addr) (m c : Nat) (news : List Value) (hl : news.length = m * i.size) (hnews : ∀ j u, news[j]? = some u → w.cell? (a.add j) = some u) (h1 : ∀ u ∈ news, u.oneCell' = true)
    (hroom : sLen + m ≤ sCap) (hfit : sLen * i.size + news.length ≤ cur.size) :
    (Builtin.append_ #[t, t] ty #[.slice (some ⟨g, 0, none⟩) sLen sCap, .slice (some a) m c]).run P w =
      .ok (.slice (some ⟨g, 0, none⟩) (sLen + m) sCap) (w.setRow g (cur.toList.take (sLen * i.size) ++ news ++ cur.toList.drop (sLen * i.size + news.length)).toArray) := by
  have hf := run_firstCells_some (P := P) w i.size m a m c news hl hnews
  have hst := run_storeCells_at P g (sLen * i.size) tag news 0 cur w hg (by simpa using hfit) h1
  simp only [Nat.add_zero] at hst
  have hub : (underlying t).run P w = .ok (.slice e) w := by simp [underlying, ht]
  have hadd : (⟨g, 0, none⟩ : Addr).add (sLen * i.size) = ⟨g, sLen * i.size, none⟩ := by rw [addr_add, Nat.zero_add]
  simp [Builtin.append_, hub, sizeOf, typeInfo, hi, Builtin.lenOf, hroom, hf, hadd, hst]

/-- What holds behind an operation. -/
def Post (M0 : Base) (w0 : World) (a : Act) (n : Nat) (K : AV → List AV → Store → Prop) (u : Value) (w' : World) : Prop :=
  ∃ ρ' M' T' S' v, K v T' S' ∧ St M0 w0 ρ' M' S' w' ∧ Tm ρ' w' M' T' a ∧ T'.length = n ∧ RepT ρ' w' M' v u

theorem append_sound (hty : TyOk P TY) {F : Spec} {c : Call} {T : List AV} {K : AV → List AV → Store → Prop} {a : Act} {oo : Oper} (hcal : c.callee = .builtin .append) (h : opB TY F d (.call c) T S K)
    (ho : oo.op = .call c) (st : St M0 w0 ρ M S w) (tm : Tm ρ w M T a) : Runs P (execOp a.eval oo) w (Post M0 w0 a T.length K) := by
  simp only [opB, quietOp, hcal] at h
  split at h
  · rename_i x y t t' hargs htys
    split at h
    · rename_i e htt hd
      have htt := beq_iff'.1 htt
      subst htt
      have hu := slice_row hty hd
      have hc1 : c.args = #[x, y] := by simpa using congrArg List.toArray hargs
      have hc2 : c.argTypes = #[t, t] := by simpa using congrArg List.toArray htys
      rw [ifK_iff, eval_iff, eval_iff] at h
      obtain ⟨hzb, h⟩ := h
      have hx := eval_rep tm x
      have hy := eval_rep tm y
      have hexec : ∀ v w', (Builtin.append_ #[t, t] oo.type #[a.eval x, a.eval y]).run P w = .ok v w' → (execOp a.eval oo).run P w = .ok (.value v) w' := fun v w' hr => by
        simp [execOp, ho, resolve, hcal, hc1, hc2, invoke, builtin, hr]
      generalize evalF T x = ax at h hx
      have hne : (nthT TY e).zero ≠ [] := fun he => by rw [he] at hzb; cases hzb
      have hrow : TyRow P e (nthT TY e) := by
        rcases Nat.lt_or_ge e TY.length with h' | h'
        · exact hty.row e h'
        · rw [nthT_other h'] at hne; exact absurd rfl hne
      obtain ⟨i, _, hi, _, hs, hby, _, hz⟩ := hrow.row
      obtain ⟨z, hz1, hz2⟩ := hz hne
      have hzs : z.cells.size = (nthT TY e).sz := by rw [← hz2.2.2.2.2, hz2.1.length, Array.length_toList]
      have elem : ∀ r, okSl TY t r = true → i.size = r.sz ∧ z.cells.size = r.sz := fun r hok => by
        obtain ⟨e', hd', _, hes, _⟩ := okSl_row hty hok
        rw [hd] at hd'; cases hd'
        exact ⟨by rw [hs, hes], by rw [hzs, hes]⟩
      have hcap : ∀ {k : Nat} {o : Sl}, (ρ k).bind Own.sli = some o → o.len ≤ o.cap ∧ (o.blk = none → o.len = 0 ∧ o.cap = 0) := fun {k o} hk => by
        have hsome : (findS S k).isSome := by rw [← st.dom k]; exact bind_isSome hk
        obtain ⟨B, hB⟩ := Option.isSome_iff_exists.1 hsome
        have hBH := st.blk k B hB
        cases B with
        | box l => obtain ⟨b, h1, _⟩ := hBH; rw [h1] at hk; cases hk
        | map kd vk m => obtain ⟨b, h1, _⟩ := hBH; rw [h1] at hk; cases hk
        | deep r hole =>
          obtain ⟨o', rows, h1, h2⟩ := hBH
          rw [h1] at hk; cases hk
          have h3 := h2.outer
          have h4 := h2.len
          cases hb : o.blk with
          | none => simp only [hb] at h3; exact ⟨by omega, fun _ => ⟨by omega, h3.2⟩⟩
          | some b => simp only [hb] at h3; exact ⟨h3.1, fun he => by cases he⟩
        | vec wm r ov =>
          obtain ⟨⟨o', h1, h2, _, _, _, h3⟩, _⟩ := hBH
          obtain rfl := sli_sl h1 hk
          cases hb : o.blk with
          | none => simp only [hb] at h3; exact ⟨by omega, fun _ => ⟨by omega, h3.2⟩⟩
          | some b => simp only [hb] at h3; exact ⟨h3.1, fun he => by cases he⟩
      rcases src_iff h st hy with ⟨h, hyv⟩ | ⟨r', h, hlb', ad, cap', hyv, hcells'⟩
      · -- nothing is appended
        cases ax <;> try exact h.elim
        · rename_i k
          obtain ⟨o, g1, g2⟩ := hx
          refine .val (hexec o.val w ?_) ⟨ρ, M, T, S, _, h, st, tm, rfl, o, g1, rfl⟩
          rw [g2, hyv]
          exact run_append_empty hu hi _ _ _ _ _ (hcap g1).1 w
        · have hxv : a.eval x = .slice none 0 0 := hx
          refine .val (hexec (.slice none 0 0) w ?_) ⟨ρ, M, T, S, _, h, st, tm, rfl, rfl⟩
          rw [hxv, hyv]
          exact run_append_empty hu hi _ _ _ _ _ (Nat.le_refl _) w
      · -- the source's cells as a list
        have hnews : ∀ n, n = r'.cells → 0 < n → ∃ b off, ad = some ⟨b, off, none⟩ ∧ ∃ l : List Value, l.length = n ∧ (∀ j v, l[j]? = some v → w.cell? ((⟨b, off, none⟩ : Addr).add j) = some v) ∧ ∀ q, q < n → ∃ c, l[q]? = some c ∧ CellP w M r' q c := by
          intro n hn hpos
          subst hn
          rcases hcells' with h0 | ⟨b, off, h1, h2⟩
          · omega
          · obtain ⟨l, h3, h4, h5⟩ := cells_list h2
            exact ⟨b, off, h1, l, h3, fun j v hj => by rw [addr_add]; exact h4 j v hj, h5⟩
        -- into a new array
        have fresh : ∀ {r : RO} {wm k old : Nat} {K' : List AV → Store → Prop} {news : List Value}, killK k T S K' → okSl TY t r = true → r.len ≤ LB → wm ≤ r.len → news.length = r.cells → (∀ q, q < r.cells → ∃ c, news[q]? = some c ∧ CellP w M r q c) →
            (Builtin.append_ #[t, t] oo.type #[a.eval x, a.eval y]).run P w = .ok (.slice (some ⟨w.heap.size, 0, none⟩) r.len (grownCap w r.len old e)) (w.drew.alloc (.cells (news.toArray ++ Builtin.zeroCells z.cells (grownCap w r.len old e - r.len)) e)) →
            (∀ T' S', K' T' S' → K (.vec k) T' ((k, .vec wm r []) :: S')) → Runs P (execOp a.eval oo) w (Post M0 w0 a T.length K) := by
          intro r wm k old K' news hkill hok hlb hwm hnl hnc hrun hK
          obtain ⟨T', S', ρ', M', g1, g2, g3, g4, g5⟩ := newKey_sound hkill st tm (w' := w.drew.alloc (.cells (news.toArray ++ Builtin.zeroCells z.cells (grownCap w r.len old e - r.len)) e))
            (cs := news.toArray ++ Builtin.zeroCells z.cells (grownCap w r.len old e - r.len)) (ty := e) (cap := grownCap w r.len old e) (wm := wm) (r := r) rfl ⟨rfl, rfl⟩
            (by
              have hge := grownCap_ge w r.len old e
              simp only [Array.size_append, List.size_toArray, size_zeroCells, hnl, (elem r hok).2, RO.cells, ← Nat.add_mul]
              congr 1; omega) (grownCap_ge _ _ _ _) hlb hwm (fun q hq => by
              obtain ⟨c, h1, h2⟩ := hnc q hq
              refine ⟨c, ?_, h2⟩
              rw [Array.getElem?_append_left (by simp [hnl]; exact hq)]
              simpa using h1)
          exact .val (hexec _ _ hrun) ⟨ρ', M', T', _, _, hK _ _ g1, g2, g3, g4, _, of_sl g5, rfl⟩
        cases ax <;> try exact h.elim
        · -- an owned slice grows
          rename_i k _
          obtain ⟨o, g1, g2⟩ := hx
          simp only at h
          split at h
          · rename_i wm r hf
            rw [ifK_iff] at h
            obtain ⟨hok, h⟩ := h
            obtain ⟨r2, h, hl2, hz2', hz2'', hcell2⟩ := cat_cells h
            rw [len_iff] at h
            obtain ⟨hbytes, hlb2, h⟩ := capP_of h (by omega)
            have hlb2 : r2.len ≤ LB := by simp only [LB]; omega
            have hok2 : okSl TY t r2 = true := by
              unfold okSl at hok ⊢
              revert hok
              cases hd' : (nthT TY t).d <;> simp only [] <;> intro hok <;> try exact hok
              cases r <;> cases r2 <;> first | exact hok | cases hz2'
            have hsz : i.size = r.sz := (elem r hok).1
            have hby' : r2.len * i.bytes ≤ 140737488355328 := by rw [hby]; omega
            obtain ⟨⟨o', g3, g4, g5, g6, g7, g8⟩, _⟩ := st.blk k _ hf
            obtain rfl := sli_sl g3 g1
            have hc2 : r2.cells = r.cells + r'.cells := by simp only [RO.cells, hl2, hz2', hz2'', Nat.add_mul]
            by_cases hr0 : r'.len = 0
            · -- an empty source
              have hc0 : r'.cells = 0 := by simp [RO.cells, hr0]
              have hrun : (Builtin.append_ #[t, t] oo.type #[a.eval x, a.eval y]).run P w = .ok o.val w := by
                rw [g2, hyv, hr0]; exact run_append_empty hu hi _ _ _ _ _ (hcap g1).1 w
              cases hb : o.blk with
              | none =>
                simp only [hb] at g8
                obtain ⟨T', S', ρ', M', q1, q2, q3, q4, q5⟩ := nilKey_sound h st tm (wm := wm) (r := r2) (by omega) (by omega)
                refine .val (hexec _ _ hrun) ⟨ρ', M', T', _, _, q1, q2, q3, q4, _, of_sl q5, ?_⟩
                rw [Sl.val, Sl.val, hb, g4, g8.1, g8.2]
              | some b =>
                simp only [hb] at g8
                obtain ⟨g9, cs, ty, g10, g11, g12, g13⟩ := g8
                obtain ⟨T', S', ρ', M', q1, q2, q3, q4, q5⟩ := sameKey_sound h st tm (r' := r2) (cs' := cs) g3 hb hf g10 rfl (fun _ _ => rfl) hz2' (by omega) (by omega) hlb2 (fun q hq => by
                  obtain ⟨c, h1, h2⟩ := g13 q (by omega)
                  exact ⟨c, h1, hcell2 w M q c (by rw [if_pos (by omega)]; exact h2)⟩)
                rw [setRow_self w b cs ty (0, 0) g10] at q2 q3
                refine .val (hexec _ _ hrun) ⟨ρ', M', T', _, _, q1, q2, q3, q4, _, of_sl q5, ?_⟩
                rw [Sl.val, Sl.val, hb]
                simp only [Option.map_some, Value.slice.injEq, true_and, and_true]
                omega
            · have hpos : 0 < r'.cells := Nat.mul_pos (by omega) r'.sz_pos
              obtain ⟨b', off', rfl, l, n1, n2, n3⟩ := hnews _ rfl hpos
              cases hb : o.blk with
              | none =>
                simp only [hb] at g8
                have hrun := run_append_nil (P := P) w t oo.type e i z hu hi hz1 ⟨b', off', none⟩ r'.len cap' l (by rw [n1, RO.cells, hsz, hz2'']) n2 (by omega) (by simp only [LB] at hlb'; omega) (by
                  have : r'.len * i.bytes ≤ r2.len * i.bytes := Nat.mul_le_mul_right _ (by omega)
                  omega)
                have hlen : r2.len = r'.len := by omega
                refine fresh (r := r2) (wm := wm) (k := k) (old := 0) (news := l) h hok2 hlb2 (by omega) (by rw [n1, hc2]; simp [RO.cells, g8.1]) (fun q hq => ?_) ?_ (fun T' S' h => h)
                · have hr0' : r.cells = 0 := by simp [RO.cells, g8.1]
                  obtain ⟨c, h1, h2⟩ := n3 q (by omega)
                  exact ⟨c, h1, hcell2 w M q c (by rw [if_neg (by omega), hr0']; exact h2)⟩
                · rw [g2, hyv, hlen, Sl.val, hb, g4, g8.1, g8.2]
                  exact hrun
              | some b =>
                simp only [hb] at g8
                obtain ⟨g9, cs, ty, g10, g11, g12, g13⟩ := g8
                have hlo : r.cells ≤ cs.size := by rw [g11, g5]; exact Nat.mul_le_mul_right _ (by omega)
                by_cases hroom : o.len + r'.len ≤ o.cap
                · -- there is room
                  have hfit : o.len * i.size + l.length ≤ cs.size := by
                    rw [n1, g11, hsz, g5, RO.cells, hz2'', ← Nat.add_mul]; exact Nat.mul_le_mul_right _ hroom
                  have honel : ∀ v ∈ l, v.oneCell' = true := fun v hv => by
                    obtain ⟨j, hj⟩ := List.mem_iff_getElem?.1 hv
                    have hjl : j < r'.cells := by
                      rw [← n1]
                      rcases Nat.lt_or_ge j l.length with h' | h'
                      · exact h'
                      · rw [List.getElem?_eq_none h'] at hj; cases hj
                    obtain ⟨c, h1, h2⟩ := n3 j hjl
                    rw [hj] at h1; cases h1
                    exact oneCell_of h2.isCell
                  have hrun := run_append_room' (P := P) (w := w) t oo.type e i hu hi b o.len o.cap ty cs g10 ⟨b', off', none⟩ r'.len cap' l (by rw [n1, RO.cells, hsz, hz2'']) n2 honel hroom hfit
                  have hol : o.len * i.size = r.cells := by rw [g4, hsz]; rfl
                  let cs' := (cs.toList.take (o.len * i.size) ++ l ++ cs.toList.drop (o.len * i.size + l.length)).toArray
                  have hget : ∀ q, cs'[q]? = if r.cells ≤ q ∧ q < r.cells + r'.cells then l[q - r.cells]? else cs[q]? := fun q => by
                    have := splice_get (l := cs.toList) (m := l) (o := o.len * i.size) (q := q) (by simpa using hfit)
                    simp only [Array.getElem?_toList, hol, n1] at this
                    simp only [cs', List.getElem?_toArray, hol, n1]
                    exact this
                  have hcsz : cs'.size = cs.size := by simp [cs']; omega
                  obtain ⟨T', S', ρ', M', q1, q2, q3, q4, q5⟩ := sameKey_sound h st tm (r' := r2) (cs' := cs') g3 hb hf g10 hcsz (fun q hq => by
                    have : wm * r.sz ≤ r.cells := Nat.mul_le_mul_right _ g7
                    rw [hget q, if_neg (by omega)]) hz2' (by omega) (by omega) hlb2 (fun q hq => by
                    rw [hget q]
                    by_cases hqr : q < r.cells
                    · obtain ⟨c, h1, h2⟩ := g13 q hqr
                      rw [if_neg (by omega)]
                      exact ⟨c, h1, hcell2 w M q c (by rw [if_pos hqr]; exact h2)⟩
                    · obtain ⟨c, h1, h2⟩ := n3 (q - r.cells) (by omega)
                      rw [if_pos (by omega)]
                      exact ⟨c, h1, hcell2 w M q c (by rw [if_neg hqr]; exact h2)⟩)
                  refine .val (hexec _ _ (by rw [g2, hyv, Sl.val, hb]; exact hrun)) ⟨ρ', M', T', _, _, q1, q2, q3, q4, _, of_sl q5, ?_⟩
                  rw [Sl.val]
                  simp only [Option.map_some, Value.slice.injEq, true_and, and_true]
                  omega
                · -- a greater array
                  have holds : ∃ olds : List Value, olds.length = r.cells ∧ (∀ j v, olds[j]? = some v → w.cell? ((⟨b, 0, none⟩ : Addr).add j) = some v) ∧ ∀ q, q < r.cells → ∃ c, olds[q]? = some c ∧ CellP w M r q c := by
                    obtain ⟨l, h1, h2, h3⟩ := cells_list (w := w) (b := b) (off := 0) (n := r.cells) (C := CellP w M r) (fun q hq => by
                      obtain ⟨c, h1, h2⟩ := g13 q hq
                      exact ⟨c, by rw [cell_of_heap g10, Nat.zero_add]; exact h1, h2⟩)
                    exact ⟨l, h1, fun j v hj => by rw [addr_add]; exact h2 j v hj, h3⟩
                  obtain ⟨olds, m1, m2, m3⟩ := holds
                  have hlen2 : r2.len = o.len + r'.len := by omega
                  have hrun := run_append_grow (P := P) w t oo.type e i z hu hi hz1 ⟨b, 0, none⟩ o.len o.cap olds (by rw [m1, RO.cells, hsz, g4]) m2 ⟨b', off', none⟩ r'.len cap' l (by rw [n1, RO.cells, hsz, hz2'']) n2 (by omega)
                    (by omega) (growslice_fits (by omega) (by rw [← hlen2]; exact hby'))
                  refine fresh (r := r2) (wm := wm) (k := k) (old := o.cap) (news := olds ++ l) h hok2 hlb2 (by omega) (by rw [List.length_append, m1, n1, hc2]) (fun q hq => ?_) ?_ (fun T' S' h => h)
                  · by_cases hqr : q < r.cells
                    · obtain ⟨c, h1, h2⟩ := m3 q hqr
                      exact ⟨c, by rw [List.getElem?_append_left (by omega)]; exact h1, hcell2 w M q c (by rw [if_pos hqr]; exact h2)⟩
                    · obtain ⟨c, h1, h2⟩ := n3 (q - r.cells) (by omega)
                      exact ⟨c, by rw [List.getElem?_append_right (by omega), m1]; exact h1, hcell2 w M q c (by rw [if_neg hqr]; exact h2)⟩
                  · rw [g2, hyv, hlen2, Sl.val, hb]
                    simp only [Option.map_some]
                    rw [hrun]
                    simp
          · exact h.elim
        · -- the first array
          simp only at h
          rw [ifK_iff, len_iff] at h
          obtain ⟨hok, h⟩ := h
          obtain ⟨hbytes, _, h⟩ := capP_of h (by omega)
          have hxv : a.eval x = .slice none 0 0 := hx
          have hsz : i.size = r'.sz := (elem r' hok).1
          by_cases hr0 : r'.len = 0
          · obtain ⟨T', S', ρ', M', q1, q2, q3, q4, q5⟩ := nilKey_sound h st tm (wm := 0) (r := r') hr0 (Nat.zero_le _)
            refine .val (hexec (.slice none 0 0) w ?_) ⟨ρ', M', T', _, _, q1, q2, q3, q4, _, of_sl q5, rfl⟩
            rw [hxv, hyv, hr0]
            exact run_append_empty hu hi _ _ _ _ _ (Nat.le_refl _) w
          · have hpos : 0 < r'.cells := Nat.mul_pos (by omega) r'.sz_pos
            obtain ⟨b', off', rfl, l, n1, n2, n3⟩ := hnews _ rfl hpos
            have hrun := run_append_nil (P := P) w t oo.type e i z hu hi hz1 ⟨b', off', none⟩ r'.len cap' l (by rw [n1, RO.cells, hsz]) n2 (by omega) (by simp only [LB] at hlb'; omega) (by rw [hby]; omega)
            exact fresh (r := r') (wm := 0) (k := d) (old := 0) (news := l) h hok hlb' (Nat.zero_le _) n1 n3 (by rw [hxv, hyv]; exact hrun) (fun T' S' h => h)
    · exact h.elim
  · exact h.elim

theorem parts_iff : ∀ {ps : List (Nat × Operand)} {n : Nat} {K : List Operand → Prop}, partsK n ps K → K (ps.map (·.2)) ∧ ∀ j p, ps[j]? = some p → p.1 = n + j
  | [], n, K, h => ⟨h, fun j p hj => by simp at hj⟩
  | (i, x) :: ps, n, K, h => by
    simp only [partsK] at h
    split at h
    · rename_i hb
      obtain ⟨h1, h2⟩ := parts_iff h
      refine ⟨h1, fun j p hj => ?_⟩
      cases j with
      | zero => simp at hj; subst hj; exact beq_iff'.1 hb
      | succ j => rw [h2 j p (by simpa using hj)]; omega
    · exact h.elim

theorem kq_self (k : IntKind) : kq k k = true := by cases k <;> rfl

/-- One element: a list of one. -/
theorem elem_cat {r : RO} {a : AV} {l : List AV} {K : RO → Prop} (h : elemsK r (a :: l) K) :
    ∃ s, catK r s (fun r1 => elemsK r1 l K) ∧ s.len = 1 ∧ ∀ (ρ : Env) (w : World) (M : Msk) (u : Value), RepT ρ w M a u → u.cells.size = s.sz ∧ ∀ q c, u.cells[q]? = some c → CellP w M s q c := by
  have one : ∀ {s : RO} {u : Value} {w : World} {M : Msk}, s.sz = 1 → isCell u → CellP w M s 0 u → u.cells.size = s.sz ∧ ∀ q c, u.cells[q]? = some c → CellP w M s q c := by
    intro s u w M hs hu hc
    have hcs : u.cells = #[u] := by cases u <;> first | rfl | exact hu.elim
    rw [hcs, hs]
    refine ⟨rfl, fun q c hq => ?_⟩
    rcases q with _ | q
    · simp at hq; subst hq; exact hc
    · simp at hq
  have nil1 : ∀ {w : World} {M : Msk} {C : Nat → Value → Prop}, SlOf w M 0 C 0 (.slice none 0 0) := fun {w M C} => ⟨none, 0, rfl, Nat.le_refl _, .inl rfl⟩
  cases r with
  | ints k m =>
    cases a <;> try exact h.elim
    rename_i k' n
    simp only [elemsK, snoc_iff] at h
    refine ⟨.ints k' [n], h, rfl, fun ρ w M u hu => ?_⟩
    obtain ⟨rfl, hr⟩ := hu
    exact one rfl trivial ⟨rfl, hr⟩
  | bools m =>
    cases a <;> try exact h.elim
    rename_i e
    simp only [elemsK, snoc_iff] at h
    refine ⟨.bools [e.val], h, rfl, fun ρ w M u hu => ?_⟩
    have hu : u = .bool e.val := hu
    subst hu
    exact one rfl trivial rfl
  | rows k m =>
    cases a <;> try exact h.elim
    · rename_i s
      cases s <;> try exact h.elim
      rename_i k' x
      simp only [elemsK, snoc_iff] at h
      refine ⟨.rows k' [x], h, rfl, fun ρ w M u hu => one rfl (RepC.isCell (a := .ro (.ints k' x)) (ρ := ρ) hu) (rep_ints.1 hu)⟩
    · simp only [elemsK, snoc_iff] at h
      refine ⟨.rows k [[]], ifK_iff.2 ⟨kq_self k, h⟩, rfl, fun ρ w M u hu => ?_⟩
      have hu : u = .slice none 0 0 := hu
      subst hu
      exact one rfl trivial ⟨Nat.zero_le _, nil1⟩
  | brows m =>
    cases a <;> try exact h.elim
    · rename_i s
      cases s <;> try exact h.elim
      rename_i x
      simp only [elemsK, snoc_iff] at h
      refine ⟨.brows [x], h, rfl, fun ρ w M u hu => one rfl (RepC.isCell (a := .ro (.bools x)) (ρ := ρ) hu) (rep_bools.1 hu)⟩
    · simp only [elemsK, snoc_iff] at h
      refine ⟨.brows [[]], h, rfl, fun ρ w M u hu => ?_⟩
      have hu : u = .slice none 0 0 := hu
      subst hu
      exact one rfl trivial ⟨Nat.zero_le _, nil1⟩
  | rows3 m =>
    cases a <;> try exact h.elim
    · rename_i s
      cases s <;> try exact h.elim
      rename_i k' x
      cases k' <;> try exact h.elim
      simp only [elemsK, snoc_iff] at h
      refine ⟨.rows3 [x], h, rfl, fun ρ w M u hu => one rfl (RepC.isCell (a := .ro (.rows .i64 x)) (ρ := ρ) hu) (rep_rows.1 hu)⟩
    · simp only [elemsK, snoc_iff] at h
      refine ⟨.rows3 [[]], h, rfl, fun ρ w M u hu => ?_⟩
      have hu : u = .slice none 0 0 := hu
      subst hu
      exact one rfl trivial ⟨Nat.zero_le _, nil1⟩
  | pairs m =>
    simp only [elemsK, snoc_iff] at h
    split at h <;> first | exact h.elim | (rename_i heq; cases heq) | skip
    rename_i x y
    refine ⟨.pairs [(x, y)], h, rfl, fun ρ w M u hu => ?_⟩
    obtain ⟨cs, rfl, hcs⟩ := hu
    obtain ⟨l⟩ := cs
    match l, hcs with
    | [c, d], hcs =>
      obtain ⟨⟨rfl, r1⟩, ⟨rfl, r2⟩, _⟩ := hcs
      refine ⟨rfl, fun q c hq => ?_⟩
      rcases q with _ | _ | q
      · simp [Value.cells] at hq; subst hq; exact ⟨rfl, r1⟩
      · simp [Value.cells] at hq; subst hq; exact ⟨rfl, r2⟩
      · simp [Value.cells] at hq

/-- Elements of a literal: each one's cells. -/
theorem elems_sound : ∀ {l : List AV} {r : RO} {K : RO → Prop}, elemsK r l K →
    ∃ r', K r' ∧ r'.len = r.len + l.length ∧ r'.sz = r.sz ∧ ∀ (ρ : Env) (w : World) (M : Msk) (us : List Value), RepL (RepT ρ w M) l us →
      (∀ u ∈ us, u.cells.size = r.sz) ∧ ∀ q c, (if q < r.cells then CellP w M r q c else (us.flatMap fun u => u.cells.toList)[q - r.cells]? = some c) → CellP w M r' q c
  | [], r, K, h => ⟨r, h, rfl, rfl, fun ρ w M us hu => by
      cases us with
      | nil => exact ⟨by simp, fun q c hc => by split at hc; exact hc; simp at hc⟩
      | cons => exact hu.elim⟩
  | a :: l, r, K, h => by
    -- one element more
    have step : ∀ (r1 : RO), elemsK r1 l K → r1.len = r.len + 1 → r1.sz = r.sz →
        (∀ (ρ : Env) (w : World) (M : Msk) (u : Value), RepT ρ w M a u → u.cells.size = r.sz ∧ ∀ q c, (if q < r.cells then CellP w M r q c else u.cells[q - r.cells]? = some c) → CellP w M r1 q c) →
        ∃ r', K r' ∧ r'.len = r.len + (a :: l).length ∧ r'.sz = r.sz ∧ ∀ (ρ : Env) (w : World) (M : Msk) (us : List Value), RepL (RepT ρ w M) (a :: l) us →
          (∀ u ∈ us, u.cells.size = r.sz) ∧ ∀ q c, (if q < r.cells then CellP w M r q c else (us.flatMap fun u => u.cells.toList)[q - r.cells]? = some c) → CellP w M r' q c := by
      intro r1 h1 hl hz hcell
      obtain ⟨r', h2, h3, h4, h5⟩ := elems_sound h1
      refine ⟨r', h2, by rw [h3, hl]; simp; omega, h4.trans hz, fun ρ w M us hu => ?_⟩
      cases us with
      | nil => exact hu.elim
      | cons u us =>
        obtain ⟨c1, c2⟩ := hcell ρ w M u hu.1
        obtain ⟨c3, c4⟩ := h5 ρ w M us hu.2
        refine ⟨fun v hv => ?_, fun q c hc => c4 q c ?_⟩
        · rcases List.mem_cons.1 hv with rfl | hv
          · exact c1
          · rw [c3 v hv, hz]
        · have hr1 : r1.cells = r.cells + r.sz := by simp only [RO.cells, hl, hz, Nat.add_mul, Nat.one_mul]
          by_cases hq : q < r.cells
          · rw [if_pos hq] at hc
            rw [if_pos (by omega)]
            exact c2 q c (by rw [if_pos hq]; exact hc)
          · rw [if_neg hq] at hc
            simp only [List.flatMap_cons] at hc
            by_cases hq1 : q < r1.cells
            · rw [if_pos hq1]
              rw [List.getElem?_append_left (by simp; omega), Array.getElem?_toList] at hc
              exact c2 q c (by rw [if_neg hq]; exact hc)
            · rw [if_neg hq1]
              rw [List.getElem?_append_right (by simp; omega)] at hc
              rw [← hc]; congr 1; simp; omega
    obtain ⟨s, hs, hsl, hsr⟩ := elem_cat h
    obtain ⟨r1, h1, hl1, hz1, hz2, hc1⟩ := cat_cells hs
    refine step r1 h1 (by omega) hz1 fun ρ w M u hu => ?_
    obtain ⟨g1, g2⟩ := hsr ρ w M u hu
    refine ⟨by omega, fun q c hc => hc1 w M q c ?_⟩
    split at hc
    · rename_i hq; rw [if_pos hq]; exact hc
    · rename_i hq; rw [if_neg hq]; exact g2 _ c hc
end
end Go.AM
