/- The abstract machine: the operations that change nothing that is there. -/
import Derived.Test.YtmdlfcjbjjifoabAmFn
namespace Go.AM
open Go

def Cmp (S S' : Store) : Prop := ∀ k B B', findS S k = some B → findS S' k = some B' → B = B'
theorem Cmp.refl (S : Store) : Cmp S S := fun k B B' h h' => by rw [h] at h'; exact Option.some.inj h'

def addS (d : Nat) : Option Blk → Store → Store
  | none, S => S | some b, S => (d, b) :: S

/-- What an operation leaves. -/
def Out (M0 : Base) (w0 : World) (ρ : Env) (M : Msk) (S : Store) (w : World) (d : Nat) (B : Option Blk) (v : AV) (u : Value) (w' : World) : Prop :=
  ∃ ρ' M', St M0 w0 ρ' M' (addS d B S) w' ∧ RepT ρ' w' M' v u ∧ Keep w M w' M' ∧ ∀ k o, ρ k = some o → ρ' k = some o

def QS (P : Program) (d : Nat) (o : Op) (T : List AV) (S : Store) (v : AV) (B : Option Blk) : Prop :=
  ∀ (M0 : Base) (w0 : World) (ρ : Env) (M : Msk) (w : World) (S' : Store) (e : Operand → Value) (oo : Oper), oo.op = o → Cmp S S' → St M0 w0 ρ M S' w →
    (∀ x ∈ o.operands, RepT ρ w M (evalF T x) (e x)) → (B ≠ none → findS S' d = none ∧ loc d = true) → Runs P (execOp e oo) w (Out M0 w0 ρ M S' w d B v)

section
variable {P : Program} {M0 : Base} {w0 w : World} {ρ : Env} {M : Msk} {S : Store} {d : Nat}

theorem Out.pure {v : AV} {u : Value} (st : St M0 w0 ρ M S w) (h : RepT ρ w M v u) : Out M0 w0 ρ M S w d none v u w :=
  ⟨ρ, M, st, h, Keep.refl _ _, fun _ _ h => h⟩

theorem BlkH.ext {w' : World} {M' : Msk} {ρ' : Env} {k : Nat} {B : Blk} (hk : Keep w M w' M') (hρ : ∀ k o, ρ k = some o → ρ' k = some o)
    (hb : ∀ b, hasB ρ k b → w'.heap[b]? = w.heap[b]? ∧ ∀ off, M' b off ↔ M b off) (h : BlkH ρ w M k B) : BlkH ρ' w' M' k B := by
  cases B with
  | box l =>
    obtain ⟨b, h2, cs, ty, h3, h4, h5⟩ := h
    have := hb b (by simp [hasB, h2, Own.has])
    exact ⟨b, hρ _ _ h2, cs, ty, this.1.trans h3, fun off => (this.2 off).trans (h4 off), h5.imp fun _ _ => RepC.keep hk hρ⟩
  | map kd vk m =>
    obtain ⟨b, h2, es, n, h3, h4, h5⟩ := h
    have := hb b (by simp [hasB, h2, Own.has])
    exact ⟨b, hρ _ _ h2, es, n, this.1.trans h3, fun off => (this.2 off).trans (h4 off), h5⟩
  | deep r hole =>
    obtain ⟨o, rows, h2, h3⟩ := h
    exact ⟨o, rows, hρ _ _ h2, h3.ext hk fun b h => hb b (by simp only [hasB, h2]; exact h)⟩
  | vec wm r ov =>
    obtain ⟨⟨o, h2, h3, h4, h5, h6, h7⟩, hov⟩ := h
    refine ⟨⟨o, hρ _ _ h2, h3, h4, h5, h6, ?_⟩, hov⟩
    cases hbl : o.blk with
    | none => simp only [hbl] at h7 ⊢; exact h7
    | some b =>
      simp only [hbl] at h7 ⊢
      have := hb b (by simp [hasB, h2, Own.has, hbl])
      obtain ⟨h8, cs, ty, h9, h10, h12, h13⟩ := h7
      refine ⟨h8, cs, ty, this.1.trans h9, h10, fun off => (this.2 off).trans (h12 off), fun q hq => ?_⟩
      obtain ⟨c, h14, h15⟩ := h13 q hq
      refine ⟨c, h14, ?_⟩
      split
      · exact CellP.keep hk h15
      · simp only at h15
        split at h15
        · rename_i he; simp only [he, if_true]; exact RepC.keep hk hρ h15
        · rename_i he; simp only [he, if_false]; exact CellP.keep hk h15

theorem blk_lt (st : St M0 w0 ρ M S w) {k b : Nat} (h : hasB ρ k b) : b < w.heap.size := by
  have hs : (ρ k).isSome := by cases hk : ρ k with | none => simp [hasB, hk] at h | some o => rfl
  rw [st.dom] at hs
  obtain ⟨B, hB⟩ := Option.isSome_iff_exists.1 hs
  have hlt : ∀ {ob : Obj}, w.heap[b]? = some ob → b < w.heap.size := fun {ob} hh => by
    rcases Nat.lt_or_ge b w.heap.size with h' | h'
    · exact h'
    · rw [Array.getElem?_eq_none h'] at hh; cases hh
  cases B with
  | box l =>
    obtain ⟨b', h2, cs, ty, h3, _⟩ := st.blk k _ hB
    simp [hasB, h2, Own.has] at h; subst h
    exact hlt h3
  | map kd vk m =>
    obtain ⟨b', h2, es, n, h3, _⟩ := st.blk k _ hB
    simp [hasB, h2, Own.has] at h; subst h
    exact hlt h3
  | deep r hole =>
    obtain ⟨o, rows, h2, h3⟩ := st.blk k _ hB
    simp only [hasB, h2] at h
    obtain ⟨cs, ty, h4⟩ := h3.cells h
    exact hlt h4
  | vec wm r ov =>
    obtain ⟨⟨o, h2, _, _, _, _, h7⟩, _⟩ := st.blk k _ hB
    simp [hasB, h2, Own.has] at h
    simp only [h] at h7
    obtain ⟨_, cs, ty, h9, _⟩ := h7
    exact hlt h9

theorem Stp.keep' {w w' : World} {M M' : Msk} (h : Stp (fun _ _ => False) w w') (hm : ∀ b off, b < w.heap.size → M' b off → M b off) : Keep w M w' M' :=
  fun b off _ hc hn => ⟨h.cell hc (fun h => h), fun hM => hn (hm b off (cell_lt hc) hM)⟩

/-- Behind a step that leaves all blocks as they are (new ones may lie behind them): the state as it was. -/
theorem St.same {w' : World} {M' : Msk} (st : St M0 w0 ρ M S w) (hs : Stp (fun _ _ => False) w w') (hM : ∀ b off, b < w.heap.size → (M' b off ↔ M b off)) (hlt : ∀ b off, M' b off → b < w'.heap.size) :
    St M0 w0 ρ M' S w' ∧ Keep w M w' M' := by
  have hheap : ∀ b, b < w.heap.size → w'.heap[b]? = w.heap[b]? := fun b hb => by
    rcases hs.2 b hb with h | ⟨cs, cs', ty, h1, h2, h3, h4⟩ | ⟨_, _, _, _, _, _, h⟩
    · exact h
    · rw [h1, h2]
      have : cs' = cs := Array.ext_getElem? fun i => h4 i (by simp)
      rw [this]
    · exact h.elim
  have hk : Keep w M w' M' := hs.keep' fun b off hb => (hM b off hb).1
  refine ⟨⟨st.dom, fun k B hB => BlkH.ext hk (fun _ _ h => h) (fun b hb => ⟨hheap b (blk_lt st hb), fun off => hM b off (blk_lt st hb)⟩) (st.blk k B hB), st.inj, hlt, ?_, fun b off hb hm => st.sub b off hb ((hM b off (Nat.lt_of_lt_of_le hb st.stp.1)).1 hm), fun b off hb hl hm => (hM b off (Nat.lt_of_lt_of_le hb st.stp.1)).2 (st.old b off hb hl hm), st.fresh, st.pin⟩, hk⟩
  · exact st.stp.trans hs (fun _ _ _ h => h.elim)
/-- A new block, owned under the key d. -/
theorem St.pushO {w' : World} {ob : Obj} (N : Nat → Prop) {own : Own} {B : Blk} (st : St M0 w0 ρ M S w) (hd : findS S d = none) (hloc : loc d = true) (hw : w'.heap = w.heap.push ob) (hio : w'.os = w.os ∧ w'.output = w.output)
    (ho : ∀ b, own.has b → b = w.heap.size)
    (hB : ∀ (ρ' : Env) (M' : Msk), ρ' d = some own → (∀ off, M' w.heap.size off ↔ N off) → Keep w M w' M' → (∀ k o, ρ k = some o → ρ' k = some o) → BlkH ρ' w' M' d B) :
    ∃ ρ' M', St M0 w0 ρ' M' ((d, B) :: S) w' ∧ ρ' d = some own ∧ Keep w M w' M' ∧ ∀ k o, ρ k = some o → ρ' k = some o := by
  have hρd : ρ d = none := by
    have := st.dom d; rw [hd] at this
    cases h : ρ d with | none => rfl | some o => rw [h] at this; cases this
  have hs : Stp (fun _ _ => False) w w' := ⟨by rw [hw]; simp, fun b hb => .inl (by rw [hw]; simp [Array.getElem?_push, Nat.ne_of_lt hb]), hio⟩
  have hnM : ∀ off, ¬ M w.heap.size off := fun off h => absurd (st.mlt _ _ h) (Nat.lt_irrefl _)
  let M' : Msk := fun b off => M b off ∨ (b = w.heap.size ∧ N off)
  have hMold : ∀ b off, b < w.heap.size → (M' b off ↔ M b off) := fun b off hb => ⟨fun h => h.elim id (fun h => absurd h.1 (Nat.ne_of_lt hb)), .inl⟩
  have hMlt : ∀ b off, M' b off → b < w'.heap.size := fun b off h => by
    rw [hw]; simp
    rcases h with h | ⟨rfl, _⟩
    · exact Nat.lt_succ_of_lt (st.mlt _ _ h)
    · exact Nat.lt_succ_self _
  obtain ⟨st', hk⟩ := st.same hs hMold hMlt
  let ρ' : Env := fun k => if k = d then some own else ρ k
  have hext : ∀ k o, ρ k = some o → ρ' k = some o := fun k o h => by
    have : k ≠ d := fun e => by subst e; rw [hρd] at h; cases h
    simp [ρ', this, h]
  have hρ'd : ρ' d = some own := by simp [ρ']
  have hnew : ∀ off, M' w.heap.size off ↔ N off := fun off => ⟨fun h => h.elim (fun h => absurd h (hnM off)) (fun h => h.2), fun h => .inr ⟨rfl, h⟩⟩
  have hold : ∀ k b, k ≠ d → hasB ρ' k b → hasB ρ k b := fun k b hk h => by simpa [hasB, ρ', hk] using h
  refine ⟨ρ', M', ⟨fun k => ?_, fun k B' hB' => ?_, fun i j b hi hj => ?_, hMlt, st'.stp, st'.sub, st'.old, fun k b hkb => ?_, fun k o hk ho => ?_⟩, hρ'd, hk, hext⟩
  · by_cases hkd : k = d
    · subst hkd; simp [hρ'd, find_cons]
    · simp [ρ', hkd, find_cons, Ne.symm hkd, st.dom k]
  · by_cases hkd : k = d
    · subst hkd
      simp only [find_cons, if_true] at hB'
      cases hB'
      exact hB ρ' M' hρ'd hnew hk hext
    · simp only [find_cons, Ne.symm hkd, if_false] at hB'
      exact BlkH.ext (Keep.refl _ _) hext (fun b hb => ⟨rfl, fun _ => Iff.rfl⟩) (st'.blk k B' hB')
  · by_cases hid : i = d
    · by_cases hjd : j = d
      · rw [hid, hjd]
      · subst hid
        have h1 := blk_lt st (hold j b hjd hj)
        simp only [hasB, hρ'd] at hi
        have := ho _ hi
        omega
    · by_cases hjd : j = d
      · subst hjd
        have h1 := blk_lt st (hold i b hid hi)
        simp only [hasB, hρ'd] at hj
        have := ho _ hj
        omega
      · exact st.inj _ _ _ (hold i b hid hi) (hold j b hjd hj)
  · by_cases hkd : k = d
    · subst hkd
      simp only [hasB, hρ'd] at hkb
      rw [ho _ hkb]; exact .inl st.stp.1
    · exact st.fresh k b (hold k b hkd hkb)
  · by_cases hkd : k = d
    · subst hkd; rw [hloc] at hk; cases hk
    · exact st.pin k o hk (by simpa [ρ', hkd] using ho)

theorem St.push {w' : World} {cs : Array Value} {ty : TypeId} {own : Own} {B : Blk} (st : St M0 w0 ρ M S w) (hd : findS S d = none) (hloc : loc d = true) (hw : w'.heap = w.heap.push (.cells cs ty (0, 0))) (hio : w'.os = w.os ∧ w'.output = w.output)
    (ho : ∀ b, own.has b → b = w.heap.size)
    (hB : ∀ (ρ' : Env) (M' : Msk), ρ' d = some own → (∀ off, M' w.heap.size off ↔ off < cs.size) → Keep w M w' M' → (∀ k o, ρ k = some o → ρ' k = some o) → BlkH ρ' w' M' d B) :
    ∃ ρ' M', St M0 w0 ρ' M' ((d, B) :: S) w' ∧ ρ' d = some own ∧ Keep w M w' M' ∧ ∀ k o, ρ k = some o → ρ' k = some o :=
  St.pushO (fun off => off < cs.size) st hd hloc hw hio ho hB

theorem St.find (st : St M0 w0 ρ M S w) {S0 : Store} (hc : Cmp S0 S) {k : Nat} {B : Blk} {o : Own} (hf : findS S0 k = some B) (ho : ρ k = some o) : findS S k = some B := by
  have h := st.dom k
  rw [ho] at h
  obtain ⟨B', hB'⟩ := Option.isSome_iff_exists.1 h.symm
  rw [hB', hc k B B' hf hB']
theorem St.find' (st : St M0 w0 ρ M S w) {S0 : Store} (hc : Cmp S0 S) {k : Nat} {B : Blk} {β : Type} {f : Own → Option β} {x : β} (hf : findS S0 k = some B) (ho : (ρ k).bind f = some x) : findS S k = some B := by
  cases h : ρ k with
  | none => rw [h] at ho; cases ho
  | some o => exact st.find hc hf h
end
end Go.AM
