/- The abstract machine: what its values and stores say of a world. -/
import Derived.Test.YtmdlfcjbjjifoaaAmDefs
namespace Go.AM
open Go

abbrev LB : Nat := 140737488355328

structure Sl where
  blk : Option Nat
  len : Nat
  cap : Nat
  sz : Nat

inductive Own where
  | sl (o : Sl) | bx (b : Nat)

def Sl.val (o : Sl) : Value := .slice (o.blk.map fun b => ⟨b, 0, none⟩) o.len o.cap
abbrev Env := Nat → Option Own
abbrev Msk := Nat → Nat → Prop

def isCell : Value → Prop
  | .agg _ => False | .tuple _ => False | _ => True

/-- A slice value of m elements whose n cells can be read, are not owned, and are as C says. -/
def SlOf (w : World) (M : Msk) (n : Nat) (C : Nat → Value → Prop) (m : Nat) (v : Value) : Prop :=
  ∃ a cap, v = .slice a m cap ∧ m ≤ cap ∧ (n = 0 ∨ ∃ b off, a = some ⟨b, off, none⟩ ∧ ∀ q, q < n → ∃ c, w.cell? ⟨b, off + q, none⟩ = some c ∧ ¬ M b (off + q) ∧ C q c)

def RO.sz : RO → Nat
  | .pairs _ => 2 | _ => 1
def RO.cells (r : RO) : Nat := r.len * r.sz

def SlI (w : World) (M : Msk) (k : IntKind) (l : List Int) (v : Value) : Prop :=
  l.length ≤ LB ∧ SlOf w M l.length (fun q c => c = .int k (l.getD q 0) ∧ inK k (l.getD q 0)) l.length v
def SlB (w : World) (M : Msk) (l : List Bool) (v : Value) : Prop :=
  l.length ≤ LB ∧ SlOf w M l.length (fun q c => c = .bool (l.getD q false)) l.length v
def Sl2 (w : World) (M : Msk) (k : IntKind) (l : List (List Int)) (v : Value) : Prop :=
  l.length ≤ LB ∧ SlOf w M l.length (fun q c => SlI w M k (l.getD q []) c) l.length v

def CellP (w : World) (M : Msk) : RO → Nat → Value → Prop
  | .ints k l, q, c => c = .int k (l.getD q 0) ∧ inK k (l.getD q 0)
  | .bools l, q, c => c = .bool (l.getD q false)
  | .rows k l, q, c => SlI w M k (l.getD q []) c
  | .brows l, q, c => SlB w M (l.getD q []) c
  | .rows3 l, q, c => Sl2 w M .i64 (l.getD q []) c
  | .pairs l, q, c => if q % 2 = 0 then c = .int .i64 (l.getD (q / 2) (0, 0)).1 ∧ inK .i64 (l.getD (q / 2) (0, 0)).1 else c = .int .i64 (l.getD (q / 2) (0, 0)).2 ∧ inK .i64 (l.getD (q / 2) (0, 0)).2

def RepRO (w : World) (M : Msk) (r : RO) (v : Value) : Prop := r.len ≤ LB ∧ SlOf w M r.cells (CellP w M r) r.len v

def RepC (ρ : Env) (w : World) (M : Msk) : AV → Value → Prop
  | .int k n, v => v = .int k n ∧ inK k n
  | .bool e, v => v = .bool e.val
  | .ro r, v => RepRO w M r v
  | .vec k, v => ∃ o, ρ k = some (.sl o) ∧ v = o.val
  | .ptr k off, v => ∃ b, ρ k = some (.bx b) ∧ v = .pointer (some ⟨b, off, none⟩)
  | .nils, v => v = .slice none 0 0
  | .any, v => isCell v
  | .fn f [], v => v = .func (.func f) #[] #[]
  | .rptr r i, v => ∃ b off cap, RepRO w M r (.slice (some ⟨b, off, none⟩) r.len cap) ∧ 0 ≤ i ∧ i < r.len ∧ v = .pointer (some ⟨b, off + i.toNat * r.sz, none⟩)
  | .vptr k i, v => ∃ o b, ρ k = some (.sl o) ∧ o.blk = some b ∧ 0 ≤ i ∧ i < o.len ∧ v = .pointer (some ⟨b, i.toNat * o.sz, none⟩)
  | _, _ => False

def RepL (R : AV → Value → Prop) : List AV → List Value → Prop
  | [], [] => True
  | a :: l, v :: m => R a v ∧ RepL R l m
  | _, _ => False

def RepG (ρ : Env) (w : World) (M : Msk) : AV → Value → Prop
  | .agg l, v => ∃ cs, v = .agg cs ∧ RepL (RepC ρ w M) l cs.toList
  | .any, _ => True
  | a, v => RepC ρ w M a v

def RepT (ρ : Env) (w : World) (M : Msk) : AV → Value → Prop
  | .agg l, v => ∃ cs, v = .agg cs ∧ RepL (RepC ρ w M) l cs.toList
  | .tup l, v => ∃ cs, v = .tuple cs ∧ RepL (RepG ρ w M) l cs.toList
  | .fn f l, v => ∃ cs, v = .func (.func f) #[] cs ∧ RepL (RepC ρ w M) l cs.toList
  | .any, _ => True
  | a, v => RepC ρ w M a v

/-- The array of an owned slice. -/
def VecH (ρ : Env) (w : World) (M : Msk) (o : Sl) (wm : Nat) (r : RO) (ov : List (Int × Nat)) : Prop :=
  o.len = r.len ∧ o.sz = r.sz ∧ r.len ≤ LB ∧ wm ≤ r.len ∧
  match o.blk with
  | none => r.len = 0 ∧ o.cap = 0
  | some b => o.len ≤ o.cap ∧ ∃ cs ty, w.heap[b]? = some (.cells cs ty (0, 0)) ∧ cs.size = o.cap * o.sz ∧
      (∀ off, M b off ↔ wm * o.sz ≤ off ∧ off < cs.size) ∧
      ∀ q, q < r.cells → ∃ c, cs[q]? = some c ∧ match ov with
        | [] => CellP w M r q c
        | (i, j) :: _ => if (q : Int) = i then RepC ρ w M (.vec j) c else CellP w M r q c

def BlkH (ρ : Env) (w : World) (M : Msk) (k : Nat) : Blk → Prop
  | .vec wm r ov => (∃ o, ρ k = some (.sl o) ∧ VecH ρ w M o wm r ov) ∧ (ov = [] ∨ ∃ i j, ov = [(i, j)] ∧ rowsQ r = true ∧ wm = 0 ∧ 0 ≤ i ∧ i < r.len)
  | .box l => ∃ b, ρ k = some (.bx b) ∧ ∃ cs ty, w.heap[b]? = some (.cells cs ty (0, 0)) ∧ (∀ off, M b off ↔ off < cs.size) ∧ RepL (RepC ρ w M) l cs.toList

def Own.blk? : Own → Option Nat
  | .sl o => o.blk | .bx b => some b
def blkOf (ρ : Env) (k : Nat) : Option Nat := (ρ k).bind Own.blk?

/-- From w to w' only cells of M (and new blocks) differ. -/
structure Stp (M : Msk) (w w' : World) : Prop where
  size : w.heap.size ≤ w'.heap.size
  blocks : ∀ b, b < w.heap.size → w'.heap[b]? = w.heap[b]? ∨
    ∃ cs cs' ty, w.heap[b]? = some (.cells cs ty (0, 0)) ∧ w'.heap[b]? = some (.cells cs' ty (0, 0)) ∧ cs'.size = cs.size ∧ ∀ off, ¬ M b off → cs'[off]? = cs[off]?
  io : w'.os = w.os ∧ w'.output = w.output

/-- What stood when the function was entered: the cells that are owned, the blocks that are lent to it, and what their keys stand for. -/
structure Base where
  mask : Msk
  lent : Nat → Prop
  env : Env

structure St (M0 : Base) (w0 : World) (ρ : Env) (M : Msk) (S : Store) (w : World) : Prop where
  dom : ∀ k, (ρ k).isSome = (findS S k).isSome
  blk : ∀ k B, findS S k = some B → BlkH ρ w M k B
  inj : ∀ k k' b, blkOf ρ k = some b → blkOf ρ k' = some b → k = k'
  mlt : ∀ b off, M b off → b < w.heap.size
  stp : Stp (fun b off => M0.lent b ∧ M0.mask b off) w0 w
  sub : ∀ b off, b < w0.heap.size → M b off → M0.mask b off
  old : ∀ b off, b < w0.heap.size → ¬ M0.lent b → M0.mask b off → M b off
  fresh : ∀ k b, blkOf ρ k = some b → w0.heap.size ≤ b ∨ M0.lent b
  pin : ∀ k o, loc k = false → ρ k = some o → M0.env k = some o

theorem St.notFresh {M0 : Base} {w0 w : World} {ρ : Env} {M : Msk} {S : Store} (st : St M0 w0 ρ M S w) {k b : Nat} (hb : b < w0.heap.size) (hl : ¬ M0.lent b) : blkOf ρ k ≠ some b :=
  fun h => (st.fresh k b h).elim (fun h => absurd hb (Nat.not_lt_of_le h)) hl

structure Tm (ρ : Env) (w : World) (M : Msk) (T : List AV) (a : Act) : Prop where
  defers : a.defers = []
  size : a.tmps.size = T.length
  tmp : ∀ i, RepT ρ w M (nth T i) (a.tmps.getD i undef)

/-! ### Readings last -/

def Keep (w : World) (M : Msk) (w' : World) (M' : Msk) : Prop :=
  ∀ b off c, w.cell? ⟨b, off, none⟩ = some c → ¬ M b off → w'.cell? ⟨b, off, none⟩ = some c ∧ ¬ M' b off

section
variable {w w' : World} {M M' : Msk}

theorem Keep.refl (w : World) (M : Msk) : Keep w M w M := fun _ _ _ h h' => ⟨h, h'⟩

theorem SlOf.keep {n m : Nat} {C C' : Nat → Value → Prop} {v : Value} (hk : Keep w M w' M') (hC : ∀ q c, C q c → C' q c)
    (h : SlOf w M n C m v) : SlOf w' M' n C' m v := by
  obtain ⟨a, cap, rfl, hcap, h⟩ := h
  refine ⟨a, cap, rfl, hcap, ?_⟩
  rcases h with h | ⟨b, off, rfl, h⟩
  · exact .inl h
  · refine .inr ⟨b, off, rfl, fun q hq => ?_⟩
    obtain ⟨c, h1, h2, h3⟩ := h q hq
    obtain ⟨h4, h5⟩ := hk _ _ _ h1 h2
    exact ⟨c, h4, h5, hC _ _ h3⟩

theorem SlI.keep {k : IntKind} {l : List Int} {v : Value} (hk : Keep w M w' M') (h : SlI w M k l v) : SlI w' M' k l v := ⟨h.1, h.2.keep hk fun _ _ h => h⟩
theorem SlB.keep {l : List Bool} {v : Value} (hk : Keep w M w' M') (h : SlB w M l v) : SlB w' M' l v := ⟨h.1, h.2.keep hk fun _ _ h => h⟩
theorem Sl2.keep {k : IntKind} {l : List (List Int)} {v : Value} (hk : Keep w M w' M') (h : Sl2 w M k l v) : Sl2 w' M' k l v := ⟨h.1, h.2.keep hk fun _ _ h => h.keep hk⟩

theorem CellP.keep {r : RO} {q : Nat} {c : Value} (hk : Keep w M w' M') (h : CellP w M r q c) : CellP w' M' r q c := by
  cases r <;> first | exact h | exact SlI.keep hk h | exact SlB.keep hk h | exact Sl2.keep hk h

theorem RepRO.keep {r : RO} {v : Value} (hk : Keep w M w' M') (h : RepRO w M r v) : RepRO w' M' r v := ⟨h.1, h.2.keep hk fun _ _ h => h.keep hk⟩

theorem RepC.keep {ρ ρ' : Env} {a : AV} {v : Value} (hk : Keep w M w' M') (hρ : ∀ k o, ρ k = some o → ρ' k = some o) (h : RepC ρ w M a v) : RepC ρ' w' M' a v := by
  cases a with
  | ro r => exact RepRO.keep hk h
  | vec k => obtain ⟨o, h1, h2⟩ := h; exact ⟨o, hρ _ _ h1, h2⟩
  | ptr k off => obtain ⟨b, h1, h2⟩ := h; exact ⟨b, hρ _ _ h1, h2⟩
  | rptr r i => obtain ⟨b, off, cap, h1, h2⟩ := h; exact ⟨b, off, cap, h1.keep hk, h2⟩
  | vptr k i => obtain ⟨o, b, h1, h2⟩ := h; exact ⟨o, b, hρ _ _ h1, h2⟩
  | fn f l => cases l <;> exact h
  | _ => exact h

theorem RepL.imp {R R' : AV → Value → Prop} (hR : ∀ a v, R a v → R' a v) : ∀ {l : List AV} {m : List Value}, RepL R l m → RepL R' l m
  | [], [], _ => trivial
  | _ :: _, _ :: _, h => ⟨hR _ _ h.1, RepL.imp hR h.2⟩
  | [], _ :: _, h => h.elim
  | _ :: _, [], h => h.elim

theorem RepL.length {R : AV → Value → Prop} : ∀ {l : List AV} {m : List Value}, RepL R l m → l.length = m.length
  | [], [], _ => rfl
  | _ :: _, _ :: _, h => by simp [RepL.length h.2]
  | [], _ :: _, h => h.elim
  | _ :: _, [], h => h.elim

theorem RepG.keep {ρ ρ' : Env} {a : AV} {v : Value} (hk : Keep w M w' M') (hρ : ∀ k o, ρ k = some o → ρ' k = some o) (h : RepG ρ w M a v) : RepG ρ' w' M' a v := by
  cases a with
  | agg l => obtain ⟨cs, h1, h2⟩ := h; exact ⟨cs, h1, h2.imp fun _ _ => RepC.keep hk hρ⟩
  | any => trivial
  | _ => simp only [RepG] at h ⊢; exact RepC.keep hk hρ h

theorem RepT.keep {ρ ρ' : Env} {a : AV} {v : Value} (hk : Keep w M w' M') (hρ : ∀ k o, ρ k = some o → ρ' k = some o) (h : RepT ρ w M a v) : RepT ρ' w' M' a v := by
  cases a with
  | agg l => obtain ⟨cs, h1, h2⟩ := h; exact ⟨cs, h1, h2.imp fun _ _ => RepC.keep hk hρ⟩
  | tup l => obtain ⟨cs, h1, h2⟩ := h; exact ⟨cs, h1, h2.imp fun _ _ => RepG.keep hk hρ⟩
  | fn f l => obtain ⟨cs, h1, h2⟩ := h; exact ⟨cs, h1, h2.imp fun _ _ => RepC.keep hk hρ⟩
  | any => trivial
  | _ => simp only [RepT] at h ⊢; exact RepC.keep hk hρ h

theorem cell_of_heap {b : Nat} {cs : Array Value} {ty : TypeId} {fz : Nat × Nat} (h : w.heap[b]? = some (.cells cs ty fz)) (off : Nat) : w.cell? ⟨b, off, none⟩ = cs[off]? := by
  simp [World.cell?, h]

theorem cell_none {b : Nat} (h : w.heap.size ≤ b) (off : Nat) : w.cell? ⟨b, off, none⟩ = none := by
  simp [World.cell?, Array.getElem?_eq_none h]

theorem cell_lt {b off : Nat} {c : Value} (h : w.cell? ⟨b, off, none⟩ = some c) : b < w.heap.size := by
  rcases Nat.lt_or_ge b w.heap.size with h' | h'
  · exact h'
  · rw [cell_none h'] at h; cases h

theorem Stp.weaken {M1 M2 : Msk} (h : Stp M1 w w') (hm : ∀ b off, M1 b off → M2 b off) : Stp M2 w w' :=
  ⟨h.1, fun b hb => (h.2 b hb).imp id fun ⟨c1, c2, t, h1, h2, h3, h4⟩ => ⟨c1, c2, t, h1, h2, h3, fun off hn => h4 off fun hh => hn (hm b off hh)⟩, h.3⟩

theorem Stp.refl (M : Msk) (w : World) : Stp M w w := ⟨Nat.le_refl _, fun _ _ => .inl rfl, rfl, rfl⟩

theorem Stp.cell (h : Stp M w w') {b off : Nat} {c : Value} (hc : w.cell? ⟨b, off, none⟩ = some c) (hm : ¬ M b off) : w'.cell? ⟨b, off, none⟩ = some c := by
  rcases h.2 b (cell_lt hc) with h1 | ⟨cs, cs', ty, h1, h2, _, h3⟩
  · simpa [World.cell?, h1] using hc
  · rw [cell_of_heap h1] at hc; rw [cell_of_heap h2, h3 off hm, hc]

theorem Stp.keep (h : Stp M w w') (hm : ∀ b off, b < w.heap.size → M' b off → M b off) : Keep w M w' M' :=
  fun b off _ hc hn => ⟨h.cell hc hn, fun hM => hn (hm b off (cell_lt hc) hM)⟩

theorem Stp.trans {w'' : World} (h : Stp M w w') (h' : Stp M' w' w'') (hm : ∀ b off, b < w.heap.size → M' b off → M b off) : Stp M w w'' := by
  refine ⟨Nat.le_trans h.1 h'.1, fun b hb => ?_, h'.3.1.trans h.3.1, h'.3.2.trans h.3.2⟩
  have hb' : b < w'.heap.size := Nat.lt_of_lt_of_le hb h.1
  rcases h.2 b hb with h1 | ⟨cs, cs', ty, h1, h2, h3, h4⟩
  · rcases h'.2 b hb' with h5 | ⟨ds, ds', ty, h5, h6, h7, h8⟩
    · exact .inl (h5.trans h1)
    · exact .inr ⟨ds, ds', ty, h1 ▸ h5, h6, h7, fun off hn => h8 off fun hM => hn (hm b off hb hM)⟩
  · rcases h'.2 b hb' with h5 | ⟨ds, ds', ty', h5, h6, h7, h8⟩
    · exact .inr ⟨cs, cs', ty, h1, h5.trans h2, h3, h4⟩
    · rw [h2] at h5
      cases h5
      exact .inr ⟨cs, ds', ty, h1, h6, h7.trans h3, fun off hn => (h8 off fun hM => hn (hm b off hb hM)).trans (h4 off hn)⟩

theorem Stp.heap (M : Msk) {w w' : World} (h : w'.heap = w.heap) (hio : w'.os = w.os ∧ w'.output = w.output := by exact ⟨rfl, rfl⟩) : Stp M w w' := ⟨by rw [h]; exact Nat.le_refl _, fun b _ => .inl (by rw [h]), hio⟩

theorem Stp.alloc (M : Msk) (w : World) (o : Obj) : Stp M w { w with heap := w.heap.push o } :=
  ⟨by simp, fun b hb => .inl (by simp [Array.getElem?_push, Nat.ne_of_lt hb]), rfl, rfl⟩

theorem Stp.set {b off : Nat} {cs : Array Value} {ty : TypeId} {c : Value} (h : w.heap[b]? = some (.cells cs ty (0, 0))) (hM : M b off) : Stp M w (w.setCell ⟨b, off, none⟩ c) := by
  have hb : b < w.heap.size := by
    rcases Nat.lt_or_ge b w.heap.size with h' | h'
    · exact h'
    · rw [Array.getElem?_eq_none h'] at h; cases h
  refine ⟨by simp [World.setCell], fun b' hb' => ?_, rfl, rfl⟩
  by_cases he : b' = b
  · subst he
    refine .inr ⟨cs, cs.setIfInBounds off c, ty, h, ?_, by simp, fun off' hn => ?_⟩
    · simp [World.setCell, Array.getElem?_modify, h]
    · have : off ≠ off' := fun e => hn (e ▸ hM)
      simp [Array.getElem?_setIfInBounds_ne this]
  · refine .inl ?_
    simp [World.setCell, Array.getElem?_modify, Ne.symm he]
end
end Go.AM
