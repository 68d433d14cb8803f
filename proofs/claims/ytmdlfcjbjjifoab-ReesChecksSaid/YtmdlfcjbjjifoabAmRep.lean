/- The abstract machine: what its values and stores say of a world. -/
import Derived.Test.YtmdlfcjbjjifoabAmDefs
namespace Go.AM
open Go

abbrev LB : Nat := 140737488355328

structure Sl where
  blk : Option Nat
  len : Nat
  cap : Nat
  sz : Nat

inductive Own where
  | sl (o : Sl) | bx (b : Nat) | mp (b : Nat) | dp (o : Sl) (rows : List Sl)

def Sl.val (o : Sl) : Value := .slice (o.blk.map fun b => ⟨b, 0, none⟩) o.len o.cap
/-- What a pointer into what is owned is (a map: the map). -/
def Own.ref : Own → Nat → Option Value
  | .bx b, off => some (.pointer (some ⟨b, off, none⟩)) | .mp b, _ => some (.map (some b)) | _, _ => none
/-- The slice that is owned. -/
def Own.sli : Own → Option Sl
  | .sl o => some o | .dp o _ => some o | _ => none
abbrev Env := Nat → Option Own
abbrev Msk := Nat → Nat → Prop

def isCell : Value → Prop
  | .agg _ => False | .tuple _ => False | _ => True

/-- A slice value of m elements whose n cells can be read, are not owned, and are as C says. -/
def SlOf (w : World) (M : Msk) (n : Nat) (C : Nat → Value → Prop) (m : Nat) (v : Value) : Prop :=
  ∃ a cap, v = .slice a m cap ∧ m ≤ cap ∧ (n = 0 ∨ ∃ b off, a = some ⟨b, off, none⟩ ∧ ∀ q, q < n → ∃ c, w.cell? ⟨b, off + q, none⟩ = some c ∧ ¬ M b (off + q) ∧ C q c)

def RO.sz : RO → Nat
  | .pairs _ => 2 | _ => 1
def RO.cells (r : RO) : Nat := r.len * r.sz

def SlI (w : World) (M : Msk) (k : IntKind) (l : List Int) (v : Value) : Prop :=
  l.length ≤ LB ∧ SlOf w M l.length (fun q c => c = .int k (l.getD q 0) ∧ inK k (l.getD q 0)) l.length v
def SlB (w : World) (M : Msk) (l : List Bool) (v : Value) : Prop :=
  l.length ≤ LB ∧ SlOf w M l.length (fun q c => c = .bool (l.getD q false)) l.length v
def Sl2 (w : World) (M : Msk) (k : IntKind) (l : List (List Int)) (v : Value) : Prop :=
  l.length ≤ LB ∧ SlOf w M l.length (fun q c => SlI w M k (l.getD q []) c) l.length v

def CellP (w : World) (M : Msk) : RO → Nat → Value → Prop
  | .ints k l, q, c => c = .int k (l.getD q 0) ∧ inK k (l.getD q 0)
  | .bools l, q, c => c = .bool (l.getD q false)
  | .rows k l, q, c => SlI w M k (l.getD q []) c
  | .brows l, q, c => SlB w M (l.getD q []) c
  | .rows3 l, q, c => Sl2 w M .i64 (l.getD q []) c
  | .pairs l, q, c => if q % 2 = 0 then c = .int .i64 (l.getD (q / 2) (0, 0)).1 ∧ inK .i64 (l.getD (q / 2) (0, 0)).1 else c = .int .i64 (l.getD (q / 2) (0, 0)).2 ∧ inK .i64 (l.getD (q / 2) (0, 0)).2

def RepRO (w : World) (M : Msk) (r : RO) (v : Value) : Prop := r.len ≤ LB ∧ SlOf w M r.cells (CellP w M r) r.len v

theorem bind_isSome {α β : Type} {x : Option α} {f : α → Option β} {b : β} (h : x.bind f = some b) : x.isSome = true := by cases x with | none => cases h | some a => rfl
theorem ref_some {ρ : Env} {k off : Nat} {v : Value} (h : (ρ k).bind (Own.ref · off) = some v) : ∃ b, (ρ k = some (.bx b) ∧ v = .pointer (some ⟨b, off, none⟩)) ∨ (ρ k = some (.mp b) ∧ v = .map (some b)) := by
  cases ho : ρ k with
  | none => rw [ho] at h; cases h
  | some o =>
    rw [ho] at h
    cases o with
    | bx b => cases h; exact ⟨b, .inl ⟨rfl, rfl⟩⟩
    | mp b => cases h; exact ⟨b, .inr ⟨rfl, rfl⟩⟩
    | _ => cases h
theorem ref_bx {ρ : Env} {k off b : Nat} {v : Value} (hk : ρ k = some (.bx b)) (h : (ρ k).bind (Own.ref · off) = some v) : v = .pointer (some ⟨b, off, none⟩) := by rw [hk] at h; cases h; rfl
theorem ref_mp {ρ : Env} {k off b : Nat} {v : Value} (hk : ρ k = some (.mp b)) (h : (ρ k).bind (Own.ref · off) = some v) : v = .map (some b) := by rw [hk] at h; cases h; rfl
theorem of_bx {ρ : Env} {k b : Nat} (off : Nat) (hk : ρ k = some (.bx b)) : (ρ k).bind (Own.ref · off) = some (.pointer (some ⟨b, off, none⟩)) := by rw [hk]; rfl
theorem of_mp {ρ : Env} {k b : Nat} (off : Nat) (hk : ρ k = some (.mp b)) : (ρ k).bind (Own.ref · off) = some (.map (some b)) := by rw [hk]; rfl
theorem sli_sl {ρ : Env} {k : Nat} {o o' : Sl} (hk : ρ k = some (.sl o)) (h : (ρ k).bind Own.sli = some o') : o' = o := by rw [hk] at h; cases h; rfl
theorem of_sl {ρ : Env} {k : Nat} {o : Sl} (hk : ρ k = some (.sl o)) : (ρ k).bind Own.sli = some o := by rw [hk]; rfl
theorem of_dp {ρ : Env} {k : Nat} {o : Sl} {rows : List Sl} (hk : ρ k = some (.dp o rows)) : (ρ k).bind Own.sli = some o := by rw [hk]; rfl

def RepC (ρ : Env) (w : World) (M : Msk) : AV → Value → Prop
  | .int k n, v => v = .int k n ∧ inK k n
  | .bool e, v => v = .bool e.val
  | .ro r, v => RepRO w M r v
  | .vec k, v => ∃ o, (ρ k).bind Own.sli = some o ∧ v = o.val
  | .ptr k off, v => (ρ k).bind (Own.ref · off) = some v
  | .nils, v => v = .slice none 0 0
  | .any, v => isCell v
  | .fn f [], v => v = .func (.func f) #[] #[]
  | .rptr r i, v => ∃ b off cap, RepRO w M r (.slice (some ⟨b, off, none⟩) r.len cap) ∧ 0 ≤ i ∧ i < r.len ∧ v = .pointer (some ⟨b, off + i.toNat * r.sz, none⟩)
  | .vptr k i, v => ∃ o b, (ρ k).bind Own.sli = some o ∧ o.blk = some b ∧ 0 ≤ i ∧ i < o.len ∧ v = .pointer (some ⟨b, i.toNat * o.sz, none⟩)
  | _, _ => False

def RepL (R : AV → Value → Prop) : List AV → List Value → Prop
  | [], [] => True
  | a :: l, v :: m => R a v ∧ RepL R l m
  | _, _ => False

def RepG (ρ : Env) (w : World) (M : Msk) : AV → Value → Prop
  | .agg l, v => ∃ cs, v = .agg cs ∧ RepL (RepC ρ w M) l cs.toList
  | .any, _ => True
  | a, v => RepC ρ w M a v

def RepT (ρ : Env) (w : World) (M : Msk) : AV → Value → Prop
  | .agg l, v => ∃ cs, v = .agg cs ∧ RepL (RepC ρ w M) l cs.toList
  | .tup l, v => ∃ cs, v = .tuple cs ∧ RepL (RepG ρ w M) l cs.toList
  | .fn f l, v => ∃ cs, v = .func (.func f) #[] cs ∧ RepL (RepC ρ w M) l cs.toList
  | .any, _ => True
  | a, v => RepC ρ w M a v

/-- The array of an owned slice. -/
def VecH (ρ : Env) (w : World) (M : Msk) (o : Sl) (wm : Nat) (r : RO) (ov : List (Int × Nat)) : Prop :=
  o.len = r.len ∧ o.sz = r.sz ∧ r.len ≤ LB ∧ wm ≤ r.len ∧
  match o.blk with
  | none => r.len = 0 ∧ o.cap = 0
  | some b => o.len ≤ o.cap ∧ ∃ cs ty, w.heap[b]? = some (.cells cs ty (0, 0)) ∧ cs.size = o.cap * o.sz ∧
      (∀ off, M b off ↔ wm * o.sz ≤ off ∧ off < cs.size) ∧
      ∀ q, q < r.cells → ∃ c, cs[q]? = some c ∧ match ov with
        | [] => CellP w M r q c
        | (i, j) :: _ => if (q : Int) = i then RepC ρ w M (.vec j) c else CellP w M r q c

/-- A key, a value and the entries of a map. -/
def KeyV : KeyD → List Int → Value → Prop
  | .int k, l, v => ∃ n, l = [n] ∧ v = .int k n ∧ inK k n
  | .arr n k, l, v => l.length = n ∧ v = .agg (l.map fun x => Value.int k x).toArray ∧ ∀ x ∈ l, inK k x
def ValV : Option IntKind → Int → Value → Prop
  | some k, n, v => v = .int k n ∧ inK k n
  | none, n, v => v = .bool (decide (n ≠ 0)) ∧ (n = 0 ∨ n = 1)
def RepM (kd : KeyD) (vk : Option IntKind) : List (List Int × Int) → List MapEntry → Prop
  | [], [] => True
  | p :: m, e :: es => (KeyV kd p.1 e.key ∧ ValV vk p.2 e.val) ∧ RepM kd vk m es
  | _, _ => False

/-- A row. -/
def RO.row : RO → Nat → RO
  | .rows k l, q => .ints k (l.getD q []) | .brows l, q => .bools (l.getD q []) | .rows3 l, q => .rows .i64 (l.getD q []) | r, _ => r
def nilSl : Sl := ⟨none, 0, 0, 1⟩

/-- Rows that are owned one by one. -/
structure DeepH (w : World) (M : Msk) (o : Sl) (rows : List Sl) (r : RO) (hole : Option Int) : Prop where
  rq : rowsQ r = true
  len : o.len = r.len
  osz : o.sz = 1
  lb : r.len ≤ LB
  rlen : rows.length = r.len
  outer : match o.blk with
    | none => r.len = 0 ∧ o.cap = 0
    | some b => o.len ≤ o.cap ∧ ∃ cs ty, w.heap[b]? = some (.cells cs ty (0, 0)) ∧ cs.size = o.cap ∧ (∀ off, M b off ↔ off < cs.size) ∧ ∀ q, q < r.len → ∃ c, cs[q]? = some c ∧ (hole = some (q : Int) ∨ c = (rows.getD q nilSl).val)
  row : ∀ q, q < r.len → hole ≠ some (q : Int) → VecH (fun _ => none) w M (rows.getD q nilSl) 0 (r.row q) []
  hol : ∀ i, hole = some i → (0 ≤ i ∧ i < r.len) ∧ (rows.getD i.toNat nilSl).blk = none
  out : ∀ q b, (rows.getD q nilSl).blk = some b → o.blk ≠ some b
  apart : ∀ q q' b, (rows.getD q nilSl).blk = some b → (rows.getD q' nilSl).blk = some b → q = q'

def BlkH (ρ : Env) (w : World) (M : Msk) (k : Nat) : Blk → Prop
  | .map kd vk m => ∃ b, ρ k = some (.mp b) ∧ ∃ es n, w.heap[b]? = some (.map es n) ∧ (∀ off, M b off ↔ off = 0) ∧ RepM kd vk m es.toList
  | .deep r hole => ∃ o rows, ρ k = some (.dp o rows) ∧ DeepH w M o rows r hole
  | .vec wm r ov => (∃ o, ρ k = some (.sl o) ∧ VecH ρ w M o wm r ov) ∧ (ov = [] ∨ ∃ i j, ov = [(i, j)] ∧ rowsQ r = true ∧ wm = 0 ∧ 0 ≤ i ∧ i < r.len)
  | .box l => ∃ b, ρ k = some (.bx b) ∧ ∃ cs ty, w.heap[b]? = some (.cells cs ty (0, 0)) ∧ (∀ off, M b off ↔ off < cs.size) ∧ RepL (RepC ρ w M) l cs.toList

def Own.has : Own → Nat → Prop
  | .sl o, b => o.blk = some b | .bx b', b => b' = b | .mp b', b => b' = b
  | .dp o rows, b => o.blk = some b ∨ ∃ q, (rows.getD q nilSl).blk = some b
/-- The key's blocks. -/
def hasB (ρ : Env) (k b : Nat) : Prop := match ρ k with | some o => o.has b | none => False

/-- From w to w' only cells of M (and new blocks) differ. -/
structure Stp (M : Msk) (w w' : World) : Prop where
  size : w.heap.size ≤ w'.heap.size
  blocks : ∀ b, b < w.heap.size → w'.heap[b]? = w.heap[b]? ∨
    (∃ cs cs' ty, w.heap[b]? = some (.cells cs ty (0, 0)) ∧ w'.heap[b]? = some (.cells cs' ty (0, 0)) ∧ cs'.size = cs.size ∧ ∀ off, ¬ M b off → cs'[off]? = cs[off]?) ∨
    ∃ es es' n n', w.heap[b]? = some (.map es n) ∧ w'.heap[b]? = some (.map es' n') ∧ M b 0
  io : w'.os = w.os ∧ w'.output = w.output

/-- What stood when the function was entered: the cells that are owned, the blocks that are lent to it, and what their keys stand for. -/
structure Base where
  mask : Msk
  lent : Nat → Prop
  env : Env

structure St (M0 : Base) (w0 : World) (ρ : Env) (M : Msk) (S : Store) (w : World) : Prop where
  dom : ∀ k, (ρ k).isSome = (findS S k).isSome
  blk : ∀ k B, findS S k = some B → BlkH ρ w M k B
  inj : ∀ k k' b, hasB ρ k b → hasB ρ k' b → k = k'
  mlt : ∀ b off, M b off → b < w.heap.size
  stp : Stp (fun b off => M0.lent b ∧ M0.mask b off) w0 w
  sub : ∀ b off, b < w0.heap.size → M b off → M0.mask b off
  old : ∀ b off, b < w0.heap.size → ¬ M0.lent b → M0.mask b off → M b off
  fresh : ∀ k b, hasB ρ k b → w0.heap.size ≤ b ∨ M0.lent b
  pin : ∀ k o, loc k = false → ρ k = some o → M0.env k = some o

theorem St.notFresh {M0 : Base} {w0 w : World} {ρ : Env} {M : Msk} {S : Store} (st : St M0 w0 ρ M S w) {k b : Nat} (hb : b < w0.heap.size) (hl : ¬ M0.lent b) : ¬ hasB ρ k b :=
  fun h => (st.fresh k b h).elim (fun h => absurd hb (Nat.not_lt_of_le h)) hl

structure Tm (ρ : Env) (w : World) (M : Msk) (T : List AV) (a : Act) : Prop where
  defers : a.defers = []
  size : a.tmps.size = T.length
  tmp : ∀ i, RepT ρ w M (nth T i) (a.tmps.getD i undef)

/-! ### Readings last -/

def Keep (w : World) (M : Msk) (w' : World) (M' : Msk) : Prop :=
  ∀ b off c, w.cell? ⟨b, off, none⟩ = some c → ¬ M b off → w'.cell? ⟨b, off, none⟩ = some c ∧ ¬ M' b off

section
variable {w w' : World} {M M' : Msk}

theorem Keep.refl (w : World) (M : Msk) : Keep w M w M := fun _ _ _ h h' => ⟨h, h'⟩

theorem SlOf.keep {n m : Nat} {C C' : Nat → Value → Prop} {v : Value} (hk : Keep w M w' M') (hC : ∀ q c, C q c → C' q c)
    (h : SlOf w M n C m v) : SlOf w' M' n C' m v := by
  obtain ⟨a, cap, rfl, hcap, h⟩ := h
  refine ⟨a, cap, rfl, hcap, ?_⟩
  rcases h with h | ⟨b, off, rfl, h⟩
  · exact .inl h
  · refine .inr ⟨b, off, rfl, fun q hq => ?_⟩
    obtain ⟨c, h1, h2, h3⟩ := h q hq
    obtain ⟨h4, h5⟩ := hk _ _ _ h1 h2
    exact ⟨c, h4, h5, hC _ _ h3⟩

theorem SlI.keep {k : IntKind} {l : List Int} {v : Value} (hk : Keep w M w' M') (h : SlI w M k l v) : SlI w' M' k l v := ⟨h.1, h.2.keep hk fun _ _ h => h⟩
theorem SlB.keep {l : List Bool} {v : Value} (hk : Keep w M w' M') (h : SlB w M l v) : SlB w' M' l v := ⟨h.1, h.2.keep hk fun _ _ h => h⟩
theorem Sl2.keep {k : IntKind} {l : List (List Int)} {v : Value} (hk : Keep w M w' M') (h : Sl2 w M k l v) : Sl2 w' M' k l v := ⟨h.1, h.2.keep hk fun _ _ h => h.keep hk⟩

theorem CellP.keep {r : RO} {q : Nat} {c : Value} (hk : Keep w M w' M') (h : CellP w M r q c) : CellP w' M' r q c := by
  cases r <;> first | exact h | exact SlI.keep hk h | exact SlB.keep hk h | exact Sl2.keep hk h

theorem RepRO.keep {r : RO} {v : Value} (hk : Keep w M w' M') (h : RepRO w M r v) : RepRO w' M' r v := ⟨h.1, h.2.keep hk fun _ _ h => h.keep hk⟩

theorem bind_keep {α β : Type} {x y : Option α} {f : α → Option β} {b : β} (h : ∀ o, x = some o → y = some o) (hx : x.bind f = some b) : y.bind f = some b := by
  cases x with
  | none => cases hx
  | some a => rw [h a rfl]; exact hx

theorem RepC.keep {ρ ρ' : Env} {a : AV} {v : Value} (hk : Keep w M w' M') (hρ : ∀ k o, ρ k = some o → ρ' k = some o) (h : RepC ρ w M a v) : RepC ρ' w' M' a v := by
  cases a with
  | ro r => exact RepRO.keep hk h
  | vec k => obtain ⟨o, h1, h2⟩ := h; exact ⟨o, bind_keep (hρ k) h1, h2⟩
  | ptr k off => exact bind_keep (hρ k) h
  | rptr r i => obtain ⟨b, off, cap, h1, h2⟩ := h; exact ⟨b, off, cap, h1.keep hk, h2⟩
  | vptr k i => obtain ⟨o, b, h1, h2⟩ := h; exact ⟨o, b, bind_keep (hρ k) h1, h2⟩
  | fn f l => cases l <;> exact h
  | _ => exact h

theorem RepL.imp {R R' : AV → Value → Prop} (hR : ∀ a v, R a v → R' a v) : ∀ {l : List AV} {m : List Value}, RepL R l m → RepL R' l m
  | [], [], _ => trivial
  | _ :: _, _ :: _, h => ⟨hR _ _ h.1, RepL.imp hR h.2⟩
  | [], _ :: _, h => h.elim
  | _ :: _, [], h => h.elim

theorem RepL.length {R : AV → Value → Prop} : ∀ {l : List AV} {m : List Value}, RepL R l m → l.length = m.length
  | [], [], _ => rfl
  | _ :: _, _ :: _, h => by simp [RepL.length h.2]
  | [], _ :: _, h => h.elim
  | _ :: _, [], h => h.elim

theorem RepG.keep {ρ ρ' : Env} {a : AV} {v : Value} (hk : Keep w M w' M') (hρ : ∀ k o, ρ k = some o → ρ' k = some o) (h : RepG ρ w M a v) : RepG ρ' w' M' a v := by
  cases a with
  | agg l => obtain ⟨cs, h1, h2⟩ := h; exact ⟨cs, h1, h2.imp fun _ _ => RepC.keep hk hρ⟩
  | any => trivial
  | _ => simp only [RepG] at h ⊢; exact RepC.keep hk hρ h

theorem RepT.keep {ρ ρ' : Env} {a : AV} {v : Value} (hk : Keep w M w' M') (hρ : ∀ k o, ρ k = some o → ρ' k = some o) (h : RepT ρ w M a v) : RepT ρ' w' M' a v := by
  cases a with
  | agg l => obtain ⟨cs, h1, h2⟩ := h; exact ⟨cs, h1, h2.imp fun _ _ => RepC.keep hk hρ⟩
  | tup l => obtain ⟨cs, h1, h2⟩ := h; exact ⟨cs, h1, h2.imp fun _ _ => RepG.keep hk hρ⟩
  | fn f l => obtain ⟨cs, h1, h2⟩ := h; exact ⟨cs, h1, h2.imp fun _ _ => RepC.keep hk hρ⟩
  | any => trivial
  | _ => simp only [RepT] at h ⊢; exact RepC.keep hk hρ h

theorem cell_of_heap {b : Nat} {cs : Array Value} {ty : TypeId} {fz : Nat × Nat} (h : w.heap[b]? = some (.cells cs ty fz)) (off : Nat) : w.cell? ⟨b, off, none⟩ = cs[off]? := by
  simp [World.cell?, h]

theorem cell_none {b : Nat} (h : w.heap.size ≤ b) (off : Nat) : w.cell? ⟨b, off, none⟩ = none := by
  simp [World.cell?, Array.getElem?_eq_none h]

theorem cell_lt {b off : Nat} {c : Value} (h : w.cell? ⟨b, off, none⟩ = some c) : b < w.heap.size := by
  rcases Nat.lt_or_ge b w.heap.size with h' | h'
  · exact h'
  · rw [cell_none h'] at h; cases h

theorem Stp.weaken {M1 M2 : Msk} (h : Stp M1 w w') (hm : ∀ b off, M1 b off → M2 b off) : Stp M2 w w' :=
  ⟨h.1, fun b hb => (h.2 b hb).imp id fun hh => hh.imp (fun ⟨c1, c2, t, h1, h2, h3, h4⟩ => ⟨c1, c2, t, h1, h2, h3, fun off hn => h4 off fun hh => hn (hm b off hh)⟩) (fun ⟨e1, e2, n1, n2, h1, h2, h3⟩ => ⟨e1, e2, n1, n2, h1, h2, hm b 0 h3⟩), h.3⟩

theorem Stp.refl (M : Msk) (w : World) : Stp M w w := ⟨Nat.le_refl _, fun _ _ => .inl rfl, rfl, rfl⟩

theorem Stp.cell (h : Stp M w w') {b off : Nat} {c : Value} (hc : w.cell? ⟨b, off, none⟩ = some c) (hm : ¬ M b off) : w'.cell? ⟨b, off, none⟩ = some c := by
  rcases h.2 b (cell_lt hc) with h1 | ⟨cs, cs', ty, h1, h2, _, h3⟩ | ⟨es, es', n, n', h1, h2, h3⟩
  · simpa [World.cell?, h1] using hc
  · rw [cell_of_heap h1] at hc; rw [cell_of_heap h2, h3 off hm, hc]
  · simp [World.cell?, h1] at hc

theorem Stp.keep (h : Stp M w w') (hm : ∀ b off, b < w.heap.size → M' b off → M b off) : Keep w M w' M' :=
  fun b off _ hc hn => ⟨h.cell hc hn, fun hM => hn (hm b off (cell_lt hc) hM)⟩

theorem Stp.trans {w'' : World} (h : Stp M w w') (h' : Stp M' w' w'') (hm : ∀ b off, b < w.heap.size → M' b off → M b off) : Stp M w w'' := by
  refine ⟨Nat.le_trans h.1 h'.1, fun b hb => ?_, h'.3.1.trans h.3.1, h'.3.2.trans h.3.2⟩
  have hb' : b < w'.heap.size := Nat.lt_of_lt_of_le hb h.1
  rcases h.2 b hb with h1 | ⟨cs, cs', ty, h1, h2, h3, h4⟩ | ⟨es, es', n, n', h1, h2, h3⟩
  · rcases h'.2 b hb' with h5 | ⟨ds, ds', ty, h5, h6, h7, h8⟩ | ⟨ds, ds', m, m', h5, h6, h7⟩
    · exact .inl (h5.trans h1)
    · exact .inr (.inl ⟨ds, ds', ty, h1 ▸ h5, h6, h7, fun off hn => h8 off fun hM => hn (hm b off hb hM)⟩)
    · exact .inr (.inr ⟨ds, ds', m, m', h1 ▸ h5, h6, hm b 0 hb h7⟩)
  · rcases h'.2 b hb' with h5 | ⟨ds, ds', ty', h5, h6, h7, h8⟩ | ⟨ds, ds', m, m', h5, h6, h7⟩
    · exact .inr (.inl ⟨cs, cs', ty, h1, h5.trans h2, h3, h4⟩)
    · rw [h2] at h5
      cases h5
      exact .inr (.inl ⟨cs, ds', ty, h1, h6, h7.trans h3, fun off hn => (h8 off fun hM => hn (hm b off hb hM)).trans (h4 off hn)⟩)
    · rw [h2] at h5; cases h5
  · rcases h'.2 b hb' with h5 | ⟨ds, ds', ty', h5, h6, h7, h8⟩ | ⟨ds, ds', m, m', h5, h6, h7⟩
    · exact .inr (.inr ⟨es, es', n, n', h1, h5.trans h2, h3⟩)
    · rw [h2] at h5; cases h5
    · exact .inr (.inr ⟨es, ds', n, m', h1, h6, h3⟩)

theorem Stp.heap (M : Msk) {w w' : World} (h : w'.heap = w.heap) (hio : w'.os = w.os ∧ w'.output = w.output := by exact ⟨rfl, rfl⟩) : Stp M w w' := ⟨by rw [h]; exact Nat.le_refl _, fun b _ => .inl (by rw [h]), hio⟩

theorem Stp.alloc (M : Msk) (w : World) (o : Obj) : Stp M w { w with heap := w.heap.push o } :=
  ⟨by simp, fun b hb => .inl (by simp [Array.getElem?_push, Nat.ne_of_lt hb]), rfl, rfl⟩

theorem Stp.set {b off : Nat} {cs : Array Value} {ty : TypeId} {c : Value} (h : w.heap[b]? = some (.cells cs ty (0, 0))) (hM : M b off) : Stp M w (w.setCell ⟨b, off, none⟩ c) := by
  have hb : b < w.heap.size := by
    rcases Nat.lt_or_ge b w.heap.size with h' | h'
    · exact h'
    · rw [Array.getElem?_eq_none h'] at h; cases h
  refine ⟨by simp [World.setCell], fun b' hb' => ?_, rfl, rfl⟩
  by_cases he : b' = b
  · subst he
    refine .inr (.inl ⟨cs, cs.setIfInBounds off c, ty, h, ?_, by simp, fun off' hn => ?_⟩)
    · simp [World.setCell, Array.getElem?_modify, h]
    · have : off ≠ off' := fun e => hn (e ▸ hM)
      simp [Array.getElem?_setIfInBounds_ne this]
  · refine .inl ?_
    simp [World.setCell, Array.getElem?_modify, Ne.symm he]

theorem VecH.ext0 {ρ ρ' : Env} {o : Sl} {wm : Nat} {r : RO} (hk : Keep w M w' M') (hb : ∀ b, o.blk = some b → w'.heap[b]? = w.heap[b]? ∧ ∀ off, M' b off ↔ M b off) (h : VecH ρ w M o wm r []) : VecH ρ' w' M' o wm r [] := by
  obtain ⟨h1, h2, h3, h4, h5⟩ := h
  refine ⟨h1, h2, h3, h4, ?_⟩
  cases ho : o.blk with
  | none => simp only [ho] at h5 ⊢; exact h5
  | some b =>
    simp only [ho] at h5 ⊢
    obtain ⟨h6, cs, ty, h7, h8, h9, h10⟩ := h5
    have := hb b ho
    refine ⟨h6, cs, ty, by rw [this.1]; exact h7, h8, fun off => (this.2 off).trans (h9 off), fun q hq => ?_⟩
    obtain ⟨c, h11, h12⟩ := h10 q hq
    exact ⟨c, h11, h12.keep hk⟩

theorem DeepH.ext {o : Sl} {rows : List Sl} {r : RO} {hole : Option Int} (hk : Keep w M w' M') (hb : ∀ b, (Own.dp o rows).has b → w'.heap[b]? = w.heap[b]? ∧ ∀ off, M' b off ↔ M b off) (h : DeepH w M o rows r hole) : DeepH w' M' o rows r hole := by
  refine ⟨h.rq, h.len, h.osz, h.lb, h.rlen, ?_, fun q hq hh => (h.row q hq hh).ext0 hk fun b hb' => hb b (.inr ⟨q, hb'⟩), h.hol, h.out, h.apart⟩
  have h5 := h.outer
  cases ho : o.blk with
  | none => simp only [ho] at h5 ⊢; exact h5
  | some b =>
    simp only [ho] at h5 ⊢
    obtain ⟨h6, cs, ty, h7, h8, h9, h10⟩ := h5
    have := hb b (.inl ho)
    exact ⟨h6, cs, ty, by rw [this.1]; exact h7, h8, fun off => (this.2 off).trans (h9 off), h10⟩

theorem DeepH.in {o : Sl} {rows : List Sl} {r : RO} {hole : Option Int} (h : DeepH w M o rows r hole) {q b : Nat} (hb : (rows.getD q nilSl).blk = some b) : q < r.len ∧ hole ≠ some (q : Int) := by
  have h1 : q < r.len := by
    rcases Nat.lt_or_ge q r.len with h' | h'
    · exact h'
    · have h2 : rows[q]? = none := List.getElem?_eq_none (by rw [h.rlen]; exact h')
      rw [List.getD, h2] at hb; cases hb
  exact ⟨h1, fun hh => by have := (h.hol _ hh).2; rw [Int.toNat_natCast, hb] at this; cases this⟩

theorem DeepH.cells {o : Sl} {rows : List Sl} {r : RO} {hole : Option Int} (h : DeepH w M o rows r hole) {b : Nat} (hb : (Own.dp o rows).has b) : ∃ cs ty, w.heap[b]? = some (.cells cs ty (0, 0)) := by
  rcases hb with hb | ⟨q, hb⟩
  · have h5 := h.outer
    simp only [hb] at h5
    obtain ⟨_, cs, ty, h7, _⟩ := h5
    exact ⟨cs, ty, h7⟩
  · obtain ⟨h1, h2⟩ := h.in hb
    obtain ⟨_, _, _, _, h5⟩ := h.row q h1 h2
    simp only [hb] at h5
    obtain ⟨_, cs, ty, h7, _⟩ := h5
    exact ⟨cs, ty, h7⟩
end
end Go.AM
