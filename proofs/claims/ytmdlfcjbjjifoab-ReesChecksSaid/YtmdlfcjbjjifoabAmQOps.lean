/- The abstract machine: the quiet operations, one by one. -/
import Derived.Test.YtmdlfcjbjjifoabAmQuiet
namespace Go.AM
open Go

section
variable {P : Program} {TY : List TyE}

theorem TyRow.size {t : Nat} {E : TyE} (h : TyRow P t E) (w : World) : (sizeOf t).run P w = .ok E.sz w := by
  obtain ⟨i, u, h1, _, h3, _⟩ := h.row
  simp [sizeOf, typeInfo, h1, h3]

theorem TyRow.agg {t : Nat} {E : TyE} (h : TyRow P t E) (w : World) : (isAgg t).run P w = .ok (isAggD E.d) w := by
  obtain ⟨i, u, h1, h2, h3, h4, h5, _⟩ := h.row
  cases hd : E.d <;> cases u <;> simp_all [descOK, isAgg, underlying, isAggD]

theorem TyRow.under {t : Nat} {E : TyE} (h : TyRow P t E) : ∃ u, P.underlying t = some u ∧ descOK E.d u ∧ ∀ w, (underlying t).run P w = .ok u w := by
  obtain ⟨i, u, h1, h2, h3, h4, h5, _⟩ := h.row
  exact ⟨u, h2, h5, fun w => by simp [underlying, h2]⟩

theorem addr_add (b off n : Nat) : (⟨b, off, none⟩ : Addr).add n = ⟨b, off + n, none⟩ := by
  unfold Addr.add
  split
  · rename_i h; subst h; rfl
  · rfl

theorem RepL.get {R : AV → Value → Prop} : ∀ {l : List AV} {m : List Value}, RepL R l m → ∀ i, i < l.length → ∃ v, m[i]? = some v ∧ R (nth l i) v
  | [], [], _, i, hi => by simp at hi
  | a :: l, v :: m, h, 0, _ => ⟨v, rfl, h.1⟩
  | a :: l, v :: m, h, i + 1, hi => by obtain ⟨u, h1, h2⟩ := RepL.get h.2 i (by simpa using hi); exact ⟨u, by simpa using h1, h2⟩
  | [], _ :: _, h, _, _ => h.elim
  | _ :: _, [], h, _, _ => h.elim

theorem RepL.drop {R : AV → Value → Prop} : ∀ {l : List AV} {m : List Value} (n : Nat), RepL R l m → RepL R (l.drop n) (m.drop n)
  | _, _, 0, h => by simpa using h
  | [], [], _ + 1, _ => trivial
  | a :: l, v :: m, n + 1, h => by simpa using RepL.drop n h.2
  | [], _ :: _, _ + 1, h => h.elim
  | _ :: _, [], _ + 1, h => h.elim

theorem RepL.take {R : AV → Value → Prop} : ∀ {l : List AV} {m : List Value} (n : Nat), RepL R l m → RepL R (l.take n) (m.take n)
  | _, _, 0, _ => by simp; trivial
  | [], [], _ + 1, _ => trivial
  | a :: l, v :: m, n + 1, h => by show RepL R (a :: l.take n) (v :: m.take n); exact ⟨h.1, RepL.take n h.2⟩
  | [], _ :: _, _ + 1, h => h.elim
  | _ :: _, [], _ + 1, h => h.elim

theorem RepL.append {R : AV → Value → Prop} : ∀ {l l' : List AV} {m m' : List Value}, RepL R l m → RepL R l' m' → RepL R (l ++ l') (m ++ m')
  | [], _, [], _, _, h' => h'
  | _ :: _, _, _ :: _, _, h, h' => ⟨h.1, RepL.append h.2 h'⟩
  | [], _, _ :: _, _, h, _ => h.elim
  | _ :: _, _, [], _, h, _ => h.elim

theorem take_nth (l : List AV) (n : Nat) : (l.drop n).head? = if n < l.length then some (nth l n) else none := by
  induction l generalizing n with
  | nil => simp
  | cons a l ih => cases n with
    | zero => simp [nth]
    | succ n => simpa [nth] using ih n

/-- A part of cells, as it is read. -/
theorem part_iff {t : Nat} {l : List AV} {off : Nat} {K : AV → Prop} (h : partK TY t l off K) :
    ∃ a, K a ∧ off + (nthT TY t).sz ≤ l.length ∧ ((isAggD (nthT TY t).d = true ∧ a = .agg ((l.drop off).take (nthT TY t).sz)) ∨ (isAggD (nthT TY t).d = false ∧ (nthT TY t).sz = 1 ∧ a = nth l off)) := by
  have one : ∀ {K : AV → Prop}, ifK (Nat.beq (nthT TY t).sz 1) (dropK l off fun l => match l with | a :: _ => forceA a K | [] => False) → (nthT TY t).sz = 1 ∧ off + 1 ≤ l.length ∧ K (nth l off) := by
    intro K h
    rw [ifK_iff] at h
    obtain ⟨h1, h2⟩ := h
    obtain ⟨h3, h4⟩ := drop_iff h2
    refine ⟨beq_iff'.1 h1, ?_⟩
    have h5 := take_nth l off
    cases hd : l.drop off with
    | nil => rw [hd] at h4; exact h4.elim
    | cons a m =>
      rw [hd] at h4 h5
      have hlt : off < l.length := by
        rcases Nat.lt_or_ge off l.length with h' | h'
        · exact h'
        · rw [List.drop_eq_nil_of_le h'] at hd; cases hd
      simp [hlt] at h5
      exact ⟨hlt, by rw [← h5]; exact force_iff.1 h4⟩
  have two : (dropK l off fun l => takeK l (nthT TY t).sz fun m => K (.agg m)) → off + (nthT TY t).sz ≤ l.length ∧ K (.agg ((l.drop off).take (nthT TY t).sz)) := by
    intro h
    obtain ⟨h1, h2⟩ := drop_iff h
    obtain ⟨h3, h4⟩ := take_iff h2
    rw [List.length_drop] at h3
    exact ⟨by omega, h4⟩
  unfold partK at h
  cases hd : (nthT TY t).d <;> simp only [hd] at h <;> first
    | exact ⟨_, (two h).2, (two h).1, .inl ⟨rfl, rfl⟩⟩
    | (obtain ⟨h1, h2, h3⟩ := one h; exact ⟨_, h3, by omega, .inr ⟨rfl, h1, rfl⟩⟩)

theorem cells_two {v : AV} {n : Nat} {K : List AV → Prop} (h : match v with | .agg m => (match sameLen m n with | true => K m | false => False) | _ => False) :
    ∃ m, K m ∧ m.length = n ∧ v = .agg m := by
  split at h
  · rename_i m
    split at h
    · rename_i hs; exact ⟨m, h, same_len hs, rfl⟩
    · exact h.elim
  · exact h.elim

theorem cells_one {v : AV} {n : Nat} {K : List AV → Prop} (h : match cellOK v with | true => (match sameLen [v] n with | true => K [v] | false => False) | false => False) :
    K [v] ∧ 1 = n ∧ cellOK v = true := by
  split at h
  · rename_i hc
    split at h
    · rename_i hs; exact ⟨h, same_len hs, hc⟩
    · exact h.elim
  · exact h.elim

theorem cells_iff {t : Nat} {v : AV} {K : List AV → Prop} (h : asCellsK TY t v K) :
    ∃ m, K m ∧ m.length = (nthT TY t).sz ∧ ((isAggD (nthT TY t).d = true ∧ v = .agg m) ∨ (isAggD (nthT TY t).d = false ∧ cellOK v = true ∧ m = [v])) := by
  unfold asCellsK at h
  split at h <;> rename_i hd
  · obtain ⟨m, h1, h2, h3⟩ := cells_two h; exact ⟨m, h1, h2, .inl ⟨by rw [hd]; rfl, h3⟩⟩
  · obtain ⟨m, h1, h2, h3⟩ := cells_two h; exact ⟨m, h1, h2, .inl ⟨by rw [hd]; rfl, h3⟩⟩
  · rename_i hd2
    obtain ⟨h1, h2, h3⟩ := cells_one h
    refine ⟨[v], h1, h2, .inr ⟨?_, h3, rfl⟩⟩
    cases hx : (nthT TY t).d <;> first | rfl | (exact absurd hx (hd _)) | (exact absurd hx (hd2 _)) | (exact absurd hx (hd2 _ _)) | (exact absurd hx (hd _ _))

theorem cellOK_rep {ρ : Env} {w : World} {M : Msk} {a : AV} {v : Value} (h : cellOK a = true) (hv : RepT ρ w M a v) : RepC ρ w M a v := by
  cases a with
  | fn f l =>
    cases l with
    | nil => obtain ⟨cs, rfl, h2⟩ := hv; cases hcs : cs.toList with
      | nil => have : cs = #[] := by simpa using congrArg List.toArray hcs
               subst this; exact rfl
      | cons x l => rw [hcs] at h2; exact h2.elim
    | cons x l => cases h
  | agg l => cases h
  | tup l => cases h
  | any => cases h
  | _ => exact hv

theorem const_rep (ρ : Env) (w : World) (M : Msk) (v : Value) : RepT ρ w M (constA v) v := by
  unfold constA
  split
  · rename_i k n
    cases hf : fitB k n with
    | true => exact ⟨rfl, fit_in hf⟩
    | false => trivial
  · exact rfl
  · exact rfl
  · trivial

theorem eval_rep {ρ : Env} {w : World} {M : Msk} {T : List AV} {a : Act} (tm : Tm ρ w M T a) (x : Operand) : RepT ρ w M (evalF T x) (a.eval x) := by
  cases x with
  | tmp t => exact tm.tmp t
  | const v => exact const_rep _ _ _ _
  | global g => trivial
  | func f => exact ⟨#[], rfl, trivial⟩

/-! ### Numbers and truth -/

theorem wrap_rep {k : IntKind} {n : Int} {ρ : Env} {w : World} {M : Msk} (h : inK k n) : RepT ρ w M (.int k n) (.int k (k.wrap n)) := by
  rw [wrap_in h]; exact ⟨rfl, h⟩

theorem tdiv_in {k : IntKind} {a b : Int} (ha : inK k a) (h0 : 0 ≤ a) (hb : 0 < b) : inK k (a / b) := by
  have h1 : 0 ≤ a / b := Int.ediv_nonneg h0 (by omega)
  have h2 : a / b ≤ a := Int.ediv_le_self b h0
  have hmin : k.min ≤ 0 := by cases k <;> simp [IntKind.min, IntKind.bits, IntKind.signed]
  exact ⟨by omega, by have := ha.2; omega⟩

theorem mod_in {k : IntKind} {a b : Int} (hb' : inK k b) (hb : 0 < b) : inK k (a % b) := by
  have h1 : 0 ≤ a % b := Int.emod_nonneg _ (by omega)
  have h2 : a % b < b := Int.emod_lt_of_pos _ hb
  have hmin : k.min ≤ 0 := by cases k <;> simp [IntKind.min, IntKind.bits, IntKind.signed]
  exact ⟨by omega, by have := hb'.2; omega⟩

theorem fdiv_in {k : IntKind} {a : Int} (ha : inK k a) (n : Nat) : inK k (a.fdiv (2 ^ n)) := by
  have hp : (0 : Int) < 2 ^ n := Int.pow_pos (by decide)
  have hmin : k.min ≤ 0 := by cases k <;> simp [IntKind.min, IntKind.bits, IntKind.signed]
  have hmax : 0 ≤ k.max := by cases k <;> simp [IntKind.max, IntKind.bits, IntKind.signed]
  rw [Int.fdiv_eq_ediv_of_nonneg _ (Int.le_of_lt hp)]
  obtain ⟨h1, h2⟩ := ha
  have h3 : a / 2 ^ n ≤ max a 0 := by
    rcases Int.le_total 0 a with h | h
    · have := Int.ediv_le_self (2 ^ n : Int) h; omega
    · have := Int.ediv_nonpos_of_nonpos_of_neg h hp; omega
  have h4 : min a 0 ≤ a / 2 ^ n := by
    rcases Int.le_total 0 a with h | h
    · have := Int.ediv_nonneg h (Int.le_of_lt hp); omega
    · have h5 : a ≤ a / 2 ^ n := by
        rw [Int.le_ediv_iff_mul_le hp]
        have h1 : (1 : Int) ≤ 2 ^ n := by omega
        have h2 := Int.mul_le_mul_of_nonpos_left h h1
        rw [Int.mul_one] at h2; exact h2
      omega
  exact ⟨by omega, by omega⟩

theorem run_equal_bool {t : Nat} (hu : P.underlying t = some .bool) (a b : Bool) (w : World) : (Op.equal t (.bool a) (.bool b)).run P w = .ok (a == b) w := by
  have h : ∀ n, (Op.equalIn (n + 1) t (.bool a) (.bool b)).run P w = .ok (a == b) w := fun n => by simp [Op.equalIn, underlying, hu]
  exact h 9999

theorem bin_sound (hty : TyOk P TY) {op : BinOp} {t : Nat} {a b : AV} {K : AV → Prop} (h : binK TY op t a b K) :
    ∃ v, K v ∧ ∀ (ρ : Env) (w : World) (M : Msk) (x y : Operand) (u1 u2 : Value), RepT ρ w M a u1 → RepT ρ w M b u2 →
      ∃ u, (do eqGuard op t x y u1 u2; binOp op t u1 u2 : Sem Value).run P w = .ok u w ∧ RepT ρ w M v u := by
  have guard_int : ∀ (x y : Operand) (k k' : IntKind) (n m : Int) (w : World), (eqGuard op t x y (.int k n) (.int k' m)).run P w = .ok () w := by
    intro x y k k' n m w; cases op <;> rfl
  cases a with
  | int k a =>
    cases b with
    | int k' b =>
      have fin : ∀ (v : AV), K v → (∀ (ρ : Env) (w : World) (M : Msk), inK k a → inK k' b → ∃ u, (binOp op t (.int k a) (.int k' b)).run P w = .ok u w ∧ RepT ρ w M v u) →
          ∃ v, K v ∧ ∀ (ρ : Env) (w : World) (M : Msk) (x y : Operand) (u1 u2 : Value), RepT ρ w M (.int k a) u1 → RepT ρ w M (.int k' b) u2 →
            ∃ u, (do eqGuard op t x y u1 u2; binOp op t u1 u2 : Sem Value).run P w = .ok u w ∧ RepT ρ w M v u := by
        intro v hK hv
        refine ⟨v, hK, fun ρ w M x y u1 u2 h1 h2 => ?_⟩
        obtain ⟨rfl, h1⟩ := h1
        obtain ⟨rfl, h2⟩ := h2
        obtain ⟨u, h3, h4⟩ := hv ρ w M h1 h2
        exact ⟨u, by simp [guard_int, h3], h4⟩
      cases op <;> simp only [binK, ifK_iff] at h
      case shl =>
        refine fin _ h.2 fun ρ w M ha hb => ⟨.int k (shlI k a b), ?_, rfl, in_wrap _ _⟩
        simp [binOp, Op.shift, shlI, Int.not_lt.2 h.1]
      case shr =>
        refine fin _ h.2 fun ρ w M ha hb => ⟨.int k (shrI k a b), ?_, rfl, fdiv_in ha _⟩
        simp [binOp, Op.shift, shrI, Int.not_lt.2 h.1]
      all_goals (first | exact h.2.elim | skip)
      all_goals (obtain ⟨hk, h⟩ := h; obtain rfl := kq_eq hk)
      case lss => exact fin _ h fun ρ w M ha hb => ⟨.bool (decide (a < b)), by simp [binOp, Op.intCmp], rfl⟩
      case leq => exact fin _ h fun ρ w M ha hb => ⟨.bool (decide (a ≤ b)), by simp [binOp, Op.intCmp], rfl⟩
      case gtr => exact fin _ h fun ρ w M ha hb => ⟨.bool (decide (b < a)), by simp [binOp, Op.intCmp], rfl⟩
      case geq => exact fin _ h fun ρ w M ha hb => ⟨.bool (decide (b ≤ a)), by simp [binOp, Op.intCmp], rfl⟩
      case eql => exact fin _ h fun ρ w M ha hb => ⟨.bool (a == b), by simp [binOp, Op.intCmp], by show Value.bool (a == b) = .bool (decide (a = b)); congr 1⟩
      case neq => exact fin _ h fun ρ w M ha hb => ⟨.bool (a != b), by simp [binOp, Op.intCmp], by show Value.bool (a != b) = .bool (decide (a ≠ b)); congr 1; simp [bne, Bool.beq_eq_decide_eq]⟩
      case add => rw [rangeP_iff] at h; exact fin _ h.2 fun ρ w M ha hb => ⟨.int k (k.wrap (a + b)), by simp [binOp, Op.intArith], wrap_rep h.1⟩
      case sub => rw [rangeP_iff] at h; exact fin _ h.2 fun ρ w M ha hb => ⟨.int k (k.wrap (a - b)), by simp [binOp, Op.intArith], wrap_rep h.1⟩
      case mul => rw [rangeP_iff] at h; exact fin _ h.2 fun ρ w M ha hb => ⟨.int k (k.wrap (a * b)), by simp [binOp, Op.intArith], wrap_rep h.1⟩
      case quo =>
        obtain ⟨⟨h0, h1⟩, h2⟩ := h
        refine fin _ h2 fun ρ w M ha hb => ⟨.int k (k.wrap (a.tdiv b)), by simp [binOp, Op.intDiv, show b ≠ 0 from by omega], ?_⟩
        rw [Int.tdiv_eq_ediv_of_nonneg h0]
        exact wrap_rep (tdiv_in ha h0 h1)
      case rem =>
        obtain ⟨⟨h0, h1⟩, h2⟩ := h
        refine fin _ h2 fun ρ w M ha hb => ⟨.int k (a.tmod b), by simp [binOp, Op.intDiv, show b ≠ 0 from by omega], ?_⟩
        rw [Int.tmod_eq_emod_of_nonneg h0]
        exact ⟨rfl, mod_in hb h1⟩
      case and => exact fin _ h fun ρ w M ha hb => ⟨.int k (andI k a b), by simp [binOp, Op.intBits, andI], rfl, in_wrap _ _⟩
      case or => exact fin _ h fun ρ w M ha hb => ⟨.int k (orI k a b), by simp [binOp, Op.intBits, orI], rfl, in_wrap _ _⟩
    | _ => exact h.elim
  | bool a =>
    cases b with
    | bool b =>
      have hu : boolT TY t = true → P.underlying t = some .bool := by
        intro hb
        unfold boolT at hb
        split at hb
        · rename_i hd
          obtain ⟨u, h1, h2, _⟩ := (hty.at (t := t) (.inr (by rw [hd]; simp))).under
          rw [hd] at h2
          cases u <;> first | exact h1 | exact h2.elim
        · cases hb
      cases op <;> simp only [binK, ifK_iff] at h <;> try exact h.elim
      case eql =>
        refine ⟨_, h.2, fun ρ w M x y u1 u2 h1 h2 => ?_⟩
        have h1 : u1 = .bool a.val := h1
        have h2 : u2 = .bool b.val := h2
        subst h1; subst h2
        exact ⟨.bool (a.val == b.val), by simp [eqGuard, binOp, run_equal_bool (hu h.1)], rfl⟩
      case neq =>
        refine ⟨_, h.2, fun ρ w M x y u1 u2 h1 h2 => ?_⟩
        have h1 : u1 = .bool a.val := h1
        have h2 : u2 = .bool b.val := h2
        subst h1; subst h2
        exact ⟨.bool (!(a.val == b.val)), by simp [eqGuard, binOp, run_equal_bool (hu h.1)], rfl⟩
    | _ => exact h.elim
  | _ => exact h.elim
end
end Go.AM
