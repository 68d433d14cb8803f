/- The abstract machine: what the executor's helpers come to, as plain facts. -/
import Derived.Test.YtmdlfcjbjjifoabAmRep
namespace Go.AM
open Go

theorem ifK_iff {b : Bool} {p : Prop} : ifK b p ↔ b = true ∧ p := by cases b <;> simp [ifK]

theorem kq_eq {k k' : IntKind} (h : kq k k' = true) : k = k' := by cases k <;> cases k' <;> simp_all [kq]

theorem force_iff {a : AV} {K : AV → Prop} : forceA a K ↔ K a := by
  cases a <;> first | exact Iff.rfl | (rename_i e; cases e <;> exact Iff.rfl)

def evalF (T : List AV) : Operand → AV
  | .tmp t => nth T t | .const v => constA v | .func f => .fn f [] | .global _ => .any

theorem eval_iff {T : List AV} {x : Operand} {K : AV → Prop} : evalK T x K ↔ K (evalF T x) := by
  cases x <;> simp [evalK, evalF, force_iff]

theorem evals_iff {T : List AV} : ∀ {l : List Operand} {K : List AV → Prop}, evalsK T l K ↔ K (l.map (evalF T))
  | [], _ => Iff.rfl
  | x :: l, K => by simp [evalsK, eval_iff, evals_iff]

theorem len_iff {r : RO} {K : Nat → Prop} : lenK r K ↔ K r.len := by cases r <;> exact Iff.rfl
theorem get_iff {r : RO} {i : Int} {K : AV → Prop} : getK r i K ↔ K (r.get i.toNat) := by cases r <;> exact Iff.rfl

theorem split_val {e : BE} {K : Bool → Prop} (h : splitB e K) : K e.val := by
  cases e with
  | lit b => cases b <;> exact h
  | v b => cases b <;> simp_all [splitB, BE.val]
  | lt x y => simp only [splitB, BE.val] at *; by_cases hx : x < y <;> simp [hx]; exact h.1 hx; exact h.2 (by omega)
  | le x y => simp only [splitB, BE.val] at *; by_cases hx : x ≤ y <;> simp [hx]; exact h.1 hx; exact h.2 (by omega)
  | eq x y => simp only [splitB, BE.val] at *; by_cases hx : x = y <;> simp [hx]; exact h.1 hx; exact h.2 hx
  | ne x y => simp only [splitB, BE.val] at *; by_cases hx : x = y <;> simp [hx]; exact h.2 hx; exact h.1 hx

theorem not_val {e : BE} {K : BE → Prop} (h : notK e K) : ∃ e', K e' ∧ e'.val = !e.val := by
  cases e with
  | lit b => cases b <;> exact ⟨_, h, rfl⟩
  | v b => exact ⟨_, h, rfl⟩
  | lt x y => exact ⟨_, h, by simp [BE.val]; rw [← decide_not]; congr 1; simp⟩
  | le x y => exact ⟨_, h, by simp [BE.val]; rw [← decide_not]; congr 1; simp⟩
  | eq x y => exact ⟨_, h, by simp [BE.val]⟩
  | ne x y => exact ⟨_, h, by simp [BE.val]⟩

theorem bound_iff {a : AV} {K : Int → Prop} (h : boundK a K) : ∃ k n, a = .int k n ∧ K n := by
  cases a <;> first | exact ⟨_, _, rfl, h⟩ | exact h.elim

theorem range_in {k : IntKind} {n : Int} (h : rangeK k n) : inK k n := by
  cases k <;> first | exact h | exact h

theorem rangeP_iff {k : IntKind} {n : Int} {K : Prop} : rangeP k n K ↔ inK k n ∧ K := by cases k <;> exact Iff.rfl

theorem capP_of {b : Nat} {n : Int} {K : Prop} (h : capP b n K) (h0 : 0 ≤ n) : n * (b : Int) ≤ 140737488355328 ∧ n ≤ 17592186044416 ∧ K := by
  unfold capP at h
  cases hb : Nat.ble b 8 with
  | true =>
    simp only [hb] at h
    rw [Nat.ble_eq] at hb
    have h1 : n * (b : Int) ≤ n * 8 := Int.mul_le_mul_of_nonneg_left (by omega) h0
    exact ⟨by omega, h.1, h.2⟩
  | false =>
    simp only [hb, ifK_iff] at h
    obtain ⟨h2, h3, h4⟩ := h
    rw [Nat.ble_eq] at h2
    have h1 : n * (b : Int) ≤ n * 64 := Int.mul_le_mul_of_nonneg_left (by omega) h0
    exact ⟨by omega, by omega, h4⟩

theorem snoc_iff {α : Type} : ∀ {l : List α} {x : α} {K : List α → Prop}, snocK l x K ↔ K (l ++ [x])
  | [], _, _ => Iff.rfl
  | _ :: l, _, _ => snoc_iff (l := l)

theorem dN_iff {d : Option Nat} {K : Nat → Prop} : dN d K ↔ K (d.getD 999) := by cases d <;> exact Iff.rfl

theorem wrap_in {k : IntKind} {n : Int} (h : inK k n) : k.wrap n = n := by
  unfold inK at h
  cases k <;> simp [IntKind.wrap, IntKind.min, IntKind.max, IntKind.bits, IntKind.signed] at * <;> omega

theorem in_wrap (k : IntKind) (n : Int) : inK k (k.wrap n) := by
  unfold inK
  cases k <;> simp [IntKind.wrap, IntKind.min, IntKind.max, IntKind.bits, IntKind.signed] at * <;> (try split) <;> omega

theorem in_i64 {n : Int} (h1 : -9223372036854775808 ≤ n) (h2 : n ≤ 9223372036854775807) : inK .i64 n := ⟨h1, h2⟩
theorem of_i64 {n : Int} (h : inK .i64 n) : -9223372036854775808 ≤ n ∧ n ≤ 9223372036854775807 := h

theorem in_zero (k : IntKind) : inK k 0 := by cases k <;> simp [inK, IntKind.min, IntKind.max, IntKind.bits, IntKind.signed]

theorem in_small {k : IntKind} {n : Int} (h1 : 0 ≤ n) (h2 : n ≤ 127) : inK k n := by
  cases k <;> simp [inK, IntKind.min, IntKind.max, IntKind.bits, IntKind.signed] <;> omega

theorem fit_in {k : IntKind} {n : Int} (h : fitB k n = true) : inK k n := by
  cases n with
  | ofNat m =>
    have hm : (0 : Int) ≤ Int.ofNat m := Int.natCast_nonneg m
    cases k <;> simp only [fitB, Nat.ble_eq] at h <;>
      first
        | exact in_small hm (by simp; omega)
        | (simp [inK, IntKind.min, IntKind.max, IntKind.bits, IntKind.signed]; omega)
  | negSucc m =>
    cases k <;> simp only [fitB, Nat.ble_eq] at h <;>
      first
        | (simp at h; done)
        | (simp [inK, IntKind.min, IntKind.max, IntKind.bits, IntKind.signed]; omega)

theorem nth_get : ∀ (l : List AV) (i : Nat), i < l.length → l[i]? = some (nth l i)
  | [], _, h => by simp at h
  | _ :: _, 0, _ => rfl
  | _ :: l, i + 1, h => by simpa [nth] using nth_get l i (by simpa using h)

theorem nth_ge : ∀ (l : List AV) (i : Nat), l.length ≤ i → nth l i = .any
  | [], _, _ => rfl
  | _ :: _, 0, h => by simp at h
  | _ :: l, i + 1, h => nth_ge l i (by simpa using h)

theorem put_iff : ∀ {T : List AV} {d : Nat} {v : AV} {K : List AV → Prop}, putK T d v K ↔ K (T.set d v)
  | [], _, _, _ => by simp [putK]
  | _ :: _, 0, _, _ => Iff.rfl
  | _ :: l, d + 1, v, K => by simp [putK, put_iff (T := l)]

theorem nth_set : ∀ (T : List AV) (d i : Nat) (v : AV), nth (T.set d v) i = if i = d ∧ d < T.length then v else nth T i
  | [], _, _, _ => by simp [nth]
  | _ :: _, 0, 0, _ => by simp [nth]
  | _ :: _, 0, i + 1, _ => by simp [nth]
  | _ :: _, d + 1, 0, _ => by simp [nth]
  | _ :: l, d + 1, i + 1, v => by simp [nth, nth_set l d i v]

theorem same_len : ∀ {l : List AV} {n : Nat}, sameLen l n = true → l.length = n
  | [], 0, _ => rfl
  | _ :: l, n + 1, h => by simp [same_len (l := l) (n := n) h]
  | [], _ + 1, h => by cases h
  | _ :: _, 0, h => by cases h

theorem same_lenO : ∀ {l : List Operand} {n : Nat}, sameLenO l n = true → l.length = n
  | [], 0, _ => rfl
  | _ :: l, n + 1, h => by simp [same_lenO (l := l) (n := n) h]
  | [], _ + 1, h => by cases h
  | _ :: _, 0, h => by cases h

theorem take_iff : ∀ {l : List AV} {n : Nat} {K : List AV → Prop}, takeK l n K → n ≤ l.length ∧ K (l.take n)
  | [], 0, _, h => ⟨Nat.le_refl _, h⟩
  | _ :: _, 0, _, h => ⟨Nat.zero_le _, h⟩
  | [], _ + 1, _, h => h.elim
  | _ :: l, n + 1, _, h => by have := take_iff (l := l) (n := n) h; exact ⟨by simpa using this.1, this.2⟩

theorem drop_iff : ∀ {l : List AV} {n : Nat} {K : List AV → Prop}, dropK l n K → n ≤ l.length ∧ K (l.drop n)
  | [], 0, _, h => ⟨Nat.le_refl _, h⟩
  | _ :: _, 0, _, h => ⟨Nat.zero_le _, h⟩
  | [], _ + 1, _, h => h.elim
  | _ :: l, n + 1, _, h => by have := drop_iff (l := l) (n := n) h; exact ⟨by simpa using this.1, this.2⟩

theorem over_iff : ∀ {l m : List AV} {K : List AV → Prop}, overK l m K → m.length ≤ l.length ∧ K (m ++ l.drop m.length)
  | l, [], _, h => ⟨Nat.zero_le _, by simpa using (show _ from (by cases l <;> exact h))⟩
  | [], _ :: _, _, h => h.elim
  | _ :: l, b :: m, _, h => by
    have := over_iff (l := l) (m := m) h
    exact ⟨by simpa using this.1, by simpa using this.2⟩

theorem splice_iff : ∀ {l : List AV} {n : Nat} {m : List AV} {K : List AV → Prop}, spliceK l n m K → n + m.length ≤ l.length ∧ K (l.take n ++ (m ++ l.drop (n + m.length)))
  | l, 0, m, _, h => by
    have := over_iff (l := l) (m := m) (by cases l <;> exact h)
    exact ⟨by simpa using this.1, by simpa using this.2⟩
  | [], _ + 1, _, _, h => h.elim
  | a :: l, n + 1, m, _, h => by
    have := splice_iff (l := l) (n := n) (m := m) h
    refine ⟨by simp; omega, ?_⟩
    have h2 := this.2
    rw [show n + 1 + m.length = (n + m.length) + 1 from by omega]
    simpa using h2

/-! ### The store -/

theorem beq_iff' {a b : Nat} : Nat.beq a b = true ↔ a = b := ⟨Nat.eq_of_beq_eq_true, fun h => by subst h; exact Nat.beq_refl a⟩
theorem beq_false {a b : Nat} (h : Nat.beq a b = false) : a ≠ b := fun e => by rw [beq_iff'.2 e] at h; cases h

theorem find_cons {j k : Nat} {b : Blk} {S : Store} : findS ((j, b) :: S) k = if j = k then some b else findS S k := by
  simp only [findS]
  cases h : Nat.beq j k with
  | true => simp [beq_iff'.1 h]
  | false => simp [beq_false h]

theorem set_store : ∀ {S : Store} {k : Nat} {c : Blk} {K : Store → Prop}, setS S k c K → ∃ S', K S' ∧ ∀ j, findS S' j = if j = k then (findS S k).map fun _ => c else findS S j
  | [], _, _, _, h => ⟨[], h, fun j => by simp [findS]⟩
  | (i, b) :: S, k, c, K, h => by
    simp only [setS] at h
    cases hb : Nat.beq i k with
    | true =>
      have hik := beq_iff'.1 hb; subst hik
      simp only [hb] at h
      refine ⟨_, h, fun j => ?_⟩
      by_cases hj : j = i
      · subst hj; simp [find_cons]
      · simp [find_cons, hj, Ne.symm hj]
    | false =>
      have hik := beq_false hb
      simp only [hb] at h
      obtain ⟨S', h1, h2⟩ := set_store (K := fun S' => K ((i, b) :: S')) h
      refine ⟨_, h1, fun j => ?_⟩
      by_cases hj : j = k
      · subst hj; simp [find_cons, hik, h2]
      · by_cases hij : i = j
        · subst hij; simp [find_cons, hj]
        · simp [find_cons, hij, hj, h2]

theorem del_store : ∀ {S : Store} {k : Nat} {K : Store → Prop}, delS S k K → ∃ S', K S' ∧ ∀ j, findS S' j = if j = k then none else findS S j
  | [], _, _, h => ⟨[], h, fun j => by simp [findS]⟩
  | (i, b) :: S, k, K, h => by
    simp only [delS] at h
    cases hb : Nat.beq i k with
    | true =>
      have hik := beq_iff'.1 hb; subst hik
      simp only [hb] at h
      obtain ⟨S', h1, h2⟩ := del_store (K := K) h
      refine ⟨_, h1, fun j => ?_⟩
      by_cases hj : j = i
      · simp [hj, h2]
      · simp [find_cons, hj, Ne.symm hj, h2]
    | false =>
      have hik := beq_false hb
      simp only [hb] at h
      obtain ⟨S', h1, h2⟩ := del_store (K := fun S' => K ((i, b) :: S')) h
      refine ⟨_, h1, fun j => ?_⟩
      by_cases hj : j = k
      · subst hj; simp [find_cons, hik, h2]
      · by_cases hij : i = j
        · subst hij; simp [find_cons, hj]
        · simp [find_cons, hij, hj, h2]
end Go.AM
