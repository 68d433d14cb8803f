/- The abstract machine: maps, as the model runs them. -/
import Derived.Test.YtmdlfcjbjjifoabAmQAll2
import Derived.MapKept
import Derived.WideKeyArr
import Derived.Carry
namespace Go.AM
open Go Go.MapKept

section
variable {P : Program} {w : World} {vk : Option IntKind}

theorem key_inj {kd : KeyD} {a b : List Int} {v : Value} (ha : KeyV kd a v) (hb : KeyV kd b v) : a = b := by
  cases kd with
  | int k =>
    obtain ⟨n, rfl, h1, _⟩ := ha
    obtain ⟨m, rfl, h2, _⟩ := hb
    rw [h1] at h2; cases h2; rfl
  | arr n k =>
    obtain ⟨_, h1, _⟩ := ha
    obtain ⟨_, h2, _⟩ := hb
    rw [h1] at h2
    simp only [Value.agg.injEq] at h2
    have h3 : a.map (fun x => Value.int k x) = b.map (fun x => Value.int k x) := by
      have := congrArg Array.toList h2
      simpa using this
    exact List.map_inj_right (fun x y h => by cases h; rfl) |>.1 h3
theorem key_fun {kd : KeyD} {a : List Int} {v v' : Value} (ha : KeyV kd a v) (hb : KeyV kd a v') : v = v' := by
  cases kd with
  | int k =>
    obtain ⟨n, rfl, h1, _⟩ := ha
    obtain ⟨m, h, h2, _⟩ := hb
    cases h
    rw [h1, h2]
  | arr n k => rw [ha.2.1, hb.2.1]

/-- What is found at a key. -/
def Found (P : Program) (kt : TypeId) (w : World) (vk : Option IntKind) (key : List Int) (kv : Value) (m : List (List Int × Int)) (es : List MapEntry) (i : Nat) (run : Result (Option (Nat × Value))) : Prop :=
  (run = .ok none w ∧ getM m key = none ∧ setM m key = fun v => m ++ [(key, v)]) ∨
    ∃ j e n, run = .ok (some (i + j, e.val)) w ∧ es[j]? = some e ∧ e.key = kv ∧ getM m key = some n ∧ ValV vk n e.val ∧ ∀ v, setM m key v = m.set j (key, v)

/-- The keys' type, as the model treats it. -/
structure KeyL (P : Program) (kd : KeyD) (kt : TypeId) : Prop where
  check : ∀ (w : World) (em : Bool) {l : List Int} {v : Value}, KeyV kd l v → (Instr.checkKey em 10000 kt v).run P w = .ok () w
  find : ∀ (w : World) (vk : Option IntKind) {key : List Int} {kv : Value} {m : List (List Int × Int)} {es : List MapEntry}, KeyV kd key kv → RepM kd vk m es → Found P kt w vk key kv m es 0 ((Instr.findKey kt kv es).run P w)
  stays : ∀ (w : World) {l : List Int} {v : Value}, KeyV kd l v → (Instr.keyThatStays v v).run P w = .ok v w

theorem found_cons {kd : KeyD} {kt : TypeId} {key : List Int} {kv : Value} {p : List Int × Int} {m : List (List Int × Int)} {e : MapEntry} {es : List MapEntry} {i : Nat} {run : Result (Option (Nat × Value))} (hk : KeyV kd key kv) (hp : KeyV kd p.1 e.key) (hne : e.key ≠ kv) (h : Found P kt w vk key kv m es (i + 1) run) :
    Found P kt w vk key kv (p :: m) (e :: es) i run := by
  have hne : p.1 ≠ key := fun he => hne (key_fun hp (he ▸ hk))
  rcases h with ⟨h1, h2, h3⟩ | ⟨j, e', x, h1, h2, h3, h4, h5, h6⟩
  · exact .inl ⟨h1, by simp [getM, hne, h2], by funext v; simp [setM, hne, h3]⟩
  · exact .inr ⟨j + 1, e', x, by rw [h1]; simp; omega, by simpa using h2, h3, by simp [getM, hne, h4], h5, fun v => by simp [setM, hne, h6]⟩
theorem found_here {kd : KeyD} {kt : TypeId} {key : List Int} {kv : Value} {p : List Int × Int} {m : List (List Int × Int)} {e : MapEntry} {es : List MapEntry} {i : Nat} (hk : KeyV kd key kv) (hp : KeyV kd p.1 e.key) (hv : ValV vk p.2 e.val) (he : e.key = kv) :
    Found P kt w vk key kv (p :: m) (e :: es) i (.ok (some (i, e.val)) w) := by
  have : p.1 = key := key_inj (he ▸ hp) hk
  exact .inr ⟨0, e, p.2, by simp, rfl, he, by simp [getM, this], hv, fun v => by simp [setM, this]⟩

theorem find_int {k : IntKind} {kt : TypeId} {key : List Int} {kv : Value} (w : World) (hkv : KeyV (.int k) key kv) : ∀ {m : List (List Int × Int)} {es : List MapEntry} (i : Nat), RepM (.int k) vk m es →
    ∃ r, Instr.findNow (.int k) kv es i = some r ∧ Found P kt w vk key kv m es i (.ok r w)
  | [], [], i, _ => ⟨none, rfl, .inl ⟨rfl, rfl, rfl⟩⟩
  | p :: m, e :: es, i, h => by
    obtain ⟨n, rfl, rfl, hn⟩ := id hkv
    obtain ⟨n', hn', hk', _⟩ := h.1.1
    by_cases he : n = n'
    · subst he
      exact ⟨_, by simp [Instr.findNow, hk', Instr.sameNow], found_here hkv h.1.1 h.1.2 hk'⟩
    · have hs : Instr.sameNow (.int k) (.int k n) e.key = some false := by simp [Instr.sameNow, hk', he]
      obtain ⟨r, h1, h2⟩ := find_int w hkv (i + 1) h.2
      exact ⟨r, by simp [Instr.findNow, hs, h1], found_cons hkv h.1.1 (by rw [hk']; simp; exact fun e => he e.symm) h2⟩
  | [], _ :: _, _, h => h.elim
  | _ :: _, [], _, h => h.elim

theorem int_key {k : IntKind} {kt : TypeId} (hk : P.underlying kt = some (.int k)) : KeyL P (.int k) kt where
  check w em l v h := run_checkKey hk (by obtain ⟨y, _, rfl, _⟩ := h; simp [IsKey]) em 9999
  find w vk key kv m es hkv hr := by
    obtain ⟨r, h1, h2⟩ := find_int (P := P) (kt := kt) w hkv 0 hr
    rw [run_findKey hk h1]; exact h2
  stays w l v h := run_keyThatStays (d := .int k) (by obtain ⟨y, _, rfl, _⟩ := h; simp [IsKey])

theorem find_asking {kd : KeyD} {kt : TypeId} {key : List Int} {kv : Value} (w : World) (heq : ∀ {lx ly : List Int} {x y : Value}, KeyV kd lx x → KeyV kd ly y → ∃ r : Bool, (Op.equal kt x y).run P w = .ok r w ∧ (r = true ↔ x = y)) (hkv : KeyV kd key kv) :
    ∀ {m : List (List Int × Int)} {es : List MapEntry} (i : Nat), RepM kd vk m es → Found P kt w vk key kv m es i ((Instr.findAsking kt kv es i).run P w)
  | [], [], i, _ => .inl ⟨rfl, rfl, rfl⟩
  | p :: m, e :: es, i, h => by
    obtain ⟨r, hr, hiff⟩ := heq hkv h.1.1
    cases r
    · have hne : e.key ≠ kv := fun he => by cases hiff.2 he.symm
      have := find_asking w heq hkv (i + 1) h.2
      have e1 : (Instr.findAsking kt kv (e :: es) i).run P w = (Instr.findAsking kt kv es (i + 1)).run P w := by simp [Instr.findAsking, hr]
      rw [e1]
      exact found_cons hkv h.1.1 hne this
    · have e1 : (Instr.findAsking kt kv (e :: es) i).run P w = .ok (some (i, e.val)) w := by simp [Instr.findAsking, hr]
      rw [e1]
      exact found_here hkv h.1.1 h.1.2 (hiff.1 rfl).symm
  | [], _ :: _, _, h => h.elim
  | _ :: _, [], _, h => h.elim

theorem in_wf {k : IntKind} {n : Int} (h : inK k n) : (Lit.int k n).wf = true := by
  unfold inK at h
  simp only [Lit.wf, decide_eq_true_eq, Bool.and_eq_true]
  exact h

theorem mapM_all {α β : Type} {f : α → Option β} : ∀ {l : List α}, (∀ x ∈ l, ∃ y, f x = some y) → ∃ r, l.mapM f = some r
  | [], _ => ⟨[], rfl⟩
  | a :: as, h => by
    obtain ⟨b, hb⟩ := h a (.head _)
    obtain ⟨r, hr⟩ := mapM_all (l := as) fun x hx => h x (.tail _ hx)
    exact ⟨b :: r, by simp [List.mapM_cons, hb, hr]⟩

theorem arr_key {n : Nat} {k : IntKind} {kt e : TypeId} (A : WideMaps.ArrKey P kt e n) (he : P.underlying e = some (.int k)) (hsz : ∃ m, P.types.size = m + 1) : KeyL P (.arr n k) kt := by
  have lit : ∀ {l : List Int} {v : Value}, KeyV (.arr n k) l v → ∃ x, keyOf P kt v = some x := by
    intro l v h
    obtain ⟨h1, rfl, h2⟩ := h
    have hf : (Value.agg (l.map fun x => Value.int k x).toArray).formed P kt = true := by simp [Value.formed, A.hu, A.size, h1]
    have hl : ∃ L, P.keyLits (P.types.size + 1) kt (l.map fun x => Value.int k x) = some L := by
      obtain ⟨m, hm⟩ := hsz
      rw [hm]
      unfold Program.keyLits
      simp only [A.hu, A.size, A.one]
      rw [if_pos (by simpa using h1)]
      have : ∃ r, ((List.range n).mapM fun i => P.keyLits (m + 1) e (((l.map fun x => Value.int k x).drop (i * 1)).take 1)) = some r := by
        refine mapM_all fun i hi => ?_
        have hi : i < l.length := by rw [h1]; simpa using hi
        have e1 : ((l.map fun x => Value.int k x).drop (i * 1)).take 1 = [.int k l[i]] := by
          rw [Nat.mul_one]
          apply List.ext_getElem?
          intro j
          rcases j with _ | j
          · simp [List.getElem?_take, hi]
          · simp [List.getElem?_take]
        refine ⟨[.int k l[i]], ?_⟩
        rw [e1]
        unfold Program.keyLits
        simp only [he]
        simp [in_wf (h2 _ (List.getElem_mem hi))]
      obtain ⟨r, hr⟩ := this
      exact ⟨_, by rw [hr]; rfl⟩
    obtain ⟨L, hL⟩ := hl
    refine ⟨.string (keyBytes L), ?_⟩
    unfold keyOf
    rw [A.hu]
    simp only [A.keyType hsz, hf, Bool.and_self, if_true]
    show (P.keyLits (P.types.size + 1) kt (l.map fun x => Value.int k x)).map _ = _
    rw [hL]; rfl
  have heq : ∀ (w : World) {lx ly : List Int} {x y : Value}, KeyV (.arr n k) lx x → KeyV (.arr n k) ly y → ∃ r : Bool, (Op.equal kt x y).run P w = .ok r w ∧ (r = true ↔ x = y) := fun w lx ly x y hx hy => by
    obtain ⟨a, ha⟩ := lit hx
    obtain ⟨b, hb⟩ := lit hy
    obtain ⟨r, h1, h2⟩ := run_equal_deep w (m := 2) (by omega) (A.at 0) A.wide ha hb
    refine ⟨r, h1, h2.trans ⟨fun e => keyOf_inj_deep A.tiled A.wide ha (e ▸ hb), fun e => ?_⟩⟩
    subst e; rw [ha] at hb; exact Option.some.inj hb
  exact {
    check := fun w em l v h => by obtain ⟨x, hx⟩ := lit h; exact A.law.check w em hx
    find := fun w vk key kv m es hkv hr => by rw [run_findKey_eq w A.wide]; exact find_asking w (heq w) hkv 0 hr
    stays := fun w l v h => by obtain ⟨x, hx⟩ := lit h; exact A.law.stays w hx }

theorem RepM.set {kd : KeyD} {key : List Int} {v : Int} : ∀ {m : List (List Int × Int)} {es : List MapEntry} {j : Nat} {e e' : MapEntry}, RepM kd vk m es → es[j]? = some e → KeyV kd key e'.key → ValV vk v e'.val → RepM kd vk (m.set j (key, v)) (es.set j e')
  | _ :: _, _ :: _, 0, _, _, h, _, hk, hv => ⟨⟨hk, hv⟩, h.2⟩
  | _ :: _, _ :: _, j + 1, _, _, h, he, hk, hv => ⟨h.1, RepM.set (j := j) h.2 (by simpa using he) hk hv⟩
  | [], [], _, _, _, _, he, _, _ => by simp at he
  | [], _ :: _, _, _, _, h, _, _, _ => h.elim
  | _ :: _, [], _, _, _, h, _, _, _ => h.elim
theorem RepM.push {kd : KeyD} {key : List Int} {v : Int} {e' : MapEntry} : ∀ {m : List (List Int × Int)} {es : List MapEntry}, RepM kd vk m es → KeyV kd key e'.key → ValV vk v e'.val → RepM kd vk (m ++ [(key, v)]) (es ++ [e'])
  | [], [], _, hk, hv => ⟨⟨hk, hv⟩, trivial⟩
  | _ :: _, _ :: _, h, hk, hv => ⟨h.1, RepM.push h.2 hk hv⟩
  | [], _ :: _, h, _, _ => h.elim
  | _ :: _, [], h, _, _ => h.elim
theorem RepM.length {kd : KeyD} : ∀ {m : List (List Int × Int)} {es : List MapEntry}, RepM kd vk m es → m.length = es.length
  | [], [], _ => rfl
  | _ :: _, _ :: _, h => by simp [RepM.length h.2]
  | [], _ :: _, h => h.elim
  | _ :: _, [], h => h.elim

/-- A value put into a map. -/
theorem run_mapUpdate {kd : KeyD} {mty kt et : TypeId} {b n : Nat} {es : Array MapEntry} {m : List (List Int × Int)} {key : List Int} {kv value : Value} {x : Int} (hm : P.underlying mty = some (.map kt et)) (hk : KeyL P kd kt) (hb : w.heap[b]? = some (.map es n)) (hr : RepM kd vk m es.toList) (hkv : KeyV kd key kv) (hv : ValV vk x value) :
    ∃ es' n', (Instr.mapUpdate mty (.map (some b)) kv value).run P w = .ok () { w with heap := w.heap.setIfInBounds b (.map es' n') } ∧ RepM kd vk (setM m key x) es'.toList := by
  have hc := hk.check w false hkv
  rcases hk.find w vk hkv hr with ⟨h1, _, h3⟩ | ⟨j, e, y, h1, h2, h3, _, _, h6⟩
  · refine ⟨es.push { key := kv, val := value, born := n }, n + 1, ?_, ?_⟩
    · simp [Instr.mapUpdate, run_underlying hm, MapKept.run_getObj_map hb, hc, h1, run_setObj_map _ hb, Result.andThen]
    · rw [h3]; simpa using hr.push hkv hv
  · rw [Nat.zero_add] at h1
    have hj : es[j]? = some e := by simpa using h2
    refine ⟨es.modify j fun e => { e with key := kv, val := value }, n, ?_, ?_⟩
    · simp [Instr.mapUpdate, run_underlying hm, MapKept.run_getObj_map hb, hc, h1, hj, h3, hk.stays w hkv, run_setObj_map _ hb, Result.andThen]
    · have hl : (es.modify j fun e => { e with key := kv, val := value }).toList = es.toList.set j { e with key := kv, val := value } := by
        apply List.ext_getElem?
        intro i
        rw [Array.getElem?_toList, Array.getElem?_modify, List.getElem?_set]
        by_cases hij : j = i
        · subst hij
          have hlt : j < es.toList.length := by
            rcases Nat.lt_or_ge j es.toList.length with h | h
            · exact h
            · rw [List.getElem?_eq_none h] at h2; cases h2
          simp [hj]
          simpa using hlt
        · simp [hij]
      rw [h6, hl]
      exact hr.set h2 hkv hv

/-- What a map hands back, with the word whether it was there. -/
theorem run_lookup {kd : KeyD} {mty kt et : TypeId} {b n : Nat} {es : Array MapEntry} {m : List (List Int × Int)} {key : List Int} {kv z : Value} (hm : P.underlying mty = some (.map kt et)) (hk : KeyL P kd kt) (hb : w.heap[b]? = some (.map es n)) (hr : RepM kd vk m es.toList) (hkv : KeyV kd key kv)
    (hz : (zeroValue et).run P w = .ok z w) (hzv : ValV vk 0 z) (ok : Bool) :
    ∃ v, (Instr.lookup mty (.map (some b)) kv ok).run P w = .ok (if ok then .tuple #[v, .bool (getM m key).isSome] else v) w ∧ ValV vk ((getM m key).getD 0) v := by
  have hc := hk.check w es.isEmpty hkv
  rcases hk.find w vk hkv hr with ⟨h1, h2, _⟩ | ⟨j, e, y, h1, h2, h3, h4, h5, _⟩
  · refine ⟨z, ?_, by rw [h2]; exact hzv⟩
    simp [Instr.lookup, run_underlying hm, MapKept.run_getObj_map hb, hc, h1, hz, h2, Result.andThen]
  · refine ⟨e.val, ?_, by rw [h4]; exact h5⟩
    simp [Instr.lookup, run_underlying hm, MapKept.run_getObj_map hb, hc, h1, h4, Result.andThen]
end

section
variable {P : Program} {TY : List TyE} {M0 : Base} {w0 w : World} {ρ : Env} {M : Msk} {S S0 : Store} {d : Nat}

theorem kdq_eq {a b : KeyD} (h : kdq a b = true) : a = b := by
  cases a <;> cases b <;> try (cases h; done)
  · exact congrArg _ (kq_eq h)
  · rename_i n k n' k'
    simp only [kdq] at h
    cases hn : Nat.beq n n' with
    | true => simp only [hn] at h; rw [beq_iff'.1 hn, kq_eq h]
    | false => simp only [hn] at h; cases h
theorem vkq_eq {a b : Option IntKind} (h : vkq a b = true) : a = b := by
  cases a <;> cases b <;> try (cases h; done)
  · rfl
  · exact congrArg _ (kq_eq h)

/-- What the table says of a map type. -/
theorem map_row (hty : TyOk P TY) {t : Nat} {K : KeyD → Option IntKind → Prop} (h : mapT TY t K) :
    ∃ kt et kd vk, K kd vk ∧ P.underlying t = some (.map kt et) ∧ KeyL P kd kt ∧ ∃ z, (∀ w, (zeroValue et).run P w = .ok z w) ∧ ValV vk 0 z := by
  unfold mapT at h
  split at h
  · rename_i kt et hd
    have hu : P.underlying t = some (.map kt et) := by
      obtain ⟨i, u, _, hu, _, _, hdesc, _⟩ := (hty.at (t := t) (.inr (by rw [hd]; simp))).row
      rw [hd] at hdesc
      cases u <;> simp only [descOK] at hdesc
      rw [hu, hdesc.1, hdesc.2]
    have ints : ∀ {e : Nat} {k : IntKind}, (nthT TY e).d = .int k → P.underlying e = some (.int k) := fun {e k} hd => by
      obtain ⟨i, u, _, hu, _, _, hdesc, _⟩ := (hty.at (t := e) (.inr (by rw [hd]; simp))).row
      rw [hd] at hdesc
      cases u <;> simp only [descOK] at hdesc
      rw [hu, hdesc]
    have val : ∀ {K : Option IntKind → Prop}, (valT TY et fun vk => ifK (zeroB (nthT TY et).zero) (K vk)) → ∃ vk, K vk ∧ ∃ z, (∀ w, (zeroValue et).run P w = .ok z w) ∧ ValV vk 0 z := fun {K} h => by
      unfold valT at h
      have zv : zeroB (nthT TY et).zero = true → (nthT TY et).d ≠ .other → ∃ z, (∀ w, (zeroValue et).run P w = .ok z w) ∧ zKind (nthT TY et).d z := fun hz ho => by
        obtain ⟨i, u, hi, hu', _, _, _, hzero⟩ := (hty.at (t := et) (.inr ho)).row
        obtain ⟨z, hz1, hz2⟩ := hzero fun he => by rw [he] at hz; cases hz
        exact ⟨z, fun w => by simp [zeroValue, typeInfo, hi, hz1], hz2.2.2.2.1⟩
      split at h
      · rename_i k hk
        rw [ifK_iff] at h
        obtain ⟨z, h1, h2⟩ := zv h.1 (by rw [hk]; simp)
        rw [hk] at h2
        exact ⟨_, h.2, z, h1, h2, in_zero k⟩
      · rename_i hk
        rw [ifK_iff] at h
        obtain ⟨z, h1, h2⟩ := zv h.1 (by rw [hk]; simp)
        rw [hk] at h2
        exact ⟨_, h.2, z, h1, by rw [h2]; simp, .inl rfl⟩
      · exact h.elim
    unfold keyT at h
    split at h
    · rename_i k hk
      obtain ⟨vk, h1, h2⟩ := val h
      exact ⟨kt, et, _, vk, h1, hu, int_key (ints hk), h2⟩
    · rename_i n e hk
      rw [ifK_iff, ifK_iff] at h
      obtain ⟨hs1, hs2, h⟩ := h
      unfold intT at h
      split at h
      · rename_i k he
        obtain ⟨vk, h1, h2⟩ := val h
        have szc : ∀ {t : Nat}, (nthT TY t).d ≠ .other → P.cellsOf t = (nthT TY t).sz := fun {t} ho => by
          obtain ⟨i, u, hi, _, hs, _⟩ := (hty.at (t := t) (.inr ho)).row
          simp [Program.cellsOf, hi, hs]
        refine ⟨kt, et, _, vk, h1, hu, arr_key (e := e) ⟨arr_row hty hk, ?_, ?_, ?_⟩ (ints he) hty.pos, h2⟩
        · simp [Program.plainKey, ints he]
        · rw [szc (by rw [he]; simp), beq_iff'.1 hs2]
        · rw [szc (by rw [hk]; simp), beq_iff'.1 hs1]
      · exact h.elim
    · exact h.elim
  · exact h.elim

def intsF (k : IntKind) : List AV → Option (List Int)
  | [] => some [] | .int k' n :: l => if kq k k' = true then (intsF k l).map (n :: ·) else none | _ :: _ => none
def keyF (kd : KeyD) (a : AV) : Option (List Int) :=
  match kd, a with
  | .int k, .int k' n => if kq k k' = true then some [n] else none
  | .arr n k, .agg l => if sameLen l n = true then intsF k l else none
  | _, _ => none
def valF (vk : Option IntKind) (a : AV) : Option Int :=
  match vk, a with
  | some k, .int k' n => if kq k k' = true then some n else none
  | none, .bool e => some (if e.val = true then 1 else 0)
  | _, _ => none

theorem intsK_iff {k : IntKind} : ∀ {l : List AV} {K : List Int → Prop}, intsK k l K → ∃ m, intsF k l = some m ∧ K m
  | [], _, h => ⟨[], rfl, h⟩
  | a :: l, K, h => by
    cases a <;> try exact h.elim
    rename_i k' n
    simp only [intsK, ifK_iff] at h
    obtain ⟨m, h1, h2⟩ := intsK_iff h.2
    exact ⟨n :: m, by simp [intsF, h.1, h1], h2⟩
theorem key_iff {kd : KeyD} {a : AV} {K : List Int → Prop} (h : keyK kd a K) : ∃ m, keyF kd a = some m ∧ K m := by
  cases kd with
  | int k =>
    cases a <;> try exact h.elim
    simp only [keyK, ifK_iff] at h
    exact ⟨_, by simp [keyF, h.1], h.2⟩
  | arr n k =>
    cases a <;> try exact h.elim
    simp only [keyK, ifK_iff] at h
    obtain ⟨m, h1, h2⟩ := intsK_iff h.2
    exact ⟨m, by simp [keyF, h.1, h1], h2⟩
theorem val_iff {vk : Option IntKind} {a : AV} {K : Int → Prop} (h : valK vk a K) : ∃ m, valF vk a = some m ∧ K m := by
  cases vk with
  | some k =>
    cases a <;> try exact h.elim
    simp only [valK, ifK_iff] at h
    exact ⟨_, by simp [valF, h.1], h.2⟩
  | none =>
    cases a <;> try exact h.elim
    rename_i e
    cases e with
    | lit b => cases b <;> exact ⟨_, rfl, h⟩
    | _ => exact ⟨_, rfl, h⟩

theorem ints_key {k : IntKind} : ∀ {l : List AV} {vs : List Value} {m : List Int}, intsF k l = some m → RepL (RepC ρ w M) l vs → m.length = l.length ∧ vs = m.map (fun x => Value.int k x) ∧ ∀ x ∈ m, inK k x
  | [], [], m, h, _ => by cases h; exact ⟨rfl, rfl, by simp⟩
  | [], _ :: _, _, _, hv => hv.elim
  | a :: l, [], _, _, hv => hv.elim
  | a :: l, v :: vs, m, h, hv => by
    cases a <;> try (cases h; done)
    rename_i k' n
    simp only [intsF] at h
    split at h
    · rename_i hk
      obtain rfl := kq_eq hk
      cases hm : intsF k l with
      | none => rw [hm] at h; cases h
      | some m' =>
        rw [hm] at h
        cases h
        obtain ⟨h2, h3, h4⟩ := ints_key hm hv.2
        obtain ⟨h5, h6⟩ := hv.1
        exact ⟨by simp [h2], by rw [h5, h3]; rfl, fun x hx => (List.mem_cons.1 hx).elim (fun e => e ▸ h6) (h4 x)⟩
    · cases h

theorem key_rep {kd : KeyD} {a : AV} {v : Value} {l : List Int} (h : keyF kd a = some l) (hv : RepT ρ w M a v) : KeyV kd l v := by
  cases kd with
  | int k =>
    cases a <;> simp only [keyF] at h <;> try (cases h; done)
    split at h
    · rename_i hk
      obtain rfl := kq_eq hk
      cases h
      exact ⟨_, rfl, hv⟩
    · cases h
  | arr n k =>
    cases a <;> simp only [keyF] at h <;> try (cases h; done)
    split at h
    · rename_i hl
      obtain ⟨cs, rfl, hcs⟩ := hv
      obtain ⟨h2, h3, h4⟩ := ints_key h hcs
      exact ⟨by rw [h2, same_len hl], by rw [← h3], h4⟩
    · cases h
theorem val_rep {vk : Option IntKind} {a : AV} {v : Value} {n : Int} (h : valF vk a = some n) (hv : RepT ρ w M a v) : ValV vk n v := by
  cases vk with
  | some k =>
    cases a <;> simp only [valF] at h <;> try (cases h; done)
    split at h
    · rename_i hk
      obtain rfl := kq_eq hk
      cases h
      exact hv
    · cases h
  | none =>
    cases a <;> simp only [valF] at h <;> try (cases h; done)
    rename_i e
    cases h
    have hv : v = .bool e.val := hv
    refine ⟨?_, by split <;> simp⟩
    rw [hv]
    cases e.val <;> simp

theorem valA_rep {vk : Option IntKind} {n : Int} {v : Value} (h : ValV vk n v) : RepC ρ w M (valA vk n) v := by
  cases vk with
  | some k => exact h
  | none => exact h.1

theorem makeMap_sound (hty : TyOk P TY) {F : Spec} {t : Nat} {r : Option Operand} {T : List AV} {K : AV → Option Blk → Prop} (h : qK TY F d (.makeMap t r) T S0 K) :
    ∃ v B, K v B ∧ QS P d (.makeMap t r) T S0 v B := by
  cases r with
  | some _ => exact h.elim
  | none =>
    simp only [qK] at h
    obtain ⟨kt, et, kd, vk, h, hu, hk, z, hz, hzv⟩ := map_row hty h
    refine ⟨_, _, h, fun M0 w0 ρ M w S' e oo ho hc st he hd => ?_⟩
    obtain ⟨ρ', M', h1, h2, h3, h4⟩ := st.pushO (w' := { w with heap := w.heap.push (.map #[] 0) }) (ob := .map #[] 0) (fun off => off = 0) (own := .mp w.heap.size) (B := .map kd vk []) (hd (by simp)).1 (hd (by simp)).2 rfl ⟨rfl, rfl⟩ (fun _ h => h.symm)
      (fun ρ' M' hρ hM hk hext => ⟨w.heap.size, hρ, #[], 0, by simp, hM, trivial⟩)
    refine .val (v := .map (some w.heap.size)) (w' := { w with heap := w.heap.push (.map #[] 0) }) ?_ ⟨ρ', M', h1, of_mp 0 h2, h3, h4⟩
    simp only [execOp, ho, Sem.run_bind, RowKit.run_makeMap, Result.andThen_ok, Sem.run_pure]
    rfl

theorem lookup_sound (hty : TyOk P TY) {F : Spec} {t : Nat} {x k : Operand} {ok : Bool} {T : List AV} {K : AV → Option Blk → Prop} (h : qK TY F d (.lookup t x k ok) T S0 K) :
    ∃ v B, K v B ∧ QS P d (.lookup t x k ok) T S0 v B := by
  simp only [qK, eval_iff] at h
  obtain ⟨kt, et, kd, vk, h, hu, hk, z, hz, hzv⟩ := map_row hty h
  split at h
  · rename_i j off hx
    split at h
    · rename_i kd' vk' m hf
      rw [ifK_iff, ifK_iff] at h
      obtain ⟨h1, h2, h⟩ := h
      obtain rfl := kdq_eq h1
      obtain rfl := vkq_eq h2
      obtain ⟨key, hkey, h⟩ := key_iff h
      have go : ∀ (M0 : Base) (w0 : World) (ρ : Env) (w : World) (M : Msk) (S' : Store) (e : Operand → Value) (oo : Oper), oo.op = .lookup t x k ok → Cmp S0 S' → St M0 w0 ρ M S' w → (∀ y ∈ (Op.lookup t x k ok).operands, RepT ρ w M (evalF T y) (e y)) →
          ∃ v, (execOp e oo).run P w = .ok (.value (if ok then .tuple #[v, .bool (getM m key).isSome] else v)) w ∧ ValV vk ((getM m key).getD 0) v := fun M0 w0 ρ w M S' e oo ho hc st he => by
        have hx' := he x (by simp [Op.operands])
        have hk' := he k (by simp [Op.operands])
        rw [hx] at hx'
        have hx' : (ρ j).bind (Own.ref · off) = some (e x) := hx'
        obtain ⟨b, g1, es, n, g2, g3, g4⟩ := st.blk j _ (st.find' hc hf hx')
        have hex := ref_mp g1 hx'
        obtain ⟨v, hr, hv⟩ := run_lookup (mty := t) (kv := e k) hu hk g2 g4 (key_rep hkey hk') (hz w) hzv ok
        exact ⟨v, by simp [execOp, ho, hex, hr], hv⟩
      cases ok with
      | true =>
        refine q_look h fun M0 w0 ρ w M S' e oo ho hc st he => ?_
        obtain ⟨v, h1, h2⟩ := go M0 w0 ρ w M S' e oo ho hc st he
        refine ⟨_, h1, _, rfl, ?_, ?_, trivial⟩
        · have := valA_rep (ρ := ρ) (w := w) (M := M) h2
          cases vk <;> exact this
        · show Value.bool _ = Value.bool _; rfl
      | false =>
        refine q_look h fun M0 w0 ρ w M S' e oo ho hc st he => ?_
        obtain ⟨v, h1, h2⟩ := go M0 w0 ρ w M S' e oo ho hc st he
        refine ⟨_, h1, ?_⟩
        have := valA_rep (ρ := ρ) (w := w) (M := M) h2
        cases vk <;> exact this
    · exact h.elim
  · exact h.elim
end
end Go.AM
