/- The abstract machine: calls of functions; slices that are handed over, or read only from there on. -/
import Derived.Test.YtmdlfcjbjjifoabAmQCall
namespace Go.AM
open Go

def dropMs (M : Msk) (ρ : Env) (ks : List Nat) : Msk := fun b off => M b off ∧ ∀ k ∈ ks, ¬ hasB ρ k b

theorem appN_eq : ∀ (l m : List Nat), appN l m = l ++ m
  | [], _ => rfl | _ :: l, m => by simp [appN, appN_eq l m]

theorem keep_drops (w : World) (M : Msk) (ρ : Env) (ks : List Nat) : Keep w M w (dropMs M ρ ks) := fun _ _ _ h h' => ⟨h, fun hm => h' hm.1⟩

section
variable {P : Program} {TY : List TyE} {M0 : Base} {w0 w : World} {ρ : Env} {M : Msk} {S S0 : Store} {d : Nat}

/-- An owned slice read as its content, by whoever does not own it. -/
theorem vec_lent {k : Nat} {B : Blk} {r : RO} {v : Value} {ks : List Nat} (hk : k ∈ ks) (hB : BlkH ρ w M k B) (hf : frzB B = some r) (hv : RepC ρ w M (.vec k) v) : RepRO w (dropMs M ρ ks) r v :=
  blk_reads (fun _ _ h => h.1) (fun _ _ h h' => h'.2 k hk h) hB hf hv

theorem repL_nil {R R' : AV → Value → Prop} {m : List Value} (h : RepL R [] m) : RepL R' [] m := by cases m <;> exact h

theorem lendC_sound {a : AV} {K : AV → List Nat → Prop} (h : lendC S a K) :
    ∃ a' ks, K a' ks ∧ (∀ k ∈ ks, ∃ B r, findS S k = some B ∧ frzB B = some r) ∧ ((∀ l, a' ≠ .agg l) ∧ ∀ l, a' ≠ .tup l) ∧
      ∀ (ρ : Env) (w : World) (M : Msk), (∀ k B, findS S k = some B → (ρ k).isSome → BlkH ρ w M k B) → ∀ ks' v, (∀ k ∈ ks, k ∈ ks') →
        (RepC ρ w M a v → RepC noEnv w (dropMs M ρ ks') a' v) ∧ (RepT ρ w M a v → RepT noEnv w (dropMs M ρ ks') a' v) := by
  cases a with
  | vec k =>
    simp only [lendC] at h
    have go : ∀ B r, findS S k = some B → frzB B = some r → K (.ro r) [k] → ∃ a' ks, K a' ks ∧ (∀ k ∈ ks, ∃ B r, findS S k = some B ∧ frzB B = some r) ∧ ((∀ l, a' ≠ .agg l) ∧ ∀ l, a' ≠ .tup l) ∧
      ∀ (ρ : Env) (w : World) (M : Msk), (∀ k B, findS S k = some B → (ρ k).isSome → BlkH ρ w M k B) → ∀ ks' v, (∀ k ∈ ks, k ∈ ks') →
        (RepC ρ w M (.vec k) v → RepC noEnv w (dropMs M ρ ks') a' v) ∧ (RepT ρ w M (.vec k) v → RepT noEnv w (dropMs M ρ ks') a' v) := fun B r hf hr h => by
      refine ⟨_, _, h, fun j hj => by simp at hj; subst hj; exact ⟨B, r, hf, hr⟩, by simp, fun ρ w M hB ks' v hks => ?_⟩
      have hk := hks k (by simp)
      exact ⟨fun hv => vec_lent hk (hB k _ hf (by obtain ⟨o, h1, _⟩ := hv; exact bind_isSome h1)) hr hv, fun hv => vec_lent hk (hB k _ hf (by obtain ⟨o, h1, _⟩ := hv; exact bind_isSome h1)) hr hv⟩
    split at h
    · rename_i wm r hf
      exact go _ r hf rfl h
    · rename_i r hf
      exact go _ r hf rfl h
    · exact h.elim
  | int k n => exact ⟨_, _, h, by simp, by simp, fun ρ w M _ ks' v _ => ⟨id, id⟩⟩
  | bool e => exact ⟨_, _, h, by simp, by simp, fun ρ w M _ ks' v _ => ⟨id, id⟩⟩
  | ro r => exact ⟨_, _, h, by simp, by simp, fun ρ w M _ ks' v _ => ⟨fun hv => RepRO.keep (keep_drops _ _ _ _) hv, fun hv => RepRO.keep (keep_drops _ _ _ _) hv⟩⟩
  | nils => exact ⟨_, _, h, by simp, by simp, fun ρ w M _ ks' v _ => ⟨id, id⟩⟩
  | any => exact ⟨_, _, h, by simp, by simp, fun ρ w M _ ks' v _ => ⟨id, id⟩⟩
  | fn f l =>
    cases l with
    | nil => exact ⟨_, _, h, by simp, by simp, fun ρ w M _ ks' v _ => ⟨id, fun ⟨cs, h1, h2⟩ => ⟨cs, h1, repL_nil h2⟩⟩⟩
    | cons => exact h.elim
  | _ => exact h.elim

theorem lendL_sound : ∀ {l : List AV} {K : List AV → List Nat → Prop}, lendL S l K →
    ∃ l' ks, K l' ks ∧ (∀ k ∈ ks, ∃ B r, findS S k = some B ∧ frzB B = some r) ∧
      ∀ (ρ : Env) (w : World) (M : Msk), (∀ k B, findS S k = some B → (ρ k).isSome → BlkH ρ w M k B) → ∀ ks' vs, (∀ k ∈ ks, k ∈ ks') → RepL (RepC ρ w M) l vs → RepL (RepC noEnv w (dropMs M ρ ks')) l' vs
  | [], _, h => ⟨[], [], h, by simp, fun _ _ _ _ _ vs _ hv => by cases vs <;> exact hv⟩
  | a :: l, K, h => by
    obtain ⟨a', ks, h1, h2, _, h3⟩ := lendC_sound h
    obtain ⟨l', ks2, h4, h5, h6⟩ := lendL_sound h1
    refine ⟨_, _, h4, fun k hk => ?_, fun ρ w M hB ks' vs hks hv => ?_⟩
    · rw [appN_eq] at hk
      rcases List.mem_append.1 hk with hk | hk
      · exact h2 k hk
      · exact h5 k hk
    · cases vs with
      | nil => exact hv.elim
      | cons v vs =>
        rw [appN_eq] at hks
        exact ⟨(h3 ρ w M hB ks' v fun k hk => hks k (List.mem_append.2 (.inl hk))).1 hv.1, h6 ρ w M hB ks' vs (fun k hk => hks k (List.mem_append.2 (.inr hk))) hv.2⟩

theorem lendK_sound : ∀ {l : List AV} {K : List AV → List Nat → Prop}, lendK S l K →
    ∃ l' ks, K l' ks ∧ (∀ k ∈ ks, ∃ B r, findS S k = some B ∧ frzB B = some r) ∧
      ∀ (ρ : Env) (w : World) (M : Msk), (∀ k B, findS S k = some B → (ρ k).isSome → BlkH ρ w M k B) → ∀ ks' vs, (∀ k ∈ ks, k ∈ ks') → RepL (RepT ρ w M) l vs → RepL (RepT noEnv w (dropMs M ρ ks')) l' vs
  | [], _, h => ⟨[], [], h, by simp, fun _ _ _ _ _ vs _ hv => by cases vs <;> exact hv⟩
  | a :: l, K, h => by
    have go : ∃ a' ks, (lendK S l fun l' ks' => K (a' :: l') (appN ks ks')) ∧ (∀ k ∈ ks, ∃ B r, findS S k = some B ∧ frzB B = some r) ∧
        ∀ (ρ : Env) (w : World) (M : Msk), (∀ k B, findS S k = some B → (ρ k).isSome → BlkH ρ w M k B) → ∀ ks' v, (∀ k ∈ ks, k ∈ ks') → RepT ρ w M a v → RepT noEnv w (dropMs M ρ ks') a' v := by
      cases a with
      | agg m =>
        obtain ⟨m', ks, h1, h2, h3⟩ := lendL_sound h
        exact ⟨_, _, h1, h2, fun ρ w M hB ks' v hks ⟨cs, h4, h5⟩ => ⟨cs, h4, h3 ρ w M hB ks' _ hks h5⟩⟩
      | _ =>
        simp only [lendK] at h
        obtain ⟨a', ks, h1, h2, _, h3⟩ := lendC_sound h
        exact ⟨_, _, h1, h2, fun ρ w M hB ks' v hks hv => (h3 ρ w M hB ks' v hks).2 hv⟩
    obtain ⟨a', ks, h1, h2, h3⟩ := go
    obtain ⟨l', ks2, h4, h5, h6⟩ := lendK_sound h1
    refine ⟨_, _, h4, fun k hk => ?_, fun ρ w M hB ks' vs hks hv => ?_⟩
    · rw [appN_eq] at hk
      rcases List.mem_append.1 hk with hk | hk
      · exact h2 k hk
      · exact h5 k hk
    · cases vs with
      | nil => exact hv.elim
      | cons v vs =>
        rw [appN_eq] at hks
        exact ⟨h3 ρ w M hB ks' v (fun k hk => hks k (List.mem_append.2 (.inl hk))) hv.1, h6 ρ w M hB ks' vs (fun k hk => hks k (List.mem_append.2 (.inr hk))) hv.2⟩

/-- Several keys, read only from here on. -/
theorem freezes_sound {a : Act} : ∀ {ks : List Nat} {T : List AV} {S : Store} {ρ : Env} {M : Msk} {K : List AV → Store → Prop}, freezesK ks T S K → St M0 w0 ρ M S w → Tm ρ w M T a →
    ∃ T' S' ρ' M', K T' S' ∧ St M0 w0 ρ' M' S' w ∧ Tm ρ' w M' T' a ∧ T'.length = T.length ∧ ∀ b off, M' b off ↔ dropMs M ρ ks b off
  | [], T, S, ρ, M, K, h, st, tm => ⟨T, S, ρ, M, h, st, tm, rfl, fun b off => ⟨fun h => ⟨h, fun k hk => by cases hk⟩, fun h => h.1⟩⟩
  | k :: ks, T, S, ρ, M, K, h, st, tm => by
    simp only [freezesK] at h
    split at h
    · rename_i hf
      obtain ⟨T', S', ρ', M', h1, h2, h3, h4, h5⟩ := freezes_sound h st tm
      refine ⟨T', S', ρ', M', h1, h2, h3, h4, fun b off => ?_⟩
      rw [h5 b off]
      have hn : ρ k = none := by
        have := st.dom k; rw [hf] at this
        cases hρ : ρ k with | none => rfl | some o => rw [hρ] at this; cases this
      refine ⟨fun hm => ⟨hm.1, fun j hj => ?_⟩, fun hm => ⟨hm.1, fun j hj => hm.2 j (List.mem_cons_of_mem _ hj)⟩⟩
      rcases List.mem_cons.1 hj with rfl | hj
      · simp [hasB, hn]
      · exact hm.2 j hj
    · obtain ⟨B, r, hf, T1, S1, h1, h2, h3, h4, _⟩ := freeze_sound h st tm
      obtain ⟨T', S', ρ', M', h5, h6, h7, h8, h9⟩ := freezes_sound h1 h2 h3
      refine ⟨T', S', ρ', M', h5, h6, h7, h8.trans h4, fun b off => ?_⟩
      rw [h9 b off]
      constructor
      · intro hm
        refine ⟨hm.1.1, fun j hj => ?_⟩
        rcases List.mem_cons.1 hj with rfl | hj
        · exact hm.1.2
        · intro hb
          by_cases hjk : j = k
          · subst hjk; exact hm.1.2 hb
          · exact hm.2 j hj (by simpa [hasB, dropE, hjk] using hb)
      · intro hm
        refine ⟨⟨hm.1, hm.2 k (by simp)⟩, fun j hj hb => ?_⟩
        by_cases hjk : j = k
        · subst hjk; simp [hasB, dropE] at hb
        · exact hm.2 j (List.mem_cons_of_mem _ hj) (by simpa [hasB, dropE, hjk] using hb)

def Flat : RO → Prop
  | .ints _ _ => True | .bools _ => True | .pairs _ => True | _ => False

theorem flat_cell {w w' : World} {M M' : Msk} {r : RO} (hr : Flat r) {q : Nat} {c : Value} (h : CellP w M r q c) : CellP w' M' r q c := by
  cases r <;> first | exact h | exact hr.elim

/-- What a call leaves behind. 'lend': the cells that were lent are the caller's again. -/
structure Back (M : Msk) (ρ : Env) (w : World) (w' : World) (M2 : Msk) : Prop where
  stp : Stp (fun _ _ => False) w w'
  old : ∀ b off, b < w.heap.size → (M2 b off ↔ M b off)
  lt : ∀ b off, M2 b off → b < w'.heap.size

/-- A slice that the callee hands over, under the key d. -/
theorem St.take {w' : World} {o : Sl} {r : RO} (st : St M0 w0 ρ M S w') (hd : findS S d = none) (hV : VecH noEnv w' M o 0 r []) (hb : ∀ b, o.blk = some b → ∀ k, ¬ hasB ρ k b) (hfr : ∀ b, o.blk = some b → w0.heap.size ≤ b) (hloc : loc d = true) :
    St M0 w0 (fun k => if k = d then some (.sl o) else ρ k) M ((d, .vec 0 r []) :: S) w' := by
  have hρd : ρ d = none := by
    have := st.dom d; rw [hd] at this
    cases h : ρ d with | none => rfl | some o => rw [h] at this; cases this
  have hext : ∀ k o', ρ k = some o' → (fun k => if k = d then some (Own.sl o) else ρ k) k = some o' := fun k o' h => by
    have : k ≠ d := fun e => by subst e; rw [hρd] at h; cases h
    simp [this, h]
  have hold : ∀ k b, k ≠ d → hasB (fun k => if k = d then some (Own.sl o) else ρ k) k b → hasB ρ k b := fun k b hk h => by simpa [hasB, hk] using h
  refine ⟨fun k => ?_, fun k B hB => ?_, fun i j b hi hj => ?_, st.mlt, st.stp, st.sub, st.old, fun k b hkb => ?_, fun k o' hk ho => ?_⟩
  · by_cases hkd : k = d
    · subst hkd; simp [find_cons]
    · simp [hkd, find_cons, Ne.symm hkd, st.dom k]
  · by_cases hkd : k = d
    · subst hkd
      simp only [find_cons, if_true] at hB
      cases hB
      refine ⟨⟨o, by simp, ?_⟩, .inl rfl⟩
      obtain ⟨h3, h4, h5, h6, h7⟩ := hV
      refine ⟨h3, h4, h5, h6, ?_⟩
      cases hbl : o.blk with
      | none => simp only [hbl] at h7 ⊢; exact h7
      | some b => simp only [hbl] at h7 ⊢; exact h7
    · simp only [find_cons, Ne.symm hkd, if_false] at hB
      exact BlkH.ext (Keep.refl _ _) hext (fun b hb => ⟨rfl, fun _ => Iff.rfl⟩) (st.blk k B hB)
  · by_cases hid : i = d
    · by_cases hjd : j = d
      · rw [hid, hjd]
      · subst hid
        simp [hasB, Own.has] at hi
        exact absurd (hold j b hjd hj) (hb b hi j)
    · by_cases hjd : j = d
      · subst hjd
        simp [hasB, Own.has] at hj
        exact absurd (hold i b hid hi) (hb b hj i)
      · exact st.inj _ _ _ (hold i b hid hi) (hold j b hjd hj)
  · by_cases hkd : k = d
    · subst hkd
      exact .inl (hfr b (by simpa [hasB, Own.has] using hkb))
    · exact st.fresh k b (hold k b hkd hkb)
  · by_cases hkd : k = d
    · subst hkd; rw [hloc] at hk; cases hk
    · exact st.pin k o' hk (by simpa [hkd] using ho)

theorem news_le {l : List AV} (h : newL l ≤ 1) {a : AV} {m : List AV} (hl : l = a :: m) (ha : newA a = 1) : newL m = 0 := by
  subst hl
  simp only [newL, ha] at h
  omega

theorem newL_cons0 {a : AV} {m : List AV} (h : newA a = 0) : newL (a :: m) = newL m := by simp [newL, h]

/-- What is handed back, none of it whole: as the caller reads it. -/
theorem rep_old {a : AV} {v : Value} {w' : World} {M' M2 : Msk} (hn : newA a = 0) (hk : Keep w' M' w' M2) (h : RepRc w w' M' a v) : RepG ρ w' M2 a v := by
  cases a with
  | new r => cases hn
  | _ => simp only [RepRc] at h; exact RepG.keep hk (fun k o ho => by cases ho) h

theorem bindL_sound {w' : World} {M' M2 : Msk} {a : Act} (hw0 : w0.heap.size ≤ w.heap.size) (hk : Keep w' M' w' M2) (hnew : ∀ b off, w.heap.size ≤ b → (M2 b off ↔ M' b off)) :
    ∀ {l : List AV} {vs : List Value} {T : List AV} {S : Store} {ρ : Env} {K : List AV → List AV → Store → Prop}, bindL d l T S K → newL l ≤ 1 → RepL (RepRc w w' M') l vs →
      St M0 w0 ρ M2 S w' → Tm ρ w' M2 T a → (∀ k b, hasB ρ k b → b < w.heap.size) →
      ∃ m T' S' ρ' M3, K m T' S' ∧ St M0 w0 ρ' M3 S' w' ∧ Tm ρ' w' M3 T' a ∧ T'.length = T.length ∧ RepL (RepG ρ' w' M3) m vs ∧ Keep w' M2 w' M3
  | [], vs, T, S, ρ, K, h, _, hv, st, tm, _ => ⟨[], T, S, ρ, M2, h, st, tm, rfl, by cases vs <;> exact hv, Keep.refl _ _⟩
  | x :: l, [], T, S, ρ, K, h, _, hv, st, tm, _ => hv.elim
  | x :: l, v :: vs, T, S, ρ, K, h, hn, hv, st, tm, hlt => by
    cases x with
    | new r =>
      obtain ⟨T', S', h1, h2, h3, h4, h5, hloc⟩ := kill_sound (k := d) h st tm
      obtain ⟨o, rfl, hV, hob⟩ := hv.1
      have hn0 : newL l = 0 := by simp only [newL, newA] at hn; omega
      have hV' : VecH noEnv w' (dropM M2 ρ d) o 0 r [] := by
        obtain ⟨g3, g4, g5, g6, g7⟩ := hV
        refine ⟨g3, g4, g5, g6, ?_⟩
        cases hbl : o.blk with
        | none => simp only [hbl] at g7 ⊢; exact g7
        | some b =>
          simp only [hbl] at g7 ⊢
          obtain ⟨g8, cs, ty, g9, g10, g11, g12⟩ := g7
          have hge := hob b hbl
          have hne : ¬ hasB ρ d b := fun e => by have := hlt _ _ e; omega
          refine ⟨g8, cs, ty, g9, g10, fun off => ?_, fun q hq => ?_⟩
          · rw [← g11 off]
            exact ⟨fun hm => (hnew b off hge).1 hm.1, fun hm => ⟨(hnew b off hge).2 hm, hne⟩⟩
          · obtain ⟨c, g13, g14⟩ := g12 q hq
            exact ⟨c, g13, (g14.keep hk).keep (keep_drop _ _ _ _)⟩
      have hst := h2.take (d := d) h5 hV' (fun b hbl k hkb => by
        have hge := hob b hbl
        by_cases hkd : k = d
        · subst hkd; simp [hasB, dropE] at hkb
        · have := hlt k b (by simpa [hasB, dropE, hkd] using hkb); omega) (fun b hbl => Nat.le_trans hw0 (hob b hbl)) hloc
      have hext : ∀ k o', dropE ρ d k = some o' → (fun k => if k = d then some (Own.sl o) else dropE ρ d k) k = some o' := fun k o' hk' => by
        have : k ≠ d := fun e => by subst e; simp [dropE] at hk'
        simp [this, hk']
      refine ⟨_, T', _, _, _, h1, hst, ⟨h3.defers, h3.size, fun i => RepT.keep (Keep.refl _ _) hext (h3.tmp i)⟩, h4, ⟨⟨o, (by simp [Own.sli] : (if d = d then some (Own.sl o) else dropE ρ d d).bind Own.sli = some o), rfl⟩, ?_⟩, keep_drop _ _ _ _⟩
      -- the rest: nothing whole
      have rest : ∀ {l : List AV} {vs : List Value}, newL l = 0 → RepL (RepRc w w' M') l vs → RepL (RepG (fun k => if k = d then some (Own.sl o) else dropE ρ d k) w' (dropM M2 ρ d)) l vs := by
        intro l
        induction l with
        | nil => intro vs _ hv; cases vs <;> exact hv
        | cons y l ih =>
          intro vs hn hv
          cases vs with
          | nil => exact hv.elim
          | cons u vs =>
            have hy : newA y = 0 := by
              cases hy : newA y with
              | zero => rfl
              | succ n => simp [newL, hy] at hn
            rw [newL_cons0 hy] at hn
            exact ⟨RepG.keep (keep_drop _ _ _ _) (fun k o ho => by cases ho) (rep_old (ρ := noEnv) hy hk hv.1), ih hn hv.2⟩
      exact rest hn0 hv.2
    | _ =>
      simp only [bindL] at h
      rw [newL_cons0 rfl] at hn
      obtain ⟨m, T', S', ρ', M3, h1, h2, h3, h4, h5, h6⟩ := bindL_sound hw0 hk hnew h hn hv.2 st tm hlt
      exact ⟨_, T', S', ρ', M3, h1, h2, h3, h4, ⟨RepG.keep h6 (fun k o ho => by cases ho) (rep_old (ρ := noEnv) rfl hk hv.1), h5⟩, h6⟩

theorem bindK_sound {w' : World} {M' M2 : Msk} {a : Act} (hw0 : w0.heap.size ≤ w.heap.size) (hk : Keep w' M' w' M2) (hnew : ∀ b off, w.heap.size ≤ b → (M2 b off ↔ M' b off))
    {x : AV} {v : Value} {T : List AV} {S : Store} {ρ : Env} {K : AV → List AV → Store → Prop} (h : bindK d x T S K) (hn : news x ≤ 1) (hv : RepR w w' M' x v)
    (st : St M0 w0 ρ M2 S w') (tm : Tm ρ w' M2 T a) (hlt : ∀ k b, hasB ρ k b → b < w.heap.size) :
    ∃ y T' S' ρ' M3, K y T' S' ∧ St M0 w0 ρ' M3 S' w' ∧ Tm ρ' w' M3 T' a ∧ T'.length = T.length ∧ RepT ρ' w' M3 y v := by
  cases x with
  | tup l =>
    obtain ⟨cs, rfl, hcs⟩ := hv
    obtain ⟨m, T', S', ρ', M3, h1, h2, h3, h4, h5, _⟩ := bindL_sound hw0 hk hnew h hn hcs st tm hlt
    exact ⟨_, T', S', ρ', M3, h1, h2, h3, h4, cs, rfl, h5⟩
  | new r =>
    obtain ⟨m, T', S', ρ', M3, h1, h2, h3, h4, h5, _⟩ := bindL_sound (d := d) (K := fun m T S => match m with | [.vec j] => K (.vec j) T S | _ => False) (l := [.new r]) (vs := [v]) hw0 hk hnew (show killK d T S _ from h) (by simp [newL, newA]) ⟨hv, trivial⟩ st tm hlt
    match m, h1, h5 with
    | [.vec j], h1, h5 => exact ⟨.vec j, T', S', ρ', M3, h1, h2, h3, h4, h5.1⟩
  | _ =>
    simp only [bindK] at h
    have h := force_iff.1 h
    simp only [RepR] at hv
    exact ⟨_, T, S, ρ, M2, h, st, tm, rfl, RepT.keep hk (fun k o ho => by cases ho) hv⟩

theorem safe_cells {l : List AV} {vs : List Value} {w w' : World} {M' M2 : Msk} (hnew : ∀ b off, w.heap.size ≤ b → (M2 b off ↔ M' b off)) (hs : safeL l = true) (h : RepL (RepRc w w' M') l vs) : RepL (RepRc w w' M2) l vs := by
  induction l generalizing vs with
  | nil => cases vs <;> exact h
  | cons a l ih =>
    cases vs with
    | nil => exact h.elim
    | cons v vs =>
      simp only [safeL] at hs
      cases ha : safeA a with
      | false => rw [ha] at hs; cases hs
      | true =>
        rw [ha] at hs
        refine ⟨?_, ih hs h.2⟩
        have h1 := h.1
        cases a with
        | int k n => exact h1
        | bool e => exact h1
        | nils => exact h1
        | any => exact h1
        | new r =>
          obtain ⟨o, h2, ⟨g3, g4, g5, g6, g7⟩, hob⟩ := h1
          refine ⟨o, h2, ⟨g3, g4, g5, g6, ?_⟩, hob⟩
          cases hbl : o.blk with
          | none => simp only [hbl] at g7 ⊢; exact g7
          | some b =>
            simp only [hbl] at g7 ⊢
            obtain ⟨g8, cs, ty, g9, g10, g11, g12⟩ := g7
            have hflat : Flat r := by cases r <;> first | trivial | cases ha
            exact ⟨g8, cs, ty, g9, g10, fun off => (hnew b off (hob b hbl)).trans (g11 off), fun q hq => by obtain ⟨c, g13, g14⟩ := g12 q hq; exact ⟨c, g13, flat_cell hflat g14⟩⟩
        | _ => cases ha

theorem safe_flat {l : List AV} {vs : List Value} {w' : World} {M' M2 : Msk} {ρ ρ' : Env} (hs : safeL l = true) (h : RepL (RepC ρ w' M') l vs) : RepL (RepC ρ' w' M2) l vs := by
  induction l generalizing vs with
  | nil => cases vs <;> exact h
  | cons a l ih =>
    cases vs with
    | nil => exact h.elim
    | cons v vs =>
      simp only [safeL] at hs
      cases ha : safeA a with
      | false => rw [ha] at hs; cases hs
      | true =>
        rw [ha] at hs
        refine ⟨?_, ih hs h.2⟩
        have h1 := h.1
        cases a with
        | int k n => exact h1
        | bool e => exact h1
        | nils => exact h1
        | any => exact h1
        | new r => exact h1.elim
        | _ => cases ha

theorem safe_rep {ret : AV} {v : Value} {w w' : World} {M' M2 : Msk} (hnew : ∀ b off, w.heap.size ≤ b → (M2 b off ↔ M' b off)) (hs : safe ret = true) (h : RepR w w' M' ret v) : RepR w w' M2 ret v := by
  cases ret with
  | tup l => obtain ⟨cs, h1, h2⟩ := h; exact ⟨cs, h1, safe_cells hnew hs h2⟩
  | agg l => obtain ⟨cs, h1, h2⟩ := h; exact ⟨cs, h1, safe_flat hs h2⟩
  | int k n => exact h
  | bool e => exact h
  | nils => exact h
  | any => exact h
  | new r => exact (safe_cells (l := [.new r]) (vs := [v]) hnew (by have hs : safeA (.new r) = true := hs; simp [safeL, hs]) ⟨h, trivial⟩).1
  | _ => cases hs

theorem callK_callable {F : Spec} (hF : SpecOk P F) {f : FuncId} {as : List AV} {T : List AV} {K : AV → List AV → Store → Prop} (h : callK F d f as T S K) : Callable P f := by
  obtain ⟨as', ks, ⟨as2, ret, hf, _⟩, _⟩ := lendK_sound h
  exact (hF.q f as2 ret hf).1

/-- Behind a call. -/
theorem backK_sound {ks : List Nat} {ret : AV} {T : List AV} {K : AV → List AV → Store → Prop} {a : Act} {w' : World} {u : Value}
    (h : backK d ks ret T S K) (st : St M0 w0 ρ M S w) (tm : Tm ρ w M T a) (hs : Stp (fun _ _ => False) w w') (hret : RetH (dropMs M ρ ks) w w' ret u) :
    ∃ ρ' M' T' S' v, K v T' S' ∧ St M0 w0 ρ' M' S' w' ∧ Tm ρ' w' M' T' a ∧ T'.length = T.length ∧ RepT ρ' w' M' v u := by
  unfold backK at h
  rw [ifK_iff] at h
  obtain ⟨hn, h⟩ := h
  rw [Nat.ble_eq] at hn
  obtain ⟨M'', hold, hlt, hret⟩ := hret
  have hblk : ∀ k b, hasB ρ k b → b < w.heap.size := fun k b hk => blk_lt st hk
  -- nothing is kept of what was lent
  have goA : safe ret = true → bindK d ret T S K → ∃ ρ' M' T' S' v, K v T' S' ∧ St M0 w0 ρ' M' S' w' ∧ Tm ρ' w' M' T' a ∧ T'.length = T.length ∧ RepT ρ' w' M' v u := by
    intro hsafe h
    let M2 : Msk := fun b off => (b < w.heap.size ∧ M b off) ∨ (w.heap.size ≤ b ∧ M'' b off)
    have h2old : ∀ b off, b < w.heap.size → (M2 b off ↔ M b off) := fun b off hb => ⟨fun hm => hm.elim (fun h => h.2) (fun h => absurd h.1 (by omega)), fun hm => .inl ⟨hb, hm⟩⟩
    have h2new : ∀ b off, w.heap.size ≤ b → (M2 b off ↔ M'' b off) := fun b off hb => ⟨fun hm => hm.elim (fun h => absurd h.1 (by omega)) (fun h => h.2), fun hm => .inr ⟨hb, hm⟩⟩
    obtain ⟨st', hk⟩ := st.same hs h2old (fun b off hm => by
      rcases hm with hm | hm
      · exact Nat.lt_of_lt_of_le hm.1 hs.1
      · exact hlt b off hm.2)
    have tm' : Tm ρ w' M2 T a := ⟨tm.defers, tm.size, fun i => RepT.keep hk (fun _ _ h => h) (tm.tmp i)⟩
    obtain ⟨y, T', S', ρ', M3, h1, h2, h3, h4, h5⟩ := bindK_sound st.stp.1 (Keep.refl w' M2) (fun _ _ _ => Iff.rfl) h hn (safe_rep h2new hsafe hret) st' tm' hblk
    exact ⟨ρ', M3, T', S', y, h1, h2, h3, h4, h5⟩
  -- what was lent is read only from here on
  have goB : ∀ {T1 : List AV} {S1 : Store} {ρ1 : Env} {M1 : Msk}, St M0 w0 ρ1 M1 S1 w → Tm ρ1 w M1 T1 a → (∀ b off, M1 b off ↔ dropMs M ρ ks b off) → bindK d ret T1 S1 K →
      ∃ ρ' M' T' S' v, K v T' S' ∧ St M0 w0 ρ' M' S' w' ∧ Tm ρ' w' M' T' a ∧ T'.length = T1.length ∧ RepT ρ' w' M' v u := by
    intro T1 S1 ρ1 M1 st1 tm1 hM1 h
    obtain ⟨st', hk⟩ := st1.same (M' := M'') hs (fun b off hb => (hold b off hb).trans (hM1 b off).symm) hlt
    have tm' : Tm ρ1 w' M'' T1 a := ⟨tm1.defers, tm1.size, fun i => RepT.keep hk (fun _ _ h => h) (tm1.tmp i)⟩
    obtain ⟨y, T', S', ρ', M3, h1, h2, h3, h4, h5⟩ := bindK_sound st.stp.1 (Keep.refl w' M'') (fun _ _ _ => Iff.rfl) h hn hret st' tm' (fun k b hk => blk_lt st1 hk)
    exact ⟨ρ', M3, T', S', y, h1, h2, h3, h4, h5⟩
  cases hsafe : safe ret with
  | true =>
    rw [hsafe] at h
    exact goA hsafe (by cases ks <;> exact h)
  | false =>
    rw [hsafe] at h
    cases ks with
    | nil => exact goB st tm (fun b off => ⟨fun hm => ⟨hm, fun k hk => by cases hk⟩, fun hm => hm.1⟩) h
    | cons k0 ks0 =>
      obtain ⟨T1, S1, ρ1, M1, h1, h2, h3, h4, h5⟩ := freezes_sound h st tm
      obtain ⟨ρ', M', T', S', v, g1, g2, g3, g4, g5⟩ := goB h2 h3 h5 h1
      exact ⟨ρ', M', T', S', v, g1, g2, g3, g4.trans h4, g5⟩

theorem callK_sound {F : Spec} (hF : SpecOk P F) {f : FuncId} {as : List AV} {T : List AV} {K : AV → List AV → Store → Prop} {vs : List Value} {a : Act}
    (h : callK F d f as T S K) (st : St M0 w0 ρ M S w) (tm : Tm ρ w M T a) (hv : RepL (RepT ρ w M) as vs) :
    Calls P f vs.toArray w fun e w' => ∃ u, e = .returned u ∧ ∃ ρ' M' T' S' v, K v T' S' ∧ St M0 w0 ρ' M' S' w' ∧ Tm ρ' w' M' T' a ∧ T'.length = T.length ∧ RepT ρ' w' M' v u := by
  obtain ⟨as', ks, ⟨as2, ret, hf, hargs, h⟩, hks, hrep⟩ := lendK_sound h
  have hv' := args_none hargs (hrep ρ w M (fun k B h _ => st.blk k B h) ks vs (fun k hk => hk) hv)
  exact ((hF.q f as2 ret hf).2 (dropMs M ρ ks) w vs (fun b off hm => st.mlt b off hm.1) hv').mono fun e w' ⟨u, he, hs, hret⟩ => ⟨u, he, backK_sound h st tm hs hret⟩

theorem callEK_callable {F : Spec} (hF : SpecOk P F) {f : FuncId} {as : List AV} {T : List AV} {K : AV → List AV → Store → Prop} (h : callEK F d f as T S K) : Callable P f := by
  obtain ⟨as', ks, ⟨X, as2, out, ok, hf, _⟩, _⟩ := lendK_sound h
  exact (hF.e f as2 X out ok hf).1

theorem callEK_sound {F : Spec} (hF : SpecOk P F) {f : FuncId} {as : List AV} {T : List AV} {K : AV → List AV → Store → Prop} {vs : List Value} {a : Act}
    (h : callEK F d f as T S K) (st : St M0 w0 ρ M S w) (tm : Tm ρ w M T a) (hv : RepL (RepT ρ w M) as vs) :
    Calls P f vs.toArray w fun e w' => ∃ u, e = .returned u ∧ ∃ ρ' M' T' S' v, K v T' S' ∧ St M0 w0 ρ' M' S' w' ∧ Tm ρ' w' M' T' a ∧ T'.length = T.length ∧ RepT ρ' w' M' v u := by
  obtain ⟨as', ks, ⟨X, as2, out, ok, hf, hargs, h⟩, hks, hrep⟩ := lendK_sound h
  have hv' := args_none hargs (hrep ρ w M (fun k B h _ => st.blk k B h) ks vs (fun k hk => hk) hv)
  exact ((hF.e f as2 X out ok hf).2 (dropMs M ρ ks) w vs (fun b off hm => st.mlt b off hm.1) hv').mono fun e w' ⟨x, hx, u, he, hs, hret⟩ => ⟨u, he, backK_sound (h x hx) st tm hs hret⟩
end
end Go.AM
