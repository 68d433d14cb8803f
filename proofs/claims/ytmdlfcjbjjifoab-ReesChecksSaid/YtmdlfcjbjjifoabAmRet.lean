/- The abstract machine: functions: from the obligation to the contract. -/
import Derived.Test.YtmdlfcjbjjifoabAmCode
namespace Go.AM
open Go

section
variable {P : Program} {TY : List TyE} {M0 : Base} {w0 w : World} {ρ : Env} {M : Msk} {S S' : Store}

theorem cleanA_none {ρ : Env} {a : AV} {v : Value} (hc : cleanA a = true) : ((∀ l, a ≠ .agg l) → (∀ l, a ≠ .tup l) → (∀ f l, a ≠ .fn f l) → RepT ρ w M a v → RepT noEnv w M a v) ∧ ((∀ l, a ≠ .agg l) → RepG ρ w M a v → RepG noEnv w M a v) ∧ (RepC ρ w M a v → RepC noEnv w M a v) := by
  cases a with
  | vec k => cases hc
  | ptr k o => cases hc
  | vptr k o => cases hc
  | agg l => exact ⟨fun h => absurd rfl (h l), fun h => absurd rfl (h l), fun hv => hv.elim⟩
  | tup l => cases hc
  | fn f l =>
    cases l with
    | nil => exact ⟨fun _ _ h => absurd rfl (h f []), fun _ => id, id⟩
    | cons x l => cases hc
  | _ => exact ⟨fun _ _ _ => id, fun _ => id, id⟩

theorem cleanL_none {ρ : Env} : ∀ {l : List AV} {vs : List Value}, cleanL l = true → RepL (RepC ρ w M) l vs → RepL (RepC noEnv w M) l vs
  | [], [], _, _ => trivial
  | a :: l, v :: vs, hn, hv => by
    simp only [cleanL] at hn
    split at hn
    · rename_i ha; exact ⟨(cleanA_none ha).2.2 hv.1, cleanL_none hn hv.2⟩
    · cases hn
  | [], _ :: _, _, hv => hv.elim
  | _ :: _, [], _, hv => hv.elim

def cleanT (b : AV) : Bool := match b with | .agg m => cleanL m | b => cleanA b

theorem cleanG_cons {a : AV} {l : List AV} (h : cleanG (a :: l) = true) : cleanT a = true ∧ cleanG l = true := by
  cases a <;> simp only [cleanG] at h <;> (split at h) <;> first | exact ⟨by assumption, h⟩ | cases h

/-- One of the results. -/
theorem leR_sound (hfresh : ∀ b k, hasB ρ k b → w0.heap.size ≤ b) (st : St M0 w0 ρ M S w) {a b : AV} {v : Value} (h : leR S S' a b) (hc : cleanT b = true) (hS : ∀ k B, findS S' k = some B → ∃ l, B = .box l) (hv : RepT ρ w M a v)
    (hnew : ∀ k r, a = .vec k → b = .new r → (findS S' k).isSome) : RepRc w0 w (entM S' ρ M) b v := by
  have hk := ent_keep S' ρ w M
  cases b with
  | new r' =>
    cases a <;> try exact h.elim
    · rename_i k
      simp only [leR] at h
      split at h
      · rename_i wm r hf
        obtain ⟨rfl, rfl⟩ := h
        obtain ⟨o, h1, h2⟩ := hv
        obtain ⟨⟨o', g1, g2, g3, g4, g5, g6⟩, _⟩ := st.blk k _ hf
        obtain rfl := sli_sl g1 h1
        replace h1 := g1
        refine ⟨o, h2, ⟨g2, g3, g4, g5, ?_⟩, fun b hb => hfresh b k (by simp [hasB, h1, Own.has, hb])⟩
        cases hbl : o.blk with
        | none => simp only [hbl] at g6 ⊢; exact g6
        | some b =>
          simp only [hbl] at g6 ⊢
          obtain ⟨g7, cs, ty, g8, g9, g10, g11⟩ := g6
          refine ⟨g7, cs, ty, g8, g9, fun off => ?_, fun q hq => ?_⟩
          · rw [← g10 off]
            refine ⟨fun hm => hm.1, fun hm => ⟨hm, fun j hj => ?_⟩⟩
            have hbk : hasB ρ k b := by simp [hasB, h1, Own.has, hbl]
            obtain rfl := st.inj _ _ _ hj hbk
            obtain ⟨B, hB⟩ := Option.isSome_iff_exists.1 (hnew _ _ rfl rfl)
            obtain ⟨l, rfl⟩ := hS _ _ hB
            exact ⟨_, hB, fun wm r ov he => by cases he⟩
          · obtain ⟨c, g12, g13⟩ := g11 q hq; exact ⟨c, g12, CellP.keep hk g13⟩
      · exact h.elim
    · have hv : v = .slice none 0 0 := hv
      have h : r'.len = 0 := h
      exact ⟨⟨none, 0, 0, r'.sz⟩, by rw [hv]; rfl, ⟨h.symm, rfl, by rw [h]; exact Nat.zero_le _, Nat.zero_le _, h, rfl⟩, fun b hb => by cases hb⟩
  | agg m =>
    have h : leT S S' a (.agg m) := h
    obtain ⟨cs, h1, h2⟩ := entT st h hv
    exact ⟨cs, h1, cleanL_none hc h2⟩
  | tup m => cases hc
  | fn f m =>
    cases m with
    | cons => cases hc
    | nil =>
      have h : leT S S' a (.fn f []) := h
      obtain ⟨cs, h1, h2⟩ := entT st h hv
      have : cs = #[] := by
        obtain ⟨l⟩ := cs
        cases l with
        | nil => rfl
        | cons => exact h2.elim
      subst this
      exact h1
  | _ =>
    simp only [leR] at h
    have h1 := entT st h hv
    first
      | exact (cleanA_none hc).1 (by simp) (by simp) (by simp) h1
      | trivial
theorem leRs_sound (hfresh : ∀ b k, hasB ρ k b → w0.heap.size ≤ b) (st : St M0 w0 ρ M S w) (hS : ∀ k B, findS S' k = some B → ∃ l, B = .box l) : ∀ {as bs : List AV} {vs : List Value}, leRs S S' as bs → cleanG bs = true → RepL (RepT ρ w M) as vs →
    (∀ k r, (AV.vec k, AV.new r) ∈ as.zip bs → (findS S' k).isSome) → RepL (RepRc w0 w (entM S' ρ M)) bs vs
  | [], [], _, _, _, h, _ => by cases ‹List Value› <;> exact h
  | a :: as, b :: bs, v :: vs, h, hc, hv, hn => by
    obtain ⟨h1, h2⟩ := cleanG_cons hc
    refine ⟨leR_sound hfresh st h.1 h1 hS hv.1 fun k r e1 e2 => hn k r (by subst e1; subst e2; simp), leRs_sound hfresh st hS h.2 h2 hv.2 fun k r hm => hn k r (by simp at hm ⊢; exact .inr hm)⟩
  | [], _ :: _, _, h, _, _, _ => h.elim
  | _ :: _, [], _, h, _, _, _ => h.elim
  | _ :: _, _ :: _, [], _, _, hv, _ => hv.elim

theorem newKey_box : ∀ (as rs : List AV) (k : Nat) (B : Blk), (k, B) ∈ newKey as rs → B = .box []
  | [], _, _, _, h => by simp [newKey] at h
  | _ :: _, [], _, _, h => by
    rename_i a _
    cases a <;> simp [newKey] at h
  | a :: as, r :: rs, k, B, h => by
    have go : (k, B) ∈ newKey as rs → B = .box [] := newKey_box as rs k B
    cases a <;> cases r <;> simp only [newKey] at h <;> first
      | exact go h
      | (split at h
         · simp at h; exact h.2
         · rcases List.mem_cons.1 h with he | he
           · cases he; rfl
           · exact go he)

theorem newKey_mem : ∀ (as rs : List AV) (k : Nat) (r : RO), (AV.vec k, AV.new r) ∈ as.zip rs → ∃ B, (k, B) ∈ newKey as rs
  | [], _, _, _, h => by simp at h
  | _ :: _, [], _, _, h => by simp at h
  | a :: as, b :: rs, k, r, h => by
    simp only [List.zip_cons_cons, List.mem_cons] at h
    rcases h with h | h
    · cases h
      simp only [newKey]
      split
      · exact ⟨_, List.mem_singleton.2 rfl⟩
      · exact ⟨_, by simp; exact .inl rfl⟩
    · obtain ⟨B, hB⟩ := newKey_mem as rs k r h
      have lift : ∃ B, (k, B) ∈ newKey (a :: as) (b :: rs) := by
        cases a <;> cases b <;> simp only [newKey] <;> first
          | exact ⟨B, hB⟩
          | (split
             · rename_i he; rw [he] at hB; cases hB
             · exact ⟨B, List.mem_cons_of_mem _ hB⟩)
      exact lift
/-- The values of the results. -/
def resOne (tmps : Array Value) : ResultVar → Sem Value
  | .tmp t => pure (tmps.getD t undef)
  | .cell a t => do loadVar t (← asAddr (tmps.getD a undef))

theorem resOne_cell (hty : TyOk P TY) {t ty k off : Nat} {T : List AV} {a : Act} {b : List AV} {K : AV → Prop} (hT : nth T t = .ptr k off) (hf : findS S k = some (.box b)) (h : partK TY ty b off K) :
    ∃ v, K v ∧ ∀ {ρ : Env} {w : World} {M : Msk}, St M0 w0 ρ M S w → Tm ρ w M T a → ∃ u, (resOne a.tmps (.cell t ty)).run P w = .ok u w ∧ RepT ρ w M v u := by
  obtain ⟨v, hK, hlen, hv⟩ := part_iff h
  refine ⟨v, hK, fun {ρ w M} st tm => ?_⟩
  have htm := tm.tmp t
  rw [hT] at htm
  have htm : (ρ k).bind (Own.ref · off) = some (a.tmps.getD t undef) := htm
  obtain ⟨b0, h3, cs, tyy, h4, h5, h6⟩ := st.blk k _ hf
  have h2 := ref_bx h3 htm
  have hsize : b.length = cs.size := by rw [RepL.length h6, Array.length_toList]
  rcases hv with ⟨hag, rfl⟩ | ⟨hag, hs, rfl⟩
  · have hrow := hty.at (t := ty) (.inr (fun e => by rw [e] at hag; cases hag))
    refine ⟨.agg ((cs.toList.drop off).take (nthT TY ty).sz).toArray, ?_, ⟨_, rfl, by simpa using (h6.drop off).take _⟩⟩
    have := run_loadN (P := P) (w := w) (b := b0) (off := off) (cs := (cs.toList.drop off).take (nthT TY ty).sz) hrow hag (by simp; omega) (fun j c hj => by
      rw [List.getElem?_take] at hj
      split at hj
      · rw [List.getElem?_drop, Array.getElem?_toList] at hj; rw [cell_of_heap h4]; exact hj
      · cases hj)
    simp only [Instr.loadAt, Instr.sureAddr] at this
    simp only [resOne, h2, asAddr]
    simpa using this
  · have hrow := hty.at (t := ty) (.inl (by rw [hs]; decide))
    obtain ⟨c, h7, h8⟩ := h6.get off (by omega)
    refine ⟨c, ?_, repT_of_repC h8⟩
    have := run_load1 (P := P) (w := w) (b := b0) (off := off) hrow hag (c := c) (by rw [cell_of_heap h4]; simpa using h7)
    simp only [Instr.loadAt, Instr.sureAddr] at this
    simp only [resOne, h2, asAddr]
    simpa using this

theorem res_iff (hty : TyOk P TY) {T : List AV} {a : Act} : ∀ {l : List ResultVar} {K : List AV → Prop}, resK TY T S l K →
    ∃ as, K as ∧ ∀ {ρ : Env} {w : World} {M : Msk}, St M0 w0 ρ M S w → Tm ρ w M T a → ∃ vs, (l.mapM (resOne a.tmps)).run P w = .ok vs w ∧ RepL (RepT ρ w M) as vs
  | [], K, h => ⟨[], h, fun _ _ => ⟨[], by simp, trivial⟩⟩
  | .tmp t :: l, K, h => by
    simp only [resK, force_iff] at h
    obtain ⟨as, h1, h2⟩ := res_iff hty h
    refine ⟨nth T t :: as, h1, fun {ρ w M} st tm => ?_⟩
    obtain ⟨vs, h3, h4⟩ := h2 st tm
    exact ⟨a.tmps.getD t undef :: vs, by simp [resOne, h3], tm.tmp t, h4⟩
  | .cell t ty :: l, K, h => by
    simp only [resK] at h
    split at h
    · rename_i k off hT
      split at h
      · rename_i b hf
        obtain ⟨v, h1, h2⟩ := resOne_cell (M0 := M0) (w0 := w0) (a := a) hty hT hf h
        obtain ⟨as, h3, h4⟩ := res_iff hty h1
        refine ⟨v :: as, h3, fun {ρ w M} st tm => ?_⟩
        obtain ⟨u, h5, h6⟩ := h2 st tm
        obtain ⟨vs, h7, h8⟩ := h4 st tm
        exact ⟨u :: vs, by simp [h5, h7], h6, h8⟩
      · exact h.elim
    · exact h.elim

def resV (vs : List Value) : Value := match vs with | [v] => v | vs => .tuple vs.toArray

theorem res_run {fn : Func} {tmps : Array Value} {vs : List Value} {w : World} (h : (fn.results.toList.mapM (resOne tmps)).run P w = .ok vs w) : (results fn tmps).run P w = .ok (resV vs) w := by
  have he : fn.results = fn.results.toList.toArray := by simp
  have e1 : results fn tmps = (fn.results.mapM (resOne tmps) >>= fun vs => pure (if h : vs.size = 1 then vs[0] else .tuple vs)) := by
    unfold results
    congr 1
  rw [e1, he, List.mapM_toArray]
  match vs, h with
  | [], h => simp [h, resV]
  | [v], h => simp [h, resV]
  | u :: v :: vs, h => simp [h, resV]

theorem nth_app : ∀ (l m : List AV) (i : Nat), nth (appA l m) i = if i < l.length then nth l i else nth m (i - l.length)
  | [], m, i => by simp [appA]
  | _ :: _, m, 0 => by simp [appA, nth]
  | a :: l, m, i + 1 => by
    simp only [appA, nth, nth_app l m i, List.length_cons]
    by_cases h : i < l.length
    · simp [h]
    · simp [h]

theorem nth_repl : ∀ (n i : Nat), nth (repl n) i = .any
  | 0, _ => rfl
  | _ + 1, 0 => rfl
  | n + 1, i + 1 => nth_repl n i

theorem len_repl : ∀ n, (repl n).length = n
  | 0 => rfl | n + 1 => by simp [repl, len_repl n]

theorem drop_eq : ∀ (n : Nat) (l : List AV), dropN n l = n - l.length
  | n, [] => by simp [dropN]
  | 0, _ :: _ => by simp [dropN]
  | n + 1, _ :: l => by simp [dropN, drop_eq n l]

theorem in_range {k : IntKind} {n : Int} (h : inK k n) : rangeK k n := by cases k <;> exact h

theorem mem_D {α : Type} {l : List α} {d : α} {p : α → Prop} (h : ∀ q, q < l.length → p (l.getD q d)) : ∀ x ∈ l, p x := fun x hx => by
  obtain ⟨q, hq, rfl⟩ := List.mem_iff_getElem.1 hx
  have := h q hq
  simpa [List.getD, hq] using this

theorem sl_all {n m : Nat} {C : Nat → Value → Prop} {v : Value} (h : SlOf w M n C m v) : ∀ q, q < n → ∃ c, C q c := fun q hq => by
  obtain ⟨a, cap, _, _, h⟩ := h
  rcases h with h | ⟨b, off, _, h⟩
  · omega
  · obtain ⟨c, _, _, h3⟩ := h q hq; exact ⟨c, h3⟩

theorem facts_ints {k : IntKind} {l : List Int} {v : Value} (h : SlI w M k l v) : l.length ≤ LB ∧ ∀ x ∈ l, rangeK k x :=
  ⟨h.1, mem_D (d := 0) fun q hq => by obtain ⟨c, h1⟩ := sl_all h.2 q hq; exact in_range h1.2⟩
theorem facts_rows {k : IntKind} {l : List (List Int)} {v : Value} (h : Sl2 w M k l v) : l.length ≤ LB ∧ ∀ m ∈ l, m.length ≤ LB ∧ ∀ x ∈ m, rangeK k x :=
  ⟨h.1, mem_D (d := []) fun q hq => by obtain ⟨c, h1⟩ := sl_all h.2 q hq; exact facts_ints h1⟩

theorem facts_ro {r : RO} {v : Value} (h : RepRO w M r v) : factsR r := by
  cases r with
  | ints k l => exact facts_ints (rep_ints.1 h)
  | bools l => exact h.1
  | rows k l => exact facts_rows (rep_rows.1 h)
  | brows l => exact ⟨h.1, mem_D (d := []) fun q hq => by obtain ⟨c, h1⟩ := sl_all h.2 q (by simpa [RO.cells, RO.len, RO.sz] using hq); exact h1.1⟩
  | rows3 l => exact ⟨h.1, mem_D (d := []) fun q hq => by obtain ⟨c, h1⟩ := sl_all h.2 q (by simpa [RO.cells, RO.len, RO.sz] using hq); exact facts_rows h1⟩
  | pairs l =>
    refine ⟨h.1, mem_D (d := (0, 0)) fun q hq => ?_⟩
    have hl : (RO.pairs l).cells = l.length * 2 := rfl
    obtain ⟨c, h1⟩ := sl_all h.2 (q * 2) (by rw [hl]; omega)
    obtain ⟨c', h2⟩ := sl_all h.2 (q * 2 + 1) (by rw [hl]; omega)
    simp only [CellP] at h1 h2
    rw [if_pos (by omega), show q * 2 / 2 = q from by omega] at h1
    rw [if_neg (by omega), show (q * 2 + 1) / 2 = q from by omega] at h2
    exact ⟨in_range h1.2, in_range h2.2⟩

theorem facts_C : ∀ {l : List AV} {vs : List Value}, RepL (RepC ρ w M) l vs → factsC l
  | [], _, _ => trivial
  | a :: l, v :: vs, h => ⟨by
      have h1 := h.1
      cases a <;> first | exact in_range h1.2 | exact facts_ro h1 | trivial, facts_C h.2⟩
  | _ :: _, [], h => h.elim

theorem facts_L : ∀ {l : List AV} {vs : List Value}, RepL (RepT ρ w M) l vs → factsL l
  | [], _, _ => trivial
  | a :: l, v :: vs, h => ⟨by
      have h1 := h.1
      cases a <;> first | exact in_range h1.2 | exact facts_ro h1 | (obtain ⟨cs, _, h2⟩ := h1; exact facts_C h2) | trivial, facts_L h.2⟩
  | _ :: _, [], h => h.elim
theorem mem_some : ∀ {S : Store} {k : Nat} {B : Blk}, (k, B) ∈ S → (findS S k).isSome
  | (j, b) :: S, k, B, h => by
    rw [find_cons]
    split
    · rfl
    · rcases List.mem_cons.1 h with he | he
      · cases he; contradiction
      · exact mem_some he

theorem repL_tmps {T : List AV} {a : Act} (tm : Tm ρ w M T a) : ∀ (ts : List Nat), RepL (RepT ρ w M) (ts.map (nth T)) (ts.map fun t => a.tmps.getD t undef)
  | [] => trivial
  | t :: ts => ⟨tm.tmp t, repL_tmps tm ts⟩

theorem rets_sound (hfresh : ∀ b k, hasB ρ k b → w0.heap.size ≤ b) (st : St M0 w0 ρ M S w) {as rs : List AV} {vs : List Value} (h : retsK S as rs) (hv : RepL (RepT ρ w M) as vs) : cleanG rs = true ∧ RepL (RepRc w0 w (entM (newKey as rs) ρ M)) rs vs := by
  have h' : cleanG rs = true ∧ leRs S (newKey as rs) as rs := by
    unfold retsK at h
    split at h
    · rename_i he; rw [he]; exact ifK_iff.1 h
    · rename_i x he; rw [he]; exact ifK_iff.1 h
    · exact h.elim
  refine ⟨h'.1, leRs_sound hfresh st (fun k B hB => ⟨[], mem_find hB (p := fun _ B => B = .box []) fun e he => newKey_box as rs e.1 e.2 he⟩) h'.2 h'.1 hv fun k r hm => ?_⟩
  obtain ⟨B, hB⟩ := newKey_mem as rs k r hm
  exact mem_some hB

theorem repR_one {w w' : World} {b : AV} {v : Value} (hc : cleanG [b] = true) (h : RepRc w w' M b v) : RepR w w' M b v := by
  cases b with
  | tup l => exact absurd (cleanG_cons hc).1 (by simp [cleanT, cleanA])
  | fn f l =>
    cases l with
    | nil => exact ⟨#[], h, trivial⟩
    | cons => exact absurd (cleanG_cons hc).1 (by simp [cleanT, cleanA])
  | _ => exact h

theorem end_sound (hty : TyOk P TY) {fn : Func} {a : Act} {T : List AV} {ret : AV} {M0 : Msk} (st : St ⟨M0, fun _ => False, noEnv⟩ w0 ρ M S w) (tm : Tm ρ w M T a)
    (h : resK TY T S fn.results.toList fun as => match as, ret with
        | [a], r => retsK S [a] [r]
        | as, .tup rs => retsK S as rs
        | _, _ => False) : a.defers = [] ∧ ∃ v, (results fn a.tmps).run P w = .ok v w ∧ ∃ v', Ending.returned v = .returned v' ∧ Stp (fun _ _ => False) w0 w ∧ RetH M0 w0 w ret v' := by
  obtain ⟨as, h, hrun⟩ := res_iff (M0 := ⟨M0, fun _ => False, noEnv⟩) (w0 := w0) (a := a) hty h
  obtain ⟨vs, hrun, hrep⟩ := hrun st tm
  refine ⟨tm.defers, _, res_run hrun, _, rfl, st.stp.weaken (fun b off hh => hh.1), ?_⟩
  have hold : ∀ S'', ∀ b off, b < w0.heap.size → (entM S'' ρ M b off ↔ M0 b off) := fun S'' b off hb =>
    ⟨fun hm => st.sub b off hb hm.1, fun hm => ⟨st.old b off hb (fun hh => hh) hm, fun k hk => absurd hk (st.notFresh hb (fun hh => hh))⟩⟩
  have hlt : ∀ S'', ∀ b off, entM S'' ρ M b off → b < w.heap.size := fun S'' b off hm => st.mlt b off hm.1
  match as, vs, h, hrep with
  | [x], [v], h, hrep =>
    have h : retsK S [x] [ret] := h
    obtain ⟨g1, g2⟩ := rets_sound (fun b k hb => (st.fresh k b hb).elim id (fun hh => hh.elim)) st h hrep
    exact ⟨_, hold _, hlt _, repR_one g1 g2.1⟩
  | [], [], h, hrep =>
    cases ret <;> try exact h.elim
    obtain ⟨g1, g2⟩ := rets_sound (fun b k hb => (st.fresh k b hb).elim id (fun hh => hh.elim)) st h hrep
    exact ⟨_, hold _, hlt _, _, rfl, by simpa using g2⟩
  | x :: y :: as, u :: v :: vs, h, hrep =>
    cases ret <;> try exact h.elim
    obtain ⟨g1, g2⟩ := rets_sound (fun b k hb => (st.fresh k b hb).elim id (fun hh => hh.elim)) st h hrep
    exact ⟨_, hold _, hlt _, _, rfl, by simpa using g2⟩
  | [_], [], _, hrep => exact hrep.elim
  | [_], _ :: _ :: _, _, hrep => exact hrep.2.elim
  | [], _ :: _, _, hrep => exact hrep.elim
  | _ :: _ :: _, [], _, hrep => exact hrep.elim
  | _ :: _ :: _, [_], _, hrep => exact hrep.2.elim

theorem endE_sound (hty : TyOk P TY) {fn : Func} {a : Act} {T : List AV} {X : Type} {out : X → AV} {ok : X → Prop} {M0 : Msk} (st : St ⟨M0, fun _ => False, noEnv⟩ w0 ρ M S w) (tm : Tm ρ w M T a)
    (h : resK TY T S fn.results.toList fun as => ∃ x, ok x ∧ match as, out x with
        | [a], r => retsK S [a] [r]
        | as, .tup rs => retsK S as rs
        | _, _ => False) : a.defers = [] ∧ ∃ v, (results fn a.tmps).run P w = .ok v w ∧ ∃ x, ok x ∧ ∃ v', Ending.returned v = .returned v' ∧ Stp (fun _ _ => False) w0 w ∧ RetH M0 w0 w (out x) v' := by
  obtain ⟨as, ⟨x0, hok, h⟩, hrun⟩ := res_iff (M0 := ⟨M0, fun _ => False, noEnv⟩) (w0 := w0) (a := a) hty h
  obtain ⟨vs, hrun, hrep⟩ := hrun st tm
  refine ⟨tm.defers, _, res_run hrun, x0, hok, _, rfl, st.stp.weaken (fun b off hh => hh.1), ?_⟩
  have hold : ∀ S'', ∀ b off, b < w0.heap.size → (entM S'' ρ M b off ↔ M0 b off) := fun S'' b off hb =>
    ⟨fun hm => st.sub b off hb hm.1, fun hm => ⟨st.old b off hb (fun hh => hh) hm, fun k hk => absurd hk (st.notFresh hb (fun hh => hh))⟩⟩
  have hlt : ∀ S'', ∀ b off, entM S'' ρ M b off → b < w.heap.size := fun S'' b off hm => st.mlt b off hm.1
  generalize out x0 = ret at h ⊢
  match as, vs, h, hrep with
  | [x], [v], h, hrep =>
    have h : retsK S [x] [ret] := h
    obtain ⟨g1, g2⟩ := rets_sound (fun b k hb => (st.fresh k b hb).elim id (fun hh => hh.elim)) st h hrep
    exact ⟨_, hold _, hlt _, repR_one g1 g2.1⟩
  | [], [], h, hrep =>
    cases ret <;> try exact h.elim
    obtain ⟨g1, g2⟩ := rets_sound (fun b k hb => (st.fresh k b hb).elim id (fun hh => hh.elim)) st h hrep
    exact ⟨_, hold _, hlt _, _, rfl, by simpa using g2⟩
  | x :: y :: as, u :: v :: vs, h, hrep =>
    cases ret <;> try exact h.elim
    obtain ⟨g1, g2⟩ := rets_sound (fun b k hb => (st.fresh k b hb).elim id (fun hh => hh.elim)) st h hrep
    exact ⟨_, hold _, hlt _, _, rfl, by simpa using g2⟩
  | [_], [], _, hrep => exact hrep.elim
  | [_], _ :: _ :: _, _, hrep => exact hrep.2.elim
  | [], _ :: _, _, hrep => exact hrep.elim
  | _ :: _ :: _, [], _, hrep => exact hrep.elim
  | _ :: _ :: _, [_], _, hrep => exact hrep.2.elim

/-- FROM THE OBLIGATION TO THE CONTRACT. -/
theorem fn_of_ex (hty : TyOk P TY) {F : Spec} (hF : SpecOk P F) (hm : P.follows .mixedOrders = true) {f : FuncId} {fn : Func} (hf : P.funcs[f]? = some fn) (hname : fn.name ≠ "runtime.NumGoroutine") (hb : fn.body.isSome = true)
    {args : List AV} {ret : AV} (_hlen : args.length ≤ fn.ntmps) (h : factsL args → fnK TY F fn args ret) : Fn P f args ret := by
  refine ⟨⟨fn, hf, hname, hb⟩, fun M w vs hM hv => ?_⟩
  have h := h (facts_L hv)
  obtain ⟨c, hc⟩ := Option.isSome_iff_exists.1 hb
  simp only [fnK, hc] at h
  refine calls_of_wp hf hc ?_
  have hvl : args.length = vs.length := hv.length
  refine exK_sound hty hF hm c h (M0 := ⟨M, fun _ => False, noEnv⟩) (w0 := w) (ρ := noEnv) (M := M)
    ⟨fun k => rfl, fun k B hB => (by cases hB), fun i j b hi _ => (by cases hi), hM, Stp.refl _ _, fun b off _ hm => hm, fun b off _ _ hm => hm, fun k b hk => (by cases hk), fun k o _ hk => (by cases hk)⟩
    ⟨rfl, ?_, fun i => ?_⟩ fun e a w' hE => ?_
  · simp [evalF_app, len_repl, drop_eq, hvl]
  · rw [nth_app]
    split
    · rename_i hi
      obtain ⟨v, h1, h2⟩ := hv.get i hi
      have : (vs.toArray ++ Array.replicate (fn.ntmps - vs.toArray.size) undef).getD i undef = v := by
        rw [Array.getD_eq_getD_getElem?, Array.getElem?_append_left (by simp; omega)]
        simp [h1]
      rw [this]; exact h2
    · rw [nth_repl]; trivial
  · obtain ⟨ρ', M', T, S, h1, st, tm, _⟩ := hE
    cases e with
    | exit i => exact h1.elim
    | normal => exact end_sound hty st tm h1
    | ret => exact end_sound hty st tm h1

/-- FROM THE OBLIGATION TO THE CONTRACT, of which only a property of what is handed back is told. -/
theorem fnE_of_ex (hty : TyOk P TY) {F : Spec} (hF : SpecOk P F) (hm : P.follows .mixedOrders = true) {f : FuncId} {fn : Func} (hf : P.funcs[f]? = some fn) (hname : fn.name ≠ "runtime.NumGoroutine") (hb : fn.body.isSome = true)
    {args : List AV} {X : Type} {out : X → AV} {ok : X → Prop} (_hlen : args.length ≤ fn.ntmps) (h : factsL args → fnEK TY F fn args out ok) : FnE P f args X out ok := by
  refine ⟨⟨fn, hf, hname, hb⟩, fun M w vs hM hv => ?_⟩
  have h := h (facts_L hv)
  obtain ⟨c, hc⟩ := Option.isSome_iff_exists.1 hb
  simp only [fnEK, hc] at h
  refine calls_of_wp hf hc ?_
  have hvl : args.length = vs.length := hv.length
  refine exK_sound hty hF hm c h (M0 := ⟨M, fun _ => False, noEnv⟩) (w0 := w) (ρ := noEnv) (M := M)
    ⟨fun k => rfl, fun k B hB => (by cases hB), fun i j b hi _ => (by cases hi), hM, Stp.refl _ _, fun b off _ hm => hm, fun b off _ _ hm => hm, fun k b hk => (by cases hk), fun k o _ hk => (by cases hk)⟩
    ⟨rfl, ?_, fun i => ?_⟩ fun e a w' hE => ?_
  · simp [evalF_app, len_repl, drop_eq, hvl]
  · rw [nth_app]
    split
    · rename_i hi
      obtain ⟨v, h1, h2⟩ := hv.get i hi
      have : (vs.toArray ++ Array.replicate (fn.ntmps - vs.toArray.size) undef).getD i undef = v := by
        rw [Array.getD_eq_getD_getElem?, Array.getElem?_append_left (by simp; omega)]
        simp [h1]
      rw [this]; exact h2
    · rw [nth_repl]; trivial
  · obtain ⟨ρ', M', T, S, h1, st, tm, _⟩ := hE
    have finE : ∀ {fn : Func} {a : Act} {w' : World}, (a.defers = [] ∧ ∃ v, (results fn a.tmps).run P w' = .ok v w' ∧ ∃ x, ok x ∧ ∃ v', Ending.returned v = .returned v' ∧ Stp (fun _ _ => False) w w' ∧ RetH M w w' (out x) v') →
        a.defers = [] ∧ ∃ v, (results fn a.tmps).run P w' = .ok v w' ∧ ∃ x, ok x ∧ ∃ v', Ending.returned v = .returned v' ∧ Stp (fun _ _ => False) w w' ∧ RetH M w w' (out x) v' := fun h => h
    cases e with
    | exit i => exact h1.elim
    | normal => exact finE (endE_sound hty st tm h1)
    | ret => exact finE (endE_sound hty st tm h1)

theorem leG_T (st : St M0 w0 ρ M S w) : ∀ {l m : List AV} {vs : List Value}, leG S S' l m → RepL (RepT ρ w M) l vs → RepL (RepG (entE S S' ρ) w (entM S' ρ M)) m vs
  | [], [], vs, _, h => by cases vs <;> exact h
  | a :: l, b :: m, v :: vs, h, hv => by
    refine ⟨?_, leG_T st h.2 hv.2⟩
    have h1 := h.1
    cases b with
    | agg y => exact entT st (b := .agg y) h1 hv.1
    | any => trivial
    | tup y => exact absurd h1 (by simp [leA])
    | fn f y => exact absurd h1 (by simp [leA])
    | int k n => exact entT st (b := .int k n) h1 hv.1
    | bool e => exact entT st (b := .bool e) h1 hv.1
    | ro r => exact entT st (b := .ro r) h1 hv.1
    | vec k => exact entT st (b := .vec k) h1 hv.1
    | ptr k o => exact entT st (b := .ptr k o) h1 hv.1
    | rptr r i => exact entT st (b := .rptr r i) h1 hv.1
    | vptr k i => exact entT st (b := .vptr k i) h1 hv.1
    | nils => exact entT st (b := .nils) h1 hv.1
    | new r => exact entT st (b := .new r) h1 hv.1
  | [], _ :: _, _, h, _ => h.elim
  | _ :: _, [], _, h, _ => h.elim
  | _ :: _, _ :: _, [], _, hv => hv.elim

theorem endM_sound (hty : TyOk P TY) {fn : Func} {a : Act} {T : List AV} {ret : AV} {S2 : Store} (st : St M0 w0 ρ M S w) (tm : Tm ρ w M T a)
    (h : resK TY T S fn.results.toList fun as => leS S S2 S2 ∧ match as, ret with
      | [a], r => leT S S2 a r
      | as, .tup rs => leG S S2 as rs
      | _, _ => False) : a.defers = [] ∧ ∃ v, (results fn a.tmps).run P w = .ok v w ∧ ∃ v' ρ' M', Ending.returned v = .returned v' ∧ St M0 w0 ρ' M' S2 w ∧ RepT ρ' w M' ret v' := by
  obtain ⟨as, ⟨hS, h⟩, hrun⟩ := res_iff (M0 := M0) (w0 := w0) (a := a) hty h
  obtain ⟨vs, hrun, hrep⟩ := hrun st tm
  refine ⟨tm.defers, _, res_run hrun, _, _, _, rfl, ent_st st hS, ?_⟩
  match as, vs, h, hrep with
  | [x], [v], h, hrep => exact entT st h hrep.1
  | [], [], h, hrep =>
    cases ret <;> try exact h.elim
    exact ⟨_, rfl, by simpa using leG_T st h hrep⟩
  | x :: y :: as, u :: v :: vs, h, hrep =>
    cases ret <;> try exact h.elim
    exact ⟨_, rfl, by simpa using leG_T st h hrep⟩
  | [_], [], _, hrep => exact hrep.elim
  | [_], _ :: _ :: _, _, hrep => exact hrep.2.elim
  | [], _ :: _, _, hrep => exact hrep.elim
  | _ :: _ :: _, [], _, hrep => exact hrep.elim
  | _ :: _ :: _, [_], _, hrep => exact hrep.2.elim

/-- FROM THE OBLIGATION TO THE CONTRACT, where memory is changed. -/
theorem fnM_of_ex (hty : TyOk P TY) {F : Spec} (hF : SpecOk P F) (hm : P.follows .mixedOrders = true) {f : FuncId} {fn : Func} (hf : P.funcs[f]? = some fn) (hname : fn.name ≠ "runtime.NumGoroutine") (hb : fn.body.isSome = true)
    {args : List AV} {S1 : Store} {ret : AV} {S2 : Store} (_hlen : args.length ≤ fn.ntmps) (h : factsL args → fnMK TY F fn args S1 ret S2) : FnM P f args S1 ret S2 := by
  refine ⟨⟨fn, hf, hname, hb⟩, fun ρ M w vs st hv => ?_⟩
  have h := h (facts_L hv)
  obtain ⟨c, hc⟩ := Option.isSome_iff_exists.1 hb
  simp only [fnMK, hc] at h
  refine calls_of_wp hf hc ?_
  have hvl : args.length = vs.length := hv.length
  refine exK_sound hty hF hm c h (M0 := lentBase ρ M) (w0 := w) (ρ := ρ) (M := M) st
    ⟨rfl, ?_, fun i => ?_⟩ fun e a w' hE => ?_
  · simp [evalF_app, len_repl, drop_eq, hvl]
  · rw [nth_app]
    split
    · rename_i hi
      obtain ⟨v, h1, h2⟩ := hv.get i hi
      have : (vs.toArray ++ Array.replicate (fn.ntmps - vs.toArray.size) undef).getD i undef = v := by
        rw [Array.getD_eq_getD_getElem?, Array.getElem?_append_left (by simp; omega)]
        simp [h1]
      rw [this]; exact h2
    · rw [nth_repl]; trivial
  · obtain ⟨ρ', M', T, S, h1, st, tm, _⟩ := hE
    cases e with
    | exit i => exact h1.elim
    | normal => exact endM_sound hty st tm h1
    | ret => exact endM_sound hty st tm h1
end
end Go.AM
