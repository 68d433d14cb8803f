/- The abstract machine: regions whose operations may come in any order. -/
import Derived.Test.YtmdlfcjbjjifoabAmDraw
namespace Go.AM
open Go

section
variable {P : Program} {TY : List TyE} {M0 : Base} {w0 w : World} {ρ : Env} {M : Msk} {S S0 : Store} {d : Nat}

theorem repG_old {w' : World} {M' : Msk} : ∀ {l : List AV} {vs : List Value}, newL l = 0 → RepL (RepRc w w' M') l vs → RepL (RepG ρ w' M') l vs
  | [], [], _, _ => trivial
  | a :: l, v :: vs, hn, h => by
    have ha : newA a = 0 := by
      simp only [newL] at hn
      cases a <;> first | rfl | (simp [newA] at hn)
    exact ⟨rep_old ha (Keep.refl _ _) h.1, repG_old (by rw [newL_cons0 ha] at hn; exact hn) h.2⟩
  | [], _ :: _, _, h => h.elim
  | _ :: _, [], _, h => h.elim

theorem rep_noNew {a : AV} {v : Value} {w' : World} {M' : Msk} (hn : noNew a = true) (h : RepR w w' M' a v) : RepT ρ w' M' a v := by
  cases a with
  | tup l =>
    obtain ⟨cs, rfl, hcs⟩ := h
    have hn : newL l = 0 := beq_iff'.1 hn
    exact ⟨cs, rfl, repG_old hn hcs⟩
  | new r => cases hn
  | _ => simp only [RepR] at h; exact RepT.keep (Keep.refl _ _) (fun k o ho => by cases ho) h

theorem qret_sound {ret : AV} {K : AV → Option Blk → Prop} (h : qretK d ret K) :
    ∃ v B, K v B ∧ ∀ (M0 : Base) (w0 : World) (ρ : Env) (M : Msk) (S : Store) (w w' : World) (M2 : Msk) (u : Value), St M0 w0 ρ M S w → Stp (fun _ _ => False) w w' →
      (∀ b off, b < w.heap.size → (M2 b off ↔ M b off)) → (∀ b off, M2 b off → b < w'.heap.size) → RepR w w' M2 ret u → (B ≠ none → findS S d = none ∧ loc d = true) → Out M0 w0 ρ M S w d B v u w' := by
  cases ret with
  | new r =>
    refine ⟨.vec d, some (.vec 0 r []), h, fun M0 w0 ρ M S w w' M2 u st hs hold hlt hret hd => ?_⟩
    obtain ⟨st', hk⟩ := st.same hs hold hlt
    obtain ⟨o, rfl, hV, hob⟩ := hret
    obtain ⟨hd, hloc⟩ := hd (by simp)
    have st2 := st'.take (d := d) hd hV (fun b hb k hk => absurd (blk_lt st hk) (by have := hob b hb; omega)) (fun b hb => Nat.le_trans st.stp.1 (hob b hb)) hloc
    refine ⟨_, M2, st2, ⟨o, by simp [Own.sli], rfl⟩, hk, fun k o' ho' => ?_⟩
    have hkd : k ≠ d := fun e => by
      subst e
      have := st.dom k
      rw [hd, ho'] at this; cases this
    simp [hkd, ho']
  | _ =>
    simp only [qretK] at h
    rw [ifK_iff] at h
    obtain ⟨hn, h⟩ := h
    have h := force_iff.1 h
    refine ⟨_, none, h, fun M0 w0 ρ M S w w' M2 u st hs hold hlt hret hd => ?_⟩
    obtain ⟨st', hk⟩ := st.same hs hold hlt
    exact ⟨ρ, M2, st', rep_noNew hn hret, hk, fun _ _ h => h⟩

theorem repL_ops {T : List AV} {e : Operand → Value} : ∀ {xs : List Operand}, (∀ x ∈ xs, RepT ρ w M (evalF T x) (e x)) → RepL (RepT ρ w M) (xs.map (evalF T)) (xs.map e)
  | [], _ => trivial
  | x :: xs, h => ⟨h x (by simp), repL_ops fun y hy => h y (List.mem_cons_of_mem _ hy)⟩

theorem qcall_sound {F : Spec} (hF : SpecOk P F) {c : Call} {f : FuncId} {T : List AV} {K : AV → Option Blk → Prop} (hc : c.callee = .value (.func f)) (h : qK TY F d (.call c) T S0 K) :
    ∃ v B, K v B ∧ QS P d (.call c) T S0 v B := by
  simp only [qK, hc, evals_iff] at h
  obtain ⟨as', ks, ⟨as2, ret, hf, hargs, h⟩, hks, hrep⟩ := lendK_sound h
  have hq : (safe ret = true ∨ ks = []) ∧ qretK d ret K := by
    cases hs : safe ret <;> rw [hs] at h
    · cases ks with
      | nil => exact ⟨.inr rfl, h⟩
      | cons => exact h.elim
    · exact ⟨.inl rfl, by cases ks <;> exact h⟩
  obtain ⟨v, B, hK, hout⟩ := qret_sound hq.2
  refine ⟨v, B, hK, fun M0 w0 ρ M w S' e oo ho hcmp st he hd => ?_⟩
  have hx := he (.func f) (by simp [Op.operands, Call.operands, hc])
  obtain ⟨cs, hx, hcs⟩ := hx
  have hcs0 : cs = #[] := by
    obtain ⟨l⟩ := cs
    cases l with
    | nil => rfl
    | cons => exact hcs.elim
  have hrun := run_call (hF.q f as2 ret hf).1 ho hc (e := e) (cs := []) (by rw [hx, hcs0]) w
  rw [List.append_nil] at hrun
  have hv : RepL (RepT ρ w M) (c.args.toList.map (evalF T)) (c.args.toList.map e) := repL_ops fun x hx => he x (by simp [Op.operands, Call.operands, hc]; exact .inr (Array.mem_toList_iff.1 hx))
  have hv' := args_none hargs (hrep ρ w M (fun k B hB hs => by
    obtain ⟨o, ho⟩ := Option.isSome_iff_exists.1 hs
    exact st.blk k B (st.find hcmp hB ho)) ks _ (fun k hk => hk) hv)
  refine .inr (.inr ⟨f, _, w, hrun, ?_⟩)
  refine ((hF.q f as2 ret hf).2 (dropMs M ρ ks) w _ (fun b off hm => st.mlt b off hm.1) hv').mono fun e' w' ⟨u, he', hs, M'', hold, hlt, hret⟩ => ⟨u, he', ?_⟩
  rcases hq.1 with hsafe | rfl
  · let M2 : Msk := fun b off => (b < w.heap.size ∧ M b off) ∨ (w.heap.size ≤ b ∧ M'' b off)
    have h2old : ∀ b off, b < w.heap.size → (M2 b off ↔ M b off) := fun b off hb => ⟨fun hm => hm.elim (fun h => h.2) (fun h => absurd h.1 (by omega)), fun hm => .inl ⟨hb, hm⟩⟩
    have h2new : ∀ b off, w.heap.size ≤ b → (M2 b off ↔ M'' b off) := fun b off hb => ⟨fun hm => hm.elim (fun h => absurd h.1 (by omega)) (fun h => h.2), fun hm => .inr ⟨hb, hm⟩⟩
    exact hout M0 w0 ρ M S' w w' M2 u st hs h2old (fun b off hm => by
      rcases hm with hm | hm
      · exact Nat.lt_of_lt_of_le hm.1 hs.1
      · exact hlt b off hm.2) (safe_rep h2new hsafe hret) hd
  · exact hout M0 w0 ρ M S' w w' M'' u st hs (fun b off hb => (hold b off hb).trans ⟨fun h => h.1, fun h => ⟨h, fun k hk => by cases hk⟩⟩) hlt hret hd

theorem qany_sound (hty : TyOk P TY) {F : Spec} (hF : SpecOk P F) {o : Op} {T : List AV} {K : AV → Option Blk → Prop} (h : qK TY F d o T S0 K) : ∃ v B, K v B ∧ QS P d o T S0 v B := by
  cases hq : quietOp o with
  | true => exact q_sound hty hq h
  | false =>
    cases o <;> try (first | (cases hq; done) | exact h.elim)
    case slice t x lo hi mx =>
      cases mx with
      | none => exact slice_sound hty h
      | some _ => exact h.elim
    case buildSlice t n ps => exact buildQ_sound hty h
    case call c =>
      cases hc : c.callee with
      | value x =>
        cases x with
        | func f => exact qcall_sound hF hc h
        | _ => simp only [qK, hc] at h
      | builtin b =>
        simp only [quietOp, hc] at hq
        cases b <;> first | (cases hq; done) | (simp only [qK, hc] at h)
      | invoke => simp only [qK, hc] at h

/-! ### A stretch of quiet operations, in the order of the text -/

/-- What is known of the operation j, told by what the whole stretch leaves. -/
def OpRun (P : Program) (ops : Array Oper) (T' : List AV) (S' : Store) (o : Oper) (j : Nat) (B : Option Blk) (q : Nat) : Prop :=
  ∃ r Tg Tj Sj v, GuardIs ops Tg o.guard r ∧ (r = true → QS P (o.dst.getD 999) o.op Tj Sj v B) ∧ (r = false → v = .tup [] ∧ B = none) ∧
    (∀ d, o.dst = some d → d < T'.length → AEq v (nth T' d)) ∧ (B ≠ none → ∃ d, o.dst = some d ∧ loc d = true) ∧
    (∀ t ∈ o.looksAt ops, (∀ i, j ≤ i → i < q → dstAt ops i ≠ some t) → AEq (nth T' t) (nth Tg t) ∧ AEq (nth T' t) (nth Tj t)) ∧
    (∀ k C, findS Sj k = some C → findS S' k = some C)

theorem seg_run (hty : TyOk P TY) {F : Spec} (hF : SpecOk P F) {ops : Array Oper} (hdist : ∀ i j d, dstAt ops i = some d → dstAt ops j = some d → i = j) {K : List AV → Store → Prop} :
    ∀ (rest : List Oper) (gs : List Bool) (i : Nat) {T : List AV} {S : Store}, ops.toList.drop i = rest → drawK TY F ops.toList gs rest T S K →
      ∃ (n : Nat) (T' : List AV) (S' : Store) (Bs : Nat → Option Blk), n ≤ rest.length ∧ (n = rest.length ∨ gs[n]? = some true) ∧ drawK TY F ops.toList (gs.drop n) (rest.drop n) T' S' K ∧ T'.length = T.length ∧
        (∀ t, (∀ j, i ≤ j → j < i + n → dstAt ops j ≠ some t) → AEq (nth T t) (nth T' t)) ∧
        (∀ j, i ≤ j → j < i + n → ∃ o, ops[j]? = some o ∧ OpRun P ops T' S' o j (Bs j) (i + n)) ∧
        (∀ j d b, i ≤ j → j < i + n → dstAt ops j = some d → Bs j = some b → findS S' d = some b) ∧
        (∀ k, (∀ j, i ≤ j → j < i + n → dstAt ops j = some k → Bs j = none) → findS S' k = findS S k) ∧
        (∀ k C, findS S k = some C → findS S' k = some C) ∧ (∀ j d, i ≤ j → j < i + n → dstAt ops j = some d → Bs j ≠ none → findS S d = none) ∧ (∀ j, j < n → gs[j]? = some false)
  | [], gs, i, T, S, _, h => ⟨0, T, S, fun _ => none, Nat.le_refl _, .inl rfl, by simpa [drawK] using h, rfl, fun _ _ => AEq.refl _, fun j h1 h2 => by omega, fun j d b h1 h2 => by omega, fun _ _ => rfl, fun _ _ h => h, fun j d h1 h2 => by omega, fun j h => by omega⟩
  | o :: rest, [], i, T, S, _, h => h.elim
  | o :: rest, true :: gs, i, T, S, _, h => ⟨0, T, S, fun _ => none, Nat.zero_le _, .inr rfl, h, rfl, fun _ _ => AEq.refl _, fun j h1 h2 => by omega, fun j d b h1 h2 => by omega, fun _ _ => rfl, fun _ _ h => h, fun j d h1 h2 => by omega, fun j h => by omega⟩
  | o :: rest, false :: gs, i, T, S, hr, h => by
    have hi : ops[i]? = some o := by
      have := congrArg (·.head?) hr
      simp [List.head?_drop] at this
      exact this
    have hdi : dstAt ops i = o.dst := by simp [dstAt, hi]
    have hr' : ops.toList.drop (i + 1) = rest := by
      have := congrArg List.tail hr
      simpa [List.tail_drop] using this
    simp only [drawK] at h
    obtain ⟨r, T1, hg, hl1, heq, h1⟩ := guard_iff h
    have step : ∃ v B T2 S2, drawK TY F ops.toList gs rest T2 S2 K ∧ T2.length = T.length ∧ (r = true → QS P (o.dst.getD 999) o.op T1 S v B) ∧ (r = false → v = .tup [] ∧ B = none) ∧
        (∀ t, o.dst ≠ some t → nth T2 t = nth T1 t) ∧ (∀ t, o.dst = some t → t < T.length → nth T2 t = v) ∧ S2 = addS (o.dst.getD 999) B S ∧ (B ≠ none → ∃ d, o.dst = some d ∧ findS S d = none ∧ loc d = true) := by
      cases r with
      | true =>
        rw [if_pos rfl] at h1
        cases hd : o.dst with
        | none =>
          rw [hd] at h1
          obtain ⟨v, B, h2, h3⟩ := qany_sound hty hF h1
          cases B with
          | some b => exact h2.elim
          | none => exact ⟨v, none, T1, S, h2, hl1, fun _ => h3, fun e => (by cases e), fun _ _ => rfl, fun _ e => (by cases e), rfl, fun e => absurd rfl e⟩
        | some d =>
          rw [hd] at h1
          obtain ⟨v, B, h2, h3⟩ := qany_sound hty hF h1
          have hset : ∀ t, some d ≠ some t → nth (T1.set d v) t = nth T1 t := fun t ht => by
            rw [nth_set, if_neg (fun e => ht (by rw [e.1]))]
          have hset' : ∀ t, some d = some t → t < T.length → nth (T1.set d v) t = v := fun t ht hlt => by
            obtain rfl := Option.some.inj ht
            have hlt' : d < T1.length := by rw [hl1]; exact hlt
            rw [nth_set, if_pos ⟨rfl, hlt'⟩]
          cases B with
          | none =>
            simp only [put_iff] at h2
            exact ⟨v, none, T1.set d v, S, h2, by rw [List.length_set, hl1], fun _ => h3, fun e => (by cases e), hset, hset', rfl, fun e => absurd rfl e⟩
          | some b =>
            simp only [freshK] at h2
            split at h2
            · rename_i hf
              rw [ifK_iff, put_iff] at h2
              obtain ⟨hloc, h2⟩ := h2
              exact ⟨v, some b, T1.set d v, _, h2, by rw [List.length_set, hl1], fun _ => h3, fun e => (by cases e), hset, hset', rfl, fun _ => ⟨d, rfl, hf, hloc⟩⟩
            · exact h2.elim
      | false =>
        rw [if_neg (by simp)] at h1
        cases hd : o.dst with
        | none =>
          rw [hd] at h1
          exact ⟨.tup [], none, T1, S, h1, hl1, fun e => (by cases e), fun _ => ⟨rfl, rfl⟩, fun _ _ => rfl, fun _ e => (by cases e), rfl, fun e => absurd rfl e⟩
        | some d =>
          rw [hd] at h1
          simp only [dstK, put_iff] at h1
          refine ⟨.tup [], none, T1.set d (.tup []), S, h1, by rw [List.length_set, hl1], fun e => (by cases e), fun _ => ⟨rfl, rfl⟩, fun t ht => ?_, fun t ht hlt => ?_, rfl, fun e => absurd rfl e⟩
          · rw [nth_set, if_neg (fun e => ht (by rw [e.1]))]
          · obtain rfl := Option.some.inj ht
            have hlt' : d < T1.length := by rw [hl1]; exact hlt
            rw [nth_set, if_pos ⟨rfl, hlt'⟩]
    obtain ⟨v, B, T2, S2, h2, hl2, hq, hany, hT2, hT2', rfl, hB⟩ := step
    have hfr : ∀ k C, findS S k = some C → findS (addS (o.dst.getD 999) B S) k = some C := fun k C hk => by
      cases B with
      | none => exact hk
      | some b =>
        obtain ⟨d, hd, hf, _⟩ := hB (by simp)
        simp only [addS, find_cons, hd, Option.getD_some]
        rw [if_neg (fun e => by subst e; rw [hf] at hk; cases hk)]
        exact hk
    obtain ⟨n, T', S', Bs, g1, g2, g3, g4, g5, g6, g7, g8, g9, g10, g11⟩ := seg_run hty hF hdist rest gs (i + 1) hr' h2
    have hT' : ∀ t, (∀ j, i ≤ j → j < i + (n + 1) → dstAt ops j ≠ some t) → AEq (nth T t) (nth T' t) ∧ AEq (nth T1 t) (nth T' t) := fun t ht => by
      have e1 := hT2 t (by rw [← hdi]; exact ht i (Nat.le_refl _) (by omega))
      have e2 := g5 t fun j hj1 hj2 => ht j (by omega) (by omega)
      rw [e1] at e2
      exact ⟨(heq t).trans e2, e2⟩
    obtain ⟨Bf, hBi, hBn⟩ : ∃ Bf : Nat → Option Blk, Bf i = B ∧ ∀ j, j ≠ i → Bf j = Bs j := ⟨fun j => if j = i then B else Bs j, by simp, fun j h => by simp [h]⟩
    refine ⟨n + 1, T', S', Bf, by simp; omega, ?_, by simpa using g3, g4.trans hl2, fun t ht => (hT' t ht).1, fun j hj1 hj2 => ?_, fun j d b hj1 hj2 hd hb => ?_, fun k hk => ?_, fun k C hk => g9 k C (hfr k C hk), fun j d hj1 hj2 hd hb => ?_, fun j hj => by
      rcases j with _ | j
      · rfl
      · simpa using g11 j (by omega)⟩
    · rcases g2 with g2 | g2
      · exact .inl (by simp [g2])
      · exact .inr (by simpa using g2)
    · by_cases hji : j = i
      · subst hji
        refine ⟨o, hi, r, T, T1, S, v, hg, fun hr => ?_, fun hr => ?_, fun d hd hlt => ?_, fun hb => ?_, fun t _ ht => ?_, fun k C hk => g9 k C (hfr k C hk)⟩
        · rw [hBi]; exact hq hr
        · rw [hBi]; exact hany hr
        · have e1 := hT2' d hd (by rw [g4, hl2] at hlt; exact hlt)
          rw [← e1]
          refine g5 d fun j' hj1' hj2' he => ?_
          have := hdist j' j d he (by rw [hdi, hd])
          omega
        · rw [hBi] at hb
          obtain ⟨d, hd, _, hloc⟩ := hB hb; exact ⟨d, hd, hloc⟩
        · have := hT' t fun j' hj1' hj2' => ht j' hj1' hj2'
          exact ⟨this.1.symm, this.2.symm⟩
      · obtain ⟨o', ho', hrun⟩ := g6 j (by omega) (by omega)
        exact ⟨o', ho', by rw [hBn j hji, show i + (n + 1) = i + 1 + n from by omega]; exact hrun⟩
    · by_cases hji : j = i
      · subst hji
        rw [hBi] at hb
        subst hb
        rw [hdi] at hd
        have : findS (addS (o.dst.getD 999) (some b) S) d = some b := by simp [addS, find_cons, hd]
        exact g9 d b this
      · rw [hBn j hji] at hb
        exact g7 j d b (by omega) (by omega) hd hb
    · have e1 := g8 k fun j hj1 hj2 hd => by
        have := hk j (by omega) (by omega) hd
        rwa [hBn j (by omega)] at this
      rw [e1]
      cases hBB : B with
      | none => rfl
      | some b =>
        obtain ⟨d, hd, _⟩ := hB (by rw [hBB]; simp)
        simp only [addS, find_cons, hd, Option.getD_some]
        rw [if_neg]
        intro e
        subst e
        have := hk i (Nat.le_refl _) (by omega) (by rw [hdi, hd])
        rw [hBi, hBB] at this
        cases this
    · by_cases hji : j = i
      · subst hji
        rw [hBi] at hb
        obtain ⟨d', hd', hf, _⟩ := hB hb
        rw [hdi, hd'] at hd
        cases hd
        exact hf
      · rw [hBn j hji] at hb
        have e1 := g10 j d (by omega) (by omega) hd hb
        cases hf : findS S d with
        | none => rfl
        | some C => rw [hfr d C hf] at e1; cases e1

/-! ### All orders -/

def On (l : Array Bool) (i : Nat) : Prop := l[i]? = some true

theorem bindB_eq (e : Edge) : Region.binds .any e = bindB e := by
  unfold Region.binds bindB
  cases e.ground <;> rfl

theorem mem_ready {ops : Array Oper} {l : Array Bool} (hl : l.size = ops.size) {i : Nat} :
    i ∈ Region.ready .any ops l ↔ ∃ o, ops[i]? = some o ∧ ¬ On l i ∧ ∀ e ∈ o.after, bindB e = true → On l e.on := by
  unfold Region.ready On
  simp only [List.mem_filter, List.mem_range, Bool.and_eq_true, Bool.not_eq_true', bindB_eq]
  constructor
  · rintro ⟨h1, h2, h3⟩
    have hi : i < l.size := by omega
    refine ⟨ops[i], by simp [h1], fun hh => ?_, fun e he hb => ?_⟩
    · simp [Array.getD, hi] at h2
      simp [hi] at hh
      rw [hh] at h2; cases h2
    · simp only [Array.getElem?_eq_getElem h1, Option.map_some, Option.getD_some, Array.all_eq_true_iff_forall_mem] at h3
      have := h3 e he
      simp only [hb, Bool.not_true, Bool.false_or] at this
      rw [Array.getD_eq_getD_getElem?] at this
      cases hh : l[e.on]? with
      | none => rw [hh] at this; cases this
      | some b => rw [hh] at this; simp at this; rw [this]
  · rintro ⟨o, h1, h2, h3⟩
    have hi : i < ops.size := by
      rcases Nat.lt_or_ge i ops.size with h | h
      · exact h
      · rw [Array.getElem?_eq_none h] at h1; cases h1
    have hi' : i < l.size := by omega
    refine ⟨hi, ?_, ?_⟩
    · simp [Array.getD, hi']
      cases hh : l[i] with
      | false => rfl
      | true => exact absurd (by simp [hi', hh]) h2
    · rw [h1]
      simp only [Option.map_some, Option.getD_some, Array.all_eq_true_iff_forall_mem]
      intro e he
      cases hb : bindB e with
      | false => rfl
      | true =>
        have := h3 e he hb
        simp [Array.getD_eq_getD_getElem?, this]

theorem count_set : ∀ (l : List Bool) (i : Nat), l[i]? = some false → (l.set i true).count false + 1 = l.count false
  | [], i, h => by simp at h
  | a :: l, 0, h => by simp at h; subst h; simp
  | a :: l, i + 1, h => by
    have := count_set l i (by simpa using h)
    simp only [List.set_cons_succ, List.count_cons]
    omega

def unl (l : Array Bool) : Nat := l.toList.count false

theorem unl_set {l : Array Bool} {i : Nat} (hi : i < l.size) (h : ¬ On l i) : unl (l.setIfInBounds i true) + 1 = unl l := by
  unfold unl
  rw [Array.toList_setIfInBounds]
  refine count_set _ _ ?_
  rw [Array.getElem?_toList]
  have h : ¬ l[i]? = some true := h
  rw [Array.getElem?_eq_getElem hi] at h ⊢
  cases hh : l[i] with
  | false => rfl
  | true => rw [hh] at h; exact absurd rfl h

theorem unl_zero {l : Array Bool} (h : unl l = 0) {i : Nat} (hi : i < l.size) : On l i := by
  unfold unl at h
  rw [List.count_eq_zero] at h
  unfold On
  rw [Array.getElem?_eq_getElem hi]
  cases hh : l[i] with
  | true => rfl
  | false => exact absurd (by rw [Array.mem_toList_iff, ← hh]; exact Array.getElem_mem hi) h

theorem on_set {l : Array Bool} {i j : Nat} (hi : i < l.size) : On (l.setIfInBounds i true) j ↔ j = i ∨ On l j := by
  unfold On
  by_cases h : i = j
  · subst h; simp [hi]
  · rw [Array.getElem?_setIfInBounds_ne h]
    exact ⟨.inr, fun h' => h'.resolve_left (Ne.symm h)⟩

/-- What the check of a region's edges says. -/
structure Edges (ops : Array Oper) (g : List Bool) (C : Nat → List Nat) : Prop where
  back : ∀ i o, ops[i]? = some o → ∀ e ∈ o.after, bindB e = true → e.on < i
  clos : ∀ i o, ops[i]? = some o → ∀ j ∈ C i, ∃ e ∈ o.after, bindB e = true ∧ (e.on = j ∨ j ∈ C e.on)
  looks : ∀ i o, ops[i]? = some o → ∀ t ∈ o.looksAt ops, ∀ j, dstAt ops j = some t → (j < i ∧ j ∈ C i) ∨ (g.getD j false = true ∧ i < j)
  lone : ∀ i, i < ops.size → g.getD i false = true → ∀ j, j < ops.size → (j < i ∧ j ∈ C i) ∨ j = i ∨ (i < j ∧ i ∈ C j)
  dist : ∀ i j d, dstAt ops i = some d → dstAt ops j = some d → i = j

theorem dst_lt {ops : Array Oper} {j : Nat} {d : Nat} (h : dstAt ops j = some d) : j < ops.size := by
  unfold dstAt at h
  rcases Nat.lt_or_ge j ops.size with h' | h'
  · exact h'
  · rw [Array.getElem?_eq_none h'] at h; cases h

theorem edges_of {ops : Array Oper} {g : List Bool} (h : drawOK ops g = true) : Edges ops g (fun i => (closAll ops.toList []).getD i []) := by
  have key : ∀ i o, ops[i]? = some o → drawAt ops g (closAll ops.toList []) i = true := fun i o ho => by
    have hi : i < ops.size := by
      rcases Nat.lt_or_ge i ops.size with h | h
      · exact h
      · rw [Array.getElem?_eq_none h] at ho; cases ho
    exact List.all_eq_true.1 h i (List.mem_range.2 hi)
  have part : ∀ i o, ops[i]? = some o → _ := fun i o ho => by
    have := key i o ho
    simp only [drawAt, ho, Bool.and_eq_true] at this
    exact this
  refine ⟨fun i o ho e he hb => ?_, fun i o ho j hj => ?_, fun i o ho t ht j hj => ?_, fun i hi hg j hj => ?_, fun i j d hi hj => ?_⟩
  · have := List.all_eq_true.1 (part i o ho).1.1.1.1 e (Array.mem_toList_iff.2 he)
    simpa [hb] using this
  · have := List.all_eq_true.1 (part i o ho).1.1.1.2 j hj
    obtain ⟨e, he, h1⟩ := List.any_eq_true.1 this
    simp only [Bool.and_eq_true, Bool.or_eq_true, beq_iff_eq, List.contains_iff_mem] at h1
    exact ⟨e, Array.mem_toList_iff.1 he, h1.1, h1.2⟩
  · have := List.all_eq_true.1 (part i o ho).1.1.2 t ht
    have := List.all_eq_true.1 this j (List.mem_range.2 (dst_lt hj))
    simpa [hj] using this
  · have := (part i ops[i] (Array.getElem?_eq_getElem hi)).1.2
    simp only [hg, Bool.not_true, Bool.false_or] at this
    have := List.all_eq_true.1 this j (List.mem_range.2 hj)
    simp only [Bool.or_eq_true, Bool.and_eq_true, decide_eq_true_eq, beq_iff_eq, List.contains_iff_mem] at this
    rcases this with (h | h) | h
    · exact .inl h
    · exact .inr (.inl h)
    · exact .inr (.inr h)
  · have hi' := dst_lt hi
    have := (part i ops[i] (Array.getElem?_eq_getElem hi')).2
    have := List.all_eq_true.1 this j (List.mem_range.2 (dst_lt hj))
    simp only [Bool.or_eq_true, beq_iff_eq, Bool.not_eq_true'] at this
    rcases this with (h | h) | h
    · exact h
    · rw [hi] at h; cases h
    · rw [hi, hj] at h; simp at h

/-- Listed with all that stands before it. -/
def ClosedL (C : Nat → List Nat) (l : Array Bool) : Prop := ∀ i, On l i → ∀ j ∈ C i, On l j

theorem ready_clos {ops : Array Oper} {g : List Bool} {C : Nat → List Nat} (E : Edges ops g C) {l : Array Bool} (hcl : ClosedL C l) {i : Nat} {o : Oper} (ho : ops[i]? = some o) (h : ∀ e ∈ o.after, bindB e = true → On l e.on) : ∀ j ∈ C i, On l j := fun j hj => by
  obtain ⟨e, he, hb, h1⟩ := E.clos i o ho j hj
  rcases h1 with rfl | h1
  · exact h e he hb
  · exact hcl _ (h e he hb) j h1

theorem closed_set {ops : Array Oper} {g : List Bool} {C : Nat → List Nat} (E : Edges ops g C) {l : Array Bool} (hcl : ClosedL C l) {i : Nat} {o : Oper} (hi : i < l.size) (ho : ops[i]? = some o) (h : ∀ e ∈ o.after, bindB e = true → On l e.on) : ClosedL C (l.setIfInBounds i true) := fun k hk j hj => by
  rw [on_set hi] at hk ⊢
  rcases hk with rfl | hk
  · exact .inr (ready_clos E hcl ho h j hj)
  · exact .inr (hcl k hk j hj)

theorem St.congr {S' : Store} (h : ∀ k, findS S' k = findS S k) (st : St M0 w0 ρ M S w) : St M0 w0 ρ M S' w :=
  ⟨fun k => by rw [h]; exact st.dom k, fun k B hB => st.blk k B (by rw [← h]; exact hB), st.inj, st.mlt, st.stp, st.sub, st.old, st.fresh, st.pin⟩

theorem find_filter (p : Nat → Bool) : ∀ (S : Store) (k : Nat), findS (S.filter fun e => p e.1) k = if p k then findS S k else none
  | [], k => by simp [findS]
  | (j, b) :: S, k => by
    rw [List.filter_cons]
    by_cases hjk : j = k
    · subst hjk
      by_cases hp : p j
      · simp [hp, find_cons]
      · simp only [hp]
        rw [if_neg (by simp), find_filter p S j]
        simp [hp]
    · by_cases hp : p j
      · simp only [hp, if_true, find_cons, hjk, if_false]
        exact find_filter p S k
      · simp only [hp]
        rw [if_neg (by simp), find_filter p S k]
        simp [find_cons, hjk]

theorem seg_any {ops : Array Oper} {g : List Bool} {C : Nat → List Nat} (E : Edges ops g C) {R : Exit → Act → World → Prop} {p n : Nat} {T' : List AV} {S' : Store} {Bs : Nat → Option Blk}
    (hp : p + n ≤ ops.size) (hend : p + n = ops.size ∨ g.getD (p + n) false = true) (hseg : ∀ j, p ≤ j → j < p + n → g.getD j false = false) (hrun : ∀ j, p ≤ j → j < p + n → ∃ o, ops[j]? = some o ∧ OpRun P ops T' S' o j (Bs j) (p + n))
    (hB : ∀ j d b, p ≤ j → j < p + n → dstAt ops j = some d → Bs j = some b → findS S' d = some b)
    (next : ∀ (ρ : Env) (M : Msk) (a : Act) (w : World) (l : Array Bool) (fuel : Nat), l.size = ops.size → (∀ i, i < ops.size → (On l i ↔ i < p + n)) → ClosedL C l → unl l ≤ fuel → St M0 w0 ρ M S' w → Tm ρ w M T' a → wpAny P .any ops R fuel l a w) :
    ∀ (fuel : Nat) (l : Array Bool) (ρ : Env) (M : Msk) (a : Act) (w : World) (SL : Store), l.size = ops.size → (∀ i, i < p → On l i) → (∀ i, p + n ≤ i → ¬ On l i) → ClosedL C l → unl l ≤ fuel →
      St M0 w0 ρ M SL w → a.defers = [] → a.tmps.size = T'.length → (∀ t, (∀ j, p ≤ j → j < p + n → ¬ On l j → dstAt ops j ≠ some t) → RepT ρ w M (nth T' t) (a.tmps.getD t undef)) →
      (∀ k, (∀ j, p ≤ j → j < p + n → ¬ On l j → dstAt ops j = some k → Bs j = none) → findS SL k = findS S' k) →
      (∀ j k, p ≤ j → j < p + n → ¬ On l j → dstAt ops j = some k → Bs j ≠ none → findS SL k = none) → wpAny P .any ops R fuel l a w := by
  intro fuel
  induction fuel with
  | zero =>
    intro l ρ M a w SL hl h1 h2 hcl hu st hdf hsz htm hS1 hS2
    have hall : ∀ i, i < ops.size → On l i := fun i hi => unl_zero (by omega) (by omega)
    refine next ρ M a w l 0 hl (fun i hi => ⟨fun _ => ?_, fun _ => hall i hi⟩) hcl (by omega) (st.congr fun k => (hS1 k fun j hj1 hj2 hn _ => absurd (hall j (by omega)) hn).symm) ⟨hdf, hsz, fun t => htm t fun j hj1 hj2 hn => absurd (hall j (by omega)) hn⟩
    rcases Nat.lt_or_ge i (p + n) with h | h
    · exact h
    · exact absurd (hall i hi) (h2 i h)
  | succ fuel ih =>
    intro l ρ M a w SL hl h1 h2 hcl hu st hdf hsz htm hS1 hS2
    by_cases hall : ∀ i, i < p + n → On l i
    · refine next ρ M a w l (fuel + 1) hl (fun i hi => ⟨fun h => ?_, fun h => hall i h⟩) hcl hu (st.congr fun k => (hS1 k fun j hj1 hj2 hn _ => absurd (hall j hj2) hn).symm) ⟨hdf, hsz, fun t => htm t fun j hj1 hj2 hn => absurd (hall j hj2) hn⟩
      rcases Nat.lt_or_ge i (p + n) with h' | h'
      · exact h'
      · exact absurd h (h2 i h')
    · -- the first that is not listed is ready
      have hmin : ∃ i, i < p + n ∧ ¬ On l i ∧ ∀ j, j < i → On l j := by
        have : ∃ i, i < p + n ∧ ¬ On l i := by
          obtain ⟨i, hi⟩ := Classical.not_forall.1 hall
          exact ⟨i, Classical.not_imp.1 hi⟩
        obtain ⟨i, hi, hno⟩ := this
        induction i using Nat.strongRecOn with
        | ind i ihi =>
          by_cases hj : ∃ j, j < i ∧ ¬ On l j
          · obtain ⟨j, hj1, hj2⟩ := hj
            exact ihi j hj1 (by omega) hj2
          · exact ⟨i, hi, hno, fun j hji => Classical.byContradiction fun hn => hj ⟨j, hji, hn⟩⟩
      obtain ⟨i0, hi0, hno0, hbefore⟩ := hmin
      have hi0s : i0 < ops.size := by omega
      have hready0 : i0 ∈ Region.ready .any ops l := (mem_ready hl).2 ⟨ops[i0], Array.getElem?_eq_getElem hi0s, hno0, fun e he hb => hbefore _ (E.back i0 _ (Array.getElem?_eq_getElem hi0s) e he hb)⟩
      refine ⟨fun hnil => (by rw [hnil] at hready0; cases hready0), fun i hi => ?_⟩
      obtain ⟨o, ho, hno, hpre⟩ := (mem_ready hl).1 hi
      have his : i < ops.size := by
        rcases Nat.lt_or_ge i ops.size with h | h
        · exact h
        · rw [Array.getElem?_eq_none h] at ho; cases ho
      have hCi := ready_clos E hcl ho hpre
      have hip : p ≤ i := Nat.le_of_not_lt fun h => hno (h1 i h)
      have hin : i < p + n := by
        rcases Nat.lt_or_ge i (p + n) with h | h
        · exact h
        · exfalso
          rcases hend with hend | hend
          · omega
          · rcases E.lone (p + n) (by omega) hend i his with h3 | h3 | h3
            · omega
            · subst h3
              rcases E.lone (p + n) (by omega) hend i0 hi0s with h4 | h4 | h4
              · exact hno0 (hCi _ h4.2)
              · omega
              · omega
            · exact h2 (p + n) (Nat.le_refl _) (hCi _ h3.2)
      obtain ⟨o', ho', hor⟩ := hrun i hip hin
      rw [ho] at ho'; cases ho'
      obtain ⟨r, Tg, Tj, Sj, v, hg, hq, hany, hv, hBd, hlook, hSj⟩ := hor
      have hil : i < l.size := by omega
      have hdi : dstAt ops i = o.dst := by simp [dstAt, ho]
      have hreads : ∀ t ∈ o.looksAt ops, RepT ρ w M (nth T' t) (a.tmps.getD t undef) ∧ ∀ j, i ≤ j → j < p + n → dstAt ops j ≠ some t := fun t ht => by
        refine ⟨htm t fun j hj1 hj2 hn hd => ?_, fun j hij hj2 hd => ?_⟩
        · rcases E.looks i o ho t ht j hd with h | h
          · exact hn (hCi j h.2)
          · rw [hseg j hj1 hj2] at h; cases h.1
        · rcases E.looks i o ho t ht j hd with h | h
          · omega
          · rw [hseg j (by omega) hj2] at h; cases h.1
      have hwant : Region.wanted o (yielded ops a.tmps) = r := by
        have hgT : ∀ j want d, o.guard = some (j, want) → (ops[j]?).bind (·.dst) = some d → d ∈ o.looksAt ops := fun j want d hgd hd => by
          unfold Oper.looksAt
          rw [hgd]
          simp [hd]
        unfold Region.wanted
        cases hgd : o.guard with
        | none =>
          unfold GuardIs at hg
          rw [hgd] at hg
          exact hg.symm
        | some jw =>
          obtain ⟨j, want⟩ := jw
          unfold GuardIs at hg
          rw [hgd] at hg
          obtain ⟨d, h3, h4⟩ := hg
          have hm := hgT j want d hgd h3
          obtain ⟨h5, h6⟩ := hreads d hm
          have h7 := (hlook d hm h6).1.rep h5
          rcases h4 with ⟨e, h4, rfl⟩ | ⟨h4, rfl⟩
          case inr => rw [h4] at h7; exact wanted_undef h3 h7
          rw [h4] at h7
          have h7 : a.tmps.getD d undef = .bool e.val := h7
          have hlt : d < a.tmps.size := by
            rcases Nat.lt_or_ge d a.tmps.size with h' | h'
            · exact h'
            · rw [Array.getD_eq_getD_getElem?, Array.getElem?_eq_none h'] at h7
              cases h7
          have h8 : a.tmps[d]? = some (.bool e.val) := by
            rw [Array.getElem?_eq_getElem hlt]
            simp [Array.getD, hlt] at h7
            rw [h7]
          simp [yielded, h3, h8]
      have hu' : unl (l.setIfInBounds i true) ≤ fuel := by have := unl_set hil hno; omega
      have hset : ∀ j, ¬ On (l.setIfInBounds i true) j → ¬ On l j ∧ j ≠ i := fun j hj => ⟨fun h => hj ((on_set hil).2 (.inr h)), fun h => hj ((on_set hil).2 (.inl h))⟩
      have hset' : ∀ j, ¬ On l j → j ≠ i → ¬ On (l.setIfInBounds i true) j := fun j hj hne h => ((on_set hil).1 h).elim hne hj
      -- what is left, whatever it has done
      have fin : ∀ (ρ' : Env) (M' : Msk) (w' : World) (u : Value), St M0 w0 ρ' M' (addS (o.dst.getD 999) (Bs i) SL) w' → RepT ρ' w' M' v u → Keep w M w' M' → (∀ k x, ρ k = some x → ρ' k = some x) →
          wpAny P .any ops R fuel (l.setIfInBounds i true) (a.put o.dst u) w' := by
        intro ρ' M' w' u st' hu' hk hρ
        refine ih (l.setIfInBounds i true) ρ' M' (a.put o.dst u) w' _ (by simp [hl]) (fun j hj => (on_set hil).2 (.inr (h1 j hj))) (fun j hj hon => ?_) (closed_set E hcl hil ho hpre) (by omega) st' (by cases hd : o.dst <;> simp [Act.put, hdf])
          (by cases hd : o.dst <;> simp [Act.put, hsz]) (fun t ht => ?_) (fun k hk => ?_) (fun j k hj1 hj2 hn hd hb => ?_)
        · rcases (on_set hil).1 hon with h3 | h3
          · omega
          · exact h2 j hj h3
        · by_cases hti : o.dst = some t
          · rw [hti]
            by_cases hlt : t < a.tmps.size
            · have e1 : (a.put (some t) u).tmps.getD t undef = u := by simp [Act.put, hlt]
              rw [e1]
              exact (hv t hti (by rw [← hsz]; exact hlt)).rep hu'
            · rw [nth_ge T' t (by omega)]; trivial
          · have e1 : (a.put o.dst u).tmps.getD t undef = a.tmps.getD t undef := by
              cases hd : o.dst with
              | none => rfl
              | some d =>
                have hne : d ≠ t := fun e => hti (by rw [hd, e])
                simp [Act.put, Array.getD_eq_getD_getElem?, Array.getElem?_setIfInBounds_ne hne]
            rw [e1]
            refine RepT.keep hk hρ (htm t fun j hj1 hj2 hn hd => ?_)
            by_cases hji : j = i
            · subst hji; exact hti (by rw [← hdi]; exact hd)
            · exact ht j hj1 hj2 (hset' j hn hji) hd
        · by_cases hki : o.dst = some k ∧ Bs i ≠ none
          · obtain ⟨hki, hb⟩ := hki
            cases hbb : Bs i with
            | none => exact absurd hbb hb
            | some b =>
              rw [hB i k b hip hin (by rw [hdi, hki]) hbb]
              simp [addS, find_cons, hki]
          · have e1 : findS (addS (o.dst.getD 999) (Bs i) SL) k = findS SL k := by
              cases hbb : Bs i with
              | none => rfl
              | some b =>
                obtain ⟨d, hd, _⟩ := hBd (by rw [hbb]; simp)
                simp only [addS, find_cons, hd, Option.getD_some]
                rw [if_neg (fun e => hki ⟨by rw [hd, e], by rw [hbb]; simp⟩)]
            rw [e1]
            refine hS1 k fun j hj1 hj2 hn hd => ?_
            by_cases hji : j = i
            · subst hji
              exact Classical.byContradiction fun hb => hki ⟨by rw [← hdi]; exact hd, hb⟩
            · exact hk j hj1 hj2 (hset' j hn hji) hd
        · obtain ⟨hn1, hn2⟩ := hset j hn
          have e1 := hS2 j k hj1 hj2 hn1 hd hb
          cases hbb : Bs i with
          | none => exact e1
          | some b =>
            obtain ⟨d, hd', _⟩ := hBd (by rw [hbb]; simp)
            simp only [addS, find_cons, hd', Option.getD_some]
            rw [if_neg (fun e => hn2 (E.dist j i k hd (by rw [hdi, hd', e])))]
            exact e1
      unfold wpOp
      rw [ho]
      show (if Region.wanted o (yielded ops a.tmps) = true then _ else _)
      rw [hwant]
      cases r with
      | true =>
        rw [if_pos rfl]
        refine .inl ((hq rfl M0 w0 ρ M w SL a.eval o rfl (fun k D D' hD hD' => ?_) st (fun x hx => ?_) (fun hb => ?_)).wp fun u w' ⟨ρ', M', g1, g2, g3, g4⟩ => fin ρ' M' w' u g1 g2 g3 g4)
        · have e1 := hSj k D hD
          by_cases hk : ∀ j, p ≤ j → j < p + n → ¬ On l j → dstAt ops j = some k → Bs j = none
          · rw [hS1 k hk, e1] at hD'
            exact Option.some.inj hD'
          · exfalso
            refine hk fun j hj1 hj2 hn hd => Classical.byContradiction fun hb => ?_
            rw [hS2 j k hj1 hj2 hn hd hb] at hD'
            cases hD'
        · cases x with
          | tmp t =>
            have hm : t ∈ o.looksAt ops := by
              unfold Oper.looksAt
              exact List.mem_append.2 (.inl (List.mem_filterMap.2 ⟨.tmp t, Array.mem_toList_iff.2 hx, rfl⟩))
            obtain ⟨h5, h6⟩ := hreads t hm
            have := (hlook t hm h6).2.rep h5
            have e1 : a.eval (.tmp t) = a.tmps.getD t undef := by simp [Act.eval, Array.getD_eq_getD_getElem?]
            rw [e1]
            exact this
          | const v => exact const_rep _ _ _ _
          | global g => trivial
          | func f => exact ⟨#[], rfl, trivial⟩
        · obtain ⟨d, hd, hloc⟩ := hBd hb
          rw [hd]
          exact ⟨hS2 i d hip hin hno (by rw [hdi, hd]) hb, hloc⟩
      | false =>
        rw [if_neg (by simp)]
        obtain ⟨rfl, hBn⟩ := hany rfl
        refine fin ρ M w undef ?_ ⟨#[], rfl, trivial⟩ (Keep.refl _ _) (fun _ _ h => h)
        rw [hBn]
        exact st

/-- From the place p on: all that stands before it is listed. -/
theorem any_sound (hty : TyOk P TY) {F : Spec} (hF : SpecOk P F) {ops : Array Oper} {g : List Bool} {C : Nat → List Nat} (E : Edges ops g C) {R : Exit → Act → World → Prop} {K : List AV → Store → Prop} {len : Nat}
    (hR : ∀ a w, End M0 w0 len K a w → R .normal a w) : ∀ (m p : Nat) (ρ : Env) (M : Msk) (a : Act) (w : World) (T : List AV) (S : Store) (l : Array Bool) (fuel : Nat), ops.size - p ≤ m → p ≤ ops.size → l.size = ops.size → (∀ i, i < ops.size → (On l i ↔ i < p)) → ClosedL C l → unl l ≤ fuel →
      drawK TY F ops.toList (g.drop p) (ops.toList.drop p) T S K → St M0 w0 ρ M S w → Tm ρ w M T a → T.length = len → wpAny P .any ops R fuel l a w := by
  intro m
  induction m with
  | zero =>
    intro p ρ M a w T S l fuel hm hp hl hon hcl hu h st tm hlen
    have hps : p = ops.size := by omega
    have hnil : Region.ready .any ops l = [] := by
      rw [List.eq_nil_iff_forall_not_mem]
      intro i hi
      obtain ⟨o, ho, hno, _⟩ := (mem_ready hl).1 hi
      have his : i < ops.size := by
        rcases Nat.lt_or_ge i ops.size with h | h
        · exact h
        · rw [Array.getElem?_eq_none h] at ho; cases ho
      exact hno ((hon i his).2 (by omega))
    have hd : ops.toList.drop p = [] := List.drop_of_length_le (by simp [hps])
    rw [hd] at h
    have h : K T S := by cases hg : g.drop p <;> rw [hg] at h <;> exact h
    have hq := hR a w ⟨ρ, M, T, S, h, st, tm, hlen⟩
    cases fuel with
    | zero => exact ⟨hnil, hq⟩
    | succ fuel => exact ⟨fun _ => hq, fun i hi => (by rw [hnil] at hi; cases hi)⟩
  | succ m ih =>
    intro p ρ M a w T S l fuel hm hp hl hon hcl hu h st tm hlen
    by_cases hps : p = ops.size
    · exact ih p ρ M a w T S l fuel (by omega) hp hl hon hcl hu h st tm hlen
    have hps : p < ops.size := by omega
    have hnp : ¬ On l p := fun hh => absurd ((hon p hps).1 hh) (Nat.lt_irrefl _)
    obtain ⟨n, T', S', Bs, g1, g2, g3, g4, g5, g6, g7, g8, g9, g10, g11⟩ := seg_run hty hF E.dist (ops.toList.drop p) (g.drop p) p rfl h
    have hlenrest : (ops.toList.drop p).length = ops.size - p := by simp
    have hend : p + n = ops.size ∨ g[p + n]? = some true := by
      rcases g2 with g2 | g2
      · exact .inl (by omega)
      · rw [List.getElem?_drop] at g2
        exact .inr g2
    rw [List.drop_drop, List.drop_drop] at g3
    by_cases hn : n = 0
    · subst hn
      -- one that stands alone
      have hg : g[p]? = some true := by
        rcases hend with hend | hend
        · omega
        · exact hend
      have hgl : p < g.length := by
        rcases Nat.lt_or_ge p g.length with h' | h'
        · exact h'
        · rw [List.getElem?_eq_none h'] at hg; cases hg
      have hgp : g[p] = true := by rw [List.getElem?_eq_getElem hgl] at hg; exact Option.some.inj hg
      have ho : ops[p]? = some ops[p] := Array.getElem?_eq_getElem hps
      have e1 : g.drop p = true :: g.drop (p + 1) := by rw [List.drop_eq_getElem_cons hgl, hgp]
      have e2 : ops.toList.drop p = ops[p] :: ops.toList.drop (p + 1) := by rw [List.drop_eq_getElem_cons (by simpa using hps), Array.getElem_toList]
      rw [e1, e2] at h
      simp only [drawK, dN_iff] at h
      cases fuel with
      | zero => exact absurd (unl_zero (i := p) (Nat.le_zero.1 hu) (by omega)) hnp
      | succ fuel =>
        have hready : p ∈ Region.ready .any ops l := (mem_ready hl).2 ⟨_, ho, hnp, fun e he hb => by
          have := E.back p _ ho e he hb
          exact (hon e.on (by omega)).2 this⟩
        refine ⟨fun hnil => (by rw [hnil] at hready; cases hready), fun i hi => ?_⟩
        obtain ⟨o, hoi, hno, hpre⟩ := (mem_ready hl).1 hi
        have his : i < ops.size := by
          rcases Nat.lt_or_ge i ops.size with h | h
          · exact h
          · rw [Array.getElem?_eq_none h] at hoi; cases hoi
        have hip : i = p := by
          rcases E.lone p hps (by simp [List.getD, hg]) i his with h3 | h3 | h3
          · exact absurd ((hon i his).2 h3.1) hno
          · exact h3
          · exact absurd (ready_clos E hcl hoi hpre p h3.2) hnp
        subst hip
        refine oper_sound (K := fun T S => drawK TY F ops.toList (g.drop (i + 1)) (ops.toList.drop (i + 1)) T S K) hty hF ho h st tm fun a w ⟨ρ', M', T', S', h1, h2, h3, h4⟩ => ?_
        have hil : i < l.size := by omega
        refine ih (i + 1) ρ' M' a w T' S' _ fuel (by omega) (by omega) (by simp [hl]) (fun j hj => ?_) (closed_set E hcl hil hoi hpre) (by have := unl_set hil hno; omega) h1 h2 h3 (h4.trans hlen)
        rw [on_set hil, hon j hj]
        omega
    · have hsn : p + n ≤ ops.size := by omega
      refine seg_any E hsn (hend.imp id fun hh => by simp [List.getD, hh]) (fun j hj1 hj2 => by
        have := g11 (j - p) (by omega)
        rw [List.getElem?_drop, show p + (j - p) = j by omega] at this
        simp [List.getD, this]) g6 g7 (fun ρ' M' a' w' l' fuel' hl' hon' hcl' hu' st' tm' => ih (p + n) ρ' M' a' w' T' S' l' fuel' (by omega) hsn hl' hon' hcl' hu' g3 st' tm' (g4.trans hlen))
        fuel l ρ M a w S hl (fun i hi => (hon i (by omega)).2 hi) (fun i hi hh => ?_) hcl hu st tm.defers (by rw [g4]; exact tm.size) (fun t ht => (g5 t fun j hj1 hj2 => ht j hj1 hj2 fun hh => ?_).rep (tm.tmp t)) (fun k hk => (g8 k fun j hj1 hj2 hd => hk j hj1 hj2 (fun hh => ?_) hd).symm) (fun j k hj1 hj2 _ hd hb => g10 j k hj1 hj2 hd hb)
      · rcases Nat.lt_or_ge i ops.size with h' | h'
        · have := (hon i h').1 hh; omega
        · unfold On at hh; rw [Array.getElem?_eq_none (by omega)] at hh; cases hh
      · have := (hon j (by omega)).1 hh; omega
      · have := (hon j (by omega)).1 hh; omega

theorem kills_sound {a : Act} : ∀ {ks : List Nat} {T : List AV} {S : Store} {ρ : Env} {M : Msk} {K : List AV → Store → Prop}, killsK ks T S K → St M0 w0 ρ M S w → Tm ρ w M T a →
    ∃ T' S' ρ' M', K T' S' ∧ St M0 w0 ρ' M' S' w ∧ Tm ρ' w M' T' a ∧ T'.length = T.length
  | [], T, S, ρ, M, K, h, st, tm => ⟨T, S, ρ, M, h, st, tm, rfl⟩
  | k :: ks, T, S, ρ, M, K, h, st, tm => by
    simp only [killsK] at h
    split at h
    · exact kills_sound h st tm
    · obtain ⟨T1, S1, h1, h2, h3, h4, _, _⟩ := kill_sound h st tm
      obtain ⟨T', S', ρ', M', h5, h6, h7, h8⟩ := kills_sound h1 h2 h3
      exact ⟨T', S', ρ', M', h5, h6, h7, h8.trans h4⟩

theorem draw_sound (hty : TyOk P TY) {F : Spec} (hF : SpecOk P F) (hm : P.follows .mixedOrders = true) {ops : Array Oper} {g : List Bool} {T : List AV} {K : List AV → Store → Prop} {R : Exit → Act → World → Prop} {a : Act} {id : Nat}
    (hok : drawOK ops g = true) (h : killsK (makes g ops.toList) T S fun T S => drawK TY F ops.toList g ops.toList T S K) (st : St M0 w0 ρ M S w) (tm : Tm ρ w M T a)
    (hR : ∀ a w, End M0 w0 T.length K a w → R .normal a w) : (Code.region id ops true).wp P R a w := by
  obtain ⟨T1, S1, ρ1, M1, h1, st1, tm1, hl1⟩ := kills_sound h st tm
  refine wp_region_any hm ?_
  have hs : Stp (fun _ _ => False) w { w with drawn := w.drawn + 1 } := Stp.heap _ rfl
  obtain ⟨st2, hk⟩ := st1.same (M' := M1) hs (fun _ _ _ => Iff.rfl) (fun b off hmm => st1.mlt b off hmm)
  have E := edges_of hok
  have hnone : ∀ i, ¬ On (Array.replicate ops.size false) i := fun i hi => by
    unfold On at hi
    rw [Array.getElem?_replicate] at hi
    split at hi <;> cases hi
  exact any_sound hty hF E hR ops.size 0 ρ1 M1 a _ T1 S1 _ ops.size (by omega) (Nat.zero_le _) (by simp) (fun i _ => ⟨fun hi => absurd hi (hnone i), fun hi => by omega⟩) (fun i hi => absurd hi (hnone i)) (by simp [unl]) (by simpa using h1) st2
    ⟨tm1.defers, tm1.size, fun i => RepT.keep hk (fun _ _ h => h) (tm1.tmp i)⟩ hl1
end
end Go.AM
