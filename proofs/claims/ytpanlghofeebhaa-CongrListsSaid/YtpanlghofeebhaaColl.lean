import Derived.Test.YtpanlghofeebhaaAllLaw
import Derived.Test.YtpanlghofeebhaaMinsLaw
import Derived.Test.YtpanlghofeebhaaClone
section
/- Plain: the principal congruences by the network's components: what each round joins. -/
namespace Go.Proofs.Ytpanlghofeebhaa
open Go Go.AM
theorem cnt_one {n : Nat} {p : List Int} {r : Nat → Nat} (h : Fo n p r) (hc : cntR n r = 1) {a b : Nat} (ha : a < n) (hb : b < n) : r a = r b := by
  have root : ∀ x, x < n → r x ∈ (List.range n).filter (rtB r) := fun x hx => List.mem_filter.2 ⟨List.mem_range.2 (h.rlt hx), decide_eq_true (h.rr hx)⟩
  unfold cntR at hc
  match hl : (List.range n).filter (rtB r), hc with
  | [y], _ =>
    have h1 := root a ha
    have h2 := root b hb
    rw [hl] at h1 h2
    rw [List.mem_singleton.1 h1, List.mem_singleton.1 h2]
def hdC (C : List (List Nat)) (i : Nat) : Nat := (C.getD i []).getD 0 0
noncomputable def qC (t : List (List Int)) (C : List (List Nat)) (i : Nat) : List Int := prnG t (hdC C i / t.length) (hdC C i % t.length)
section
variable {t : List (List Int)} {g c : List Int} {C : List (List Nat)} {lv : List Bool}
theorem NetOk.hd (h : NetOk t g c C lv) {i : Nat} (hi : i < C.length) : hdC C i ∈ C.getD i [] := by
  have h1 := h.net.ne i hi
  unfold hdC
  cases hc : C.getD i [] with
  | nil => exact absurd hc h1
  | cons v r => exact List.mem_cons_self
theorem qC_is (hs : Semi t) (i : Nat) : IsCg t (qC t C i) 0 := prnG_is hs _ _
theorem NetOk.q_mem (h : NetOk t g c C lv) (hs : Semi t) {i v : Nat} (hi : i < C.length) (hv : v ∈ C.getD i []) : (qC t C i).getD (v / t.length) 0 = (qC t C i).getD (v % t.length) 0 := by
  have hg := gp_le (h.gp hi (h.hd hi)).1
  have hv' := gp_le (h.gp hi hv).1
  exact h.sub hs.toSh (qC_is hs i).cg hi (h.hd hi) (prnG_eq hg.1 hg.2.1) _ _ hv'.1 hv'.2.1 (cm_in hv (h.gp hi hv).1)
theorem NetOk.q_gen (h : NetOk t g c C lv) (hs : Semi t) {i v : Nat} (hi : i < C.length) (hv : v ∈ C.getD i []) : qC t C i = prnG t (v / t.length) (v % t.length) := by
  have hg := gp_le (h.gp hi (h.hd hi)).1
  have hv' := gp_le (h.gp hi hv).1
  have hp := prnG_is hs (v / t.length) (v % t.length)
  have hq := qC_is (C := C) hs i
  refine sub_eq hq.len hp.len hq.val.2 hp.val.2 (prnG_sub hp ?_) (prnG_sub hq (h.q_mem hs hi hv))
  exact h.sub hs.toSh hp.cg hi hv (prnG_eq hv'.1 hv'.2.1) _ _ hg.1 hg.2.1 (cm_in (h.hd hi) (h.gp hi (h.hd hi)).1)
theorem tg_ends (hs : Sh t) (hg : ∀ x ∈ g, 0 ≤ x ∧ x < (t.length : Int)) {v k w : Nat} (hv : Gp t.length v) (hk : k < 2 * g.length) (h : tgN t g v k = (w : Int)) {R : Nat → Nat → Prop} (hsy : ∀ a b, R a b → R b a) :
    (R (w / t.length) (w % t.length) ↔ R (tgA t (g.getD (k / 2) 0).toNat (v / t.length) k) (tgA t (g.getD (k / 2) 0).toNat (v % t.length) k)) ∧ tgA t (g.getD (k / 2) 0).toNat (v / t.length) k < t.length ∧ tgA t (g.getD (k / 2) 0).toNat (v % t.length) k < t.length := by
  obtain ⟨v1, v2, _⟩ := gp_le hv
  have hz : (g.getD (k / 2) 0).toNat < t.length := by have := hg _ (getD_mem (d := 0) (i := k / 2) (l := g) (by omega)); omega
  have ha : tgA t (g.getD (k / 2) 0).toNat (v / t.length) k < t.length := by unfold tgA; split; exact (hs.ent hz v1).2; exact (hs.ent v1 hz).2
  have hb : tgA t (g.getD (k / 2) 0).toNat (v % t.length) k < t.length := by unfold tgA; split; exact (hs.ent hz v2).2; exact (hs.ent v2 hz).2
  refine ⟨?_, ha, hb⟩
  unfold tgN prN at h
  split at h
  · omega
  · rename_i hne
    have ew : w = min (tgA t (g.getD (k / 2) 0).toNat (v / t.length) k) (tgA t (g.getD (k / 2) 0).toNat (v % t.length) k) * t.length + max (tgA t (g.getD (k / 2) 0).toNat (v / t.length) k) (tgA t (g.getD (k / 2) 0).toNat (v % t.length) k) := by omega
    have hp := gp_of (n := t.length) (x := min (tgA t (g.getD (k / 2) 0).toNat (v / t.length) k) (tgA t (g.getD (k / 2) 0).toNat (v % t.length) k)) (y := max (tgA t (g.getD (k / 2) 0).toNat (v / t.length) k) (tgA t (g.getD (k / 2) 0).toNat (v % t.length) k)) (by omega) (by omega)
    rw [ew, hp.2.1, hp.2.2]
    rcases Nat.le_total (tgA t (g.getD (k / 2) 0).toNat (v / t.length) k) (tgA t (g.getD (k / 2) 0).toNat (v % t.length) k) with h2 | h2
    · rw [Nat.min_eq_left h2, Nat.max_eq_right h2]
    · rw [Nat.min_eq_right h2, Nat.max_eq_left h2]; exact ⟨hsy _ _, hsy _ _⟩
theorem tg_same {v k : Nat} (h : tgN t g v k < 0) : tgA t (g.getD (k / 2) 0).toNat (v / t.length) k = tgA t (g.getD (k / 2) 0).toNat (v % t.length) k := by
  unfold tgN prN at h
  split at h
  · assumption
  · omega
/-! ### Before each component -/
structure PcI (t : List (List Int)) (C : List (List Nat)) (ci : Nat) (N J : List Int) (L : List Prn) : Prop where
  nl : N.length = C.length
  num : ∀ d, d < ci → ∃ i : Nat, N.getD d 0 = (i : Int) ∧ i < L.length ∧ (L.getD i prn0).2.1 = qC t C d
  jl : J.length = L.length
  jle : ∀ i, i < L.length → J.getD i 0 ≤ (ci : Int)
  ok : ∀ e ∈ L, PrnOk t e
  nd : (L.map fun e => e.2.1).Nodup
theorem PcI.few {ci : Nat} {N J : List Int} {L : List Prn} (h : PcI t C ci N J L) (hs : Semi t) (hn : t.length ≤ 6) : L.length ≤ 720 := by
  have := ptns_few hn h.nd fun p hp => by
    obtain ⟨e, he, rfl⟩ := List.mem_map.1 hp
    have := (h.ok e he).is hs
    exact ⟨this.len, this.val.2⟩
  simpa using this
theorem PcI.start (C : List (List Nat)) : PcI t C 0 (List.replicate C.length 0) [] [] := ⟨by simp, fun d hd => by omega, rfl, fun i hi => (by simp at hi), fun e he => (by cases he), List.nodup_nil⟩
theorem PcI.done {N J : List Int} {L : List Prn} (hN : NetOk t g c C lv) (hs : Semi t) (h : PcI t C C.length N J L) : PrL t L := by
  refine ⟨h.ok, h.nd, fun x y hxy hy => ?_⟩
  obtain ⟨hp, e1, e2⟩ := gp_of hxy hy
  have h0 := hN.all _ hp
  have hd := hN.net.dom _ h0
  have hi : (gC c (x * t.length + y)).toNat < C.length := by omega
  have hm : x * t.length + y ∈ C.getD (gC c (x * t.length + y)).toNat [] := (hN.net.mem _ _ hi).2 (by omega)
  obtain ⟨i, _, hil, e3⟩ := h.num _ hi
  refine ⟨L.getD i prn0, getD_mem hil, ?_⟩
  rw [e3, hN.q_gen hs hi hm, e1, e2]
/-! ### Inside a component -/
def limP (L : List Prn) (xi xs i : Nat) : Nat := if i = xi then xs else (L.getD i prn0).2.2.length
structure PcW (t : List (List Int)) (g : List Int) (C : List (List Nat)) (ci : Nat) (L : List Prn) (a k xi xs : Nat) (J : List Int) (r : Nat → Nat) (p : List Int) (W : List (Int × Int)) : Prop where
  fo : Fo t.length p r
  ker : KerR t.length r (relP W)
  inw : inW t.length W
  wl : W.length + cntR t.length r = t.length
  mem : ∀ v ∈ C.getD ci [], r (v / t.length) = r (v % t.length)
  sub : ∀ x y, relP W x y → (qC t C ci).getD x 0 = (qC t C ci).getD y 0
  src : ∀ x y, relP W x y → (∃ v ∈ C.getD ci [], v / t.length = x ∧ v % t.length = y) ∨ ∃ i, i < L.length ∧ J.getD i 0 = (ci : Int) + 1 ∧ (L.getD i prn0).2.1.getD x 0 = (L.getD i prn0).2.1.getD y 0
  jl : J.length = L.length
  jle : ∀ i, i < L.length → J.getD i 0 ≤ (ci : Int) + 1
  jn : ∀ i, i < L.length → J.getD i 0 = (ci : Int) + 1 → ∀ s, s < limP L xi xs i → r ((L.getD i prn0).2.2.getD s (0, 0)).1.toNat = r ((L.getD i prn0).2.2.getD s (0, 0)).2.toNat
  cov : ∀ a' k', a' < (C.getD ci []).length → k' < 2 * g.length → (a' < a ∨ a' = a ∧ k' < k) → ∀ w : Nat, tgN t g ((C.getD ci []).getD a' 0) k' = (w : Int) → r (w / t.length) = r (w % t.length)
variable {ci a k xi xs : Nat} {N J J0 : List Int} {L : List Prn} {r : Nat → Nat} {p : List Int} {W : List (Int × Int)}
theorem PcW.start (hN : NetOk t g c C lv) (hs : Semi t) (hi : ci < C.length) (h : PcI t C ci N J L) : PcW t g C ci L 0 0 L.length 0 J (snS t.length (C.getD ci [])).1 (snP t.length (C.getD ci [])) (snS t.length (C.getD ci [])).2 := by
  have o := hN.sO hi
  refine ⟨o.fo, o.kel, o.inw, o.cnt, fun v hv => ?_, fun x y hxy => ?_, fun x y hxy => ?_, h.jl, fun i hil => by have := h.jle i hil; omega, fun i hil e => by have := h.jle i hil; omega, fun a' k' _ _ h => by omega⟩
  · have hg := gp_le (hN.gp hi hv).1
    exact (o.ker _ _ hg.1 hg.2.1).2 (.rel (mem_ends.2 ⟨v, hv, rfl, rfl⟩))
  · obtain ⟨v, hv, e⟩ := o.sub _ hxy
    have e1 : x = v / t.length := by injection e with h1 h2; omega
    have e2 : y = v % t.length := by injection e with h1 h2; omega
    rw [e1, e2]; exact hN.q_mem hs hi hv
  · obtain ⟨v, hv, e⟩ := o.sub _ hxy
    exact .inl ⟨v, hv, by injection e with h1 h2; omega, by injection e with h1 h2; omega⟩
theorem PcW.edge (h : PcW t g C ci L a k xi xs J r p W) (hk : ∀ w : Nat, tgN t g ((C.getD ci []).getD a 0) k = (w : Int) → r (w / t.length) = r (w % t.length)) : PcW t g C ci L a (k + 1) xi xs J r p W :=
  ⟨h.fo, h.ker, h.inw, h.wl, h.mem, h.sub, h.src, h.jl, h.jle, h.jn, fun a' k' h1 h2 h3 w hw => by
    by_cases e : a' = a ∧ k' = k
    · obtain ⟨rfl, rfl⟩ := e; exact hk w hw
    · exact h.cov a' k' h1 h2 (by omega) w hw⟩
theorem PcW.row (h : PcW t g C ci L a k xi xs J r p W) (hk : 2 * g.length ≤ k) : PcW t g C ci L (a + 1) 0 xi xs J r p W :=
  ⟨h.fo, h.ker, h.inw, h.wl, h.mem, h.sub, h.src, h.jl, h.jle, h.jn, fun a' k' h1 h2 h3 w hw => h.cov a' k' h1 h2 (by omega) w hw⟩
theorem PcW.cls (h : PcW t g C ci L a k L.length xs J r p W) (hok : ∀ e ∈ L, PrnOk t e) {i : Nat} (hi : i < L.length) (hj : J.getD i 0 = (ci : Int) + 1) : ∀ x y, x < t.length → y < t.length → (L.getD i prn0).2.1.getD x 0 = (L.getD i prn0).2.1.getD y 0 → r x = r y := fun x y hx hy e => by
  have o := hok _ (getD_mem (d := prn0) hi)
  rw [o.cls] at e
  refine ((eqP_iff hx hy).1 e).least (Q := fun a b => r a = r b) (fun _ => rfl) (fun _ _ h => h.symm) (fun _ _ _ h h' => h.trans h') fun u v huv => ?_
  obtain ⟨s, hs, e2⟩ := mem_getD (0, 0) huv
  have := h.jn i hi hj s (by unfold limP; rw [if_neg (by omega)]; exact hs)
  rw [e2] at this
  simpa using this
theorem PcW.tgt (h : PcW t g C ci L a k xi xs J r p W) (hN : NetOk t g c C lv) (hs : Semi t) (hi : ci < C.length) (hI : PcI t C ci N J0 L) (ha : a < (C.getD ci []).length) (hk : k < 2 * g.length) {w : Nat} (hw : tgN t g ((C.getD ci []).getD a 0) k = (w : Int)) :
    w < c.length ∧ 0 ≤ gC c w ∧ gC c w ≤ (ci : Int) ∧ (gC c w = (ci : Int) → r (w / t.length) = r (w % t.length)) ∧ (gC c w < (ci : Int) → ∃ i : Nat, N.getD (gC c w).toNat 0 = (i : Int) ∧ i < L.length ∧ (L.getD i prn0).2.1.getD (w / t.length) 0 = (L.getD i prn0).2.1.getD (w % t.length) 0 ∧ ∀ x y, x < t.length → y < t.length → (L.getD i prn0).2.1.getD x 0 = (L.getD i prn0).2.1.getD y 0 → (qC t C ci).getD x 0 = (qC t C ci).getD y 0) := by
  have hv : (C.getD ci []).getD a 0 ∈ C.getD ci [] := getD_mem ha
  obtain ⟨hg, hc⟩ := hN.gp hi hv
  have hed := hN.net.edge _ k w (by omega) hk hw
  have hgw := tg_gp hs.toSh hN.sp.el hg hk hw
  obtain ⟨w1, w2, _⟩ := gp_le hgw
  refine ⟨by rw [hN.cl]; exact hgw.1, hed.1, by omega, fun e => h.mem w ((hN.net.mem ci w hi).2 e), fun e => ?_⟩
  have hd : (gC c w).toNat < C.length := by omega
  have hwm : w ∈ C.getD (gC c w).toNat [] := (hN.net.mem _ w hd).2 (by omega)
  obtain ⟨i, e1, hil, e2⟩ := hI.num (gC c w).toNat (by omega)
  refine ⟨i, e1, hil, by rw [e2]; exact hN.q_mem hs hd hwm, fun x y hx hy exy => ?_⟩
  rw [e2, hN.q_gen hs hd hwm] at exy
  refine prnG_sub (qC_is (C := C) hs ci) ?_ x y hx hy exy
  have hq := rc_cg hs.toSh hN.sp.el (qC_is (C := C) hs ci).cg hg (.step (.refl _) hk hw)
  exact hq.2 (hN.q_mem hs hi hv)
theorem PcW.open (h : PcW t g C ci L a k L.length xs J r p W) {i : Nat} (hi : i < L.length) (hj : J.getD i 0 ≠ (ci : Int) + 1) : PcW t g C ci L a k i 0 (J.set i ((ci : Int) + 1)) r p W := by
  have hg : ∀ j, j < L.length → j ≠ i → (J.set i ((ci : Int) + 1)).getD j 0 = J.getD j 0 := fun j _ e => getD_set_ne (Ne.symm e)
  have hgi : (J.set i ((ci : Int) + 1)).getD i 0 = (ci : Int) + 1 := getD_set_eq (by rw [h.jl]; exact hi)
  refine ⟨h.fo, h.ker, h.inw, h.wl, h.mem, h.sub, fun x y hxy => ?_, by rw [List.length_set]; exact h.jl, fun j hj' => ?_, fun j hj' e s hs => ?_, h.cov⟩
  · rcases h.src x y hxy with h1 | ⟨j, h1, h2, h3⟩
    · exact .inl h1
    · exact .inr ⟨j, h1, by rw [hg j h1 fun e => hj (e ▸ h2)]; exact h2, h3⟩
  · by_cases e : j = i
    · subst e; rw [hgi]; exact Int.le_refl _
    · rw [hg j hj' e]; exact h.jle j hj'
  · by_cases e1 : j = i
    · subst e1; unfold limP at hs; rw [if_pos rfl] at hs; omega
    · rw [hg j hj' e1] at e
      refine h.jn j hj' e s ?_
      unfold limP at hs ⊢
      rw [if_neg e1] at hs
      rw [if_neg (by omega)]; exact hs
theorem PcW.pair (h : PcW t g C ci L a k xi xs J r p W) (hok : ∀ e ∈ L, PrnOk t e) (hxi : xi < L.length) (hj : J.getD xi 0 = (ci : Int) + 1) (hxs : xs < (L.getD xi prn0).2.2.length) (hq : ∀ x y, x < t.length → y < t.length → (L.getD xi prn0).2.1.getD x 0 = (L.getD xi prn0).2.1.getD y 0 → (qC t C ci).getD x 0 = (qC t C ci).getD y 0)
    {x y : Nat} (he : (L.getD xi prn0).2.2.getD xs (0, 0) = ((x : Int), (y : Int))) : x < t.length ∧ y < t.length ∧
    PcW t g C ci L a k xi (xs + 1) J (jnR r x y) (jnP r p x y) (if r x = r y then W else W ++ [((x : Int), (y : Int))]) := by
  have o := hok _ (getD_mem (d := prn0) hxi)
  have hm : ((x : Int), (y : Int)) ∈ (L.getD xi prn0).2.2 := he ▸ getD_mem hxs
  obtain ⟨hx, hy⟩ := relP_lt o.inw (a := x) (b := y) hm
  have hc : (L.getD xi prn0).2.1.getD x 0 = (L.getD xi prn0).2.1.getD y 0 := by rw [o.cls]; exact (eqP_iff hx hy).2 (.rel hm)
  refine ⟨hx, hy, ?_⟩
  have up : ∀ {u v}, r u = r v → jnR r x y u = jnR r x y v := fun {u v} e => by
    unfold jnR
    split
    · exact e
    · exact ufR_up e
  have eq : jnR r x y x = jnR r x y y := by
    unfold jnR
    split
    · assumption
    · exact ufR_ij
  have hW : ∀ u v, relP (if r x = r y then W else W ++ [((x : Int), (y : Int))]) u v → relP W u v ∨ (u = x ∧ v = y) := fun u v h => by
    split at h
    · exact .inl h
    · rcases List.mem_append.1 h with h | h
      · exact .inl h
      · have h := List.mem_singleton.1 h
        injection h with h1 h2
        exact .inr ⟨by omega, by omega⟩
  have hcnt := jn_cnt h.fo hx hy
  refine ⟨jn_fo h.fo hx hy, (jn_ker h.ker hx hy).congr (fun u v huv => ?_) (fun u v huv => ?_), fun q hq' => ?_, ?_, fun v hv => up (h.mem v hv), fun u v huv => ?_, fun u v huv => ?_, h.jl, h.jle, fun i hi e s hs => ?_, fun a' k' h1 h2 h3 w hw => up (h.cov a' k' h1 h2 h3 w hw)⟩
  · rcases huv with h1 | ⟨rfl, rfl⟩
    · refine .rel ?_
      split
      · exact h1
      · exact List.mem_append.2 (.inl h1)
    · split
      · rename_i e; exact (h.ker u v hx hy).1 e
      · exact .rel (List.mem_append.2 (.inr (List.mem_singleton.2 rfl)))
  · rcases hW u v huv with h1 | ⟨rfl, rfl⟩
    · exact .rel (.inl h1)
    · exact .rel (.inr ⟨rfl, rfl⟩)
  · split at hq'
    · exact h.inw q hq'
    · rcases List.mem_append.1 hq' with h1 | h1
      · exact h.inw q h1
      · rw [List.mem_singleton.1 h1]; simp only; omega
  · have := h.wl
    split <;> rename_i e
    · rw [if_pos e] at hcnt; omega
    · rw [if_neg e] at hcnt; rw [List.length_append, List.length_singleton]; omega
  · rcases hW u v huv with h1 | ⟨rfl, rfl⟩
    · exact h.sub u v h1
    · exact hq _ _ hx hy hc
  · rcases hW u v huv with h1 | ⟨rfl, rfl⟩
    · exact h.src u v h1
    · exact .inr ⟨xi, hxi, hj, hc⟩
  · by_cases e1 : i = xi
    · subst e1
      unfold limP at hs
      rw [if_pos rfl] at hs
      by_cases e2 : s = xs
      · subst e2; rw [he]; simpa using eq
      · exact up (h.jn i hi e s (by unfold limP; rw [if_pos rfl]; omega))
    · refine up (h.jn i hi e s ?_)
      unfold limP at hs ⊢
      rw [if_neg e1] at hs ⊢
      exact hs
theorem PcW.shut (h : PcW t g C ci L a k xi xs J r p W) (hxi : xi < L.length) (hxs : (L.getD xi prn0).2.2.length ≤ xs) : PcW t g C ci L a k L.length 0 J r p W :=
  ⟨h.fo, h.ker, h.inw, h.wl, h.mem, h.sub, h.src, h.jl, h.jle, fun i hi e s hs => by
    unfold limP at hs
    rw [if_neg (by omega)] at hs
    refine h.jn i hi e s ?_
    unfold limP
    split
    · rename_i e1; subst e1; omega
    · exact hs, h.cov⟩
theorem PcW.done (h : PcW t g C ci L a k L.length xs J r p W) (hN : NetOk t g c C lv) (hs : Semi t) (hi : ci < C.length) (hok : ∀ e ∈ L, PrnOk t e) (ha : (C.getD ci []).length ≤ a) : eqP t.length (relP W) = qC t C ci ∧ canon (rtL t.length r) = qC t C ci := by
  have hS := hs.toSh
  have e0 : canon (rtL t.length r) = eqP t.length (relP W) := eqP_of h.ker.ker
  have hrel : ∀ x y, x < t.length → y < t.length → (r x = r y ↔ Eg (relP W) x y) := h.ker
  have hedge : ∀ v k', v ∈ C.getD ci [] → k' < 2 * g.length → r (tgA t (g.getD (k' / 2) 0).toNat (v / t.length) k') = r (tgA t (g.getD (k' / 2) 0).toNat (v % t.length) k') := fun v k' hv hk' => by
    rcases tg_neg t g v k' with h1 | ⟨w, hw⟩
    · rw [tg_same h1]
    · obtain ⟨a', ha', e⟩ := mem_getD 0 hv
      have := h.cov a' k' ha' hk' (.inl (by omega)) w (by rw [e]; exact hw)
      exact (tg_ends (R := fun a b => r a = r b) hS hN.sp.el (hN.gp hi hv).1 hk' hw (fun _ _ h => h.symm)).1.1 this
  have hgen : ∀ x y, relP W x y → ∀ z ∈ g, Eg (relP W) (en t z.toNat x) (en t z.toNat y) ∧ Eg (relP W) (en t x z.toNat) (en t y z.toNat) := fun x y hxy z hz => by
    obtain ⟨hx, hy⟩ := relP_lt h.inw hxy
    have hzl : z.toNat < t.length := by have := hN.sp.el z hz; omega
    rw [← hrel _ _ (hS.ent hzl hx).2 (hS.ent hzl hy).2, ← hrel _ _ (hS.ent hx hzl).2 (hS.ent hy hzl).2]
    rcases h.src x y hxy with ⟨v, hv, rfl, rfl⟩ | ⟨i, hil, hj, e⟩
    · obtain ⟨j, hj, rfl⟩ := mem_getD 0 hz
      have k1 := hedge v (2 * j) hv (by omega)
      have k2 := hedge v (2 * j + 1) hv (by omega)
      rw [show (2 * j) / 2 = j by omega] at k1
      rw [show (2 * j + 1) / 2 = j by omega] at k2
      unfold tgA at k1 k2
      rw [if_pos (by omega), if_pos (by omega)] at k1
      rw [if_neg (by omega), if_neg (by omega)] at k2
      exact ⟨k1, k2⟩
    · have hcg := ((hok _ (getD_mem (d := prn0) hil)).is hs).cg x y z.toNat hx hy hzl e
      exact ⟨h.cls hok hil hj _ _ (hS.ent hzl hx).2 (hS.ent hzl hy).2 (hcg.1 (by decide)), h.cls hok hil hj _ _ (hS.ent hx hzl).2 (hS.ent hy hzl).2 (hcg.2 (by decide))⟩
  have hcg : Cg t (eqP t.length (relP W)) 0 := fun x y s hx hy hsl e => by
    have e := (eqP_iff hx hy).1 e
    have key := eg_gens (side := 0) hs (fun a b h' => relP_lt h.inw h') hN.sp.el (fun a b e z hz => ⟨fun _ => (hgen a b e z hz).1, fun _ => (hgen a b e z hz).2⟩) (hN.sp.all s hsl) x y hx hy e
    exact ⟨fun h0 => (eqP_iff (hS.ent hsl hx).2 (hS.ent hsl hy).2).2 (key.1 h0), fun h0 => (eqP_iff (hS.ent hx hsl).2 (hS.ent hy hsl).2).2 (key.2 h0)⟩
  have hP : IsCg t (eqP t.length (relP W)) 0 := ⟨hs, eqP_len, eqP_valid (by have := hS.most; omega), by decide, hcg⟩
  have hQ := qC_is (C := C) hs ci
  have main : eqP t.length (relP W) = qC t C ci := by
    refine sub_eq hP.len hQ.len hP.val.2 hQ.val.2 (fun x y hx hy e => ?_) (prnG_sub hP ?_)
    · exact Eg.least (Q := fun a b => (qC t C ci).getD a 0 = (qC t C ci).getD b 0) (fun _ => rfl) (fun _ _ h => h.symm) (fun _ _ _ h h' => h.trans h') h.sub ((eqP_iff hx hy).1 e)
    · have hg := gp_le (hN.gp hi (hN.hd hi)).1
      exact (eqP_iff hg.1 hg.2.1).2 ((hrel _ _ hg.1 hg.2.1).1 (h.mem _ (hN.hd hi)))
  exact ⟨main, e0.trans main⟩
def itC (t : List (List Int)) (C : List (List Nat)) (ci : Nat) (Q : List Int) (W : List (Int × Int)) : Prn := ((((hdC C ci / t.length : Nat) : Int), ((hdC C ci % t.length : Nat) : Int)), Q, W)
theorem PcW.item (h : PcW t g C ci L a k L.length xs J r p W) (hN : NetOk t g c C lv) (hs : Semi t) (hi : ci < C.length) (hok : ∀ e ∈ L, PrnOk t e) (ha : (C.getD ci []).length ≤ a) : PrnOk t (itC t C ci (qC t C ci) W) := by
  have hg := hN.gp hi (hN.hd hi)
  refine ⟨⟨_, _, rfl, hg.1.2, (gp_le hg.1).2.1, rfl⟩, h.inw, (h.done hN hs hi hok ha).1.symm, ?_⟩
  have := h.wl
  show W.length ≤ t.length
  omega
theorem PcW.old (h : PcW t g C ci L a k L.length xs J r p W) (hI : PcI t C ci N J0 L) (hi : ci < C.length) {i : Nat} (hil : i < L.length) (e : (L.getD i prn0).2.1 = qC t C ci) : PcI t C (ci + 1) (N.set ci (i : Int)) J L :=
  ⟨by rw [List.length_set]; exact hI.nl, fun d hd => by
    by_cases e1 : d = ci
    · subst e1; exact ⟨i, getD_set_eq (by rw [hI.nl]; exact hi), hil, e⟩
    · rw [getD_set_ne (Ne.symm e1)]; exact hI.num d (by omega), h.jl, fun j hj => by have := h.jle j hj; omega, hI.ok, hI.nd⟩
theorem PcW.new (h : PcW t g C ci L a k L.length xs J r p W) (hN : NetOk t g c C lv) (hs : Semi t) (hI : PcI t C ci N J0 L) (hi : ci < C.length) (ha : (C.getD ci []).length ≤ a) (hn : qC t C ci ∉ L.map fun e => e.2.1) : PcI t C (ci + 1) (N.set ci (L.length : Nat)) (J ++ [0]) (L ++ [itC t C ci (qC t C ci) W]) := by
  have hgl : ∀ j, j < L.length → (L ++ [itC t C ci (qC t C ci) W]).getD j prn0 = L.getD j prn0 := fun j hj => by rw [getD_app, if_pos hj]
  have hge : (L ++ [itC t C ci (qC t C ci) W]).getD L.length prn0 = itC t C ci (qC t C ci) W := by rw [getD_app, if_neg (Nat.lt_irrefl _), Nat.sub_self]; rfl
  refine ⟨by rw [List.length_set]; exact hI.nl, fun d hd => ?_, by simp [h.jl], fun j hj => ?_, fun e he => ?_, ?_⟩
  · by_cases e1 : d = ci
    · subst e1; exact ⟨L.length, getD_set_eq (by rw [hI.nl]; exact hi), by simp, by rw [hge]; rfl⟩
    · rw [getD_set_ne (Ne.symm e1)]
      obtain ⟨i, h1, h2, h3⟩ := hI.num d (by omega)
      exact ⟨i, h1, by rw [List.length_append]; omega, by rw [hgl i h2]; exact h3⟩
  · rw [getD_app]
    split
    · rename_i hjl; have := h.jle j (by rw [← h.jl]; exact hjl); omega
    · rename_i hjl
      have : ([0] : List Int).getD (j - J.length) 0 = 0 := by cases j - J.length <;> rfl
      rw [this]; omega
  · rcases List.mem_append.1 he with he | he
    · exact hI.ok e he
    · rw [List.mem_singleton.1 he]; exact h.item hN hs hi hI.ok ha
  · rw [List.map_append]
    exact List.nodup_append.2 ⟨hI.nd, (by simp), fun x hx y hy e => hn (by
      have h2 : y = qC t C ci := List.mem_singleton.1 hy
      rw [← h2, ← e]; exact hx)⟩
end
end Go.Proofs.Ytpanlghofeebhaa
end
section
/- Collections of partitions and of principal congruences: contracts. -/
namespace Go.Proofs.Ytpanlghofeebhaa
open Go Go.AM
set_option maxRecDepth 100000
def txtL (p : List Int) : List Int := p.flatMap fun c => [0, c]
theorem txt_snoc (p : List Int) (c : Int) : txtL (p ++ [c]) = txtL p ++ [0, c] := by simp [txtL]
theorem txt_len (p : List Int) : (txtL p).length = 2 * p.length := by
  induction p with
  | nil => rfl
  | cons a p ih => simp only [txtL, List.flatMap_cons, List.length_append, List.length_cons, List.length_nil] at ih ⊢; omega
theorem txt_inj : ∀ {p q : List Int}, txtL p = txtL q → p = q
  | [], [], _ => rfl
  | [], _ :: _, h => by simp [txtL] at h
  | _ :: _, [], h => by simp [txtL] at h
  | a :: p, b :: q, h => by
    simp only [txtL, List.flatMap_cons, List.cons_append, List.nil_append, List.cons.injEq, true_and] at h
    rw [h.1, txt_inj h.2]
theorem shr_small {c : Int} (h : 0 ≤ c ∧ c < 256) : shrI .i64 c 8 = 0 := by
  unfold shrI
  show c.fdiv (2 ^ (min 8 64)) = 0
  rw [Int.fdiv_eq_ediv_of_nonneg _ (by decide)]
  exact Int.ediv_eq_zero_of_lt h.1 h.2
theorem text_fn (p : List Int) (hl : p.length ≤ 400) (hp : ∀ c ∈ p, 0 ≤ c ∧ c < 256) : QF 51 [.ro (.ints .i64 p)] (.str (txtL p)) := mkQ Try.func51 (by decide +kernel) rfl (Nat.le_of_ble_eq_true rfl) fun _ => by
  refine And.intro (by omega) ?_
  refine And.intro (by omega) ?_
  refine And.intro (by omega) ?_
  refine Exists.intro [9] <| lp (X := Nat) (fun i => [(12, .int .i64 i), (3, .vec 9)]) (fun i => [(9, .vec 0 (.ints .u8 (txtL (p.take i))) [])]) (fun i => i ≤ p.length) (fun i => p.length - i) 0 (Nat.zero_le _) (by repeat' first | refine And.intro ?_ ?_ | exact True.intro | (show (_ : Int) = (_ : Int); omega) | omega | exact rfl | (simp only [RO.len]; omega)) ?_
  intro i hi
  refine And.intro (fun h1 => ?_) (fun h1 => ?_)
  · have h1 : (i : Int) < (p.length : Int) := h1
    have hil : i < p.length := by omega
    have hc := hp _ (getD_mem (d := 0) hil)
    have hsh := shr_small hc
    have e : RO.ints .u8 (txtL (p.take i) ++ [shrI .i64 (p.getD i 0) 8, p.getD i 0]) = RO.ints .u8 (txtL (p.take (i + 1))) := by
      rw [hsh, List.take_succ_eq_append_getElem hil, ← getD_eq (d := 0) hil, txt_snoc]
    have hl2 : (txtL (p.take i) ++ [shrI .i64 (p.getD i 0) 8, p.getD i 0]).length ≤ 1000 := by
      rw [List.length_append, txt_len, List.length_take]; simp; omega
    refine And.intro (by omega) ?_
    refine And.intro (by omega) ?_
    refine And.intro (show (0 : Int) ≤ shrI .i64 (p.getD i 0) 8 ∧ shrI .i64 (p.getD i 0) 8 ≤ 255 by omega) ?_
    refine And.intro (show (0 : Int) ≤ p.getD i 0 ∧ p.getD i 0 ≤ 255 by omega) ?_
    refine And.intro (show ((txtL (p.take i) ++ [shrI .i64 (p.getD i 0) 8, p.getD i 0]).length : Int) ≤ 17592186044416 by omega) ?_
    refine And.intro (by omega) ?_
    exact nx (i + 1) (show i + 1 ≤ p.length by omega) (show p.length - (i + 1) < p.length - i by omega) (by repeat' first | refine And.intro ?_ ?_ | exact True.intro | exact e | (show (_ : Int) = (_ : Int); omega) | omega | exact rfl)
  · have h1 : (p.length : Int) ≤ (i : Int) := h1
    have e : p.take i = p := List.take_of_length_le (by omega)
    exact And.intro (congrArg txtL e) trivial
abbrev clS (m : List (List Int × Int)) (L : List (List Int)) : Store := [(1000, .box [.fn 51 [], .ptr 1001 0, .vec 502]), (1001, .map .str (some .i64) m), (502, .vec 0 (.rows .i64 L) [])]
theorem coll_old_fn (m : List (List Int × Int)) (L : List (List Int)) (p : List Int) (hl : p.length ≤ 400) (hp : ∀ c ∈ p, 0 ≤ c ∧ c < 256) (i : Int) (h : getM m (txtL p) = some i) :
    MF 52 [.ptr 1000 0, .ro (.ints .i64 p)] (clS m L) (.tup [.int .i64 i, .bool (.lit false)]) (clS m L) := mkM Try.func52 (by decide +kernel) rfl (Nat.le_of_ble_eq_true rfl) fun _ => by
  refine Or.inl (cq (text_fn p hl hp) (And.intro rfl trivial) ?_)
  have h1 : (getM m (txtL p)).isSome = true := by rw [h]; rfl
  have h2 : (getM m (txtL p)).getD 0 = i := by rw [h]; rfl
  refine And.intro (fun _ => ?_) (fun h3 => absurd (h1.symm.trans h3) (by simp))
  repeat' first | refine And.intro ?_ ?_ | exact True.intro | exact h2 | omega | exact rfl
theorem coll_new_fn (m : List (List Int × Int)) (L : List (List Int)) (p : List Int) (hl : p.length ≤ 400) (hp : ∀ c ∈ p, 0 ≤ c ∧ c < 256) (hL : L.length ≤ 100000) (h : getM m (txtL p) = none) :
    MF 52 [.ptr 1000 0, .ro (.ints .i64 p)] (clS m L) (.tup [.int .i64 (L.length : Nat), .bool (.lit true)]) (clS (setM m (txtL p) L.length) (L ++ [p])) := mkM Try.func52 (by decide +kernel) rfl (Nat.le_of_ble_eq_true rfl) fun _ => by
  refine Or.inl (cq (text_fn p hl hp) (And.intro rfl trivial) ?_)
  have h1 : (getM m (txtL p)).isSome = false := by rw [h]; rfl
  refine And.intro (fun h3 => absurd (h1.symm.trans h3) (by simp)) (fun _ => ?_)
  refine Or.inl ?_
  refine Exists.intro [false, false, false, false, false, false, false, false, false, false, true] (And.intro (by decide +kernel) ?_)
  have hl2 : (L ++ [p]).length = L.length + 1 := by simp
  refine And.intro (show ((L ++ [p]).length : Int) ≤ 2199023255552 by omega) ?_
  refine And.intro (show -9223372036854775808 ≤ ((L ++ [p]).length : Int) - 1 ∧ ((L ++ [p]).length : Int) - 1 ≤ 9223372036854775807 by omega) ?_
  repeat' first | refine And.intro ?_ ?_ | exact True.intro | (show (_ : Int) = (_ : Int); omega) | omega | exact rfl
theorem nColl_fn (f : FuncId) : MF 50 [.fn f []] [] (.ptr 6 0) [(6, .box [.fn f [], .ptr 4 0, .nils]), (4, .map .str (some .i64) [])] := mkM Try.func50 (by decide +kernel) rfl (Nat.le_of_ble_eq_true rfl) fun _ => by
  repeat' first | refine And.intro ?_ ?_ | exact True.intro | omega | exact rfl
/-! ### Collections of principal congruences -/
abbrev prnA (e : Prn) : AV := .agg [.int .i64 e.1.1, .int .i64 e.1.2, .ro (.ints .i64 e.2.1), .ro (.pairs e.2.2)]
theorem prnKey_fn (e : Prn) (hl : e.2.1.length ≤ 400) (hp : ∀ c ∈ e.2.1, 0 ≤ c ∧ c < 256) : QF 93 [prnA e] (.str (txtL e.2.1)) := mkQ Try.func93 (by decide +kernel) rfl (Nat.le_of_ble_eq_true rfl) fun _ => by
  refine Or.inl (cq (text_fn e.2.1 hl hp) (And.intro rfl trivial) ?_)
  exact And.intro rfl trivial
abbrev clP (m : List (List Int × Int)) (L : List Prn) : Store := [(1000, .box [.fn 93 [], .ptr 1001 0, .vec 502]), (1001, .map .str (some .i64) m), (502, .vec 0 (.prins L) [])]
theorem collP_old_fn (m : List (List Int × Int)) (L : List Prn) (e : Prn) (hl : e.2.1.length ≤ 400) (hp : ∀ c ∈ e.2.1, 0 ≤ c ∧ c < 256) (i : Int) (h : getM m (txtL e.2.1) = some i) :
    MF 96 [.ptr 1000 0, prnA e] (clP m L) (.tup [.int .i64 i, .bool (.lit false)]) (clP m L) := mkM Try.func96 (by decide +kernel) rfl (Nat.le_of_ble_eq_true rfl) fun _ => by
  refine Or.inl ?_
  refine Exists.intro [false, false, false, false, false, true, false] (And.intro (by decide +kernel) ?_)
  refine Or.inl (cq (prnKey_fn e hl hp) (And.intro (by repeat' first | refine And.intro ?_ ?_ | exact True.intro | (show (_ : Int) = (_ : Int); omega) | omega | exact rfl | (simp only [RO.len]; omega)) trivial) ?_)
  have h1 : (getM m (txtL e.2.1)).isSome = true := by rw [h]; rfl
  have h2 : (getM m (txtL e.2.1)).getD 0 = i := by rw [h]; rfl
  refine And.intro (fun _ => ?_) (fun h3 => absurd (h1.symm.trans h3) (by simp))
  repeat' first | refine And.intro ?_ ?_ | exact True.intro | exact h2 | omega | exact rfl
theorem collP_new_fn (m : List (List Int × Int)) (L : List Prn) (e : Prn) (hl : e.2.1.length ≤ 400) (hp : ∀ c ∈ e.2.1, 0 ≤ c ∧ c < 256) (hL : L.length ≤ 100000) (h : getM m (txtL e.2.1) = none) :
    MF 96 [.ptr 1000 0, prnA e] (clP m L) (.tup [.int .i64 (L.length : Nat), .bool (.lit true)]) (clP (setM m (txtL e.2.1) L.length) (L ++ [e])) := mkM Try.func96 (by decide +kernel) rfl (Nat.le_of_ble_eq_true rfl) fun _ => by
  refine Or.inl ?_
  refine Exists.intro [false, false, false, false, false, true, false] (And.intro (by decide +kernel) ?_)
  refine Or.inl (cq (prnKey_fn e hl hp) (And.intro (by repeat' first | refine And.intro ?_ ?_ | exact True.intro | (show (_ : Int) = (_ : Int); omega) | omega | exact rfl | (simp only [RO.len]; omega)) trivial) ?_)
  have h1 : (getM m (txtL e.2.1)).isSome = false := by rw [h]; rfl
  refine And.intro (fun h3 => absurd (h1.symm.trans h3) (by simp)) (fun _ => ?_)
  refine Or.inl ?_
  refine Exists.intro [false, false, false, false, false, false, false, false, false, false, true] (And.intro (by decide +kernel) ?_)
  have hl2 : (L ++ [e]).length = L.length + 1 := by simp
  refine Or.inr (Exists.intro (.fst 0 (.fst 1 (.fst 2 (.fst 3 (.br 4 (.br 5 (.br 6 (.br 7 (.fst 8 (.fst 9 (.br 10 .done .no))) .no) .no) .no) (.br 5 (.br 4 (.br 6 (.br 7 (.fst 8 (.fst 9 (.br 10 .done .no))) .no) .no) (.br 6 (.br 4 (.br 7 (.fst 8 (.fst 9 (.br 10 .done .no))) .no) .no) .no)) .no)))))) (And.intro (by decide +kernel) ?_))
  have hb : ((L ++ [e]).length : Int) ≤ 2199023255552 := by omega
  have hr : -9223372036854775808 ≤ ((L ++ [e]).length : Int) - 1 ∧ ((L ++ [e]).length : Int) - 1 ≤ 9223372036854775807 := by omega
  apply schShr
  · intro K hK
    repeat' first
      | exact hK
      | exact True.intro
      | refine And.intro hb ?_
      | refine And.intro ?_ ?_
  refine And.intro hr ?_
  have hlast : ((L ++ [e]).length : Int) - 1 = (L.length : Int) := by omega
  repeat' first | refine And.intro ?_ ?_ | exact True.intro | exact hlast | (show (_ : Int) = (_ : Int); omega) | omega | exact rfl
theorem nCollP_fn (f : FuncId) : MF 92 [.fn f []] [] (.ptr 6 0) [(6, .box [.fn f [], .ptr 4 0, .nils]), (4, .map .str (some .i64) [])] := mkM Try.func92 (by decide +kernel) rfl (Nat.le_of_ble_eq_true rfl) fun _ => by
  repeat' first | refine And.intro ?_ ?_ | exact True.intro | omega | exact rfl
end Go.Proofs.Ytpanlghofeebhaa
end
