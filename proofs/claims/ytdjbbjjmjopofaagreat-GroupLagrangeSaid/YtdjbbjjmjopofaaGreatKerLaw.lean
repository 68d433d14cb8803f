/- The kernel: its minimal one-sided ideals, and the groups where they meet: plain. -/
import Derived.Test.YtdjbbjjmjopofaaGreatMinLaw
import Derived.Test.YtdjbbjjmjopofaaGreatSubLaw
namespace Go.Proofs.YtdjbbjjmjopofaaGreat
open Go Go.AM

/-- The elements of a set. -/
def elS (n : Nat) (f : Nat → Bool) : List Nat := (List.range n).filter f
theorem elS_mem {n : Nat} {f : Nat → Bool} {x : Nat} : x ∈ elS n f ↔ x < n ∧ f x = true := by unfold elS; rw [List.mem_filter, List.mem_range]
theorem elS_nodup (n : Nat) (f : Nat → Bool) : (elS n f).Nodup := List.nodup_range.filter _
theorem card_le {n : Nat} {f g : Nat → Bool} (h : ∀ x, x < n → f x = true → g x = true) : (elS n f).length ≤ (elS n g).length :=
  (elS_nodup n f).length_le_of_subset fun x hx => elS_mem.2 ⟨(elS_mem.1 hx).1, h x (elS_mem.1 hx).1 (elS_mem.1 hx).2⟩
theorem card_map {n : Nat} {f g : Nat → Bool} (φ : Nat → Nat) (h : ∀ x, x < n → f x = true → ∃ y, y < n ∧ g y = true ∧ x = φ y) : (elS n f).length ≤ (elS n g).length := by
  have := (elS_nodup n f).length_le_of_subset (l₂ := (elS n g).map φ) fun x hx => by
    obtain ⟨y, h1, h2, h3⟩ := h x (elS_mem.1 hx).1 (elS_mem.1 hx).2
    exact List.mem_map.2 ⟨y, elS_mem.2 ⟨h1, h2⟩, h3.symm⟩
  rwa [List.length_map] at this
theorem sub_all {α : Type} [DecidableEq α] {A B : List α} (hA : A.Nodup) (h : ∀ x ∈ A, x ∈ B) (hl : B.length ≤ A.length) : ∀ x ∈ B, x ∈ A := fun x hx => by
  rcases Decidable.em (x ∈ A) with e | e
  · exact e
  · have : (x :: A).length ≤ B.length := (List.nodup_cons.2 ⟨e, hA⟩).length_le_of_subset fun y hy => by
      rcases List.mem_cons.1 hy with rfl | hy
      · exact hx
      · exact h y hy
    simp at this; omega
theorem card_eq {n : Nat} {f g : Nat → Bool} (h : ∀ x, x < n → f x = true → g x = true) (hl : (elS n g).length ≤ (elS n f).length) {x : Nat} (hx : x < n) (hg : g x = true) : f x = true :=
  (elS_mem.1 (sub_all (elS_nodup n f) (fun x hx => elS_mem.2 ⟨(elS_mem.1 hx).1, h x (elS_mem.1 hx).1 (elS_mem.1 hx).2⟩) hl x (elS_mem.2 ⟨hx, hg⟩))).2
/-- What maps a set into itself, one to one, maps it onto itself. -/
theorem onto {n : Nat} {f : Nat → Bool} (φ : Nat → Nat) (hm : ∀ x, x < n → f x = true → φ x < n ∧ f (φ x) = true) (hi : ∀ x y, x < n → y < n → f x = true → f y = true → φ x = φ y → x = y) {y : Nat} (hy : y < n) (hf : f y = true) : ∃ x, x < n ∧ f x = true ∧ φ x = y := by
  have hn : ((elS n f).map φ).Nodup := by
    refine List.pairwise_map.2 ((elS_nodup n f).imp_of_mem fun {a b} ha hb hab e => hab ?_)
    have ha := elS_mem.1 ha
    have hb := elS_mem.1 hb
    exact hi a b ha.1 hb.1 ha.2 hb.2 e
  have := sub_all hn (B := elS n f) (fun x hx => by
    obtain ⟨y, h1, rfl⟩ := List.mem_map.1 hx
    have h1 := elS_mem.1 h1
    exact elS_mem.2 (hm y h1.1 h1.2)) (by rw [List.length_map]; exact Nat.le_refl _) y (elS_mem.2 ⟨hy, hf⟩)
  obtain ⟨x, h1, h2⟩ := List.mem_map.1 this
  exact ⟨x, (elS_mem.1 h1).1, (elS_mem.1 h1).2, h2⟩

/-- In the kernel, what lies in a one-sided ideal makes it. -/
theorem stabL {t : List (List Int)} (h : Semi t) {x y : Nat} (hx : x < t.length) (kx : kerF t x = true) (hxy : inLB t x y = true) : inLB t y x = true := by
  have hy := inL_lt h.toSh hx hxy
  have ha := allP_lt h.toSh h.pos _ (Nat.le_refl t.length)
  have hj : inJB t y x = true := (prF_iff h hy).1 (ker_min h (prF_id h hy) hy (prF_self h hy) kx)
  obtain ⟨z, hz, h1, h2⟩ := (inJB_iff h.toSh hy).1 hj
  rcases (inRB_iff h.toSh hz).1 h2 with e | ⟨b, hb, e⟩
  · rw [e]; exact h1
  · have l1 : (elS t.length (inLB t x)).length ≤ (elS t.length (inLB t z)).length := card_map (fun w => en t w b) fun w hw hxw => by
      rcases (inLB_iff h.toSh hx).1 hxw with e2 | ⟨s, hs, e2⟩
      · exact ⟨z, hz, (preL h).refl z hz, by rw [e2, e]⟩
      · exact ⟨en t s z, (h.toSh.ent hs hz).2, (inLB_iff h.toSh hz).2 (.inr ⟨s, hs, rfl⟩), by rw [← e2, ← e, assoc3 h.assoc hs hz hb]⟩
    have l2 : (elS t.length (inLB t z)).length ≤ (elS t.length (inLB t y)).length := card_le fun w hw hzw => (preL h).trans _ _ _ hy hz hw h1 hzw
    exact card_eq (f := inLB t y) (g := inLB t x) (fun w hw hyw => (preL h).trans _ _ _ hx hy hw hxy hyw) (Nat.le_trans l1 l2) hx ((preL h).refl x hx)

theorem stabR {t : List (List Int)} (h : Semi t) {x y : Nat} (hx : x < t.length) (kx : kerF t x = true) (hxy : inRB t x y = true) : inRB t y x = true := by
  have hy := inR_lt h.toSh hx hxy
  have hj : inJB t y x = true := (prF_iff h hy).1 (ker_min h (prF_id h hy) hy (prF_self h hy) kx)
  obtain ⟨z0, hz0, h10, h20⟩ := (inJB_iff h.toSh hy).1 hj
  obtain ⟨z, hz, h1, h2⟩ := swap2 h hy h10 h20
  rcases (inLB_iff h.toSh hz).1 h2 with e | ⟨b, hb, e⟩
  · rw [e]; exact h1
  · have l1 : (elS t.length (inRB t x)).length ≤ (elS t.length (inRB t z)).length := card_map (fun w => en t b w) fun w hw hxw => by
      rcases (inRB_iff h.toSh hx).1 hxw with e2 | ⟨s, hs, e2⟩
      · exact ⟨z, hz, (preR h).refl z hz, by rw [e2, e]⟩
      · exact ⟨en t z s, (h.toSh.ent hz hs).2, (inRB_iff h.toSh hz).2 (.inr ⟨s, hs, rfl⟩), by rw [← e2, ← e, assoc3 h.assoc hb hz hs]⟩
    have l2 : (elS t.length (inRB t z)).length ≤ (elS t.length (inRB t y)).length := card_le fun w hw hzw => (preR h).trans _ _ _ hy hz hw h1 hzw
    exact card_eq (f := inRB t y) (g := inRB t x) (fun w hw hyw => (preR h).trans _ _ _ hx hy hw hxy hyw) (Nat.le_trans l1 l2) hx ((preR h).refl x hx)

/-- Where a minimal left and a minimal right ideal meet. -/
def metF (t : List (List Int)) (a b : Nat) (x : Nat) : Bool := inLB t a x && inRB t b x
structure MetG (t : List (List Int)) (a b : Nat) : Prop where
  semi : Semi t
  ha : a < t.length
  hb : b < t.length
  ka : kerF t a = true
  kb : kerF t b = true
theorem met_iff {t : List (List Int)} {a b x : Nat} : metF t a b x = true ↔ inLB t a x = true ∧ inRB t b x = true := by unfold metF; exact Bool.and_eq_true_iff
theorem MetG.some {t : List (List Int)} {a b : Nat} (m : MetG t a b) : en t b a < t.length ∧ metF t a b (en t b a) = true :=
  ⟨(m.semi.toSh.ent m.hb m.ha).2, met_iff.2 ⟨(inLB_iff m.semi.toSh m.ha).2 (.inr ⟨b, m.hb, rfl⟩), (inRB_iff m.semi.toSh m.hb).2 (.inr ⟨a, m.ha, rfl⟩)⟩⟩
theorem MetG.mul {t : List (List Int)} {a b x y : Nat} (m : MetG t a b) (hx : x < t.length) (hy : y < t.length) (mx : metF t a b x = true) (my : metF t a b y = true) : metF t a b (en t x y) = true := by
  have mx := met_iff.1 mx
  have my := met_iff.1 my
  have hz := (m.semi.toSh.ent hx hy).2
  exact met_iff.2 ⟨(preL m.semi).trans _ _ _ m.ha hy hz my.1 ((inLB_iff m.semi.toSh hy).2 (.inr ⟨x, hx, rfl⟩)), (preR m.semi).trans _ _ _ m.hb hx hz mx.2 ((inRB_iff m.semi.toSh hx).2 (.inr ⟨y, hy, rfl⟩))⟩
theorem MetG.left {t : List (List Int)} {a b x y : Nat} (m : MetG t a b) (hx : x < t.length) (hy : y < t.length) (mx : metF t a b x = true) (my : metF t a b y = true) : inLB t x y = true :=
  (preL m.semi).trans _ _ _ hx m.ha hy (stabL m.semi m.ha m.ka (met_iff.1 mx).1) (met_iff.1 my).1
theorem MetG.right {t : List (List Int)} {a b x y : Nat} (m : MetG t a b) (hx : x < t.length) (hy : y < t.length) (mx : metF t a b x = true) (my : metF t a b y = true) : inRB t x y = true :=
  (preR m.semi).trans _ _ _ hx m.hb hy (stabR m.semi m.hb m.kb (met_iff.1 mx).2) (met_iff.1 my).2
theorem MetG.injL {t : List (List Int)} {a b x : Nat} (m : MetG t a b) (hx : x < t.length) (mx : metF t a b x = true) : ∀ z w, z < t.length → w < t.length → metF t a b z = true → metF t a b w = true → en t x z = en t x w → z = w := fun z w hz hw mz mw e => by
  have hs := m.semi.assoc
  have hxz := (m.semi.toSh.ent hx hz).2
  have i1 := m.left hxz hz (m.mul hx hz mx mz) mz
  have i2 := m.right hz hw mz mw
  rcases (inRB_iff m.semi.toSh hz).1 i2 with e2 | ⟨v, hv, e2⟩
  · exact e2.symm
  · rcases (inLB_iff m.semi.toSh hxz).1 i1 with e1 | ⟨s, hs1, e1⟩
    · have : en t x w = w := by rw [← e2, ← assoc3 hs hx hz hv, ← e1]
      rw [e1, e, this]
    · have : en t s (en t x w) = w := by rw [← e2, ← assoc3 hs hx hz hv, ← assoc3 hs hs1 hxz hv, e1]
      rw [← e1, e, this]
theorem MetG.injR {t : List (List Int)} {a b x : Nat} (m : MetG t a b) (hx : x < t.length) (mx : metF t a b x = true) : ∀ z w, z < t.length → w < t.length → metF t a b z = true → metF t a b w = true → en t z x = en t w x → z = w := fun z w hz hw mz mw e => by
  have hs := m.semi.assoc
  have hzx := (m.semi.toSh.ent hz hx).2
  have i1 := m.right hzx hz (m.mul hz hx mz mx) mz
  have i2 := m.left hz hw mz mw
  rcases (inLB_iff m.semi.toSh hz).1 i2 with e2 | ⟨v, hv, e2⟩
  · exact e2.symm
  · rcases (inRB_iff m.semi.toSh hzx).1 i1 with e1 | ⟨s, hs1, e1⟩
    · have : en t w x = w := by rw [← e2, assoc3 hs hv hz hx, ← e1]
      rw [e1, e, this]
    · have : en t (en t w x) s = w := by rw [← e2, assoc3 hs hv hz hx, assoc3 hs hv hzx hs1, e1]
      rw [← e1, e, this]
/-- There is a neutral element, and each has an inverse. -/
theorem MetG.grp {t : List (List Int)} {a b : Nat} (m : MetG t a b) : ∃ e, e < t.length ∧ metF t a b e = true ∧ (∀ x, x < t.length → metF t a b x = true → en t e x = x ∧ en t x e = x) ∧ ∀ x, x < t.length → metF t a b x = true → ∃ y, y < t.length ∧ metF t a b y = true ∧ en t x y = e ∧ en t y x = e := by
  have hs := m.semi.assoc
  have oL : ∀ x, x < t.length → metF t a b x = true → ∀ y, y < t.length → metF t a b y = true → ∃ z, z < t.length ∧ metF t a b z = true ∧ en t x z = y := fun x hx mx y hy my =>
    onto (en t x) (fun z hz mz => ⟨(m.semi.toSh.ent hx hz).2, m.mul hx hz mx mz⟩) (fun z w hz hw mz mw => m.injL hx mx z w hz hw mz mw) hy my
  have oR : ∀ x, x < t.length → metF t a b x = true → ∀ y, y < t.length → metF t a b y = true → ∃ z, z < t.length ∧ metF t a b z = true ∧ en t z x = y := fun x hx mx y hy my =>
    onto (fun z => en t z x) (fun z hz mz => ⟨(m.semi.toSh.ent hz hx).2, m.mul hz hx mz mx⟩) (fun z w hz hw mz mw => m.injR hx mx z w hz hw mz mw) hy my
  obtain ⟨hc, mc⟩ := m.some
  obtain ⟨e, he, me, h1⟩ := oL _ hc mc _ hc mc
  obtain ⟨f, hf, mf, h2⟩ := oR _ hc mc _ hc mc
  have hre : ∀ x, x < t.length → metF t a b x = true → en t x e = x := fun x hx mx => by
    obtain ⟨z, hz, mz, h3⟩ := oR _ hc mc x hx mx
    rw [← h3, assoc3 hs hz hc he, h1]
  have hlf : ∀ x, x < t.length → metF t a b x = true → en t f x = x := fun x hx mx => by
    obtain ⟨z, hz, mz, h3⟩ := oL _ hc mc x hx mx
    rw [← h3, ← assoc3 hs hf hc hz, h2]
  have hef : f = e := by rw [← hre f hf mf, hlf e he me]
  subst hef
  refine ⟨f, hf, mf, fun x hx mx => ⟨hlf x hx mx, hre x hx mx⟩, fun x hx mx => ?_⟩
  obtain ⟨y, hy, my, h3⟩ := oL x hx mx f hf mf
  obtain ⟨z, hz, mz, h4⟩ := oR x hx mx f hf mf
  have hyz : y = z := by
    have h5 := assoc3 hs hz hx hy
    rw [h4, h3, hlf y hy my, hre z hz mz] at h5
    exact h5
  exact ⟨y, hy, my, h3, by rw [hyz]; exact h4⟩
theorem MetG.cl {t : List (List Int)} {a b : Nat} (m : MetG t a b) : ClL t (ascV t.length (metF t a b)) where
  pos := List.length_pos_iff_exists_mem.2 ⟨_, ascV_mem.2 ⟨_, m.some.1, m.some.2, rfl⟩⟩
  asc := ascV_asc _ _
  ins := fun _ hx => ascV_in hx
  cl := fun x y hx hy h1 h2 => by
    rw [ascV_set hx] at h1
    rw [ascV_set hy] at h2
    rw [ascV_set (m.semi.toSh.ent hx hy).2]
    exact m.mul hx hy h1 h2
/-- What the minimal one-sided ideals rest on. -/
structure OneS (t : List (List Int)) (F : (Nat → Bool) → Nat → Bool) (rel : Nat → Nat → Bool) : Prop where
  val : ∀ x y, x < t.length → y < t.length → F (setI [(x : Int)]) y = rel x y
  pre : Pre t.length rel
  stab : ∀ x y, x < t.length → y < t.length → kerF t x = true → rel x y = true → rel y x = true
  ker : ∀ x y, x < t.length → y < t.length → kerF t x = true → rel x y = true → kerF t y = true
/-- The rows so far. -/
structure MnOk (t : List (List Int)) (rel : Nat → Nat → Bool) (rows : List (List Int)) (k : Nat) : Prop where
  row : ∀ l ∈ rows, ∃ x, x < t.length ∧ kerF t x = true ∧ l = ascV t.length (rel x)
  dis : rows.Pairwise fun l m => ∀ z, setI l z = true → setI m z = true → False
  cov : ∀ y, y < k → y < t.length → kerF t y = true → covB rows y = true
theorem covB_iff {L : List (List Int)} {x : Nat} : covB L x = true ↔ ∃ l ∈ L, setI l x = true := by unfold covB; rw [List.any_eq_true]
/-- All rows cover the kernel and no more. -/
theorem MnOk.all {t : List (List Int)} {F : (Nat → Bool) → Nat → Bool} {rel : Nat → Nat → Bool} (o : OneS t F rel) {rows : List (List Int)} (m : MnOk t rel rows t.length) {y : Nat} (hy : y < t.length) : covB rows y = kerF t y := by
  cases e : kerF t y with
  | true => exact m.cov y hy hy e
  | false =>
    cases e2 : covB rows y with
    | false => rfl
    | true =>
      obtain ⟨l, hl, h1⟩ := covB_iff.1 e2
      obtain ⟨x, hx, kx, rfl⟩ := m.row l hl
      rw [ascV_set hy] at h1
      rw [o.ker x y hx hy kx h1] at e; cases e
theorem MnOk.pos {t : List (List Int)} (h : Semi t) {rel : Nat → Nat → Bool} {rows : List (List Int)} (m : MnOk t rel rows t.length) : 0 < rows.length := by
  have ha := allP_lt h.toSh h.pos _ (Nat.le_refl t.length)
  obtain ⟨l, hl, _⟩ := covB_iff.1 (m.cov _ ha ha (ker_has h))
  exact List.length_pos_of_mem hl
/-- An element of a row was not in the rows ahead. -/
theorem MnOk.new {t : List (List Int)} {rel : Nat → Nat → Bool} {rows : List (List Int)} {k : Nat} (m : MnOk t rel rows k) {i : Nat} (hi : i < rows.length) {z : Nat} (hz : setI (rows.getD i []) z = true) : covB (rows.take i) z = false := by
  cases e : covB (rows.take i) z with
  | false => rfl
  | true =>
    obtain ⟨l, hl, h1⟩ := covB_iff.1 e
    obtain ⟨j, hj, rfl⟩ := List.mem_iff_getElem.1 hl
    rw [List.length_take] at hj
    have hp := List.pairwise_iff_getElem.1 m.dis j i (by omega) hi (by omega) z
    rw [List.getElem_take] at h1
    rw [getD_eq hi] at hz
    exact (hp h1 hz).elim
end Go.Proofs.YtdjbbjjmjopofaaGreat
