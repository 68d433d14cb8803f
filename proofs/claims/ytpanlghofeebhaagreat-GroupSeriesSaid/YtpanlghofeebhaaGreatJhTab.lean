import Derived.Test.YtpanlghofeebhaaGreatSgpLaw
import Derived.Test.YtpanlghofeebhaaGreatGrpLaw
import Derived.Test.YtpanlghofeebhaaGreatJhLaw2
section
/- Plain: normal subgroups: closures, joins, how many subgroups a small group has, the list of all. -/
namespace Go.Proofs.YtpanlghofeebhaaGreat
structure NS (t : List (List Int)) (l : List Int) : Prop where
  cl : ClL t l
  nrm : NrmIn t (allI t) l
theorem ClL.self {t : List (List Int)} {l : List Int} (h : ClL t l) : ascV t.length (setI l) = l := ascV_self h.asc h.ins
noncomputable def nsB (t : List (List Int)) (l : List Int) : Bool := @decide (NS t l) (Classical.propDecidable _)
theorem nsB_true {t : List (List Int)} {l : List Int} : nsB t l = true ↔ NS t l := by unfold nsB; exact @decide_eq_true_iff _ (Classical.propDecidable _)
noncomputable def nsL (t : List (List Int)) : List (List Int) := srt cmpS (firsts ((allSets t.length).filter fun l => nsB t l))
theorem nsL_mem {t : List (List Int)} {l : List Int} : l ∈ nsL t ↔ NS t l := by
  unfold nsL
  rw [srt_mem, mem_firsts, List.mem_filter, nsB_true]
  exact ⟨fun h => h.2, fun h => ⟨allSets_mem h.cl.self, h⟩⟩
theorem nsL_srt (t : List (List Int)) : Srt cmpS (nsL t) := srt_srt cmpS_tot (firsts_nodup _)
section
variable {t : List (List Int)}
theorem asc_mem_ext {l m : List Int} (hl : ClL t l) (hm : ClL t m) (h : ∀ x, x < t.length → (setI l x = true ↔ setI m x = true)) : l = m := by
  rw [← hl.self, ← hm.self]
  exact ascV_congr fun x hx => Bool.eq_iff_iff.2 (h x hx)
theorem genL_set {l : List Int} {x : Nat} (hx : x < t.length) : setI (genL t l) x = true ↔ Mk t l x := by
  unfold genL; rw [ascV_set hx, genF_iff]
theorem mk_in {l : List Int} {x : Nat} (h : setI l x = true) : Mk t l x := by
  have := Mk.gen (t := t) (setI_iff.1 h)
  rwa [Int.toNat_natCast] at this
theorem genL_cl (hs : Sh t) {l : List Int} (hl : inT t l) (h0 : 0 < l.length) : ClL t (genL t l) := by
  refine ⟨?_, ascV_asc _ _, fun x hx => ascV_in hx, fun x y hx hy h1 h2 => ?_⟩
  · have hg := hl _ (getD_mem (d := 0) h0)
    have : setI (genL t l) (l.getD 0 0).toNat = true := (genL_set (by omega)).2 (.gen (getD_mem h0))
    exact List.length_pos_of_mem (setI_iff.1 this)
  · exact (genL_set (hs.ent hx hy).2).2 (.mul ((genL_set hx).1 h1) ((genL_set hy).1 h2))
theorem ClL.has {l m : List Int} (h : ClL t l) (hm : ∀ x ∈ m, x ∈ l) {x : Nat} (k : Mk t m x) : setI l x = true :=
  mk_least (S := fun x => setI l x = true) (fun g hg => by
    have := h.ins g (hm g hg)
    exact setI_iff.2 (by rw [Int.toNat_of_nonneg this.1]; exact hm g hg)) (fun a b ha hb => h.cl a b (h.lt ha) (h.lt hb) ha hb) k
theorem cj_one (h : Grp t) {x : Nat} (hx : x < t.length) : cjN t x (oneN t) = oneN t := by
  unfold cjN
  rw [(h.one.2.1 x hx).2, (h.ninv hx).2.1]
theorem one_cj (h : Grp t) {x : Nat} (hx : x < t.length) : cjN t (oneN t) x = x := by
  have e : invN t (oneN t) = oneN t := (h.inv_uniq h.one.1 h.one.1 (h.one.2.1 _ h.one.1).1).symm
  unfold cjN
  rw [(h.one.2.1 x hx).1, e, (h.one.2.1 x hx).2]
theorem cj_mul (h : Grp t) {x a b : Nat} (hx : x < t.length) (ha : a < t.length) (hb : b < t.length) : cjN t x (en t a b) = en t (cjN t x a) (cjN t x b) := by
  have hs := h.toSh
  have hi := (h.ninv hx)
  have hxa := (hs.ent hx ha).2
  have hxb := (hs.ent hx hb).2
  have hib := (hs.ent hi.1 (hs.ent hxb hi.1).2).2
  unfold cjN
  rw [assoc3 h.assoc hxa hi.1 (hs.ent hxb hi.1).2, assoc3 h.assoc hx hb hi.1, ← assoc3 h.assoc hi.1 hx (hs.ent hb hi.1).2, hi.2.2, (h.one.2.1 _ (hs.ent hb hi.1).2).1, ← assoc3 h.assoc hxa hb hi.1, assoc3 h.assoc hx ha hb]
theorem gen_nrm (h : Grp t) {l : List Int} (hl : inT t l) (hc : ∀ x g, x < t.length → g ∈ l → Mk t l (cjN t x g.toNat)) : NrmIn t (allI t) (genL t l) := fun x hx y hy => by
  have hx := mem_disI.1 hx
  have hy' := ascV_in hy
  have hxl : x.toNat < t.length := by omega
  have m : Mk t l y.toNat := (genL_set (by omega)).1 (setI_iff.2 (by rw [Int.toNat_of_nonneg hy'.1]; exact hy))
  have : y.toNat < t.length ∧ Mk t l (cjN t x.toNat y.toNat) := mk_least (S := fun y => y < t.length ∧ Mk t l (cjN t x.toNat y)) (fun g hg => by
    have := hl g hg
    exact ⟨by omega, hc _ g hxl hg⟩) (fun a b ha hb => ⟨(h.toSh.ent ha.1 hb.1).2, by rw [cj_mul h hxl ha.1 hb.1]; exact .mul ha.2 hb.2⟩) m
  exact (genL_set (cjN_lt h hxl this.1)).2 this.2
noncomputable abbrev cloL (t : List (List Int)) (g : List Int) : List Int := genL t ((oneN t : Int) :: cjL t (allI t) g)
theorem clo_in (h : Grp t) {g : List Int} (hg : inT t g) : inT t ((oneN t : Int) :: cjL t (allI t) g) := fun y hy => by
  rcases List.mem_cons.1 hy with rfl | hy
  · have := h.one.1; omega
  · obtain ⟨b, hb, a, ha, rfl⟩ := mem_cjL.1 hy
    have := mem_disI.1 ha
    have := hg b hb
    have := cjN_lt h (x := a.toNat) (y := b.toNat) (by omega) (by omega)
    omega
theorem clo_ns (h : Grp t) {g : List Int} (hg : inT t g) : NS t (cloL t g) := by
  have hin := clo_in h hg
  refine ⟨genL_cl h.toSh hin (by simp), gen_nrm h hin fun x y hx hy => ?_⟩
  rcases List.mem_cons.1 hy with rfl | hy
  · rw [Int.toNat_natCast, cj_one h hx]
    have := Mk.gen (t := t) (List.mem_cons_self (a := (oneN t : Int)) (l := cjL t (allI t) g))
    rwa [Int.toNat_natCast] at this
  · obtain ⟨b, hb, a, ha, rfl⟩ := mem_cjL.1 hy
    have ha := mem_disI.1 ha
    have hb' := hg b hb
    rw [Int.toNat_natCast, cj_cj h hx (by omega) (by omega)]
    have := Mk.gen (t := t) (List.mem_cons_of_mem (oneN t : Int) ((mem_cjL (t := t)).2 ⟨b, hb, ((en t x a.toNat : Nat) : Int), (mem_disI (n := t.length)).2 (by have := (h.toSh.ent hx (y := a.toNat) (by omega)).2; omega), rfl⟩))
    rwa [Int.toNat_natCast, Int.toNat_natCast] at this
theorem clo_has (h : Grp t) {g : List Int} (hg : inT t g) : ∀ x ∈ g, x ∈ cloL t g := fun x hx => by
  have hx' := hg x hx
  have : setI (cloL t g) x.toNat = true := (genL_set (by omega)).2 (by
    have := Mk.gen (t := t) (List.mem_cons_of_mem (oneN t : Int) ((mem_cjL (t := t)).2 ⟨x, hx, (oneN t : Int), (mem_disI (n := t.length)).2 (by have := h.one.1; omega), rfl⟩))
    rwa [Int.toNat_natCast, Int.toNat_natCast, one_cj h (by omega)] at this)
  have := setI_iff.1 this
  rwa [Int.toNat_of_nonneg hx'.1] at this
theorem NS.has_clo (h : Grp t) {l g : List Int} (hl : NS t l) (hg : ∀ x ∈ g, x ∈ l) : ∀ x, x < t.length → setI (cloL t g) x = true → setI l x = true := fun x hx hm => by
  refine hl.cl.has (m := (oneN t : Int) :: cjL t (allI t) g) (fun y hy => ?_) ((genL_set hx).1 hm)
  rcases List.mem_cons.1 hy with rfl | hy
  · exact setI_iff.1 (hl.cl.one h)
  · obtain ⟨b, hb, a, ha, rfl⟩ := mem_cjL.1 hy
    exact setI_iff.1 (hl.nrm a ha b (hg b hb))
noncomputable def jnL (t : List (List Int)) (a b : List Int) : List Int := genL t (a ++ b)
theorem jn_ns (h : Grp t) {a b : List Int} (ha : NS t a) (hb : NS t b) : NS t (jnL t a b) := by
  have hin : inT t (a ++ b) := fun x hx => (List.mem_append.1 hx).elim (ha.cl.ins x) (hb.cl.ins x)
  refine ⟨genL_cl h.toSh hin (by have := ha.cl.pos; rw [List.length_append]; omega), gen_nrm h hin fun x g hx hg => mk_in ?_⟩
  have hxm : (x : Int) ∈ allI t := mem_disI.2 (by omega)
  rcases List.mem_append.1 hg with hg | hg
  · have := ha.nrm _ hxm g hg
    rw [Int.toNat_natCast] at this
    exact setI_iff.2 (List.mem_append_left _ (setI_iff.1 this))
  · have := hb.nrm _ hxm g hg
    rw [Int.toNat_natCast] at this
    exact setI_iff.2 (List.mem_append_right _ (setI_iff.1 this))
theorem jn_left {a b : List Int} (ha : ClL t a) {x : Nat} (hm : setI a x = true) : setI (jnL t a b) x = true :=
  (genL_set (ha.lt hm)).2 (mk_in (setI_iff.2 (List.mem_append_left _ (setI_iff.1 hm))))
theorem jn_right {a b : List Int} (hb : ClL t b) {x : Nat} (hm : setI b x = true) : setI (jnL t a b) x = true :=
  (genL_set (hb.lt hm)).2 (mk_in (setI_iff.2 (List.mem_append_right _ (setI_iff.1 hm))))
theorem jn_least {a b l : List Int} (hl : ClL t l) (ha : ∀ x ∈ a, x ∈ l) (hb : ∀ x ∈ b, x ∈ l) {x : Nat} (hx : x < t.length) (hm : setI (jnL t a b) x = true) : setI l x = true :=
  hl.has (m := a ++ b) (fun y hy => (List.mem_append.1 hy).elim (ha y) (hb y)) ((genL_set hx).1 hm)
theorem NS.sub (_h : Grp t) {l m : List Int} (hl : NS t l) (hs : ∀ x, x < t.length → setI l x = true → setI m x = true) : ∀ x ∈ l, x ∈ m := fun x hx => by
  have hi := hl.cl.ins x hx
  have := setI_iff.1 (hs x.toNat (by omega) (setI_iff.2 (by rw [Int.toNat_of_nonneg hi.1]; exact hx)))
  rwa [Int.toNat_of_nonneg hi.1] at this
theorem jn_prod (h : Grp t) {a b : List Int} (ha : NS t a) (hb : NS t b) {z : Nat} (hz : z < t.length) : setI (jnL t a b) z = true ↔ ∃ x y, setI a x = true ∧ setI b y = true ∧ z = en t x y := by
  constructor
  · intro hm
    have m := (genL_set hz).1 hm
    refine (mk_least (S := fun z => z < t.length ∧ ∃ x y, setI a x = true ∧ setI b y = true ∧ z = en t x y) (fun g hg => ?_) (fun p q hp hq => ?_) m).2
    · rcases List.mem_append.1 hg with hg | hg
      · have hi := ha.cl.ins g hg
        exact ⟨by omega, g.toNat, oneN t, setI_iff.2 (by rw [Int.toNat_of_nonneg hi.1]; exact hg), hb.cl.one h, (h.one.2.1 _ (by omega)).2.symm⟩
      · have hi := hb.cl.ins g hg
        exact ⟨by omega, oneN t, g.toNat, ha.cl.one h, setI_iff.2 (by rw [Int.toNat_of_nonneg hi.1]; exact hg), (h.one.2.1 _ (by omega)).1.symm⟩
    · obtain ⟨hpl, x, y, hx, hy, rfl⟩ := hp
      obtain ⟨hql, u, v, hu, hv, rfl⟩ := hq
      have hs := h.toSh
      have lx := ha.cl.lt hx
      have ly := hb.cl.lt hy
      have lu := ha.cl.lt hu
      have lv := hb.cl.lt hv
      refine ⟨(hs.ent hpl hql).2, en t x (cjN t y u), en t y v, ha.cl.cl _ _ lx (cjN_lt h ly lu) hx ?_, hb.cl.cl _ _ ly lv hy hv, ?_⟩
      · have := ha.nrm (y : Int) (mem_disI.2 (by omega)) (u : Int) (setI_iff.1 hu)
        rwa [Int.toNat_natCast, Int.toNat_natCast] at this
      · -- x y u v = x (y u y^-1) y v
        have hyu := (hs.ent ly lu).2
        have iy := (h.ninv ly)
        have e1 : en t (cjN t y u) (en t y v) = en t (en t y u) v := by
          unfold cjN
          rw [assoc3 h.assoc hyu iy.1 (hs.ent ly lv).2, ← assoc3 h.assoc iy.1 ly lv, iy.2.2, (h.one.2.1 v lv).1]
        rw [assoc3 h.assoc lx (cjN_lt h ly lu) (hs.ent ly lv).2, e1, assoc3 h.assoc lx ly (hs.ent lu lv).2, ← assoc3 h.assoc ly lu lv]
  · rintro ⟨x, y, hx, hy, rfl⟩
    have hab : ∀ {z}, setI (jnL t a b) z = true → Mk t (a ++ b) z := fun {z} hz => by
      have : z < t.length := by have := ascV_in (setI_iff.1 hz); omega
      exact (genL_set this).1 hz
    exact (genL_set hz).2 (.mul (hab (jn_left ha.cl hx)) (hab (jn_right hb.cl hy)))
theorem ns_all (h : Grp t) {F : List (List Int)} (hF : ∀ a ∈ F, NS t a) (h1 : [(oneN t : Int)] ∈ F) (hc : ∀ a ∈ F, ∀ x, x < t.length → jnL t a (cloL t [(x : Int)]) ∈ F) : ∀ l, NS t l → l ∈ F := by
  intro l hl
  have key : ∀ k, k ≤ l.length → ∃ a ∈ F, (∀ x, x < t.length → setI a x = true → setI l x = true) ∧ ∀ i, i < k → setI a (l.getD i 0).toNat = true := by
    intro k
    induction k with
    | zero =>
      intro _
      refine ⟨_, h1, fun x hx hm => ?_, fun i hi => absurd hi (Nat.not_lt_zero _)⟩
      have : x = oneN t := by have := setI_iff.1 hm; rw [List.mem_singleton] at this; omega
      rw [this]; exact hl.cl.one h
    | succ k ih =>
      intro hk
      obtain ⟨a, ha, hsub, hhas⟩ := ih (by omega)
      have hlk := hl.cl.ins _ (getD_mem (d := 0) (show k < l.length by omega))
      have hcs : (((l.getD k 0).toNat : Nat) : Int) = l.getD k 0 := Int.toNat_of_nonneg hlk.1
      have hg : inT t [(((l.getD k 0).toNat : Nat) : Int)] := fun y hy => by rw [List.mem_singleton] at hy; omega
      have hcl := clo_ns h hg
      refine ⟨_, hc a ha (l.getD k 0).toNat (by omega), fun x hx hm => ?_, fun i hi => ?_⟩
      · exact jn_least hl.cl ((hF a ha).sub h hsub) (hcl.sub h (hl.has_clo h fun y hy => by rw [List.mem_singleton] at hy; rw [hy, hcs]; exact getD_mem (by omega))) hx hm
      · by_cases e : i = k
        · subst e
          exact jn_right hcl.cl (setI_iff.2 (clo_has h hg _ (by simp)))
        · exact jn_left (hF a ha).cl (hhas i (by omega))
  obtain ⟨a, ha, hsub, hhas⟩ := key l.length (Nat.le_refl _)
  have : a = l := asc_mem_ext (hF a ha).cl hl.cl fun x hx => ⟨hsub x hx, fun hm => by
    obtain ⟨i, hi, hv⟩ := mem_getD 0 (setI_iff.1 hm)
    have := hhas i hi
    rwa [hv, Int.toNat_natCast] at this⟩
  rw [← this]; exact ha
theorem one_ns (h : Grp t) : NS t [(oneN t : Int)] := by
  have ho := h.one
  have he : ∀ {x}, setI [(oneN t : Int)] x = true ↔ x = oneN t := fun {x} => by rw [setI_iff, List.mem_singleton]; omega
  refine ⟨⟨by simp, fun i hi => by simp at hi, fun x hx => by rw [List.mem_singleton] at hx; omega, fun x y hx hy h1 h2 => ?_⟩, fun x hx y hy => ?_⟩
  · rw [he] at h1 h2 ⊢
    rw [h1, h2]; exact (ho.2.1 _ ho.1).1
  · rw [List.mem_singleton] at hy
    have := mem_disI.1 hx
    rw [hy, Int.toNat_natCast, cj_one h (by omega)]; exact he.2 rfl
/-! ### How many -/
def subsK : Nat → List Int → List (List Int)
  | 0, _ => [[]] | _ + 1, [] => [[]] | k + 1, a :: l => subsK (k + 1) l ++ (subsK k l).map (a :: ·)
theorem subsK_mem : ∀ {k : Nat} {l m : List Int}, m.Sublist l → m.length ≤ k → m ∈ subsK k l
  | 0, l, m, _, h => by
    have : m = [] := List.eq_nil_of_length_eq_zero (by omega)
    subst this; cases l <;> simp [subsK]
  | k + 1, [], m, hs, _ => by
    have : m = [] := List.sublist_nil.1 hs
    subst this; simp [subsK]
  | k + 1, a :: l, m, hs, h => by
    simp only [subsK, List.mem_append, List.mem_map]
    cases hs with
    | cons _ hs => exact .inl (subsK_mem hs h)
    | cons_cons _ hs => exact .inr ⟨_, subsK_mem hs (by simpa using h), rfl⟩
def subsN : Nat → Nat → Nat
  | 0, _ => 1 | _ + 1, 0 => 1 | k + 1, n + 1 => subsN (k + 1) n + subsN k n
theorem subsK_len : ∀ (k : Nat) (l : List Int), (subsK k l).length = subsN k l.length
  | 0, l => by cases l <;> simp [subsK, subsN]
  | k + 1, [] => rfl
  | k + 1, a :: l => by simp [subsK, subsN, subsK_len (k + 1) l, subsK_len k l]
theorem gen_double (h : Grp t) {g : List Int} {y : Nat} (hg : inT t g) (h1 : (oneN t : Int) ∈ g) (hy : y < t.length) (hn : ¬ Mk t g y) : 2 * (genL t g).length ≤ (genL t (g ++ [(y : Int)])).length := by
  have hs := h.toSh
  have hcl := genL_cl hs hg (List.length_pos_of_mem h1)
  have hin2 : inT t (g ++ [(y : Int)]) := fun x hx => (List.mem_append.1 hx).elim (hg x) fun hx => by rw [List.mem_singleton] at hx; omega
  have up : ∀ {x}, Mk t g x → Mk t (g ++ [(y : Int)]) x := fun m => m.mono fun a ha => List.mem_append_left _ ha
  have hmy : Mk t (g ++ [(y : Int)]) y := by
    have := Mk.gen (t := t) (show (y : Int) ∈ g ++ [(y : Int)] by simp)
    rwa [Int.toNat_natCast] at this
  have hnd : (genL t g).Nodup := (pairwise_adj hcl.asc).imp fun {a b} hab e => by omega
  obtain ⟨S, hS⟩ : ∃ S, S = genL t g := ⟨_, rfl⟩
  rw [← hS] at hcl hnd ⊢
  have hset : ∀ {x}, x < t.length → (setI S x = true ↔ Mk t g x) := fun {x} hx => by rw [hS]; exact genL_set hx
  have hsi : ∀ {x : Int}, x ∈ S → setI S x.toNat = true := fun {x} hx => setI_iff.2 (by rw [Int.toNat_of_nonneg (hcl.ins x hx).1]; exact hx)
  have hsub : ∀ z ∈ S ++ S.map (fun x => ((en t y x.toNat : Nat) : Int)), z ∈ genL t (g ++ [(y : Int)]) := fun z hz => by
    rcases List.mem_append.1 hz with hz | hz
    · have hi := hcl.ins z hz
      have m := (hset (x := z.toNat) (by omega)).1 (hsi hz)
      have := setI_iff.1 ((genL_set (t := t) (by omega)).2 (up m))
      rwa [Int.toNat_of_nonneg hi.1] at this
    · obtain ⟨x, hx, rfl⟩ := List.mem_map.1 hz
      have hi := hcl.ins x hx
      have m := (hset (x := x.toNat) (by omega)).1 (hsi hx)
      exact setI_iff.1 ((genL_set (t := t) (hs.ent hy (y := x.toNat) (by omega)).2).2 (.mul hmy (up m)))
  have hLn : (S ++ S.map (fun x => ((en t y x.toNat : Nat) : Int))).Nodup := by
    have h2nd : (S.map (fun x => ((en t y x.toNat : Nat) : Int))).Nodup := List.pairwise_map.2 (hnd.imp_of_mem fun {a b} ha hb hab e => hab (by
      have ia := hcl.ins a ha
      have ib := hcl.ins b hb
      have := h.cancelL (a := a.toNat) (b := b.toNat) (c := y) (by omega) (by omega) hy (by omega)
      omega))
    refine List.nodup_append.2 ⟨hnd, h2nd, fun a ha b hb e => ?_⟩
    · obtain ⟨x, hx, rfl⟩ := List.mem_map.1 hb
      have ix := hcl.ins x hx
      subst e
      have hxl : x.toNat < t.length := by omega
      have hm1 : setI S (en t y x.toNat) = true := setI_iff.2 ha
      have hm3 := hcl.inv h (hsi hx)
      have hyx := (hs.ent hy hxl).2
      have hi := h.ninv hxl
      have hm4 := hcl.cl _ _ hyx hi.1 hm1 hm3
      rw [assoc3 h.assoc hy hxl hi.1, hi.2.1, (h.one.2.1 y hy).2] at hm4
      exact hn ((hset hy).1 hm4)
  have := hLn.length_le_of_subset (l₂ := genL t (g ++ [(y : Int)])) hsub
  rw [List.length_append, List.length_map] at this
  omega
theorem few_gens (h : Grp t) {l : List Int} (hl : ClL t l) : ∀ i, ∃ g : List Int, Asc g ∧ (∀ x ∈ g, x ∈ l ∧ x ≠ (oneN t : Int)) ∧ g.length ≤ i ∧
    ((∀ x, setI l x = true → Mk t ((oneN t : Int) :: g) x) ∨ (g.length = i ∧ 2 ^ i ≤ (genL t ((oneN t : Int) :: g)).length ∧ ∀ x, setI l x = true → ∀ y ∈ g, (x : Int) ≤ y → Mk t ((oneN t : Int) :: g) x))
  | 0 => ⟨[], fun i hi => absurd hi (Nat.not_lt_zero _), by simp, by simp, .inr ⟨rfl, by
      have := (genL_cl h.toSh (l := [(oneN t : Int)]) (fun x hx => by rw [List.mem_singleton] at hx; have := h.one.1; omega) (by simp)).pos
      show 1 ≤ _
      exact this, fun x hx y hy => by cases hy⟩⟩
  | i + 1 => by
    obtain ⟨g, g1, g2, g3, g4⟩ := few_gens h hl i
    rcases g4 with g4 | ⟨g4, g5, g6⟩
    · exact ⟨g, g1, g2, by omega, .inl g4⟩
    by_cases hall : ∀ x, setI l x = true → Mk t ((oneN t : Int) :: g) x
    · exact ⟨g, g1, g2, by omega, .inl hall⟩
    have hex : ∃ y, y < t.length ∧ (setI l y = true ∧ ¬ Mk t ((oneN t : Int) :: g) y) := by
      refine Classical.byContradiction fun hno => hall fun x hx => Classical.byContradiction fun hm => hno ⟨x, hl.lt hx, hx, hm⟩
    obtain ⟨y, hy, ⟨hyl, hym⟩, hleast⟩ := least_ex hex
    have hgt : ∀ z ∈ g, z < (y : Int) := fun z hz => Classical.byContradiction fun hge => hym (g6 y hyl z hz (by omega))
    have hin : inT t ((oneN t : Int) :: g) := fun x hx => by
      rcases List.mem_cons.1 hx with rfl | hx
      · have := h.one.1; omega
      · exact hl.ins x (g2 x hx).1
    have hd := gen_double h hin (by simp) hy hym
    rw [List.cons_append] at hd
    refine ⟨g ++ [(y : Int)], asc_of (List.pairwise_append.2 ⟨pairwise_adj g1, by simp, fun a ha b hb => by rw [List.mem_singleton] at hb; rw [hb]; exact hgt a ha⟩), fun x hx => ?_, by simp; omega, .inr ⟨by simp; omega, by rw [Nat.pow_succ]; omega, fun x hx z hz hxz => ?_⟩⟩
    · rcases List.mem_append.1 hx with hx | hx
      · exact g2 x hx
      · rw [List.mem_singleton] at hx
        subst hx
        refine ⟨setI_iff.1 hyl, fun e => hym ?_⟩
        have e : y = oneN t := by omega
        rw [e]; exact mk_in (setI_iff.2 (by simp))
    · have up : ∀ {x}, Mk t ((oneN t : Int) :: g) x → Mk t ((oneN t : Int) :: (g ++ [(y : Int)])) x := fun m => m.mono fun a ha => by
        rcases List.mem_cons.1 ha with rfl | ha
        · exact List.mem_cons_self
        · exact List.mem_cons_of_mem _ (List.mem_append_left _ ha)
      rcases List.mem_append.1 hz with hz | hz
      · exact up (g6 x hx z hz hxz)
      · rw [List.mem_singleton] at hz
        by_cases e : x = y
        · rw [e]; exact mk_in (setI_iff.2 (by simp))
        · exact up (Classical.byContradiction fun hm => hleast x (by omega) ⟨hx, hm⟩)
theorem four_gens (h : Grp t) (hn : t.length ≤ 16) {l : List Int} (hl : ClL t l) : ∃ g : List Int, g ∈ subsK 4 (ascV t.length fun x => decide (x ≠ oneN t)) ∧ ∀ x, x < t.length → (setI l x = true ↔ Mk t ((oneN t : Int) :: g) x) := by
  obtain ⟨g, g1, g2, g3, g4⟩ := few_gens h hl 4
  have hin : ∀ x ∈ g, 0 ≤ x ∧ x < (t.length : Int) := fun x hx => hl.ins x (g2 x hx).1
  have hinc : inT t ((oneN t : Int) :: g) := fun x hx => by
    rcases List.mem_cons.1 hx with rfl | hx
    · have := h.one.1; omega
    · exact hin x hx
  refine ⟨g, subsK_mem ?_ g3, fun x hx => ⟨fun hm => ?_, fun m => hl.has (m := (oneN t : Int) :: g) (fun y hy => ?_) m⟩⟩
  · rw [← ascV_self g1 hin]
    refine ascV_sub fun x _ hm => decide_eq_true fun e => ?_
    exact (g2 _ (setI_iff.1 hm)).2 (by omega)
  · rcases g4 with g4 | ⟨_, g5, _⟩
    · exact g4 x hm
    · have hcl := genL_cl h.toSh hinc (by simp)
      have hnd : (genL t ((oneN t : Int) :: g)).Nodup := (pairwise_adj hcl.asc).imp fun {a b} hab e => by omega
      have hlen : (genL t ((oneN t : Int) :: g)).length = t.length := by
        have := ascV_len t.length (genF t ((oneN t : Int) :: g))
        have g5 : 2 ^ 4 ≤ (genL t ((oneN t : Int) :: g)).length := g5
        have : (genL t ((oneN t : Int) :: g)).length ≤ t.length := this
        omega
      refine Classical.byContradiction fun hno => ?_
      have := (List.nodup_cons.2 ⟨fun hm' => hno ((genL_set hx).1 (setI_iff.2 hm')), hnd⟩ : ((x : Int) :: genL t ((oneN t : Int) :: g)).Nodup)
      have := nodup_len (n := t.length) this fun y hy => by
        rcases List.mem_cons.1 hy with rfl | hy
        · omega
        · exact ascV_in hy
      rw [List.length_cons] at this; omega
  · rcases List.mem_cons.1 hy with rfl | hy
    · exact setI_iff.1 (hl.one h)
    · exact (g2 y hy).1
theorem few_subs (h : Grp t) (hn : t.length ≤ 16) {F : List (List Int)} (hF : ∀ a ∈ F, ClL t a) (hnd : F.Nodup) : F.length ≤ 1941 := by
  have ch : ∀ a : List Int, ∃ g : List Int, a ∈ F → g ∈ subsK 4 (ascV t.length fun x => decide (x ≠ oneN t)) ∧ ∀ x, x < t.length → (setI a x = true ↔ Mk t ((oneN t : Int) :: g) x) := fun a => by
    by_cases ha : a ∈ F
    · obtain ⟨g, hg⟩ := four_gens h hn (hF a ha); exact ⟨g, fun _ => hg⟩
    · exact ⟨[], fun hh => absurd hh ha⟩
  let G : List Int → List Int := fun a => Classical.choose (ch a)
  have hG : ∀ a ∈ F, G a ∈ subsK 4 (ascV t.length fun x => decide (x ≠ oneN t)) ∧ ∀ x, x < t.length → (setI a x = true ↔ Mk t ((oneN t : Int) :: G a) x) := fun a ha => Classical.choose_spec (ch a) ha
  have hm : (F.map G).Nodup := List.pairwise_map.2 (hnd.imp_of_mem fun {a b} ha hb hab e => hab (asc_mem_ext (hF a ha) (hF b hb) fun x hx => by rw [(hG a ha).2 x hx, (hG b hb).2 x hx, e]))
  have h1 := hm.length_le_of_subset (l₂ := subsK 4 (ascV t.length fun x => decide (x ≠ oneN t))) fun g hg => by
    obtain ⟨a, ha, rfl⟩ := List.mem_map.1 hg; exact (hG a ha).1
  rw [List.length_map, subsK_len] at h1
  have h2 : (ascV t.length fun x => decide (x ≠ oneN t)).length ≤ 15 := by
    have hnd2 : (ascV t.length fun x => decide (x ≠ oneN t)).Nodup := (pairwise_adj (ascV_asc _ _)).imp fun {a b} hab e => by omega
    have := nodup_len (n := t.length) (List.nodup_cons.2 ⟨fun hm' => ?_, hnd2⟩ : ((oneN t : Int) :: ascV t.length fun x => decide (x ≠ oneN t)).Nodup) fun y hy => by
      rcases List.mem_cons.1 hy with rfl | hy
      · have := h.one.1; omega
      · exact ascV_in hy
    · rw [List.length_cons] at this; omega
    · obtain ⟨i, _, hi2, hi3⟩ := ascV_mem.1 hm'
      exact of_decide_eq_true hi2 (by omega)
  have h3 : ∀ m, m ≤ 15 → subsN 4 m ≤ 1941 := by decide +kernel
  exact Nat.le_trans h1 (h3 _ h2)
end
end Go.Proofs.YtpanlghofeebhaaGreat
end
section
/- Plain: the derived series; greatest normal subgroups of a subgroup; simple groups. -/
namespace Go.Proofs.YtpanlghofeebhaaGreat
section
variable {t : List (List Int)}
theorem asc_sub_len {l m : List Int} (hl : ClL t l) (hm : ClL t m) (h : ∀ x, x < t.length → setI l x = true → setI m x = true) : l.length ≤ m.length ∧ (l.length = m.length → l = m) := by
  have hs : l.Sublist m := by
    have := ascV_sub (n := t.length) (f := setI l) (g := setI m) h
    rwa [hl.self, hm.self] at this
  exact ⟨hs.length_le, fun e => hs.eq_of_length e⟩
noncomputable abbrev derL (t : List (List Int)) (w : List Int) : List Int := ascV t.length (derF t w)
theorem der_in (h : Grp t) {w : List Int} (hw : inT t w) : inT t ((oneN t : Int) :: cmL t w) := fun y hy => by
  rcases List.mem_cons.1 hy with rfl | hy
  · have := h.one.1; omega
  · obtain ⟨a, ha, b, hb, rfl⟩ := mem_cmL.1 hy
    have := hw a ha
    have := hw b hb
    have := cmN_lt h (x := a.toNat) (y := b.toNat) (by omega) (by omega)
    omega
theorem der_cl (h : Grp t) {w : List Int} (hw : inT t w) : ClL t (derL t w) := genL_cl h.toSh (der_in h hw) (by simp)
theorem ClL.iset {l : List Int} (h : ClL t l) {x : Int} (hx : x ∈ l) : setI l x.toNat = true := setI_iff.2 (by rw [Int.toNat_of_nonneg (h.ins x hx).1]; exact hx)
theorem ClL.cj {w : List Int} (hw : ClL t w) (h : Grp t) {a b : Nat} (ha : setI w a = true) (hb : setI w b = true) : setI w (cjN t a b) = true := by
  have la := hw.lt ha
  have lb := hw.lt hb
  exact hw.cl _ _ (h.toSh.ent la lb).2 (h.ninv la).1 (hw.cl _ _ la lb ha hb) (hw.inv h ha)
theorem ClL.cm {w : List Int} (hw : ClL t w) (h : Grp t) {a b : Nat} (ha : setI w a = true) (hb : setI w b = true) : setI w (cmN t a b) = true := by
  have la := hw.lt ha
  have lb := hw.lt hb
  exact hw.cl _ _ (cjN_lt h la lb) (h.ninv lb).1 (hw.cj h ha hb) (hw.inv h hb)
theorem der_sub (h : Grp t) {w : List Int} (hw : ClL t w) : ∀ x, x < t.length → setI (derL t w) x = true → setI w x = true := fun x hx hm => by
  refine hw.has (m := (oneN t : Int) :: cmL t w) (fun y hy => ?_) ((genL_set hx).1 hm)
  rcases List.mem_cons.1 hy with rfl | hy
  · exact setI_iff.1 (hw.one h)
  · obtain ⟨a, ha, b, hb, rfl⟩ := mem_cmL.1 hy
    exact setI_iff.1 (hw.cm h (hw.iset ha) (hw.iset hb))
noncomputable def dS (t : List (List Int)) : Nat → List Int | 0 => allI t | k + 1 => derL t (dS t k)
theorem dS_cl (h : Grp t) : ∀ k, ClL t (dS t k)
  | 0 => allI_cl h.toSh
  | k + 1 => der_cl h (dS_cl h k).ins
theorem dS_le (h : Grp t) (k : Nat) : (dS t (k + 1)).length ≤ (dS t k).length ∧ ((dS t (k + 1)).length = (dS t k).length → dS t (k + 1) = dS t k) :=
  asc_sub_len (dS_cl h (k + 1)) (dS_cl h k) (der_sub h (dS_cl h k))
theorem dS_stop (h : Grp t) {k : Nat} (he : (dS t (k + 1)).length = (dS t k).length) : ∀ j, dS t (k + j) = dS t k
  | 0 => rfl
  | j + 1 => by
    have ih := dS_stop h he j
    show derL t (dS t (k + j)) = _
    rw [ih]
    exact (dS_le h k).2 he
theorem dS_one (h : Grp t) {k : Nat} (he : (dS t k).length = 1) : ∀ j, (dS t (k + j)).length = 1
  | 0 => he
  | j + 1 => by
    have ih := dS_one h he j
    have h1 := (dS_le h (k + j)).1
    have h2 := (dS_cl h (k + j + 1)).pos
    show (dS t (k + j + 1)).length = 1
    omega
noncomputable def solB (t : List (List Int)) : Bool := decide ((dS t t.length).length = 1)
/-! ### Greatest normal subgroups -/
def Gd (t : List (List Int)) (w s : List Int) (x : Nat) : Prop := ∀ y ∈ w, Mk t ((oneN t : Int) :: cjL t w (s ++ [(x : Int)])) y.toNat
def Mx (t : List (List Int)) (w s : List Int) : Prop := s.length ≠ w.length ∧ ∀ x ∈ w, x ∉ s → Gd t w s x.toNat
noncomputable def mxB (t : List (List Int)) (w s : List Int) : Bool := @decide (Mx t w s) (Classical.propDecidable _)
theorem mxB_true {w s : List Int} : mxB t w s = true ↔ Mx t w s := by unfold mxB; exact @decide_eq_true_iff _ (Classical.propDecidable _)
theorem mxB_false {w s : List Int} : mxB t w s = false ↔ ¬ Mx t w s := by unfold mxB; exact @decide_eq_false_iff_not _ (Classical.propDecidable _)
theorem cloW_in (h : Grp t) {w g : List Int} (hw : inT t w) (hg : inT t g) : inT t ((oneN t : Int) :: cjL t w g) := fun y hy => by
  rcases List.mem_cons.1 hy with rfl | hy
  · have := h.one.1; omega
  · obtain ⟨b, hb, a, ha, rfl⟩ := mem_cjL.1 hy
    have := hw a ha
    have := hg b hb
    have := cjN_lt h (x := a.toNat) (y := b.toNat) (by omega) (by omega)
    omega
theorem cloW_cl (h : Grp t) {w g : List Int} (hw : inT t w) (hg : inT t g) : ClL t (ascV t.length (cloF t w g)) := genL_cl h.toSh (cloW_in h hw hg) (by simp)
theorem cloW_sub (h : Grp t) {w g : List Int} (hw : ClL t w) (hg : ∀ x ∈ g, x ∈ w) : ∀ x, x < t.length → setI (ascV t.length (cloF t w g)) x = true → setI w x = true := fun x hx hm => by
  refine hw.has (m := (oneN t : Int) :: cjL t w g) (fun y hy => ?_) ((genL_set hx).1 hm)
  rcases List.mem_cons.1 hy with rfl | hy
  · exact setI_iff.1 (hw.one h)
  · obtain ⟨b, hb, a, ha, rfl⟩ := mem_cjL.1 hy
    exact setI_iff.1 (hw.cj h (hw.iset ha) (hw.iset (hg b hb)))
theorem gd_iff (h : Grp t) {w s : List Int} (hw : ClL t w) (hs : ∀ x ∈ s, x ∈ w) {x : Int} (hx : x ∈ w) : Gd t w s x.toNat ↔ (ascV t.length (cloF t w (s ++ [x]))).length = w.length := by
  have hx' := hw.ins x hx
  have hxc : ((x.toNat : Nat) : Int) = x := Int.toNat_of_nonneg hx'.1
  have hg : ∀ y ∈ s ++ [x], y ∈ w := fun y hy => (List.mem_append.1 hy).elim (hs y) fun hy => by rw [List.mem_singleton] at hy; rw [hy]; exact hx
  have hcl := cloW_cl h hw.ins (g := s ++ [x]) (fun y hy => hw.ins y (hg y hy))
  have hle := asc_sub_len hcl hw (cloW_sub h hw hg)
  unfold Gd
  rw [hxc]
  constructor
  · intro hall
    have := asc_sub_len hw hcl fun y hy hm => (genL_set hy).2 (by
      have := hall (y : Int) (setI_iff.1 hm)
      rwa [Int.toNat_natCast] at this)
    omega
  · intro he y hy
    have e := hle.2 he
    have hy' := hw.ins y hy
    refine (genL_set (t := t) (l := (oneN t : Int) :: cjL t w (s ++ [x])) (by omega)).1 ?_
    show setI (ascV t.length (cloF t w (s ++ [x]))) y.toNat = true
    rw [e]; exact hw.iset hy
theorem gd_coset (h : Grp t) {w s : List Int} (hw : ClL t w) (hs : ClL t s) {x a : Nat} (hx : x < t.length) (ha : setI s a = true) (hg : Gd t w s x) : Gd t w s (en t x a) := fun y hy => by
  have la := hs.lt ha
  have ia := h.ninv la
  have hai := hs.inv h ha
  have hxa := (h.toSh.ent hx la).2
  have gen : ∀ g ∈ s ++ [((en t x a : Nat) : Int)], ∀ b ∈ w, Mk t ((oneN t : Int) :: cjL t w (s ++ [((en t x a : Nat) : Int)])) (cjN t b.toNat g.toNat) := fun g hg b hb => by
    have := Mk.gen (t := t) (List.mem_cons_of_mem (oneN t : Int) ((mem_cjL (t := t)).2 ⟨g, hg, b, hb, rfl⟩))
    rwa [Int.toNat_natCast] at this
  refine mk_least (S := fun z => Mk t ((oneN t : Int) :: cjL t w (s ++ [((en t x a : Nat) : Int)])) z) (fun g hg' => ?_) (fun _ _ => .mul) (hg y hy)
  rcases List.mem_cons.1 hg' with rfl | hg'
  · exact .gen List.mem_cons_self
  · obtain ⟨g0, hg0, b, hb, rfl⟩ := mem_cjL.1 hg'
    rw [Int.toNat_natCast]
    rcases List.mem_append.1 hg0 with hg0 | hg0
    · exact gen g0 (List.mem_append_left _ hg0) b hb
    · rw [List.mem_singleton] at hg0
      subst hg0
      rw [Int.toNat_natCast]
      have hb' := hw.ins b hb
      have e : x = en t (en t x a) (invN t a) := by rw [assoc3 h.assoc hx la ia.1, ia.2.1, (h.one.2.1 x hx).2]
      have e2 : cjN t b.toNat x = en t (cjN t b.toNat (en t x a)) (cjN t b.toNat (invN t a)) := by
        rw [← cj_mul h (by omega) hxa ia.1, ← e]
      rw [e2]
      have m1 := gen ((en t x a : Nat) : Int) (by simp) b hb
      have m2 := gen ((invN t a : Nat) : Int) (List.mem_append_left _ (setI_iff.1 hai)) b hb
      rw [Int.toNat_natCast] at m1 m2
      exact .mul m1 m2
theorem all_ns (h : Grp t) : NS t (allI t) := ⟨allI_cl h.toSh, fun x hx y hy => allI_set.2 (by
  have := mem_disI.1 hx
  have := mem_disI.1 hy
  exact cjN_lt h (by omega) (by omega))⟩
theorem simple_iff (h : Grp t) : mxB t (allI t) [(oneN t : Int)] = decide ((nsL t).length = 2) := by
  have hnd := (nsL_srt t).nodup cmpS_tot
  have h1 := nsL_mem.2 (one_ns h)
  have h2 := nsL_mem.2 (all_ns h)
  have hal : (allI t).length = t.length := disI_len _
  have hp := h.pos
  have hset1 : ∀ {x}, setI [(oneN t : Int)] x = true ↔ x = oneN t := fun {x} => by rw [setI_iff, List.mem_singleton]; omega
  rw [Bool.eq_iff_iff, mxB_true, decide_eq_true_eq]
  constructor
  · rintro ⟨hne, hgd⟩
    have hne' : [(oneN t : Int)] ≠ allI t := fun e => hne (by rw [← e])
    have hsub : ∀ l ∈ nsL t, l ∈ [[(oneN t : Int)], allI t] := fun l hl => by
      have hl := nsL_mem.1 hl
      by_cases hex : ∃ x, setI l x = true ∧ x ≠ oneN t
      · obtain ⟨x, hx, hxo⟩ := hex
        have hxl := hl.cl.lt hx
        have hg := hgd (x : Int) (mem_disI.2 (by omega)) (by rw [List.mem_singleton]; omega)
        rw [Int.toNat_natCast] at hg
        have : l = allI t := asc_mem_ext hl.cl (all_ns h).cl fun y hy => ⟨fun _ => allI_set.2 hy, fun _ => by
          have m := hg (y : Int) (mem_disI.2 (by omega))
          rw [Int.toNat_natCast] at m
          refine hl.has_clo h (g := [(oneN t : Int)] ++ [(x : Int)]) (fun z hz => ?_) y hy ((genL_set hy).2 m)
          rcases List.mem_append.1 hz with hz | hz
          · rw [List.mem_singleton] at hz; rw [hz]; exact setI_iff.1 (hl.cl.one h)
          · rw [List.mem_singleton] at hz; rw [hz]; exact setI_iff.1 hx⟩
        rw [this]; simp
      · have : l = [(oneN t : Int)] := asc_mem_ext hl.cl (one_ns h).cl fun y hy => ⟨fun hm => hset1.2 (Classical.byContradiction fun hno => hex ⟨y, hm, hno⟩), fun hm => by rw [hset1.1 hm]; exact hl.cl.one h⟩
        rw [this]; simp
    have l1 := hnd.length_le_of_subset hsub
    have l2 := (List.nodup_cons.2 ⟨by simpa using hne', by simp⟩ : [[(oneN t : Int)], allI t].Nodup).length_le_of_subset (l₂ := nsL t) fun l hl => by
      rcases List.mem_cons.1 hl with rfl | hl
      · exact h1
      · rw [List.mem_singleton] at hl; rw [hl]; exact h2
    simp at l1 l2
    omega
  · intro he
    have hne : [(oneN t : Int)] ≠ allI t := fun e => by
      have hsub : ∀ l ∈ nsL t, l ∈ [allI t] := fun l hl => by
        have hl := nsL_mem.1 hl
        have hn1 : t.length = 1 := by rw [← hal, ← e]; rfl
        have : l = allI t := asc_mem_ext hl.cl (all_ns h).cl fun y hy => ⟨fun _ => allI_set.2 hy, fun _ => by
          have : y = oneN t := by have := h.one.1; omega
          rw [this]; exact hl.cl.one h⟩
        rw [this]; simp
      have := hnd.length_le_of_subset hsub
      simp at this; omega
    refine ⟨fun hl => hne ?_, fun x hx hxo => ?_⟩
    · exact (asc_sub_len (one_ns h).cl (all_ns h).cl fun y hy _ => allI_set.2 hy).2 hl
    · have hx' := mem_disI.1 hx
      have hxn : x.toNat ≠ oneN t := fun e => hxo (by rw [List.mem_singleton]; omega)
      have hgin : inT t ([(oneN t : Int)] ++ [x]) := fun z hz => by
        rcases List.mem_append.1 hz with hz | hz
        · rw [List.mem_singleton] at hz; have := h.one.1; omega
        · rw [List.mem_singleton] at hz; omega
      have hc := clo_ns h hgin
      have hc3 : cloL t ([(oneN t : Int)] ++ [x]) = allI t := Classical.byContradiction fun hno => by
        have hno1 : cloL t ([(oneN t : Int)] ++ [x]) ≠ [(oneN t : Int)] := fun e => by
          have := clo_has h hgin x (by simp)
          rw [e, List.mem_singleton] at this; omega
        have := (List.nodup_cons.2 ⟨by simp only [List.mem_cons, List.not_mem_nil, or_false, not_or]; exact ⟨hno1, hno⟩, List.nodup_cons.2 ⟨by simpa using hne, by simp⟩⟩ : [cloL t ([(oneN t : Int)] ++ [x]), [(oneN t : Int)], allI t].Nodup).length_le_of_subset (l₂ := nsL t) fun l hl => by
          rcases List.mem_cons.1 hl with rfl | hl
          · exact nsL_mem.2 hc
          · rcases List.mem_cons.1 hl with rfl | hl
            · exact h1
            · rw [List.mem_singleton] at hl; rw [hl]; exact h2
        simp at this; omega
      refine (gd_iff h (all_ns h).cl (fun y hy => mem_disI.2 ((one_ns h).cl.ins y hy)) hx).2 ?_
      show (cloL t ([(oneN t : Int)] ++ [x])).length = _
      rw [hc3]
end
end Go.Proofs.YtpanlghofeebhaaGreat
end
section
/- Plain: the groups of tables as groups; greatest normal subgroups, their sizes, their quotients. -/
namespace Go.Proofs.YtpanlghofeebhaaGreat
section
variable {t : List (List Int)}
noncomputable def gpT (h : Grp t) : Gp (Fin t.length) where
  mul a b := ⟨en t a.1 b.1, (h.toSh.ent a.2 b.2).2⟩
  inv a := ⟨invN t a.1, (h.ninv a.2).1⟩
  one := ⟨oneN t, h.one.1⟩
  assoc a b c := Fin.ext (assoc3 h.assoc a.2 b.2 c.2)
  oneL a := Fin.ext (h.one.2.1 _ a.2).1
  oneR a := Fin.ext (h.one.2.1 _ a.2).2
  invL a := Fin.ext (h.ninv a.2).2.2
  invR a := Fin.ext (h.ninv a.2).2.1
def pS (l : List Int) {n : Nat} : Fin n → Prop := fun x => setI l x.1 = true
theorem elT (n : Nat) : Fin' (List.finRange n) := ⟨List.nodup_finRange n, List.mem_finRange⟩
theorem sgT (h : Grp t) {l : List Int} (hl : ClL t l) : (gpT h).Sg (pS l) := ⟨hl.one h, fun a b ha hb => hl.cl _ _ a.2 b.2 ha hb, fun _ ha => hl.inv h ha⟩
noncomputable def lsT {n : Nat} (S : Fin n → Prop) : List Int := ascV n fun x => @decide (∃ hx : x < n, S ⟨x, hx⟩) (Classical.propDecidable _)
theorem lsT_set {n : Nat} {S : Fin n → Prop} {x : Nat} (hx : x < n) : setI (lsT S) x = true ↔ S ⟨x, hx⟩ := by
  unfold lsT
  rw [ascV_set hx, @decide_eq_true_iff _ (Classical.propDecidable _)]
  exact ⟨fun ⟨_, h⟩ => h, fun h => ⟨hx, h⟩⟩
theorem lsT_pS {n : Nat} (S : Fin n → Prop) : pS (lsT S) = S := funext fun x => propext (lsT_set x.2)
theorem lsT_cl (h : Grp t) {S : Fin t.length → Prop} (hS : (gpT h).Sg S) : ClL t (lsT S) := by
  refine ⟨List.length_pos_of_mem (setI_iff.1 ((lsT_set h.one.1).2 hS.one)), ascV_asc _ _, fun x hx => ascV_in hx, fun x y hx hy h1 h2 => ?_⟩
  exact (lsT_set (h.toSh.ent hx hy).2).2 (hS.mul _ _ ((lsT_set hx).1 h1) ((lsT_set hy).1 h2))
theorem asc_nd {l : List Int} (h : Asc l) : l.Nodup := (pairwise_adj h).imp fun {a b} hab e => by omega
theorem szT {l : List Int} (hl : ClL t l) : szS (List.finRange t.length) (pS l) = l.length := by
  obtain ⟨m, h1, h2, h3⟩ := sz_lst (elT t.length) (pS (n := t.length) l)
  rw [← h3, ← List.length_map (f := fun x : Fin t.length => ((x.1 : Nat) : Int))]
  have hnd : (m.map fun x : Fin t.length => ((x.1 : Nat) : Int)).Nodup := List.pairwise_map.2 (h1.imp fun {a b} hab e => hab (Fin.ext (by omega)))
  apply Nat.le_antisymm
  · refine hnd.length_le_of_subset fun y hy => ?_
    obtain ⟨x, hx, rfl⟩ := List.mem_map.1 hy
    exact setI_iff.1 ((h2 x).1 hx)
  · refine (asc_nd hl.asc).length_le_of_subset fun y hy => ?_
    have := hl.ins y hy
    refine List.mem_map.2 ⟨⟨y.toNat, by omega⟩, (h2 _).2 (hl.iset hy), ?_⟩
    show ((y.toNat : Nat) : Int) = y
    omega
theorem nmT (h : Grp t) {w s : List Int} (hw : inT t w) (hs : inT t s) : NrmIn t w s ↔ (gpT h).Nm (pS w) (pS s) := by
  constructor
  · intro hn x a hx ha
    have := hn (x.1 : Int) (setI_iff.1 hx) (a.1 : Int) (setI_iff.1 ha)
    rw [Int.toNat_natCast, Int.toNat_natCast] at this
    exact this
  · intro hn x hx y hy
    have hx' := hw x hx
    have hy' := hs y hy
    exact hn ⟨x.toNat, by omega⟩ ⟨y.toNat, by omega⟩ (setI_iff.2 (by show ((x.toNat : Nat) : Int) ∈ w; rw [Int.toNat_of_nonneg hx'.1]; exact hx)) (setI_iff.2 (by show ((y.toNat : Nat) : Int) ∈ s; rw [Int.toNat_of_nonneg hy'.1]; exact hy))
def AbT (t : List (List Int)) (w s : List Int) : Prop := ∀ x y, setI w x = true → setI w y = true → setI s (cmN t x y) = true
theorem abT (h : Grp t) {w s : List Int} (hw : ClL t w) : AbT t w s ↔ (gpT h).Ab (pS w) (pS s) :=
  ⟨fun ha x y hx hy => ha x.1 y.1 hx hy, fun ha x y hx hy => ha ⟨x, hw.lt hx⟩ ⟨y, hw.lt hy⟩ hx hy⟩
theorem cloW_nm (h : Grp t) {w g : List Int} (hw : ClL t w) (hg : inT t g) : NrmIn t w (ascV t.length (cloF t w g)) := by
  have hin := cloW_in h hw.ins hg
  intro y hy z hz
  have hy' := hw.ins y hy
  have hz' := ascV_in hz
  have hm : Mk t ((oneN t : Int) :: cjL t w g) z.toNat := (genL_set (by omega)).1 (setI_iff.2 (by rw [Int.toNat_of_nonneg hz'.1]; exact hz))
  refine (genL_set (cjN_lt h (by omega) (by omega))).2 ?_
  refine (mk_least (S := fun z => z < t.length ∧ Mk t ((oneN t : Int) :: cjL t w g) (cjN t y.toNat z)) (fun a ha => ?_) (fun a b ha hb => ?_) hm).2
  · have ha' := hin a ha
    refine ⟨by omega, ?_⟩
    rcases List.mem_cons.1 ha with rfl | ha
    · rw [Int.toNat_natCast, cj_one h (by omega)]
      have := Mk.gen (t := t) (g := (oneN t : Int)) (gens := (oneN t : Int) :: cjL t w g) List.mem_cons_self
      rwa [Int.toNat_natCast] at this
    · obtain ⟨b, hb, x, hx, rfl⟩ := mem_cjL.1 ha
      have hx' := hw.ins x hx
      have hb' := hg b hb
      rw [Int.toNat_natCast, cj_cj h (by omega) (by omega) (by omega)]
      have hyx := hw.cl _ _ (by omega) (by omega) (hw.iset hy) (hw.iset hx)
      have := Mk.gen (t := t) (List.mem_cons_of_mem (oneN t : Int) ((mem_cjL (t := t)).2 ⟨b, hb, _, setI_iff.1 hyx, rfl⟩))
      rw [Int.toNat_natCast, Int.toNat_natCast] at this
      exact this
  · refine ⟨(h.toSh.ent ha.1 hb.1).2, ?_⟩
    rw [cj_mul h (by omega) ha.1 hb.1]
    exact .mul ha.2 hb.2
theorem cloW_has (h : Grp t) {w g : List Int} (hw : ClL t w) (hg : inT t g) : ∀ x ∈ g, setI (ascV t.length (cloF t w g)) x.toNat = true := fun x hx => by
  have hx' := hg x hx
  refine (genL_set (by omega)).2 ?_
  have := Mk.gen (t := t) (List.mem_cons_of_mem (oneN t : Int) ((mem_cjL (t := t)).2 ⟨x, hx, _, setI_iff.1 (hw.one h), rfl⟩))
  rw [Int.toNat_natCast, Int.toNat_natCast, one_cj h (by omega)] at this
  exact this
theorem mxT (h : Grp t) {w s : List Int} (hw : ClL t w) (hs : ClL t s) (hsw : ∀ x ∈ s, x ∈ w) (hn : NrmIn t w s) : Mx t w s ↔ (gpT h).Mx (pS w) (pS s) := by
  have hsub : ∀ x : Fin t.length, pS s x → pS w x := fun x hx => setI_iff.2 (hsw _ (setI_iff.1 hx))
  constructor
  · rintro ⟨hne, hgd⟩
    refine ⟨sgT h hw, sgT h hs, hsub, (nmT h hw.ins hs.ins).1 hn, ?_, fun L hL h1 h2 h3 => ?_⟩
    · refine Classical.byContradiction fun hno => hne ?_
      have : s = w := asc_mem_ext hs hw fun x hx => ⟨fun hm => hsub ⟨x, hx⟩ hm, fun hm => Classical.byContradiction fun hnm => hno ⟨⟨x, hx⟩, hm, hnm⟩⟩
      rw [this]
    · by_cases hex : ∃ x, L x ∧ ¬ pS s x
      · obtain ⟨x, hx, hnx⟩ := hex
        have hg := hgd (x.1 : Int) (setI_iff.1 (h2 x hx)) (fun hm => hnx (setI_iff.2 hm))
        rw [Int.toNat_natCast] at hg
        refine .inr fun y hy => ?_
        have hm := hg (y.1 : Int) (setI_iff.1 hy)
        rw [Int.toNat_natCast] at hm
        refine (mk_least (S := fun z => ∃ hz : z < t.length, L ⟨z, hz⟩) (fun a ha => ?_) (fun a b ⟨ha, la⟩ ⟨hb, lb⟩ => ⟨(h.toSh.ent ha hb).2, hL.mul _ _ la lb⟩) hm).2
        rcases List.mem_cons.1 ha with rfl | ha
        · exact ⟨by rw [Int.toNat_natCast]; exact h.one.1, hL.one⟩
        · obtain ⟨b, hb, z, hz, rfl⟩ := mem_cjL.1 ha
          have hz' := hw.ins z hz
          rw [Int.toNat_natCast]
          rcases List.mem_append.1 hb with hb | hb
          · have hb' := hs.ins b hb
            refine ⟨cjN_lt h (by omega) (by omega), ?_⟩
            exact h3 ⟨z.toNat, by omega⟩ ⟨b.toNat, by omega⟩ (hw.iset hz) (h1 _ (hs.iset hb))
          · rw [List.mem_singleton] at hb
            subst hb
            have hxx := x.2
            refine ⟨cjN_lt h (by omega) (by omega), ?_⟩
            exact h3 ⟨z.toNat, by omega⟩ x (hw.iset hz) hx
      · exact .inl fun x hx => Classical.byContradiction fun hnx => hex ⟨x, hx, hnx⟩
  · intro hm
    refine ⟨fun hl => ?_, fun x hx hxs => ?_⟩
    · have := (asc_sub_len hs hw fun x hx hmx => hsub ⟨x, hx⟩ hmx).2 hl
      obtain ⟨x, hx, hnx⟩ := hm.ne
      rw [this] at hnx; exact hnx hx
    · have hx' := hw.ins x hx
      have hg : ∀ y ∈ s ++ [((x.toNat : Nat) : Int)], y ∈ w := fun y hy => (List.mem_append.1 hy).elim (hsw y) fun hy => by rw [List.mem_singleton] at hy; rw [hy, Int.toNat_of_nonneg hx'.1]; exact hx
      have hgi : inT t (s ++ [((x.toNat : Nat) : Int)]) := fun y hy => hw.ins y (hg y hy)
      have hcl := cloW_cl h hw.ins hgi
      have hhas := cloW_has h hw hgi
      have hsv : ∀ y : Fin t.length, pS s y → pS (ascV t.length (cloF t w (s ++ [((x.toNat : Nat) : Int)]))) y := fun y hy => by
        have := hhas (y.1 : Int) (List.mem_append_left _ (setI_iff.1 hy))
        rwa [Int.toNat_natCast] at this
      rcases hm.mx (pS (ascV t.length (cloF t w (s ++ [((x.toNat : Nat) : Int)])))) (sgT h hcl) hsv (fun y hy => cloW_sub h hw hg y.1 y.2 hy) ((nmT h hw.ins hcl.ins).1 (cloW_nm h hw hgi)) with h1 | h1
      · have h2 := hhas ((x.toNat : Nat) : Int) (by simp)
        rw [Int.toNat_natCast] at h2
        have h3 := h1 ⟨x.toNat, by omega⟩ h2
        exact absurd (by have := setI_iff.1 h3; rwa [Int.toNat_of_nonneg hx'.1] at this) hxs
      · intro y hy
        have hy' := hw.ins y hy
        exact (genL_set (by omega)).1 (h1 ⟨y.toNat, by omega⟩ (hw.iset hy))
end
end Go.Proofs.YtpanlghofeebhaaGreat
end
