import Derived.Test.YtjlkhjgnfnfmgaaGreatSgpLaw
import Derived.Test.YtjlkhjgnfnfmgaaGreatPart
import Derived.Test.YtjlkhjgnfnfmgaaGreatOrd
import Derived.Test.YtjlkhjgnfnfmgaaGreatMult
section
/- Plain: normal subgroups: closures, joins, how many subgroups a small group has, the list of all. -/
namespace Go.Proofs.YtjlkhjgnfnfmgaaGreat
structure NS (t : List (List Int)) (l : List Int) : Prop where
  cl : ClL t l
  nrm : NrmIn t (allI t) l
theorem ClL.self {t : List (List Int)} {l : List Int} (h : ClL t l) : ascV t.length (setI l) = l := ascV_self h.asc h.ins
noncomputable def nsB (t : List (List Int)) (l : List Int) : Bool := @decide (NS t l) (Classical.propDecidable _)
theorem nsB_true {t : List (List Int)} {l : List Int} : nsB t l = true ↔ NS t l := by unfold nsB; exact @decide_eq_true_iff _ (Classical.propDecidable _)
noncomputable def nsL (t : List (List Int)) : List (List Int) := srt cmpS (firsts ((allSets t.length).filter fun l => nsB t l))
theorem nsL_mem {t : List (List Int)} {l : List Int} : l ∈ nsL t ↔ NS t l := by
  unfold nsL
  rw [srt_mem, mem_firsts, List.mem_filter, nsB_true]
  exact ⟨fun h => h.2, fun h => ⟨allSets_mem h.cl.self, h⟩⟩
theorem nsL_srt (t : List (List Int)) : Srt cmpS (nsL t) := srt_srt cmpS_tot (firsts_nodup _)
theorem nsL_of {t : List (List Int)} {F : List (List Int)} (hn : F.Nodup) (hF : ∀ l, l ∈ F ↔ NS t l) : srt cmpS F = nsL t :=
  srt_of cmpS_tot hn (nsL_srt t) fun l => by rw [hF, nsL_mem]
section
variable {t : List (List Int)}
theorem asc_mem_ext {l m : List Int} (hl : ClL t l) (hm : ClL t m) (h : ∀ x, x < t.length → (setI l x = true ↔ setI m x = true)) : l = m := by
  rw [← hl.self, ← hm.self]
  exact ascV_congr fun x hx => Bool.eq_iff_iff.2 (h x hx)
theorem genL_set {l : List Int} {x : Nat} (hx : x < t.length) : setI (genL t l) x = true ↔ Mk t l x := by
  unfold genL; rw [ascV_set hx, genF_iff]
theorem mk_in {l : List Int} {x : Nat} (h : setI l x = true) : Mk t l x := by
  have := Mk.gen (t := t) (setI_iff.1 h)
  rwa [Int.toNat_natCast] at this
theorem genL_cl (hs : Sh t) {l : List Int} (hl : inT t l) (h0 : 0 < l.length) : ClL t (genL t l) := by
  refine ⟨?_, ascV_asc _ _, fun x hx => ascV_in hx, fun x y hx hy h1 h2 => ?_⟩
  · have hg := hl _ (getD_mem (d := 0) h0)
    have : setI (genL t l) (l.getD 0 0).toNat = true := (genL_set (by omega)).2 (.gen (getD_mem h0))
    exact List.length_pos_of_mem (setI_iff.1 this)
  · exact (genL_set (hs.ent hx hy).2).2 (.mul ((genL_set hx).1 h1) ((genL_set hy).1 h2))
theorem ClL.has {l m : List Int} (h : ClL t l) (hm : ∀ x ∈ m, x ∈ l) {x : Nat} (k : Mk t m x) : setI l x = true :=
  mk_least (S := fun x => setI l x = true) (fun g hg => by
    have := h.ins g (hm g hg)
    exact setI_iff.2 (by rw [Int.toNat_of_nonneg this.1]; exact hm g hg)) (fun a b ha hb => h.cl a b (h.lt ha) (h.lt hb) ha hb) k
theorem cj_one (h : Grp t) {x : Nat} (hx : x < t.length) : cjN t x (oneN t) = oneN t := by
  unfold cjN
  rw [(h.one.2.1 x hx).2, (h.ninv hx).2.1]
theorem one_cj (h : Grp t) {x : Nat} (hx : x < t.length) : cjN t (oneN t) x = x := by
  have e : invN t (oneN t) = oneN t := (h.inv_uniq h.one.1 h.one.1 (h.one.2.1 _ h.one.1).1).symm
  unfold cjN
  rw [(h.one.2.1 x hx).1, e, (h.one.2.1 x hx).2]
theorem cj_mul (h : Grp t) {x a b : Nat} (hx : x < t.length) (ha : a < t.length) (hb : b < t.length) : cjN t x (en t a b) = en t (cjN t x a) (cjN t x b) := by
  have hs := h.toSh
  have hi := (h.ninv hx)
  have hxa := (hs.ent hx ha).2
  have hxb := (hs.ent hx hb).2
  have hib := (hs.ent hi.1 (hs.ent hxb hi.1).2).2
  unfold cjN
  rw [assoc3 h.assoc hxa hi.1 (hs.ent hxb hi.1).2, assoc3 h.assoc hx hb hi.1, ← assoc3 h.assoc hi.1 hx (hs.ent hb hi.1).2, hi.2.2, (h.one.2.1 _ (hs.ent hb hi.1).2).1, ← assoc3 h.assoc hxa hb hi.1, assoc3 h.assoc hx ha hb]
theorem gen_nrm (h : Grp t) {l : List Int} (hl : inT t l) (hc : ∀ x g, x < t.length → g ∈ l → Mk t l (cjN t x g.toNat)) : NrmIn t (allI t) (genL t l) := fun x hx y hy => by
  have hx := mem_disI.1 hx
  have hy' := ascV_in hy
  have hxl : x.toNat < t.length := by omega
  have m : Mk t l y.toNat := (genL_set (by omega)).1 (setI_iff.2 (by rw [Int.toNat_of_nonneg hy'.1]; exact hy))
  have : y.toNat < t.length ∧ Mk t l (cjN t x.toNat y.toNat) := mk_least (S := fun y => y < t.length ∧ Mk t l (cjN t x.toNat y)) (fun g hg => by
    have := hl g hg
    exact ⟨by omega, hc _ g hxl hg⟩) (fun a b ha hb => ⟨(h.toSh.ent ha.1 hb.1).2, by rw [cj_mul h hxl ha.1 hb.1]; exact .mul ha.2 hb.2⟩) m
  exact (genL_set (cjN_lt h hxl this.1)).2 this.2
noncomputable abbrev cloL (t : List (List Int)) (g : List Int) : List Int := genL t ((oneN t : Int) :: cjL t (allI t) g)
theorem clo_in (h : Grp t) {g : List Int} (hg : inT t g) : inT t ((oneN t : Int) :: cjL t (allI t) g) := fun y hy => by
  rcases List.mem_cons.1 hy with rfl | hy
  · have := h.one.1; omega
  · obtain ⟨b, hb, a, ha, rfl⟩ := mem_cjL.1 hy
    have := mem_disI.1 ha
    have := hg b hb
    have := cjN_lt h (x := a.toNat) (y := b.toNat) (by omega) (by omega)
    omega
theorem clo_ns (h : Grp t) {g : List Int} (hg : inT t g) : NS t (cloL t g) := by
  have hin := clo_in h hg
  refine ⟨genL_cl h.toSh hin (by simp), gen_nrm h hin fun x y hx hy => ?_⟩
  rcases List.mem_cons.1 hy with rfl | hy
  · rw [Int.toNat_natCast, cj_one h hx]
    have := Mk.gen (t := t) (List.mem_cons_self (a := (oneN t : Int)) (l := cjL t (allI t) g))
    rwa [Int.toNat_natCast] at this
  · obtain ⟨b, hb, a, ha, rfl⟩ := mem_cjL.1 hy
    have ha := mem_disI.1 ha
    have hb' := hg b hb
    rw [Int.toNat_natCast, cj_cj h hx (by omega) (by omega)]
    have := Mk.gen (t := t) (List.mem_cons_of_mem (oneN t : Int) ((mem_cjL (t := t)).2 ⟨b, hb, ((en t x a.toNat : Nat) : Int), (mem_disI (n := t.length)).2 (by have := (h.toSh.ent hx (y := a.toNat) (by omega)).2; omega), rfl⟩))
    rwa [Int.toNat_natCast, Int.toNat_natCast] at this
theorem clo_has (h : Grp t) {g : List Int} (hg : inT t g) : ∀ x ∈ g, x ∈ cloL t g := fun x hx => by
  have hx' := hg x hx
  have : setI (cloL t g) x.toNat = true := (genL_set (by omega)).2 (by
    have := Mk.gen (t := t) (List.mem_cons_of_mem (oneN t : Int) ((mem_cjL (t := t)).2 ⟨x, hx, (oneN t : Int), (mem_disI (n := t.length)).2 (by have := h.one.1; omega), rfl⟩))
    rwa [Int.toNat_natCast, Int.toNat_natCast, one_cj h (by omega)] at this)
  have := setI_iff.1 this
  rwa [Int.toNat_of_nonneg hx'.1] at this
theorem NS.has_clo (h : Grp t) {l g : List Int} (hl : NS t l) (hg : ∀ x ∈ g, x ∈ l) : ∀ x, x < t.length → setI (cloL t g) x = true → setI l x = true := fun x hx hm => by
  refine hl.cl.has (m := (oneN t : Int) :: cjL t (allI t) g) (fun y hy => ?_) ((genL_set hx).1 hm)
  rcases List.mem_cons.1 hy with rfl | hy
  · exact setI_iff.1 (hl.cl.one h)
  · obtain ⟨b, hb, a, ha, rfl⟩ := mem_cjL.1 hy
    exact setI_iff.1 (hl.nrm a ha b (hg b hb))
noncomputable def jnL (t : List (List Int)) (a b : List Int) : List Int := genL t (a ++ b)
theorem jn_ns (h : Grp t) {a b : List Int} (ha : NS t a) (hb : NS t b) : NS t (jnL t a b) := by
  have hin : inT t (a ++ b) := fun x hx => (List.mem_append.1 hx).elim (ha.cl.ins x) (hb.cl.ins x)
  refine ⟨genL_cl h.toSh hin (by have := ha.cl.pos; rw [List.length_append]; omega), gen_nrm h hin fun x g hx hg => mk_in ?_⟩
  have hxm : (x : Int) ∈ allI t := mem_disI.2 (by omega)
  rcases List.mem_append.1 hg with hg | hg
  · have := ha.nrm _ hxm g hg
    rw [Int.toNat_natCast] at this
    exact setI_iff.2 (List.mem_append_left _ (setI_iff.1 this))
  · have := hb.nrm _ hxm g hg
    rw [Int.toNat_natCast] at this
    exact setI_iff.2 (List.mem_append_right _ (setI_iff.1 this))
theorem jn_left {a b : List Int} (ha : ClL t a) {x : Nat} (hm : setI a x = true) : setI (jnL t a b) x = true :=
  (genL_set (ha.lt hm)).2 (mk_in (setI_iff.2 (List.mem_append_left _ (setI_iff.1 hm))))
theorem jn_right {a b : List Int} (hb : ClL t b) {x : Nat} (hm : setI b x = true) : setI (jnL t a b) x = true :=
  (genL_set (hb.lt hm)).2 (mk_in (setI_iff.2 (List.mem_append_right _ (setI_iff.1 hm))))
theorem jn_least {a b l : List Int} (hl : ClL t l) (ha : ∀ x ∈ a, x ∈ l) (hb : ∀ x ∈ b, x ∈ l) {x : Nat} (hx : x < t.length) (hm : setI (jnL t a b) x = true) : setI l x = true :=
  hl.has (m := a ++ b) (fun y hy => (List.mem_append.1 hy).elim (ha y) (hb y)) ((genL_set hx).1 hm)
theorem NS.sub (_h : Grp t) {l m : List Int} (hl : NS t l) (hs : ∀ x, x < t.length → setI l x = true → setI m x = true) : ∀ x ∈ l, x ∈ m := fun x hx => by
  have hi := hl.cl.ins x hx
  have := setI_iff.1 (hs x.toNat (by omega) (setI_iff.2 (by rw [Int.toNat_of_nonneg hi.1]; exact hx)))
  rwa [Int.toNat_of_nonneg hi.1] at this
theorem jn_prod (h : Grp t) {a b : List Int} (ha : NS t a) (hb : NS t b) {z : Nat} (hz : z < t.length) : setI (jnL t a b) z = true ↔ ∃ x y, setI a x = true ∧ setI b y = true ∧ z = en t x y := by
  constructor
  · intro hm
    have m := (genL_set hz).1 hm
    refine (mk_least (S := fun z => z < t.length ∧ ∃ x y, setI a x = true ∧ setI b y = true ∧ z = en t x y) (fun g hg => ?_) (fun p q hp hq => ?_) m).2
    · rcases List.mem_append.1 hg with hg | hg
      · have hi := ha.cl.ins g hg
        exact ⟨by omega, g.toNat, oneN t, setI_iff.2 (by rw [Int.toNat_of_nonneg hi.1]; exact hg), hb.cl.one h, (h.one.2.1 _ (by omega)).2.symm⟩
      · have hi := hb.cl.ins g hg
        exact ⟨by omega, oneN t, g.toNat, ha.cl.one h, setI_iff.2 (by rw [Int.toNat_of_nonneg hi.1]; exact hg), (h.one.2.1 _ (by omega)).1.symm⟩
    · obtain ⟨hpl, x, y, hx, hy, rfl⟩ := hp
      obtain ⟨hql, u, v, hu, hv, rfl⟩ := hq
      have hs := h.toSh
      have lx := ha.cl.lt hx
      have ly := hb.cl.lt hy
      have lu := ha.cl.lt hu
      have lv := hb.cl.lt hv
      refine ⟨(hs.ent hpl hql).2, en t x (cjN t y u), en t y v, ha.cl.cl _ _ lx (cjN_lt h ly lu) hx ?_, hb.cl.cl _ _ ly lv hy hv, ?_⟩
      · have := ha.nrm (y : Int) (mem_disI.2 (by omega)) (u : Int) (setI_iff.1 hu)
        rwa [Int.toNat_natCast, Int.toNat_natCast] at this
      · -- x y u v = x (y u y^-1) y v
        have hyu := (hs.ent ly lu).2
        have iy := (h.ninv ly)
        have e1 : en t (cjN t y u) (en t y v) = en t (en t y u) v := by
          unfold cjN
          rw [assoc3 h.assoc hyu iy.1 (hs.ent ly lv).2, ← assoc3 h.assoc iy.1 ly lv, iy.2.2, (h.one.2.1 v lv).1]
        rw [assoc3 h.assoc lx (cjN_lt h ly lu) (hs.ent ly lv).2, e1, assoc3 h.assoc lx ly (hs.ent lu lv).2, ← assoc3 h.assoc ly lu lv]
  · rintro ⟨x, y, hx, hy, rfl⟩
    have hab : ∀ {z}, setI (jnL t a b) z = true → Mk t (a ++ b) z := fun {z} hz => by
      have : z < t.length := by have := ascV_in (setI_iff.1 hz); omega
      exact (genL_set this).1 hz
    exact (genL_set hz).2 (.mul (hab (jn_left ha.cl hx)) (hab (jn_right hb.cl hy)))
theorem ns_all (h : Grp t) {F : List (List Int)} (hF : ∀ a ∈ F, NS t a) (h1 : [(oneN t : Int)] ∈ F) (hc : ∀ a ∈ F, ∀ x, x < t.length → jnL t a (cloL t [(x : Int)]) ∈ F) : ∀ l, NS t l → l ∈ F := by
  intro l hl
  have key : ∀ k, k ≤ l.length → ∃ a ∈ F, (∀ x, x < t.length → setI a x = true → setI l x = true) ∧ ∀ i, i < k → setI a (l.getD i 0).toNat = true := by
    intro k
    induction k with
    | zero =>
      intro _
      refine ⟨_, h1, fun x hx hm => ?_, fun i hi => absurd hi (Nat.not_lt_zero _)⟩
      have : x = oneN t := by have := setI_iff.1 hm; rw [List.mem_singleton] at this; omega
      rw [this]; exact hl.cl.one h
    | succ k ih =>
      intro hk
      obtain ⟨a, ha, hsub, hhas⟩ := ih (by omega)
      have hlk := hl.cl.ins _ (getD_mem (d := 0) (show k < l.length by omega))
      have hcs : (((l.getD k 0).toNat : Nat) : Int) = l.getD k 0 := Int.toNat_of_nonneg hlk.1
      have hg : inT t [(((l.getD k 0).toNat : Nat) : Int)] := fun y hy => by rw [List.mem_singleton] at hy; omega
      have hcl := clo_ns h hg
      refine ⟨_, hc a ha (l.getD k 0).toNat (by omega), fun x hx hm => ?_, fun i hi => ?_⟩
      · exact jn_least hl.cl ((hF a ha).sub h hsub) (hcl.sub h (hl.has_clo h fun y hy => by rw [List.mem_singleton] at hy; rw [hy, hcs]; exact getD_mem (by omega))) hx hm
      · by_cases e : i = k
        · subst e
          exact jn_right hcl.cl (setI_iff.2 (clo_has h hg _ (by simp)))
        · exact jn_left (hF a ha).cl (hhas i (by omega))
  obtain ⟨a, ha, hsub, hhas⟩ := key l.length (Nat.le_refl _)
  have : a = l := asc_mem_ext (hF a ha).cl hl.cl fun x hx => ⟨hsub x hx, fun hm => by
    obtain ⟨i, hi, hv⟩ := mem_getD 0 (setI_iff.1 hm)
    have := hhas i hi
    rwa [hv, Int.toNat_natCast] at this⟩
  rw [← this]; exact ha
theorem one_ns (h : Grp t) : NS t [(oneN t : Int)] := by
  have ho := h.one
  have he : ∀ {x}, setI [(oneN t : Int)] x = true ↔ x = oneN t := fun {x} => by rw [setI_iff, List.mem_singleton]; omega
  refine ⟨⟨by simp, fun i hi => by simp at hi, fun x hx => by rw [List.mem_singleton] at hx; omega, fun x y hx hy h1 h2 => ?_⟩, fun x hx y hy => ?_⟩
  · rw [he] at h1 h2 ⊢
    rw [h1, h2]; exact (ho.2.1 _ ho.1).1
  · rw [List.mem_singleton] at hy
    have := mem_disI.1 hx
    rw [hy, Int.toNat_natCast, cj_one h (by omega)]; exact he.2 rfl
/-! ### How many -/
def subsK : Nat → List Int → List (List Int)
  | 0, _ => [[]] | _ + 1, [] => [[]] | k + 1, a :: l => subsK (k + 1) l ++ (subsK k l).map (a :: ·)
theorem subsK_mem : ∀ {k : Nat} {l m : List Int}, m.Sublist l → m.length ≤ k → m ∈ subsK k l
  | 0, l, m, _, h => by
    have : m = [] := List.eq_nil_of_length_eq_zero (by omega)
    subst this; cases l <;> simp [subsK]
  | k + 1, [], m, hs, _ => by
    have : m = [] := List.sublist_nil.1 hs
    subst this; simp [subsK]
  | k + 1, a :: l, m, hs, h => by
    simp only [subsK, List.mem_append, List.mem_map]
    cases hs with
    | cons _ hs => exact .inl (subsK_mem hs h)
    | cons_cons _ hs => exact .inr ⟨_, subsK_mem hs (by simpa using h), rfl⟩
def subsN : Nat → Nat → Nat
  | 0, _ => 1 | _ + 1, 0 => 1 | k + 1, n + 1 => subsN (k + 1) n + subsN k n
theorem subsK_len : ∀ (k : Nat) (l : List Int), (subsK k l).length = subsN k l.length
  | 0, l => by cases l <;> simp [subsK, subsN]
  | k + 1, [] => rfl
  | k + 1, a :: l => by simp [subsK, subsN, subsK_len (k + 1) l, subsK_len k l]
theorem gen_double (h : Grp t) {g : List Int} {y : Nat} (hg : inT t g) (h1 : (oneN t : Int) ∈ g) (hy : y < t.length) (hn : ¬ Mk t g y) : 2 * (genL t g).length ≤ (genL t (g ++ [(y : Int)])).length := by
  have hs := h.toSh
  have hcl := genL_cl hs hg (List.length_pos_of_mem h1)
  have hin2 : inT t (g ++ [(y : Int)]) := fun x hx => (List.mem_append.1 hx).elim (hg x) fun hx => by rw [List.mem_singleton] at hx; omega
  have up : ∀ {x}, Mk t g x → Mk t (g ++ [(y : Int)]) x := fun m => m.mono fun a ha => List.mem_append_left _ ha
  have hmy : Mk t (g ++ [(y : Int)]) y := by
    have := Mk.gen (t := t) (show (y : Int) ∈ g ++ [(y : Int)] by simp)
    rwa [Int.toNat_natCast] at this
  have hnd : (genL t g).Nodup := (pairwise_adj hcl.asc).imp fun {a b} hab e => by omega
  obtain ⟨S, hS⟩ : ∃ S, S = genL t g := ⟨_, rfl⟩
  rw [← hS] at hcl hnd ⊢
  have hset : ∀ {x}, x < t.length → (setI S x = true ↔ Mk t g x) := fun {x} hx => by rw [hS]; exact genL_set hx
  have hsi : ∀ {x : Int}, x ∈ S → setI S x.toNat = true := fun {x} hx => setI_iff.2 (by rw [Int.toNat_of_nonneg (hcl.ins x hx).1]; exact hx)
  have hsub : ∀ z ∈ S ++ S.map (fun x => ((en t y x.toNat : Nat) : Int)), z ∈ genL t (g ++ [(y : Int)]) := fun z hz => by
    rcases List.mem_append.1 hz with hz | hz
    · have hi := hcl.ins z hz
      have m := (hset (x := z.toNat) (by omega)).1 (hsi hz)
      have := setI_iff.1 ((genL_set (t := t) (by omega)).2 (up m))
      rwa [Int.toNat_of_nonneg hi.1] at this
    · obtain ⟨x, hx, rfl⟩ := List.mem_map.1 hz
      have hi := hcl.ins x hx
      have m := (hset (x := x.toNat) (by omega)).1 (hsi hx)
      exact setI_iff.1 ((genL_set (t := t) (hs.ent hy (y := x.toNat) (by omega)).2).2 (.mul hmy (up m)))
  have hLn : (S ++ S.map (fun x => ((en t y x.toNat : Nat) : Int))).Nodup := by
    have h2nd : (S.map (fun x => ((en t y x.toNat : Nat) : Int))).Nodup := List.pairwise_map.2 (hnd.imp_of_mem fun {a b} ha hb hab e => hab (by
      have ia := hcl.ins a ha
      have ib := hcl.ins b hb
      have := h.cancelL (a := a.toNat) (b := b.toNat) (c := y) (by omega) (by omega) hy (by omega)
      omega))
    refine List.nodup_append.2 ⟨hnd, h2nd, fun a ha b hb e => ?_⟩
    · obtain ⟨x, hx, rfl⟩ := List.mem_map.1 hb
      have ix := hcl.ins x hx
      subst e
      have hxl : x.toNat < t.length := by omega
      have hm1 : setI S (en t y x.toNat) = true := setI_iff.2 ha
      have hm3 := hcl.inv h (hsi hx)
      have hyx := (hs.ent hy hxl).2
      have hi := h.ninv hxl
      have hm4 := hcl.cl _ _ hyx hi.1 hm1 hm3
      rw [assoc3 h.assoc hy hxl hi.1, hi.2.1, (h.one.2.1 y hy).2] at hm4
      exact hn ((hset hy).1 hm4)
  have := hLn.length_le_of_subset (l₂ := genL t (g ++ [(y : Int)])) hsub
  rw [List.length_append, List.length_map] at this
  omega
theorem few_gens (h : Grp t) {l : List Int} (hl : ClL t l) : ∀ i, ∃ g : List Int, Asc g ∧ (∀ x ∈ g, x ∈ l ∧ x ≠ (oneN t : Int)) ∧ g.length ≤ i ∧
    ((∀ x, setI l x = true → Mk t ((oneN t : Int) :: g) x) ∨ (g.length = i ∧ 2 ^ i ≤ (genL t ((oneN t : Int) :: g)).length ∧ ∀ x, setI l x = true → ∀ y ∈ g, (x : Int) ≤ y → Mk t ((oneN t : Int) :: g) x))
  | 0 => ⟨[], fun i hi => absurd hi (Nat.not_lt_zero _), by simp, by simp, .inr ⟨rfl, by
      have := (genL_cl h.toSh (l := [(oneN t : Int)]) (fun x hx => by rw [List.mem_singleton] at hx; have := h.one.1; omega) (by simp)).pos
      show 1 ≤ _
      exact this, fun x hx y hy => by cases hy⟩⟩
  | i + 1 => by
    obtain ⟨g, g1, g2, g3, g4⟩ := few_gens h hl i
    rcases g4 with g4 | ⟨g4, g5, g6⟩
    · exact ⟨g, g1, g2, by omega, .inl g4⟩
    by_cases hall : ∀ x, setI l x = true → Mk t ((oneN t : Int) :: g) x
    · exact ⟨g, g1, g2, by omega, .inl hall⟩
    have hex : ∃ y, y < t.length ∧ (setI l y = true ∧ ¬ Mk t ((oneN t : Int) :: g) y) := by
      refine Classical.byContradiction fun hno => hall fun x hx => Classical.byContradiction fun hm => hno ⟨x, hl.lt hx, hx, hm⟩
    obtain ⟨y, hy, ⟨hyl, hym⟩, hleast⟩ := least_ex hex
    have hgt : ∀ z ∈ g, z < (y : Int) := fun z hz => Classical.byContradiction fun hge => hym (g6 y hyl z hz (by omega))
    have hin : inT t ((oneN t : Int) :: g) := fun x hx => by
      rcases List.mem_cons.1 hx with rfl | hx
      · have := h.one.1; omega
      · exact hl.ins x (g2 x hx).1
    have hd := gen_double h hin (by simp) hy hym
    rw [List.cons_append] at hd
    refine ⟨g ++ [(y : Int)], asc_of (List.pairwise_append.2 ⟨pairwise_adj g1, by simp, fun a ha b hb => by rw [List.mem_singleton] at hb; rw [hb]; exact hgt a ha⟩), fun x hx => ?_, by simp; omega, .inr ⟨by simp; omega, by rw [Nat.pow_succ]; omega, fun x hx z hz hxz => ?_⟩⟩
    · rcases List.mem_append.1 hx with hx | hx
      · exact g2 x hx
      · rw [List.mem_singleton] at hx
        subst hx
        refine ⟨setI_iff.1 hyl, fun e => hym ?_⟩
        have e : y = oneN t := by omega
        rw [e]; exact mk_in (setI_iff.2 (by simp))
    · have up : ∀ {x}, Mk t ((oneN t : Int) :: g) x → Mk t ((oneN t : Int) :: (g ++ [(y : Int)])) x := fun m => m.mono fun a ha => by
        rcases List.mem_cons.1 ha with rfl | ha
        · exact List.mem_cons_self
        · exact List.mem_cons_of_mem _ (List.mem_append_left _ ha)
      rcases List.mem_append.1 hz with hz | hz
      · exact up (g6 x hx z hz hxz)
      · rw [List.mem_singleton] at hz
        by_cases e : x = y
        · rw [e]; exact mk_in (setI_iff.2 (by simp))
        · exact up (Classical.byContradiction fun hm => hleast x (by omega) ⟨hx, hm⟩)
theorem four_gens (h : Grp t) (hn : t.length ≤ 16) {l : List Int} (hl : ClL t l) : ∃ g : List Int, g ∈ subsK 4 (ascV t.length fun x => decide (x ≠ oneN t)) ∧ ∀ x, x < t.length → (setI l x = true ↔ Mk t ((oneN t : Int) :: g) x) := by
  obtain ⟨g, g1, g2, g3, g4⟩ := few_gens h hl 4
  have hin : ∀ x ∈ g, 0 ≤ x ∧ x < (t.length : Int) := fun x hx => hl.ins x (g2 x hx).1
  have hinc : inT t ((oneN t : Int) :: g) := fun x hx => by
    rcases List.mem_cons.1 hx with rfl | hx
    · have := h.one.1; omega
    · exact hin x hx
  refine ⟨g, subsK_mem ?_ g3, fun x hx => ⟨fun hm => ?_, fun m => hl.has (m := (oneN t : Int) :: g) (fun y hy => ?_) m⟩⟩
  · rw [← ascV_self g1 hin]
    refine ascV_sub fun x _ hm => decide_eq_true fun e => ?_
    exact (g2 _ (setI_iff.1 hm)).2 (by omega)
  · rcases g4 with g4 | ⟨_, g5, _⟩
    · exact g4 x hm
    · have hcl := genL_cl h.toSh hinc (by simp)
      have hnd : (genL t ((oneN t : Int) :: g)).Nodup := (pairwise_adj hcl.asc).imp fun {a b} hab e => by omega
      have hlen : (genL t ((oneN t : Int) :: g)).length = t.length := by
        have := ascV_len t.length (genF t ((oneN t : Int) :: g))
        have g5 : 2 ^ 4 ≤ (genL t ((oneN t : Int) :: g)).length := g5
        have : (genL t ((oneN t : Int) :: g)).length ≤ t.length := this
        omega
      refine Classical.byContradiction fun hno => ?_
      have := (List.nodup_cons.2 ⟨fun hm' => hno ((genL_set hx).1 (setI_iff.2 hm')), hnd⟩ : ((x : Int) :: genL t ((oneN t : Int) :: g)).Nodup)
      have := nodup_len (n := t.length) this fun y hy => by
        rcases List.mem_cons.1 hy with rfl | hy
        · omega
        · exact ascV_in hy
      rw [List.length_cons] at this; omega
  · rcases List.mem_cons.1 hy with rfl | hy
    · exact setI_iff.1 (hl.one h)
    · exact (g2 y hy).1
theorem few_subs (h : Grp t) (hn : t.length ≤ 16) {F : List (List Int)} (hF : ∀ a ∈ F, ClL t a) (hnd : F.Nodup) : F.length ≤ 1941 := by
  have ch : ∀ a : List Int, ∃ g : List Int, a ∈ F → g ∈ subsK 4 (ascV t.length fun x => decide (x ≠ oneN t)) ∧ ∀ x, x < t.length → (setI a x = true ↔ Mk t ((oneN t : Int) :: g) x) := fun a => by
    by_cases ha : a ∈ F
    · obtain ⟨g, hg⟩ := four_gens h hn (hF a ha); exact ⟨g, fun _ => hg⟩
    · exact ⟨[], fun hh => absurd hh ha⟩
  let G : List Int → List Int := fun a => Classical.choose (ch a)
  have hG : ∀ a ∈ F, G a ∈ subsK 4 (ascV t.length fun x => decide (x ≠ oneN t)) ∧ ∀ x, x < t.length → (setI a x = true ↔ Mk t ((oneN t : Int) :: G a) x) := fun a ha => Classical.choose_spec (ch a) ha
  have hm : (F.map G).Nodup := List.pairwise_map.2 (hnd.imp_of_mem fun {a b} ha hb hab e => hab (asc_mem_ext (hF a ha) (hF b hb) fun x hx => by rw [(hG a ha).2 x hx, (hG b hb).2 x hx, e]))
  have h1 := hm.length_le_of_subset (l₂ := subsK 4 (ascV t.length fun x => decide (x ≠ oneN t))) fun g hg => by
    obtain ⟨a, ha, rfl⟩ := List.mem_map.1 hg; exact (hG a ha).1
  rw [List.length_map, subsK_len] at h1
  have h2 : (ascV t.length fun x => decide (x ≠ oneN t)).length ≤ 15 := by
    have hnd2 : (ascV t.length fun x => decide (x ≠ oneN t)).Nodup := (pairwise_adj (ascV_asc _ _)).imp fun {a b} hab e => by omega
    have := nodup_len (n := t.length) (List.nodup_cons.2 ⟨fun hm' => ?_, hnd2⟩ : ((oneN t : Int) :: ascV t.length fun x => decide (x ≠ oneN t)).Nodup) fun y hy => by
      rcases List.mem_cons.1 hy with rfl | hy
      · have := h.one.1; omega
      · exact ascV_in hy
    · rw [List.length_cons] at this; omega
    · obtain ⟨i, _, hi2, hi3⟩ := ascV_mem.1 hm'
      exact of_decide_eq_true hi2 (by omega)
  have h3 : ∀ m, m ≤ 15 → subsN 4 m ≤ 1941 := by decide +kernel
  exact Nat.le_trans h1 (h3 _ h2)
end
end Go.Proofs.YtjlkhjgnfnfmgaaGreat
end
section
/- Plain: the derived series; greatest normal subgroups of a subgroup; simple groups. -/
namespace Go.Proofs.YtjlkhjgnfnfmgaaGreat
section
variable {t : List (List Int)}
noncomputable abbrev derL (t : List (List Int)) (w : List Int) : List Int := ascV t.length (derF t w)
theorem der_in (h : Grp t) {w : List Int} (hw : inT t w) : inT t ((oneN t : Int) :: cmL t w) := fun y hy => by
  rcases List.mem_cons.1 hy with rfl | hy
  · have := h.one.1; omega
  · obtain ⟨a, ha, b, hb, rfl⟩ := mem_cmL.1 hy
    have := hw a ha
    have := hw b hb
    have := cmN_lt h (x := a.toNat) (y := b.toNat) (by omega) (by omega)
    omega
theorem der_cl (h : Grp t) {w : List Int} (hw : inT t w) : ClL t (derL t w) := genL_cl h.toSh (der_in h hw) (by simp)
theorem ClL.iset {l : List Int} (h : ClL t l) {x : Int} (hx : x ∈ l) : setI l x.toNat = true := setI_iff.2 (by rw [Int.toNat_of_nonneg (h.ins x hx).1]; exact hx)
/-! ### Greatest normal subgroups -/
theorem all_ns (h : Grp t) : NS t (allI t) := ⟨allI_cl h.toSh, fun x hx y hy => allI_set.2 (by
  have := mem_disI.1 hx
  have := mem_disI.1 hy
  exact cjN_lt h (by omega) (by omega))⟩
end
end Go.Proofs.YtjlkhjgnfnfmgaaGreat
end
section
/- What is handed over as owned may be taken as read only. -/
namespace Go.Proofs.YtjlkhjgnfnfmgaaGreat
open Go Go.AM
theorem new_ro {f : FuncId} {args : List AV} {r : RO} (h : QF f args (.new r)) : QF f args (.ro r) := by
  refine ⟨h.1, fun M w vs hM hv => (h.2 M w vs hM hv).mono fun e w' ⟨v, he, hs, M', h1, h2, hr⟩ => ?_⟩
  obtain ⟨o, rfl, hV, hf⟩ := hr
  obtain ⟨e1, e2, e3, _, hb⟩ := hV
  refine ⟨_, he, hs, fun b off => M' b off ∧ o.blk ≠ some b, fun b off hlt => ?_, fun b off hm => h2 b off hm.1, ?_⟩
  · rw [← h1 b off hlt]
    exact ⟨fun hh => hh.1, fun hh => ⟨hh, fun e => by have := hf b e; omega⟩⟩
  · have hk : Keep w' M' w' fun b off => M' b off ∧ o.blk ≠ some b := fun b off c hc hn => ⟨hc, fun hh => hn hh.1⟩
    show RepRO w' _ r o.val
    cases ho : o.blk with
    | none =>
      rw [ho] at hb
      obtain ⟨b1, b2⟩ := hb
      exact ⟨e3, none, o.cap, by unfold Sl.val; rw [ho, e1]; rfl, by omega, .inl (by unfold RO.cells; rw [b1, Nat.zero_mul])⟩
    | some b =>
      rw [ho] at hb
      obtain ⟨b1, cs, ty, b2, b3, b4, b5⟩ := hb
      refine ⟨e3, some ⟨b, 0, none⟩, o.cap, by unfold Sl.val; rw [ho, e1]; rfl, by omega, .inr ⟨b, 0, rfl, fun q hq => ?_⟩⟩
      obtain ⟨c, c1, c2⟩ := b5 q hq
      have hkc : Keep w' M' w' fun b' off => M' b' off ∧ some b ≠ some b' := by rw [← ho]; exact hk
      exact ⟨c, by rw [cell_of_heap b2, Nat.zero_add]; exact c1, fun hh => hh.2 rfl, c2.keep hkc⟩
end Go.Proofs.YtjlkhjgnfnfmgaaGreat
end
section
/- Package group: the frame of a group; inverses and orders of elements: contracts. -/
namespace Go.Proofs.YtjlkhjgnfnfmgaaGreat
open Go Go.AM
set_option maxRecDepth 100000
noncomputable abbrev frA (t : List (List Int)) : AV := .agg [.ro (.rows .i64 t), .int .i64 (oneN t), .ro (.ints .i64 (invL t))]
theorem buildY_fn (t : List (List Int)) (h : Grp t) : QF 80 [.ro (.rows .i64 t)] (.tup [frA t, .bool (.lit true)]) := mkQ Tryz.func80 (by decide +kernel) rfl (Nat.le_of_ble_eq_true rfl) fun _ => by
  have hs := h.toSemi
  have hpos := hs.pos
  have hmost := hs.most
  obtain ⟨hone, hneu, hid⟩ := h.one
  refine Or.inl (cq (gid_fn t hs.toSh) (And.intro rfl trivial) ?_)
  refine And.intro (fun h1 => ?_) (fun h1 => ?_)
  · exact absurd h1 (by rw [hid]; omega)
  refine And.intro (by omega) ?_
  refine And.intro (by omega) ?_
  refine Exists.intro [] <| lp2 (fun (k : Nat) (iv : List Int) => [(19, .int .i64 k)]) (fun _ iv => [(16, .vec 0 (.ints .i64 iv) [])]) (fun k iv => k ≤ t.length ∧ iv.length = t.length ∧ ∀ x, x < k → iv.getD x 0 = (invN t x : Int)) (fun k _ => t.length - k) 0 (List.replicate t.length 0) ⟨Nat.zero_le _, by simp, by omega⟩ (by repeat' first | refine And.intro ?_ ?_ | exact True.intro | (show (_ : Int) = (_ : Int); omega) | omega | exact rfl | (simp only [RO.len]; omega)) ?_
  intro k iv hk
  refine And.intro (fun h3 => ?_) (fun h3 => ?_)
  · have hkl : k < t.length := by omega
    have l1 := hs.len hkl
    refine And.intro (by omega) ?_
    refine Or.inl (cq (index_fn (t.getD k []) (idV t)) (And.intro rfl (And.intro rfl trivial)) ?_)
    have hinv := h.ninv hkl
    have hidx : idxV (t.getD k []) (idV t) = (invN t k : Int) := by
      have a1 := hs.ent hkl hinv.1
      refine idx_of (by omega) (by rw [a1.1, hinv.2.1, hid]) fun j hj he => ?_
      have hjl : j < t.length := by omega
      have a2 := hs.ent hkl hjl
      have := h.inv_uniq hkl hjl (by rw [a2.1, hid] at he; omega)
      omega
    have l2 := hs.len hinv.1
    have a2 := hs.ent hinv.1 hkl
    have hN : (idxV (t.getD k []) (idV t)).toNat = invN t k := by rw [hidx]; exact Int.toNat_natCast _
    refine And.intro (fun h4 => ?_) (fun h4 => ?_)
    · exact absurd h4 (by rw [hidx]; omega)
    refine And.intro (by rw [hidx]; omega) ?_
    refine And.intro (by rw [hN]; omega) ?_
    refine And.intro (fun h5 => ?_) (fun h5 => ?_)
    · have h5 : (t.getD (idxV (t.getD k []) (idV t)).toNat []).getD k 0 ≠ idV t := h5
      exact absurd (by rw [hN, a2.1, hinv.2.2, hid]) h5
    · refine And.intro (by omega) ?_
      refine And.intro (by omega) ?_
      refine And.intro (by omega) ?_
      refine nx (k + 1, iv.set k (idxV (t.getD k []) (idV t))) ⟨by omega, by rw [List.length_set]; exact hk.2.1, fun x hx => ?_⟩ (show t.length - (k + 1) < t.length - k by omega) (by repeat' first | refine And.intro ?_ ?_ | exact True.intro | (show (_ : Int) = (_ : Int); omega) | omega | exact rfl | (simp only [RO.len]; omega))
      by_cases hxk : x = k
      · subst hxk; rw [getD_set_eq (by omega)]; exact hidx
      · rw [getD_set_ne (Ne.symm hxk)]; exact hk.2.2 x (by omega)
  · have hiv : iv = invL t := by
      refine List.ext_getElem (by rw [invL_len]; exact hk.2.1) fun x h1 h2 => ?_
      have := hk.2.2 x (by omega)
      rw [getD_eq h1] at this
      rw [this, ← invL_get (t := t) (by omega), getD_eq h2]
    exact And.intro (And.intro rfl (And.intro hid (And.intro (And.intro trivial (by rw [hiv])) trivial))) (And.intro rfl trivial)
theorem openY_fn (t : List (List Int)) (h : Grp t) : QF 50 [.ro (.rows .i64 t)] (.tup [frA t, .bool (.lit true)]) := mkQ Tryz.func50 (by decide +kernel) rfl (Nat.le_of_ble_eq_true rfl) fun _ => by
  refine Or.inl (cq (valid_fn t) (And.intro rfl trivial) ?_)
  refine And.intro (fun h1 => ?_) (fun h1 => ?_)
  · exact absurd (valid_zero.2 h.toSemi) h1
  · refine Or.inl (cq (buildY_fn t h) (And.intro rfl trivial) ?_)
    exact And.intro (And.intro rfl (And.intro rfl (And.intro rfl trivial))) (And.intro rfl trivial)
/-! ### The reference -/
end Go.Proofs.YtjlkhjgnfnfmgaaGreat
end
section
/- Comparisons of numbers and of lists: contracts. -/
namespace Go.Proofs.YtjlkhjgnfnfmgaaGreat
open Go Go.AM
set_option maxRecDepth 100000
theorem isNaN_fn (a : Int) : QF 101 [.int .i64 a] (.bool (.lit false)) := mkQ Tryz.func101 (by decide +kernel) rfl (Nat.le_of_ble_eq_true rfl) fun _ => by
  refine And.intro ?_ trivial
  show decide (a ≠ a) = false
  simp
theorem compare_fn (a b : Int) : QF 56 [.int .i64 a, .int .i64 b] (.int .i64 (cmpI a b)) := mkQ Tryz.func56 (by decide +kernel) rfl (Nat.le_of_ble_eq_true rfl) fun _ => by
  refine Or.inl (cq (isNaN_fn a) (And.intro rfl trivial) ?_)
  refine Or.inl (cq (isNaN_fn b) (And.intro rfl trivial) ?_)
  unfold cmpI
  refine And.intro (fun h1 => ?_) (fun h1 => ?_)
  · exact And.intro (by rw [if_pos h1]; rfl) trivial
  · refine And.intro (fun h2 => ?_) (fun h2 => ?_)
    · exact And.intro (by rw [if_neg (by omega), if_pos h2]; rfl) trivial
    · exact And.intro (by rw [if_neg (by omega), if_neg (by omega)]; rfl) trivial
theorem or2_fn (a b : Int) : QF 55 [.ro (.ints .i64 [a, b])] (.int .i64 (if a ≠ 0 then a else b)) := mkQ Tryz.func55 (by decide +kernel) rfl (Nat.le_of_ble_eq_true rfl) fun _ => by
  refine Exists.intro [] <| lp (X := Nat) (fun i => [(8, .int .i64 i)]) (fun _ => []) (fun i => i ≤ 2 ∧ (0 < i → a = 0) ∧ (1 < i → b = 0)) (fun i => 2 - i) 0 (by omega) (by repeat' first | refine And.intro ?_ ?_ | exact True.intro | (show (_ : Int) = (_ : Int); omega) | omega | exact rfl | (simp only [RO.len]; omega)) ?_
  rintro i ⟨hi, h1, h2⟩
  refine And.intro (fun h3 => ?_) (fun h3 => ?_)
  · have h3 : (i : Int) < 2 := h3
    have hi' : i = 0 ∨ i = 1 := by omega
    refine And.intro (by omega) ?_
    refine And.intro (fun h4 => ?_) (fun h4 => ?_)
    · refine And.intro ?_ trivial
      rcases hi' with rfl | rfl
      · have h4 : a ≠ 0 := h4
        show a = if a ≠ 0 then a else b
        rw [if_pos h4]
      · show b = if a ≠ 0 then a else b
        rw [if_neg (by simp [h1 (by omega)])]
    · refine And.intro (by omega) ?_
      refine nx (i + 1) ⟨by omega, fun _ => ?_, fun hh => ?_⟩ (show 2 - (i + 1) < 2 - i by omega) (by repeat' first | refine And.intro ?_ ?_ | exact True.intro | (show (_ : Int) = (_ : Int); omega) | omega | exact rfl | (simp only [RO.len]; omega))
      · rcases hi' with rfl | rfl
        · exact h4
        · exact h1 (by omega)
      · rcases hi' with rfl | rfl
        · omega
        · exact h4
  · have h3 : (2 : Int) ≤ (i : Int) := h3
    refine And.intro ?_ trivial
    show 0 = if a ≠ 0 then a else b
    rw [if_neg (by simp [h1 (by omega)]), h2 (by omega)]
theorem compareL_k (a b : List Int) (ha : a.length ≤ 140737488355328) (hb : b.length ≤ 140737488355328) : fnK TY SP Tryz.f44 [.ro (.ints .i64 a), .ro (.ints .i64 b)] (.int .i64 (cmpL a b)) := by
  refine Exists.intro [] <| lp (X := Nat) (fun i => [(11, .int .i64 i)]) (fun _ => []) (fun i => (i ≤ a.length ∧ i ≤ b.length) ∧ ∀ j, j < i → a.getD j 0 = b.getD j 0) (fun i => a.length - i) 0 (by simp) (by repeat' first | refine And.intro ?_ ?_ | exact True.intro | (show (_ : Int) = (_ : Int); omega) | omega | exact rfl | (simp only [RO.len]; omega)) ?_
  rintro i ⟨⟨hi, hi2⟩, hs⟩
  refine And.intro (fun h1 => ?_) (fun h1 => ?_)
  · refine And.intro (by omega) ?_
    refine And.intro (fun h2 => ?_) (fun h2 => ?_)
    · refine And.intro ?_ trivial
      rw [cmpL_end hs hi hi2 (.inr (by omega))]
      unfold cmpI; rw [if_neg (by omega), if_pos (by omega)]; rfl
    · refine And.intro (by omega) ?_
      refine Or.inl (cq (compare_fn (a.getD i 0) (b.getD i 0)) (And.intro rfl (And.intro rfl trivial)) ?_)
      refine And.intro (fun h3 => ?_) (fun h3 => ?_)
      · refine And.intro ?_ trivial
        exact (cmpL_here hs (by omega) (by omega) fun e => h3 (by rw [e]; exact cmpI_tot.self _)).symm
      · refine And.intro (by omega) ?_
        refine nx (i + 1) ⟨⟨by omega, by omega⟩, fun j hj => ?_⟩ (show a.length - (i + 1) < a.length - i by omega) (by repeat' first | refine And.intro ?_ ?_ | exact True.intro | (show (_ : Int) = (_ : Int); omega) | omega | exact rfl | (simp only [RO.len]; omega))
        by_cases e : j = i
        · subst e; exact cmpI_tot.eq _ _ h3
        · exact hs j (by omega)
  · have e := cmpL_end hs hi hi2 (.inl (by omega))
    refine And.intro (fun h2 => ?_) (fun h2 => ?_)
    · refine And.intro ?_ trivial
      rw [e]; unfold cmpI; rw [if_pos h2]; rfl
    · refine And.intro ?_ trivial
      rw [e]; unfold cmpI; rw [if_neg (by omega), if_neg (by omega)]; rfl
theorem compareL_fn (a b : List Int) : QF 44 [.ro (.ints .i64 a), .ro (.ints .i64 b)] (.int .i64 (cmpL a b)) := mkQ Tryz.func44 (by decide +kernel) rfl (Nat.le_of_ble_eq_true rfl) fun hf => compareL_k a b hf.1.1 hf.2.1.1
end Go.Proofs.YtjlkhjgnfnfmgaaGreat
end
section
/- The reference of all normal subgroups: contract. -/
namespace Go.Proofs.YtjlkhjgnfnfmgaaGreat
open Go Go.AM
set_option maxRecDepth 100000
section
variable {t : List (List Int)}
theorem one_in {x : Nat} (hx : x < t.length) : inT t [(x : Int)] := fun y hy => by rw [List.mem_singleton] at hy; omega
end
end Go.Proofs.YtjlkhjgnfnfmgaaGreat
end
