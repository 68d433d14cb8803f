import Derived.Test.YtpanlghofeebhaaGreatEqvLaw
import Derived.Test.YtpanlghofeebhaaGreatRefPart
import Derived.Test.YtpanlghofeebhaaGreatSgpLaw
import Derived.Test.YtpanlghofeebhaaGreatJhTab
import Derived.Test.YtpanlghofeebhaaGreatGrpLaw
section
/- Plain: congruences of a table. -/
namespace Go.Proofs.YtpanlghofeebhaaGreat
def CgA (t : List (List Int)) (p : List Int) (side : Int) (x y s : Nat) : Prop :=
  (side ≠ 2 → p.getD (en t s x) 0 = p.getD (en t s y) 0) ∧ (side ≠ 1 → p.getD (en t x s) 0 = p.getD (en t y s) 0)
def Cg (t : List (List Int)) (p : List Int) (side : Int) : Prop := ∀ x y s, x < t.length → y < t.length → s < t.length → p.getD x 0 = p.getD y 0 → CgA t p side x y s
end Go.Proofs.YtpanlghofeebhaaGreat
end
section
/- Plain: the quotient of a table by a congruence. -/
namespace Go.Proofs.YtpanlghofeebhaaGreat
open Go Go.AM
def hdN (p : List Int) (c : Nat) : Nat := (((classes (classN p) p).getD c []).getD 0 0).toNat
def quoR (t : List (List Int)) (p : List Int) (c : Nat) : List Int := (List.range (classN p)).map fun d => p.getD (en t (hdN p c) (hdN p d)) 0
def quoL (t : List (List Int)) (p : List Int) : List (List Int) := (List.range (classN p)).map fun c => quoR t p c
section
variable {t : List (List Int)} {p : List Int}
theorem cls_pos (hp : canon p = p) {c : Nat} (hc : c < classN p) : 0 < ((classes (classN p) p).getD c []).length := by
  have hm := (valid_range hp (c : Int)).1 ⟨by omega, by omega⟩
  obtain ⟨i, hi, he⟩ := mem_getD 0 hm
  have := (mem_classes (p := p) hc (x := (i : Int))).2 ⟨by omega, by omega, by rw [Int.toNat_natCast]; exact he⟩
  exact List.length_pos_of_mem this
theorem hd_at (hp : canon p = p) {c : Nat} (hc : c < classN p) : hdN p c < p.length ∧ p.getD (hdN p c) 0 = (c : Int) ∧ ((classes (classN p) p).getD c []).getD 0 0 = (hdN p c : Int) := by
  have hm := (mem_classes hc).1 (getD_mem (d := 0) (cls_pos hp hc))
  unfold hdN
  exact ⟨by omega, hm.2.2, by omega⟩
theorem cls_lt (hp : canon p = p) {x : Nat} (hx : x < p.length) : 0 ≤ p.getD x 0 ∧ (p.getD x 0).toNat < classN p ∧ p.getD x 0 = ((p.getD x 0).toNat : Int) := by
  have := (valid_range hp (p.getD x 0)).2 (getD_mem hx)
  omega
theorem quoR_len {c : Nat} : (quoR t p c).length = classN p := by simp [quoR]
theorem quoR_get {c d : Nat} (hd : d < classN p) : (quoR t p c).getD d 0 = p.getD (en t (hdN p c) (hdN p d)) 0 := by simp [quoR, List.getD, hd]
theorem quoL_len : (quoL t p).length = classN p := by simp [quoL]
theorem quoL_get {c : Nat} (hc : c < classN p) : (quoL t p).getD c [] = quoR t p c := by simp [quoL, List.getD, hc]
theorem cg_both (_hs : Sh t) (_hl : p.length = t.length) (hg : Cg t p 0) {x y x' y' : Nat} (hx : x < t.length) (hy : y < t.length) (hx' : x' < t.length) (hy' : y' < t.length) (h1 : p.getD x 0 = p.getD x' 0) (h2 : p.getD y 0 = p.getD y' 0) :
    p.getD (en t x y) 0 = p.getD (en t x' y') 0 :=
  ((hg x x' y hx hx' hy h1).2 (by decide)).trans ((hg y y' x' hy hy' hx' h2).1 (by decide))
theorem quo_hom (hs : Sh t) (hl : p.length = t.length) (hp : canon p = p) (hg : Cg t p 0) {x y : Nat} (hx : x < t.length) (hy : y < t.length) :
    ((quoL t p).getD (p.getD x 0).toNat []).getD (p.getD y 0).toNat 0 = p.getD (en t x y) 0 := by
  have h1 := cls_lt hp (x := x) (by omega)
  have h2 := cls_lt hp (x := y) (by omega)
  have k1 := hd_at hp h1.2.1
  have k2 := hd_at hp h2.2.1
  rw [quoL_get h1.2.1, quoR_get h2.2.1]
  exact (cg_both hs hl hg hx hy (by omega) (by omega) (by omega) (by omega)).symm
theorem quo_en_hom (hs : Sh t) (hl : p.length = t.length) (hp : canon p = p) (hg : Cg t p 0) {x y : Nat} (hx : x < t.length) (hy : y < t.length) :
    en (quoL t p) (p.getD x 0).toNat (p.getD y 0).toNat = (p.getD (en t x y) 0).toNat := by
  unfold en; rw [quo_hom hs hl hp hg hx hy]; rfl
theorem cls_some (hs : Sh t) (hl : p.length = t.length) : 0 < classN p := by
  have := hs.pos
  cases p with
  | nil => simp at hl; omega
  | cons a l =>
    have hm : a ∈ firsts (a :: l) := mem_firsts.2 (by simp)
    exact List.length_pos_of_mem hm
theorem quo_sh (hs : Sh t) (hl : p.length = t.length) (hp : canon p = p) : Sh (quoL t p) := by
  have hle : classN p ≤ p.length := firsts_le p
  have hm := hs.most
  refine ⟨by rw [quoL_len]; exact cls_some hs hl, by rw [quoL_len]; omega, fun r hr => ?_⟩
  obtain ⟨c, hc, rfl⟩ := mem_getD [] hr
  rw [quoL_len] at hc
  rw [quoL_get hc]
  refine ⟨by rw [quoR_len, quoL_len], fun x hx => ?_⟩
  obtain ⟨d, hd, rfl⟩ := mem_getD 0 hx
  rw [quoR_len] at hd
  rw [quoR_get hd, quoL_len]
  have k1 := hd_at hp hc
  have k2 := hd_at hp hd
  have k3 := cls_lt hp (x := en t (hdN p c) (hdN p d)) (by rw [hl]; exact (hs.ent (by omega) (by omega)).2)
  omega
theorem cls_rep (hl : p.length = t.length) (hp : canon p = p) {c : Nat} (hc : c < classN p) : ∃ x, x < t.length ∧ (p.getD x 0).toNat = c := by
  have k := hd_at hp hc
  exact ⟨hdN p c, by omega, by omega⟩
theorem quo_semi (hs : Semi t) (hl : p.length = t.length) (hp : canon p = p) (hg : Cg t p 0) : Semi (quoL t p) := by
  refine ⟨quo_sh hs.toSh hl hp, fun b hb a c ha hc => ?_⟩
  rw [quoL_len] at hb ha hc
  obtain ⟨x, hx, rfl⟩ := cls_rep hl hp ha
  obtain ⟨y, hy, rfl⟩ := cls_rep hl hp hb
  obtain ⟨z, hz, rfl⟩ := cls_rep hl hp hc
  have hS := hs.toSh
  rw [quo_en_hom hS hl hp hg hx hy, quo_en_hom hS hl hp hg hy hz, quo_en_hom hS hl hp hg (hS.ent hx hy).2 hz, quo_en_hom hS hl hp hg hx (hS.ent hy hz).2, assoc3 hs.assoc hx hy hz]
/-! ### How the rows are filled -/
end
end Go.Proofs.YtpanlghofeebhaaGreat
end
section
/- Plain: Lagrange: each coset has as many elements as the subgroup. -/
namespace Go.Proofs.YtpanlghofeebhaaGreat
variable {t : List (List Int)} {l : List Int}
theorem cosL_canon (t : List (List Int)) (l : List Int) : canon (cosL t l) = cosL t l := canon_idem _
theorem cos_mem (h : Grp t) (hl : ClL t l) {c : Nat} (hc : c < classN (cosL t l)) : ∃ x0, x0 < t.length ∧ ∀ y : Int, y ∈ (classes (classN (cosL t l)) (cosL t l)).getD c [] ↔ ∃ a, a < t.length ∧ setI l a = true ∧ y = ((en t x0 a : Nat) : Int) := by
  have hf := fst_of (cosL_canon t l) hc
  have hx : fstC (cosL t l) c < t.length := by have := hf.2.2.1; rwa [cosL_len] at this
  refine ⟨fstC (cosL t l) c, hx, fun y => ?_⟩
  rw [mem_classes hc, cosL_len]
  constructor
  · rintro ⟨h0, h1, h2⟩
    have hy : y.toNat < t.length := by omega
    obtain ⟨a, ha, hs, e⟩ := (cosE_iff h hx hy).1 ((cosL_iff hl h hx hy).1 (hf.2.2.2.trans h2.symm))
    exact ⟨a, ha, hs, by omega⟩
  · rintro ⟨a, ha, hs, rfl⟩
    have he := (h.toSh.ent hx ha).2
    refine ⟨by omega, by omega, ?_⟩
    rw [Int.toNat_natCast, ← hf.2.2.2]
    exact ((cosL_iff hl h hx he).2 ((cosE_iff h hx he).2 ⟨a, ha, hs, rfl⟩)).symm
theorem cos_size (h : Grp t) (hl : ClL t l) {c : Nat} (hc : c < classN (cosL t l)) : ((classes (classN (cosL t l)) (cosL t l)).getD c []).length = l.length := by
  obtain ⟨x0, hx, hm⟩ := cos_mem h hl hc
  have hnl : l.Nodup := (pairwise_adj hl.asc).imp fun {a b} hab e => by omega
  have hcan : ∀ a b, a < t.length → b < t.length → en t x0 a = en t x0 b → a = b := fun a b ha hb e => by
    have h1 := inv_mul_cancel h hx ha
    have h2 := inv_mul_cancel h hx hb
    rw [e] at h1; exact h1.symm.trans h2
  have hn : (l.map fun a => ((en t x0 a.toNat : Nat) : Int)).Nodup := List.pairwise_map.2 (hnl.imp_of_mem fun {a b} ha hb hab e => hab (by
    have ra := hl.ins a ha
    have rb := hl.ins b hb
    have := hcan a.toNat b.toNat (by omega) (by omega) (by omega)
    omega))
  have hnc : ((classes (classN (cosL t l)) (cosL t l)).getD c []).Nodup := by
    rw [classes_getD hc]
    exact List.pairwise_map.2 ((List.nodup_range.filter _).imp fun {a b} hab e => hab (by omega))
  have hp : ((classes (classN (cosL t l)) (cosL t l)).getD c []).Perm (l.map fun a => ((en t x0 a.toNat : Nat) : Int)) := (List.perm_ext_iff_of_nodup hnc hn).2 fun y => by
    rw [hm, List.mem_map]
    constructor
    · rintro ⟨a, ha, hs, rfl⟩
      exact ⟨(a : Int), setI_iff.1 hs, by rw [Int.toNat_natCast]⟩
    · rintro ⟨a, ha, rfl⟩
      have ra := hl.ins a ha
      exact ⟨a.toNat, by omega, setI_iff.2 (by rw [Int.toNat_of_nonneg ra.1]; exact ha), rfl⟩
  have := hp.length_eq
  rwa [List.length_map] at this
theorem cls_count {n : Nat} {p : List Int} (hp : p.length = n) {m : Nat} : ∀ k : Nat, (∀ c : Nat, c < k → ((List.range n).filter fun i => p.getD i 0 = (c : Int)).length = m) → (∀ i, i < n → 0 ≤ p.getD i 0) → ((List.range n).filter fun i => decide (p.getD i 0 < (k : Int))).length = k * m
  | 0, _, h0 => by
    rw [Nat.zero_mul, List.length_eq_zero_iff, List.filter_eq_nil_iff]
    intro i hi
    have := h0 i (List.mem_range.1 hi)
    rw [decide_eq_true_iff]; omega
  | k + 1, hc, h0 => by
    have ih := cls_count hp k (fun c hk => hc c (by omega)) h0
    have e := hc k (by omega)
    have hsum : ∀ L : List Nat, (L.filter fun i => decide (p.getD i 0 < ((k + 1 : Nat) : Int))).length = (L.filter fun i => decide (p.getD i 0 < (k : Int))).length + (L.filter fun i => p.getD i 0 = (k : Int)).length := by
      intro L
      induction L with
      | nil => rfl
      | cons a L ih =>
        simp only [List.filter_cons, decide_eq_true_eq]
        by_cases e1 : p.getD a 0 < (k : Int)
        · rw [if_pos (by omega), if_pos e1, if_neg (by omega), List.length_cons, List.length_cons, ih]; omega
        · by_cases e2 : p.getD a 0 = (k : Int)
          · rw [if_pos (by omega), if_neg e1, if_pos e2, List.length_cons, List.length_cons, ih]; omega
          · rw [if_neg (by omega), if_neg e1, if_neg e2, ih]
    rw [hsum, ih, e, Nat.succ_mul]
theorem lagrange (h : Grp t) (hl : ClL t l) : t.length = classN (cosL t l) * l.length := by
  have hr : ∀ i, i < t.length → 0 ≤ (cosL t l).getD i 0 ∧ (cosL t l).getD i 0 < classN (cosL t l) := fun i hi =>
    (valid_range (cosL_canon t l) _).2 (getD_mem (by rw [cosL_len]; exact hi))
  have := cls_count (p := cosL t l) (cosL_len t l) (m := l.length) (classN (cosL t l)) (fun c hc => by
    have e := cos_size h hl hc
    rw [classes_getD hc, List.length_map, cosL_len] at e; exact e) (fun i hi => (hr i hi).1)
  rw [← this, List.filter_eq_self.2 fun i hi => decide_eq_true (hr i (List.mem_range.1 hi)).2, List.length_range]
end Go.Proofs.YtpanlghofeebhaaGreat
end
section
/- Plain: the quotient of a group by a normal subgroup is a group; when it is commutative. -/
namespace Go.Proofs.YtpanlghofeebhaaGreat
open Go Go.AM
section
variable {t : List (List Int)} {l : List Int}
theorem nrm_cg (h : Grp t) (hl : ClL t l) (hn : NrmIn t (allI t) l) : Cg t (cosL t l) 0 := fun x y s hx hy hs e => by
  have hS := h.toSh
  have ix := (h.ninv hx).1
  have is := (h.ninv hs).1
  have e := (cosL_iff hl h hx hy).1 e
  have exy := (hS.ent ix hy).2
  refine ⟨fun _ => (cosL_iff hl h (hS.ent hs hx).2 (hS.ent hs hy).2).2 ?_, fun _ => (cosL_iff hl h (hS.ent hx hs).2 (hS.ent hy hs).2).2 ?_⟩
  · unfold cosE at e ⊢
    rw [inv_mul h hs hx, assoc3 h.assoc ix is (hS.ent hs hy).2, inv_mul_cancel h hs hy]
    exact e
  · have e2 : setI l (en t (invN t x) y) = true := e
    have hm := setI_iff.1 e2
    have hc := hn _ (mem_disI.2 (show 0 ≤ (invN t s : Int) ∧ (invN t s : Int) < (t.length : Int) by omega)) _ hm
    unfold cjN at hc
    simp only [Int.toNat_natCast] at hc
    rw [inv_inv h hs] at hc
    unfold cosE
    rw [inv_mul h hx hs, assoc3 h.assoc is ix (hS.ent hy hs).2, ← assoc3 h.assoc ix hy hs, ← assoc3 h.assoc is exy hs]
    exact hc
theorem quo_grp {p : List Int} (h : Grp t) (hl : p.length = t.length) (hp : canon p = p) (hg : Cg t p 0) : Grp (quoL t p) := by
  have hS := h.toSh
  have ho := h.one
  have k1 := cls_lt hp (x := oneN t) (by omega)
  refine ⟨quo_semi h.toSemi hl hp hg, (p.getD (oneN t) 0).toNat, by rw [quoL_len]; exact k1.2.1, fun c hc => ?_, fun c hc => ?_⟩
  · rw [quoL_len] at hc
    obtain ⟨x, hx, rfl⟩ := cls_rep hl hp hc
    rw [quo_en_hom hS hl hp hg ho.1 hx, quo_en_hom hS hl hp hg hx ho.1, (ho.2.1 x hx).1, (ho.2.1 x hx).2]
    exact ⟨rfl, rfl⟩
  · rw [quoL_len] at hc
    obtain ⟨x, hx, rfl⟩ := cls_rep hl hp hc
    have hi := h.ninv hx
    have k2 := cls_lt hp (x := invN t x) (by omega)
    refine ⟨(p.getD (invN t x) 0).toNat, by rw [quoL_len]; exact k2.2.1, ?_, ?_⟩
    · rw [quo_en_hom hS hl hp hg hx hi.1, hi.2.1]
    · rw [quo_en_hom hS hl hp hg hi.1 hx, hi.2.2]
def Comm (t : List (List Int)) : Prop := ∀ x y, x < t.length → y < t.length → en t x y = en t y x
end
end Go.Proofs.YtpanlghofeebhaaGreat
end
section
/- Plain: subgroups' tables and quotients' tables as groups; factors by greatest normal subgroups. -/
namespace Go.Proofs.YtpanlghofeebhaaGreat
theorem fin_lt {n m : Nat} (e : n = m) (i : Fin n) : i.1 < m := e ▸ i.2
section
variable {t : List (List Int)}
theorem sub_grp (h : Grp t) {w : List Int} (hw : ClL t w) : Grp (subT t w) := by
  have hle : w.length ≤ t.length := nodup_len (asc_nd hw.asc) hw.ins
  have h1 := pL_in (hw.one h)
  refine ⟨sub_semi h.toSemi hw hle, pL w (oneN t), by rw [subT_len]; exact h1.2.1, fun x hx => ?_, fun x hx => ?_⟩
  · rw [subT_len] at hx
    have a := sub_en hw h1.2.1 hx
    have b := sub_en hw hx h1.2.1
    have e := hw.el hx
    refine ⟨eL_inj hw a.2.1 hx ?_, eL_inj hw b.2.1 hx ?_⟩
    · rw [a.2.2, h1.2.2, (h.one.2.1 _ e.1).1]
    · rw [b.2.2, h1.2.2, (h.one.2.1 _ e.1).2]
  · rw [subT_len] at hx
    have e := hw.el hx
    have hi := hw.inv h e.2.2
    have h2 := pL_in hi
    have iv := h.ninv e.1
    have a := sub_en hw hx h2.2.1
    have b := sub_en hw h2.2.1 hx
    refine ⟨pL w (invN t (eL w x)), by rw [subT_len]; exact h2.2.1, eL_inj hw a.2.1 h1.2.1 ?_, eL_inj hw b.2.1 h1.2.1 ?_⟩
    · rw [a.2.2, h2.2.2, h1.2.2]; exact iv.2.1
    · rw [b.2.2, h2.2.2, h1.2.2]; exact iv.2.2
def embT {w : List Int} (hw : ClL t w) (i : Fin (subT t w).length) : Fin t.length := ⟨eL w i.1, (hw.el (fin_lt (subT_len t w) i)).1⟩
theorem emb_ok (h : Grp t) {w : List Int} (hw : ClL t w) : Emb (gpT (sub_grp h hw)) (gpT h) (embT hw) := by
  have lt : ∀ i : Fin (subT t w).length, i.1 < w.length := fun i => fin_lt (subT_len t w) i
  exact ⟨fun a b => Fin.ext (sub_en hw (lt a) (lt b)).2.2, fun a b e => Fin.ext (eL_inj hw (lt a) (lt b) (congrArg Fin.val e))⟩
theorem emb_all {w : List Int} (hw : ClL t w) : Im (embT hw) (fun _ => True) = pS w := by
  funext x
  refine propext ⟨?_, fun hx => ?_⟩
  · rintro ⟨i, _, rfl⟩
    exact (hw.el (fin_lt (subT_len t w) i)).2.2
  · have := pL_in hx
    exact ⟨⟨pL w x.1, by rw [subT_len]; exact this.2.1⟩, trivial, Fin.ext this.2.2⟩
def plL (w s : List Int) : List Int := s.map fun x => posTo w w.length x.toNat
theorem emb_im {w s : List Int} (hw : ClL t w) (hs : inT t s) (hsw : ∀ x ∈ s, x ∈ w) : Im (embT hw) (pS (plL w s)) = pS s := by
  funext x
  refine propext ⟨?_, fun hx => ?_⟩
  · rintro ⟨i, hi, rfl⟩
    obtain ⟨y, hy, e⟩ := List.mem_map.1 (setI_iff.1 hi)
    have hy' := hs y hy
    have hp := pL_in (hw.iset (hsw y hy))
    have hil : i.1 < w.length := fin_lt (subT_len t w) i
    refine setI_iff.2 ?_
    have e2 : i.1 = pL w y.toNat := by omega
    show ((eL w i.1 : Nat) : Int) ∈ s
    rw [e2, hp.2.2, Int.toNat_of_nonneg hy'.1]; exact hy
  · have hxs := setI_iff.1 hx
    have hp := pL_in (setI_iff.2 (hsw _ hxs) : setI w x.1 = true)
    refine ⟨⟨pL w x.1, by rw [subT_len]; exact hp.2.1⟩, setI_iff.2 (List.mem_map.2 ⟨_, hxs, ?_⟩), Fin.ext hp.2.2⟩
    rw [Int.toNat_natCast]; exact hp.1
noncomputable def quoP (h : Grp t) {l : List Int} (x : Fin t.length) : Fin (quoL t (cosL t l)).length :=
  ⟨((cosL t l).getD x.1 0).toNat, by rw [quoL_len]; exact (cls_lt (cosL_canon t l) (by rw [cosL_len]; exact x.2)).2.1⟩
theorem quo_ok (h : Grp t) {l : List Int} (hl : ClL t l) (hn : NrmIn t (allI t) l) (hq : Grp (quoL t (cosL t l))) : Quo (gpT h) (gpT hq) (quoP h) (pS l) := by
  have hcan := cosL_canon t l
  have hcl := cosL_len t l
  have hmul : ∀ a b, quoP h (l := l) ((gpT h).mul a b) = (gpT hq).mul (quoP h a) (quoP h b) := fun a b => Fin.ext (quo_en_hom h.toSh hcl hcan (nrm_cg h hl hn) a.2 b.2).symm
  have hone : quoP h (l := l) (gpT h).one = (gpT hq).one := by
    have := hmul (gpT h).one (gpT h).one
    rw [(gpT h).oneL] at this
    have h2 : (gpT hq).mul (quoP h (l := l) (gpT h).one) (gpT hq).one = (gpT hq).mul (quoP h (l := l) (gpT h).one) (quoP h (l := l) (gpT h).one) := by rw [(gpT hq).oneR]; exact this
    exact ((gpT hq).cancel h2).symm
  refine ⟨hmul, fun b => ?_, fun a => ?_⟩
  · obtain ⟨x, hx, e⟩ := cls_rep hcl hcan (c := b.1) (fin_lt quoL_len b)
    exact ⟨⟨x, hx⟩, Fin.ext e⟩
  · rw [← hone]
    have key : quoP h (l := l) a = quoP h (l := l) (gpT h).one ↔ (cosL t l).getD a.1 0 = (cosL t l).getD (oneN t) 0 := by
      have c1 := cls_lt hcan (x := a.1) (by rw [hcl]; exact a.2)
      have c2 := cls_lt hcan (x := oneN t) (by rw [hcl]; exact h.one.1)
      constructor
      · intro e
        have : ((cosL t l).getD a.1 0).toNat = ((cosL t l).getD (oneN t) 0).toNat := congrArg Fin.val e
        omega
      · exact fun e => Fin.ext (congrArg Int.toNat e)
    rw [key, eq_comm, cosL_iff hl h h.one.1 a.2]
    have e1 : invN t (oneN t) = oneN t := (h.inv_uniq h.one.1 h.one.1 (h.one.2.1 _ h.one.1).1).symm
    show setI l (en t (invN t (oneN t)) a.1) = true ↔ setI l a.1 = true
    rw [e1, (h.one.2.1 _ a.2).1]
theorem pS_all (t : List (List Int)) : (pS (allI t) : Fin t.length → Prop) = fun _ => True := funext fun x => propext ⟨fun _ => trivial, fun _ => allI_set.2 x.2⟩
theorem pS_one (h : Grp t) : (pS [(oneN t : Int)] : Fin t.length → Prop) = fun x => x = (gpT h).one := funext fun x => propext ⟨fun hx => Fin.ext (by
    have := setI_iff.1 hx
    rw [List.mem_singleton] at this
    show x.1 = oneN t
    omega), fun hx => setI_iff.2 (by rw [hx]; exact List.mem_singleton.2 rfl)⟩
theorem simple_quo (h : Grp t) {l : List Int} (hl : ClL t l) (hn : NrmIn t (allI t) l) (hq : Grp (quoL t (cosL t l))) : (nsL (quoL t (cosL t l))).length = 2 ↔ (gpT h).Mx (fun _ => True) (pS l) := by
  have h1 := simple_iff hq
  rw [Bool.eq_iff_iff, mxB_true, decide_eq_true_iff] at h1
  rw [← h1, mxT hq (allI_cl hq.toSh) (one_ns hq).cl (fun x hx => mem_disI.2 ((one_ns hq).cl.ins x hx)) (fun x hx y hy => (one_ns hq).nrm x hx y hy), pS_all, pS_one hq]
  exact (quo_ok h hl hn hq).mx.symm
end
end Go.Proofs.YtpanlghofeebhaaGreat
end
section
/- Plain: the factors of a group by greatest normal subgroups. -/
namespace Go.Proofs.YtpanlghofeebhaaGreat
section
variable {t : List (List Int)}
noncomputable def pnL (t : List (List Int)) : List Int := (nsL t).getD ((nsL t).length - 2) []
theorem cmpS_len {a b : List Int} (h : cmpS a b < 0) : a.length ≤ b.length := by
  unfold cmpS cmpI at h
  repeat' split at h
  all_goals omega
theorem pn_ok (h : Grp t) (h2 : 1 < t.length) : 2 ≤ (nsL t).length ∧ NS t (pnL t) ∧ (gpT h).Mx (fun _ => True) (pS (pnL t)) := by
  have hs := nsL_srt t
  have hnd := hs.nodup cmpS_tot
  have hall := nsL_mem.2 (all_ns h)
  have hone := nsL_mem.2 (one_ns h)
  have hlen : (allI t).length = t.length := disI_len _
  have hne : [(oneN t : Int)] ≠ allI t := fun e => by rw [← e] at hlen; simp at hlen; omega
  have h2l : 2 ≤ (nsL t).length := by
    have := (List.nodup_cons.2 ⟨by simpa using hne, by simp⟩ : [[(oneN t : Int)], allI t].Nodup).length_le_of_subset (l₂ := nsL t) fun l hl => by
      rcases List.mem_cons.1 hl with rfl | hl
      · exact hone
      · rw [List.mem_singleton] at hl; rw [hl]; exact hall
    simpa using this
  have hpl : (nsL t).length - 2 < (nsL t).length := by omega
  have hns : NS t (pnL t) := nsL_mem.1 (getD_mem hpl)
  have pw := List.pairwise_iff_getElem.1 hs
  have mono : ∀ i j, i ≤ j → j < (nsL t).length → ((nsL t).getD i []).length ≤ ((nsL t).getD j []).length := fun i j hij hj => by
    rcases Nat.lt_or_ge i j with h1 | h1
    · have := cmpS_len (pw i j (by omega) hj h1)
      rwa [← getD_eq (d := []) (show i < _ by omega), ← getD_eq (d := []) hj] at this
    · rw [show i = j by omega]; exact Nat.le_refl _
  have full : ∀ l, NS t l → t.length ≤ l.length → l = allI t := fun l hl hle => (asc_sub_len hl.cl (allI_cl h.toSh) fun x hx _ => allI_set.2 hx).2 (by have := nodup_len (asc_nd hl.cl.asc) hl.cl.ins; omega)
  obtain ⟨k, hk, ek⟩ := mem_getD [] hall
  have hlast : (nsL t).getD ((nsL t).length - 1) [] = allI t := by
    refine full _ (nsL_mem.1 (getD_mem (by omega))) ?_
    have := mono k ((nsL t).length - 1) (by omega) (by omega)
    rw [ek, hlen] at this; exact this
  have hpne : pnL t ≠ allI t := fun e => by
    have e2 : (nsL t).getD ((nsL t).length - 2) [] = (nsL t).getD ((nsL t).length - 1) [] := by rw [hlast]; exact e
    rw [getD_eq hpl, getD_eq (by omega)] at e2
    have := (List.getElem_inj hnd).1 e2
    omega
  have hmax : ∀ l, NS t l → l ≠ allI t → l.length ≤ (pnL t).length := fun l hl hla => by
    obtain ⟨j, hj, rfl⟩ := mem_getD [] (nsL_mem.2 hl)
    refine mono j _ ?_ hpl
    have : j ≠ (nsL t).length - 1 := fun e => hla (by rw [e]; exact hlast)
    omega
  have hnm : (gpT h).Nm (fun _ => True) (pS (pnL t)) := by
    have := (nmT h (allI_cl h.toSh).ins hns.cl.ins).1 fun x hx y hy => hns.nrm x hx y hy
    rwa [pS_all] at this
  refine ⟨h2l, hns, mx_of_max (elT t.length) (all_sg _) (sgT h hns.cl) (fun _ _ => trivial) hnm ?_ fun T hT _ hTn hTne => ?_⟩
  · refine Classical.byContradiction fun hno => hpne ?_
    exact asc_mem_ext hns.cl (allI_cl h.toSh) fun x hx => ⟨fun _ => allI_set.2 hx, fun _ => Classical.byContradiction fun hm => hno ⟨⟨x, hx⟩, trivial, hm⟩⟩
  · have hcl := lsT_cl h hT
    have hTN : NS t (lsT T) := ⟨hcl, (nmT h (allI_cl h.toSh).ins hcl.ins).2 (by rw [pS_all, lsT_pS]; exact hTn)⟩
    rw [← lsT_pS T, szT hcl, szT hns.cl]
    refine hmax _ hTN fun e => ?_
    obtain ⟨x, _, hx⟩ := hTne
    exact hx ((lsT_set x.2).1 (by rw [e]; exact allI_set.2 x.2))
noncomputable def facR : Nat → List (List Int) → List (Nat × Bool)
  | 0, _ => []
  | k + 1, t => if t.length ≤ 1 then [] else (classN (cosL t (pnL t)), @decide (Comm (quoL t (cosL t (pnL t)))) (Classical.propDecidable _)) :: facR k (subT t (pnL t))
theorem comm_gp {q : List (List Int)} (hq : Grp q) : Comm q ↔ ∀ a b, (gpT hq).mul a b = (gpT hq).mul b a :=
  ⟨fun h a b => Fin.ext (h a.1 b.1 a.2 b.2), fun h x y hx hy => congrArg Fin.val (h ⟨x, hx⟩ ⟨y, hy⟩)⟩
theorem pn_quo (h : Grp t) (h2 : 1 < t.length) : Grp (quoL t (cosL t (pnL t))) := by
  have hn := (pn_ok h h2).2.1
  exact quo_grp h (cosL_len t _) (cosL_canon t _) (nrm_cg h hn.cl fun x hx y hy => hn.nrm x hx y hy)
theorem facR_ser : ∀ (k : Nat) (t : List (List Int)) (h : Grp t), t.length ≤ k → SerG (gpT h) (List.finRange t.length) (fun _ => True) (facR k t)
  | 0, t, h, hk => absurd h.pos (by omega)
  | k + 1, t, h, hk => by
    unfold facR
    by_cases h1 : t.length ≤ 1
    · rw [if_pos h1]
      exact .nil fun x => ⟨fun _ => Fin.ext (by have := x.2; have := h.one.1; show x.1 = oneN t; omega), fun _ => trivial⟩
    · rw [if_neg h1]
      obtain ⟨_, hn, hm⟩ := pn_ok h (by omega)
      have hnn : NrmIn t (allI t) (pnL t) := fun x hx y hy => hn.nrm x hx y hy
      have hq := pn_quo h (by omega)
      have hlt : (pnL t).length < t.length := by
        have := mx_lt (elT t.length) hm
        rw [← pS_all, szT (allI_cl h.toSh), szT hn.cl, show (allI t).length = t.length from disI_len _] at this
        exact this
      have ih := facR_ser k (subT t (pnL t)) (sub_grp h hn.cl) (by rw [subT_len]; omega)
      have hser := (emb_ok h hn.cl).ser (elT t.length) (elT _) ih
      rw [emb_all hn.cl] at hser
      have hf : facG (gpT h) (List.finRange t.length) (fun _ => True) (pS (pnL t)) = (classN (cosL t (pnL t)), @decide (Comm (quoL t (cosL t (pnL t)))) (Classical.propDecidable _)) := by
        unfold facG
        have e1 : szS (List.finRange t.length) (fun _ : Fin t.length => True) = t.length := by
          rw [← pS_all, szT (allI_cl h.toSh)]; exact disI_len _
        rw [e1, szT hn.cl]
        have hl := lagrange h hn.cl
        have e2 : t.length / (pnL t).length = classN (cosL t (pnL t)) := by
          rw [hl]; exact Nat.mul_div_cancel _ hn.cl.pos
        rw [e2]
        exact congrArg (Prod.mk _) (decide_eq_decide.2 (((quo_ok h hn.cl hnn hq).ab).trans (comm_gp hq).symm))
      rw [← hf]
      exact .cons hm hser
end
/-! ### Sorted lists -/
def cmpF (a b : Int × Bool) : Int := if cmpI a.1 b.1 ≠ 0 then cmpI a.1 b.1 else if a.2 = b.2 then 0 else if b.2 = true then -1 else 1
theorem cmpF_tot : TotC cmpF where
  swap a b := by
    have := cmpI_tot.swap a.1 b.1
    unfold cmpF
    by_cases h : cmpI a.1 b.1 = 0
    · have h2 : cmpI b.1 a.1 = 0 := by omega
      have e1 : ¬ cmpI b.1 a.1 ≠ 0 := fun hh => hh h2
      have e2 : ¬ cmpI a.1 b.1 ≠ 0 := fun hh => hh h
      rw [if_neg e1, if_neg e2]
      cases a.2 <;> cases b.2 <;> simp
    · have h2 : cmpI b.1 a.1 ≠ 0 := by omega
      rw [if_pos h2, if_pos h]; exact this
  eq a b h := by
    unfold cmpF at h
    by_cases h1 : cmpI a.1 b.1 = 0
    · rw [if_neg (by simpa using h1)] at h
      have e1 := cmpI_tot.eq _ _ h1
      obtain ⟨a1, a2⟩ := a
      obtain ⟨b1, b2⟩ := b
      have e1 : a1 = b1 := e1
      subst e1
      cases a2 <;> cases b2 <;> simp at h <;> rfl
    · rw [if_pos h1] at h; exact absurd h h1
  trans a b d h1 h2 := by
    unfold cmpF at h1 h2 ⊢
    have tr := cmpI_tot.trans a.1 b.1 d.1
    by_cases e1 : cmpI a.1 b.1 = 0
    · have e1' := cmpI_tot.eq _ _ e1
      rw [if_neg (by simpa using e1)] at h1
      rw [e1']
      by_cases e2 : cmpI b.1 d.1 = 0
      · rw [if_neg (by simpa using e2)] at h2 ⊢
        revert h1 h2
        cases a.2 <;> cases b.2 <;> cases d.2 <;> simp
      · rw [if_pos e2] at h2 ⊢; exact h2
    · rw [if_pos e1] at h1
      by_cases e2 : cmpI b.1 d.1 = 0
      · have e2' := cmpI_tot.eq _ _ e2
        rw [← e2', if_pos e1]; exact h1
      · rw [if_pos e2] at h2
        have := tr h1 h2
        rw [if_pos (by omega)]; exact this
end Go.Proofs.YtpanlghofeebhaaGreat
end
section
/- Plain: composition series of a group as lists of subgroups; their factors; solvable groups. -/
namespace Go.Proofs.YtpanlghofeebhaaGreat
section
variable {t : List (List Int)}
structure StepG (t : List (List Int)) (a s : List Int) : Prop where
  cl : ClL t s
  sub : ∀ x ∈ s, x ∈ a
  nrm : NrmIn t a s
  mx : Mx t a s
structure ChkS (t : List (List Int)) (S : List (List Int)) : Prop where
  grp : Grp t
  pos : 0 < S.length
  top : S.getD 0 [] = allI t
  step : ∀ i, i + 1 < S.length → StepG t (S.getD i []) (S.getD (i + 1) [])
  last : (S.getD (S.length - 1) []).length = 1
noncomputable def chSB (t : List (List Int)) (S : List (List Int)) : Bool := @decide (ChkS t S) (Classical.propDecidable _)
theorem chSB_true {S : List (List Int)} : chSB t S = true ↔ ChkS t S := by unfold chSB; exact @decide_eq_true_iff _ (Classical.propDecidable _)
theorem chSB_false {S : List (List Int)} : chSB t S = false ↔ ¬ ChkS t S := by unfold chSB; exact @decide_eq_false_iff_not _ (Classical.propDecidable _)
noncomputable def facS (t : List (List Int)) (a s : List Int) : Nat × Bool := (a.length / s.length, @decide (AbT t a s) (Classical.propDecidable _))
theorem facS_eq (h : Grp t) {a s : List Int} (ha : ClL t a) (hs : ClL t s) : facG (gpT h) (List.finRange t.length) (pS a) (pS s) = facS t a s := by
  unfold facG facS
  rw [szT ha, szT hs]
  exact congrArg (Prod.mk _) (decide_eq_decide.2 (abT h ha).symm)
theorem one_of_len (h : Grp t) {l : List Int} (hl : ClL t l) (h1 : l.length = 1) : l = [(oneN t : Int)] := by
  match l, h1 with
  | [a], _ =>
    have := setI_iff.1 (hl.one h)
    rw [List.mem_singleton] at this
    rw [this]
noncomputable def facL (t : List (List Int)) (S : List (List Int)) : List (Nat × Bool) := (List.range (S.length - 1)).map fun i => facS t (S.getD i []) (S.getD (i + 1) [])
theorem facL_len (S : List (List Int)) : (facL t S).length = S.length - 1 := by simp [facL]
theorem ChkS.cl {S : List (List Int)} (H : ChkS t S) : ∀ i, i < S.length → ClL t (S.getD i [])
  | 0, _ => by rw [H.top]; exact allI_cl H.grp.toSh
  | i + 1, hi => (H.step i hi).cl
theorem ChkS.ser {S : List (List Int)} (H : ChkS t S) : SerG (gpT H.grp) (List.finRange t.length) (fun _ => True) (facL t S) := by
  have key : ∀ n i, i + n + 1 = S.length → SerG (gpT H.grp) (List.finRange t.length) (pS (S.getD i [])) ((List.range' i n).map fun j => facS t (S.getD j []) (S.getD (j + 1) [])) := by
    intro n
    induction n with
    | zero =>
      intro i hi
      have hl := H.last
      rw [show S.length - 1 = i by omega] at hl
      have e := one_of_len H.grp (H.cl i (by omega)) hl
      rw [e, pS_one H.grp]
      exact .nil fun x => Iff.rfl
    | succ n ih =>
      intro i hi
      have st := H.step i (by omega)
      have ca := H.cl i (by omega)
      rw [List.range'_succ, List.map_cons, ← facS_eq H.grp ca st.cl]
      exact .cons ((mxT H.grp ca st.cl st.sub st.nrm).1 st.mx) (ih (i + 1) (by omega))
  have hp := H.pos
  have := key (S.length - 1) 0 (by omega)
  rw [H.top, pS_all, ← List.range_eq_range'] at this
  exact this
/-! ### Solvable groups -/
theorem sol_iff (h : Grp t) : SolG (gpT h) (fun _ => True) ↔ solB t = true := by
  have hone : ∀ k, (dS t k).length = 1 → ∀ x, pS (dS t k) x → x = (gpT h).one := fun k hk x hx => by
    rw [one_of_len h (dS_cl h k) hk, pS_one h] at hx; exact hx
  constructor
  · intro hs
    have key : ∀ W : Fin t.length → Prop, SolG (gpT h) W → ∀ k, (∀ x, pS (dS t k) x → W x) → ∃ m, (dS t (k + m)).length = 1 := by
      intro W hW
      induction hW with
      | one hw =>
        intro k hk
        refine ⟨0, ?_⟩
        have hc := dS_cl h k
        have e : dS t k = [(oneN t : Int)] := asc_mem_ext hc (one_ns h).cl fun x hx => by
          have a1 : setI [(oneN t : Int)] x = true ↔ x = oneN t := by rw [setI_iff, List.mem_singleton]; omega
          rw [a1]
          constructor
          · intro hm; exact congrArg Fin.val (hw ⟨x, hx⟩ (hk ⟨x, hx⟩ hm))
          · intro e; rw [e]; exact hc.one h
        show (dS t k).length = 1
        rw [e]; rfl
      | @step W S hS hsub hc _ ih =>
        intro k hk
        have hcl := dS_cl h k
        obtain ⟨m, hm⟩ := ih (k + 1) fun x hx => by
          have hm : Mk t ((oneN t : Int) :: cmL t (dS t k)) x.1 := (genL_set x.2).1 hx
          refine (mk_least (S := fun z => ∃ hz : z < t.length, S ⟨z, hz⟩) (fun a ha => ?_) (fun a b ⟨ha, la⟩ ⟨hb, lb⟩ => ⟨(h.toSh.ent ha hb).2, hS.mul _ _ la lb⟩) hm).2
          rcases List.mem_cons.1 ha with rfl | ha
          · exact ⟨by rw [Int.toNat_natCast]; exact h.one.1, hS.one⟩
          · obtain ⟨b, hb, c, hcc, rfl⟩ := mem_cmL.1 ha
            have b1 := hcl.ins b hb
            have c1 := hcl.ins c hcc
            have bl : b.toNat < t.length := by omega
            have cl : c.toNat < t.length := by omega
            rw [Int.toNat_natCast]
            exact ⟨cmN_lt h bl cl, hc ⟨_, bl⟩ ⟨_, cl⟩ (hk ⟨_, bl⟩ (hcl.iset hb)) (hk ⟨_, cl⟩ (hcl.iset hcc))⟩
        exact ⟨m + 1, by rw [show k + (m + 1) = k + 1 + m by omega]; exact hm⟩
    obtain ⟨m, hm⟩ := key _ hs 0 fun _ _ => trivial
    rw [Nat.zero_add] at hm
    refine decide_eq_true ?_
    refine Classical.byContradiction fun hne => ?_
    have hex : ∃ k, k < t.length ∧ (dS t (k + 1)).length = (dS t k).length := Classical.byContradiction fun hno => by
      have dn : ∀ k, k ≤ t.length → k + (dS t k).length ≤ t.length := by
        intro k
        induction k with
        | zero => intro _; rw [Nat.zero_add]; exact Nat.le_of_eq (disI_len _)
        | succ k ih =>
          intro hk
          have h1 := ih (by omega)
          have h2 := (dS_le h k).1
          have h3 : (dS t (k + 1)).length ≠ (dS t k).length := fun e => hno ⟨k, by omega, e⟩
          omega
      have h1 := dn _ (Nat.le_refl _)
      have h2 := (dS_cl h t.length).pos
      omega
    obtain ⟨k, hk, he⟩ := hex
    have st := dS_stop h he
    have s1 := st (t.length - k)
    rw [show k + (t.length - k) = t.length by omega] at s1
    rcases Nat.le_total m t.length with hmn | hmn
    · have := dS_one h hm (t.length - m)
      rw [show m + (t.length - m) = t.length by omega] at this
      exact hne this
    · have s2 := st (m - k)
      rw [show k + (m - k) = m by omega] at s2
      rw [s1, ← s2] at hne
      exact hne hm
  · intro hs
    have hs : (dS t t.length).length = 1 := of_decide_eq_true hs
    have key : ∀ j, j ≤ t.length → SolG (gpT h) (pS (dS t (t.length - j))) := by
      intro j
      induction j with
      | zero => intro _; exact .one (hone _ hs)
      | succ j ih =>
        intro hj
        have ih := ih (by omega)
        have e : dS t (t.length - j) = derL t (dS t (t.length - (j + 1))) := by
          rw [show t.length - j = (t.length - (j + 1)) + 1 by omega]; rfl
        have hc := dS_cl h (t.length - (j + 1))
        rw [e] at ih
        refine .step (S := pS (derL t (dS t (t.length - (j + 1))))) (sgT h (der_cl h hc.ins)) (fun x hx => der_sub h hc x.1 x.2 hx) ((abT h hc).1 fun x y hx hy => ?_) ih
        have lx := hc.lt hx
        have ly := hc.lt hy
        refine (genL_set (cmN_lt h lx ly)).2 ?_
        have := Mk.gen (t := t) (List.mem_cons_of_mem (oneN t : Int) ((mem_cmL (t := t)).2 ⟨_, setI_iff.1 hx, _, setI_iff.1 hy, rfl⟩))
        simpa only [Int.toNat_natCast] using this
    have := key t.length (Nat.le_refl _)
    rw [Nat.sub_self] at this
    have e : (pS (dS t 0) : Fin t.length → Prop) = fun _ => True := pS_all t
    rw [← e]; exact this
/-! ### The greatest normal subgroup that the code finds -/
structure MaxI (t : List (List Int)) (w : List Int) (k : Nat) (s : List Int) : Prop where
  cl : ClL t s
  sub : ∀ x ∈ s, x ∈ w
  nrm : NrmIn t w s
  lt : s.length < w.length
  mx : ∀ i, i < k → w.getD i 0 ∈ s ∨ Gd t w s (w.getD i 0).toNat
theorem MaxI.start (h : Grp t) {w : List Int} (hw : ClL t w) (h2 : 1 < w.length) : MaxI t w 0 [(oneN t : Int)] := by
  have hn := one_ns h
  exact ⟨hn.cl, fun x hx => by rw [List.mem_singleton.1 hx]; exact setI_iff.1 (hw.one h), fun x hx y hy => hn.nrm x (mem_disI.2 (hw.ins x hx)) y hy, h2, fun i hi => absurd hi (Nat.not_lt_zero _)⟩
theorem MaxI.old {w s : List Int} {k : Nat} (H : MaxI t w k s) (hm : w.getD k 0 ∈ s) : MaxI t w (k + 1) s :=
  ⟨H.cl, H.sub, H.nrm, H.lt, fun i hi => by
    rcases Nat.lt_or_ge i k with h1 | h1
    · exact H.mx i h1
    · rw [show i = k by omega]; exact .inl hm⟩
noncomputable abbrev clN (t : List (List Int)) (w s : List Int) (k : Nat) : List Int := ascV t.length (cloF t w (s ++ [w.getD k 0]))
theorem MaxI.gens {w s : List Int} {k : Nat} (H : MaxI t w k s) (hk : k < w.length) : ∀ x ∈ s ++ [w.getD k 0], x ∈ w := fun x hx => by
  rcases List.mem_append.1 hx with hx | hx
  · exact H.sub x hx
  · rw [List.mem_singleton.1 hx]; exact getD_mem hk
theorem MaxI.full (h : Grp t) {w s : List Int} {k : Nat} (H : MaxI t w k s) (hw : ClL t w) (hk : k < w.length) (hl : w.length ≤ (clN t w s k).length) : MaxI t w (k + 1) s :=
  ⟨H.cl, H.sub, H.nrm, H.lt, fun i hi => by
    rcases Nat.lt_or_ge i k with h1 | h1
    · exact H.mx i h1
    · rw [show i = k by omega]
      refine .inr ((gd_iff h hw H.sub (getD_mem hk)).2 ?_)
      have hg := H.gens hk
      have hcl := cloW_cl h hw.ins (g := s ++ [w.getD k 0]) (fun y hy => hw.ins y (hg y hy))
      have := (asc_sub_len hcl hw (cloW_sub h hw hg)).1
      exact Nat.le_antisymm this hl⟩
theorem MaxI.more (h : Grp t) {w s : List Int} {k : Nat} (H : MaxI t w k s) (hw : ClL t w) (hk : k < w.length) (hl : (clN t w s k).length < w.length) : MaxI t w (k + 1) (clN t w s k) := by
  have hg := H.gens hk
  have hgi : inT t (s ++ [w.getD k 0]) := fun y hy => hw.ins y (hg y hy)
  have hcl := cloW_cl h hw.ins hgi
  have hhas : ∀ x ∈ s ++ [w.getD k 0], x ∈ clN t w s k := fun x hx => by
    have := setI_iff.1 (cloW_has h hw hgi x hx)
    rwa [Int.toNat_of_nonneg (hgi x hx).1] at this
  refine ⟨hcl, fun x hx => ?_, cloW_nm h hw hgi, hl, fun i hi => ?_⟩
  · have hx' := hcl.ins x hx
    have := setI_iff.1 (cloW_sub h hw hg x.toNat (by omega) (hcl.iset hx))
    rwa [Int.toNat_of_nonneg hx'.1] at this
  · rcases Nat.lt_or_ge i k with h1 | h1
    · rcases H.mx i h1 with h2 | h2
      · exact .inl (hhas _ (List.mem_append_left _ h2))
      · refine .inr fun y hy => (h2 y hy).mono fun z hz => ?_
        rcases List.mem_cons.1 hz with rfl | hz
        · exact List.mem_cons_self
        · refine List.mem_cons_of_mem _ ?_
          obtain ⟨g, hg, x, hx, rfl⟩ := mem_cjL.1 hz
          refine mem_cjL.2 ⟨g, ?_, x, hx, rfl⟩
          rcases List.mem_append.1 hg with hg | hg
          · exact List.mem_append_left _ (hhas _ (List.mem_append_left _ hg))
          · exact List.mem_append_right _ hg
    · rw [show i = k by omega]
      exact .inl (hhas _ (by simp))
theorem MaxI.done {w s : List Int} {k : Nat} (H : MaxI t w k s) (hk : w.length ≤ k) : StepG t w s :=
  ⟨H.cl, H.sub, H.nrm, Nat.ne_of_lt H.lt, fun x hx hn => by
    obtain ⟨i, hi, rfl⟩ := mem_getD 0 hx
    exact (H.mx i (by omega)).resolve_left hn⟩
theorem StepG.lt (h : Grp t) {w s : List Int} (hw : ClL t w) (H : StepG t w s) : s.length < w.length := by
  have hle := asc_sub_len H.cl hw fun x _ hm => setI_iff.2 (H.sub _ (setI_iff.1 hm))
  exact Nat.lt_of_le_of_ne hle.1 H.mx.1
end
end Go.Proofs.YtpanlghofeebhaaGreat
end
