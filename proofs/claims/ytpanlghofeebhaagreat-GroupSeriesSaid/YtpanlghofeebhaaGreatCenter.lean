import Derived.Test.YtpanlghofeebhaaGreatJhSer
import Derived.Test.YtpanlghofeebhaaGreatGrpLaw
import Derived.Test.YtpanlghofeebhaaGreatMult
import Derived.Test.YtpanlghofeebhaaGreatEqvLaw
import Derived.Test.YtpanlghofeebhaaGreatAmRet
section
/- Plain: the reference's test of a series; lists of factors, sorted and by insertion. -/
namespace Go.Proofs.YtpanlghofeebhaaGreat
section
variable {t : List (List Int)}
theorem plL_get {a s : List Int} {i : Nat} (hi : i < s.length) : (plL a s).getD i 0 = posTo a a.length (s.getD i 0).toNat := by
  simp [plL, List.getD, hi]
theorem plL_len (a s : List Int) : (plL a s).length = s.length := by simp [plL]
theorem asc_lt {l : List Int} (h : Asc l) {i j : Nat} (hij : i < j) (hj : j < l.length) : l.getD i 0 < l.getD j 0 := by
  have := List.pairwise_iff_getElem.1 (pairwise_adj h) i j (by omega) hj hij
  rw [getD_eq (show i < l.length by omega), getD_eq hj]; exact this
theorem posTo_nn {l : List Int} {x : Nat} : ∀ {k : Nat}, (∀ i, i < k → l.getD i 0 ≠ (x : Int)) → posTo l k x = -1
  | 0, _ => rfl
  | k + 1, h => by rw [posTo, if_neg (h k (by omega)), posTo_nn fun i hi => h i (by omega)]
theorem pl_cl (h : Grp t) {a s : List Int} (ha : ClL t a) (hs : ClL t s) (hsa : ∀ x ∈ s, x ∈ a) : ClL (subT t a) (plL a s) := by
  have hin : ∀ i, i < s.length → 0 ≤ (plL a s).getD i 0 ∧ ((plL a s).getD i 0).toNat < a.length ∧ a.getD ((plL a s).getD i 0).toNat 0 = s.getD i 0 := fun i hi => by
    rw [plL_get hi]
    have hx := hsa _ (getD_mem (d := 0) hi)
    have h0 := (hs.ins _ (getD_mem (d := 0) hi)).1
    obtain ⟨j, hj, e⟩ := mem_getD 0 hx
    have p := posTo_in (l := a) (x := (s.getD i 0).toNat) (k := a.length) ⟨j, hj, by rw [e]; omega⟩
    have r := posTo_rng a a.length (s.getD i 0).toNat
    exact ⟨p.1, by omega, by rw [p.2]; omega⟩
  have hemb := emb_ok h ha
  have him := emb_im ha hs.ins hsa
  have hset : ∀ b : Fin (subT t a).length, pS (plL a s) b ↔ pS s (embT ha b) := fun b => by rw [← him]; exact hemb.im.symm
  have hsg := hemb.pre (sgT h hs)
  refine ⟨by rw [plL_len]; exact hs.pos, fun i hi => ?_, fun x hx => ?_, fun x y hx hy h1 h2 => ?_⟩
  · rw [plL_len] at hi
    have a1 := hin i (by omega)
    have a2 := hin (i + 1) hi
    have a3 := hs.asc i hi
    rcases Int.lt_or_le ((plL a s).getD i 0) ((plL a s).getD (i + 1) 0) with h1 | h1
    · exact h1
    · rcases Nat.lt_or_ge ((plL a s).getD (i + 1) 0).toNat ((plL a s).getD i 0).toNat with h2 | h2
      · have := asc_lt ha.asc h2 a1.2.1
        rw [a1.2.2, a2.2.2] at this; omega
      · have : ((plL a s).getD (i + 1) 0).toNat = ((plL a s).getD i 0).toNat := by omega
        rw [← a1.2.2, ← a2.2.2, this] at a3; omega
  · obtain ⟨i, hi, rfl⟩ := mem_getD 0 hx
    rw [plL_len] at hi
    have := hin i hi
    rw [subT_len]; omega
  · have b1 := (hset ⟨x, hx⟩).1 h1
    have b2 := (hset ⟨y, hy⟩).1 h2
    exact (hset _).2 (hsg.mul ⟨x, hx⟩ ⟨y, hy⟩ b1 b2)
theorem pl_mx (h : Grp t) {a s : List Int} (ha : ClL t a) (hs : ClL t s) (hsa : ∀ x ∈ s, x ∈ a) (hn : NrmIn t a s) :
    (gpT (sub_grp h ha)).Mx (fun _ => True) (pS (plL a s)) ↔ Mx t a s := by
  rw [(emb_ok h ha).mx, emb_all ha, emb_im ha hs.ins hsa]
  exact (mxT h ha hs hsa hn).symm
theorem pl_nm (h : Grp t) {a s : List Int} (ha : ClL t a) (hs : ClL t s) (hsa : ∀ x ∈ s, x ∈ a) :
    NrmIn (subT t a) (allI (subT t a)) (plL a s) ↔ NrmIn t a s := by
  have hg := sub_grp h ha
  have hcl := pl_cl h ha hs hsa
  have hemb := emb_ok h ha
  have him := emb_im ha hs.ins hsa
  have hal := emb_all ha
  have hset : ∀ b : Fin (subT t a).length, pS (plL a s) b ↔ pS s (embT ha b) := fun b => by rw [← him]; exact hemb.im.symm
  rw [nmT hg (allI_cl hg.toSh).ins hcl.ins, nmT h ha.ins hs.ins, pS_all]
  constructor
  · intro hN x y hx hy
    rw [← hal] at hx
    obtain ⟨b, _, rfl⟩ := hx
    have hy' := hy
    rw [← him] at hy'
    obtain ⟨c, hc, rfl⟩ := hy'
    rw [← hemb.cj]
    exact (hset _).1 (hN b c trivial hc)
  · intro hN x y _ hy
    refine (hset _).2 ?_
    rw [hemb.cj]
    refine hN _ _ ?_ ((hset _).1 hy)
    rw [← hal]; exact ⟨x, trivial, rfl⟩
theorem step_ref (h : Grp t) {a s : List Int} (ha : ClL t a) (hs : ClL t s) :
    StepG t a s ↔ ClL (subT t a) (plL a s) ∧ NrmIn (subT t a) (allI (subT t a)) (plL a s) ∧ (plL a s).length ≠ (subT t a).length ∧ (nsL (quoL (subT t a) (cosL (subT t a) (plL a s)))).length = 2 := by
  have hg := sub_grp h ha
  have quo : ClL (subT t a) (plL a s) → NrmIn (subT t a) (allI (subT t a)) (plL a s) → Grp (quoL (subT t a) (cosL (subT t a) (plL a s))) := fun h1 h2 =>
    quo_grp hg (cosL_len _ _) (cosL_canon _ _) (nrm_cg hg h1 h2)
  constructor
  · intro H
    have h1 := pl_cl h ha hs H.sub
    have h2 := (pl_nm h ha hs H.sub).2 H.nrm
    refine ⟨h1, h2, by rw [plL_len, subT_len]; exact H.mx.1, ?_⟩
    exact (simple_quo hg h1 h2 (quo h1 h2)).2 ((pl_mx h ha hs H.sub H.nrm).2 H.mx)
  · rintro ⟨h1, h2, h3, h4⟩
    have hsa : ∀ x ∈ s, x ∈ a := fun x hx => by
      refine Classical.byContradiction fun hno => ?_
      have := h1.ins (posTo a a.length x.toNat) (List.mem_map.2 ⟨x, hx, rfl⟩)
      have h0 := (hs.ins x hx).1
      have : posTo a a.length x.toNat = -1 := posTo_nn fun i hi he => hno (by
        have : x = a.getD i 0 := by rw [he]; omega
        rw [this]; exact getD_mem hi)
      omega
    have hn := (pl_nm h ha hs hsa).1 h2
    exact ⟨hs, hsa, hn, (pl_mx h ha hs hsa hn).1 ((simple_quo hg h1 h2 (quo h1 h2)).1 h4)⟩
end
/-! ### Insertion -/
section
variable {α : Type} {c : α → α → Int} {d : α}
theorem pw_getD {R : α → α → Prop} {l : List α} (d : α) : l.Pairwise R ↔ ∀ i j, i < j → j < l.length → R (l.getD i d) (l.getD j d) := by
  rw [List.pairwise_iff_getElem]
  constructor
  · intro h i j hij hj
    rw [getD_eq (show i < l.length by omega), getD_eq hj]; exact h i j (by omega) hj hij
  · intro h i j hi hj hij
    have := h i j hij hj
    rwa [getD_eq hi, getD_eq hj] at this
structure InsP (c : α → α → Int) (d : α) (l : List α) (f : α) (k : Nat) : Prop where
  le : k ≤ l.length
  up : ∀ j, k ≤ j → j < l.length → c f (l.getD j d) < 0
def insA (l : List α) (f : α) (k : Nat) : List α := l.take k ++ [f] ++ l.drop k
theorem insA_perm (l : List α) (f : α) (k : Nat) : (insA l f k).Perm (f :: l) := by
  unfold insA
  rw [List.append_assoc, List.singleton_append]
  exact List.perm_middle.trans (by rw [List.take_append_drop])
theorem InsP.srt (hc : TotC c) {l : List α} {f : α} {k : Nat} (H : InsP c d l f k) (hl : l.Pairwise fun a b => c a b ≤ 0) (hk : k = 0 ∨ 0 ≤ c f (l.getD (k - 1) d)) : (insA l f k).Pairwise fun a b => c a b ≤ 0 := by
  have hd : (l.take k).Pairwise fun a b => c a b ≤ 0 := hl.sublist (List.take_sublist _ _)
  have he : (l.drop k).Pairwise fun a b => c a b ≤ 0 := hl.sublist (List.drop_sublist _ _)
  have hx : ∀ x ∈ l.take k, c x f ≤ 0 := fun x hx => by
    obtain ⟨i, hi, rfl⟩ := mem_getD d hx
    have hi' : i < k := by rw [List.length_take] at hi; omega
    have hkl := H.le
    have e : (l.take k).getD i d = l.getD i d := by simp [List.getD, List.getElem?_take, hi']
    rw [e]
    have h1 := hk.resolve_left (by omega)
    have h2 := hc.swap f (l.getD (k - 1) d)
    rcases Nat.lt_or_ge i (k - 1) with h3 | h3
    · exact le_trans' hc ((pw_getD d).1 hl i (k - 1) h3 (by omega)) (by omega)
    · rw [show i = k - 1 by omega]; omega
  have hy : ∀ y ∈ l.drop k, c f y ≤ 0 := fun y hy => by
    obtain ⟨i, hi, rfl⟩ := mem_getD d hy
    rw [List.length_drop] at hi
    have e : (l.drop k).getD i d = l.getD (k + i) d := by simp [List.getD]
    rw [e]
    exact Int.le_of_lt (H.up _ (by omega) (by omega))
  unfold insA
  rw [List.append_assoc, List.singleton_append]
  refine List.pairwise_append.2 ⟨hd, List.pairwise_cons.2 ⟨hy, he⟩, fun a ha b hb => ?_⟩
  rcases List.mem_cons.1 hb with rfl | hb
  · exact hx a ha
  · exact le_trans' hc (hx a ha) (hy b hb)
/-! ### Insertion sort in place -/
structure InsI (c : α → α → Int) (d : α) (l D : List α) (i j : Nat) : Prop where
  perm : D.Perm l
  ji : j ≤ i
  il : i < l.length
  oth : ∀ p q, p < q → q ≤ i → p ≠ j → q ≠ j → c (D.getD p d) (D.getD q d) ≤ 0
  up : ∀ q, j < q → q ≤ i → c (D.getD j d) (D.getD q d) ≤ 0
def SrtTo (c : α → α → Int) (d : α) (D : List α) (i : Nat) : Prop := ∀ p q, p < q → q < i → c (D.getD p d) (D.getD q d) ≤ 0
theorem InsI.start {l D : List α} {i : Nat} (hp : D.Perm l) (hi : i < l.length) (h : SrtTo c d D i) : InsI c d l D i i :=
  ⟨hp, Nat.le_refl _, hi, fun p q hpq hq _ hqi => h p q hpq (by omega), fun q h1 h2 => by omega⟩
theorem InsI.stop (hc : TotC c) {l D : List α} {i j : Nat} (H : InsI c d l D i j) (h : j = 0 ∨ 0 ≤ c (D.getD j d) (D.getD (j - 1) d)) : SrtTo c d D (i + 1) := fun p q hpq hq => by
  by_cases h1 : p = j
  · rw [h1]; exact H.up q (by omega) (by omega)
  · by_cases h2 : q = j
    · have h3 := h.resolve_left (by omega)
      have h4 := hc.swap (D.getD j d) (D.getD (j - 1) d)
      rw [h2]
      rcases Nat.lt_or_ge p (j - 1) with h5 | h5
      · exact le_trans' hc (H.oth p (j - 1) h5 (by have := H.ji; omega) h1 (by omega)) (by omega)
      · rw [show p = j - 1 by omega]; omega
    · exact H.oth p q hpq (by omega) h1 h2
def swpD (d : α) (D : List α) (j : Nat) : List α := (D.set j (D.getD (j - 1) d)).set (j - 1) (D.getD j d)
theorem swpD_get {D : List α} {j q : Nat} (h0 : 0 < j) (hj : j < D.length) : (swpD d D j).getD q d = if q = j then D.getD (j - 1) d else if q = j - 1 then D.getD j d else D.getD q d := by
  unfold swpD
  by_cases h1 : q = j
  · rw [if_pos h1, h1, getD_set_ne (by omega), getD_set_eq hj]
  · rw [if_neg h1]
    by_cases h2 : q = j - 1
    · rw [if_pos h2, h2, getD_set_eq (by rw [List.length_set]; omega)]
    · rw [if_neg h2, getD_set_ne (by omega), getD_set_ne (by omega)]
theorem swpD_perm {D : List α} {j : Nat} (h0 : 0 < j) (hj : j < D.length) : (swpD d D j).Perm D := by
  unfold swpD
  rw [getD_eq (show j - 1 < D.length by omega), getD_eq hj]
  exact List.set_set_perm hj (by omega)
theorem InsI.next (hc : TotC c) {l D : List α} {i j : Nat} (H : InsI c d l D i j) (h0 : 0 < j) (h : c (D.getD j d) (D.getD (j - 1) d) < 0) : InsI c d l (swpD d D j) i (j - 1) := by
  have hlen := H.perm.length_eq
  have hil := H.il
  have hji := H.ji
  have g : ∀ q, (swpD d D j).getD q d = if q = j then D.getD (j - 1) d else if q = j - 1 then D.getD j d else D.getD q d := fun q => swpD_get h0 (by omega)
  refine ⟨(swpD_perm h0 (by omega)).trans H.perm, by omega, hil, fun p q hpq hq h1 h2 => ?_, fun q h1 h2 => ?_⟩
  · rw [g p, g q]
    by_cases e1 : p = j
    · rw [if_pos e1, if_neg (by omega), if_neg h2]
      exact H.oth (j - 1) q (by omega) hq (by omega) (by omega)
    · rw [if_neg e1, if_neg h1]
      by_cases e2 : q = j
      · rw [if_pos e2]
        exact H.oth p (j - 1) (by omega) (by omega) e1 (by omega)
      · rw [if_neg e2, if_neg h2]
        exact H.oth p q hpq hq e1 e2
  · rw [g (j - 1), g q, if_neg (by omega), if_pos rfl]
    by_cases e2 : q = j
    · rw [if_pos e2]; omega
    · rw [if_neg e2, if_neg (by omega)]
      exact H.up q (by omega) h2
theorem SrtTo.done (hc : TotC c) {l D : List α} (hp : D.Perm l) (h : SrtTo c d D D.length) : srt c l = D :=
  srt_uniq hc ((pw_getD d).2 fun i j hij hj => h i j hij hj) hp
end
end Go.Proofs.YtpanlghofeebhaaGreat
end
section
/- mult.Zero where 0 is a zero: contract. -/
namespace Go.Proofs.YtpanlghofeebhaaGreat
open Go Go.AM
set_option maxRecDepth 100000
set_option maxHeartbeats 1000000
def elemsL (n : Nat) : List Int := (List.range n).map fun i : Nat => (i : Int)
end Go.Proofs.YtpanlghofeebhaaGreat
end
section
/- More idioms of stepping: loops with five to nine things that change. -/
namespace Go.Proofs.YtpanlghofeebhaaGreat
open Go Go.AM
theorem schShr {TY : List TyE} {F : Go.AM.Spec} {ops : List Oper} {t : Sch} {T0 T : List AV} {S0 S : Store} {Q : List AV → Store → Prop} (h : ∀ K : List AV → Store → Prop, K T S → schK TY F ops t T0 S0 K) (hq : Q T S) : schK TY F ops t T0 S0 Q := h Q hq
end Go.Proofs.YtpanlghofeebhaaGreat
end
section
/- mult.choose (the elements with a property), mult.Idempotents: contracts. -/
namespace Go.Proofs.YtpanlghofeebhaaGreat
open Go Go.AM
set_option maxRecDepth 100000
def flP (P : Nat → Bool) (k : Nat) : List Int := ((List.range k).filter P).map fun i : Nat => (i : Int)
theorem flP_yes {P : Nat → Bool} {k : Nat} (h : P k = true) : flP P (k + 1) = flP P k ++ [(k : Int)] := by simp [flP, List.range_succ, List.filter_append, h]
theorem flP_no {P : Nat → Bool} {k : Nat} (h : P k = false) : flP P (k + 1) = flP P k := by simp [flP, List.range_succ, List.filter_append, h]
theorem flP_mem {P : Nat → Bool} {k : Nat} {x : Int} : x ∈ flP P k ↔ ∃ i : Nat, i < k ∧ P i = true ∧ x = (i : Int) := by
  simp only [flP, List.mem_map, List.mem_filter, List.mem_range]
  exact ⟨fun ⟨i, ⟨h1, h2⟩, h3⟩ => ⟨i, h1, h2, h3.symm⟩, fun ⟨i, h1, h2, h3⟩ => ⟨i, ⟨h1, h2⟩, h3.symm⟩⟩
theorem flP_len (P : Nat → Bool) (k : Nat) : (flP P k).length ≤ k := by
  unfold flP; rw [List.length_map]; exact Nat.le_trans (List.length_filter_le _ _) (by simp)
theorem flP_all {P : Nat → Bool} : ∀ {k : Nat}, (∀ i, i < k → P i = true) → flP P k = elemsL k
  | 0, _ => rfl
  | k + 1, h => by rw [flP_yes (h k (by omega)), flP_all fun i hi => h i (by omega)]; simp [elemsL, List.range_succ]
theorem flP_asc {n : Nat} {P : Nat → Bool} : flP P n = ascV n P :=
  asc_ext (asc_of (List.pairwise_map.2 (((List.pairwise_lt_range (n := n)).filter P).imp fun {a b} h => by omega))) (ascV_asc n P) fun x => by rw [flP_mem, ascV_mem]
/-! ### Idempotents -/
end Go.Proofs.YtpanlghofeebhaaGreat
end
section
/- mult.Center, mult.Commutative: contracts. -/
namespace Go.Proofs.YtpanlghofeebhaaGreat
open Go Go.AM
set_option maxRecDepth 100000
section
variable (t : List (List Int))
def cenB (t : List (List Int)) (x : Nat) : Bool := (List.range t.length).all fun y => decide (en t x y = en t y x)
theorem cenB_true {t : List (List Int)} {x : Nat} : cenB t x = true ↔ ∀ y, y < t.length → en t x y = en t y x := by simp [cenB]
theorem cen_all {t : List (List Int)} : (ascV t.length (cenB t)).length = t.length ↔ ∀ x y, x < t.length → y < t.length → en t x y = en t y x := by
  constructor
  · intro e x y hx hy
    have hnd : (ascV t.length (cenB t)).Nodup := (pairwise_adj (ascV_asc _ _)).imp fun {a b} h e => by omega
    have hall : ((x : Nat) : Int) ∈ ascV t.length (cenB t) := by
      refine Classical.byContradiction fun hno => ?_
      have := (List.nodup_cons.2 ⟨hno, hnd⟩ : (((x : Nat) : Int) :: ascV t.length (cenB t)).Nodup).length_le_of_subset (l₂ := elemsL t.length) fun z hz => by
        rcases List.mem_cons.1 hz with rfl | hz
        · exact List.mem_map.2 ⟨x, List.mem_range.2 hx, rfl⟩
        · obtain ⟨i, hi, _, rfl⟩ := ascV_mem.1 hz
          exact List.mem_map.2 ⟨i, List.mem_range.2 hi, rfl⟩
      simp [elemsL, e] at this
      omega
    obtain ⟨i, _, h2, h3⟩ := ascV_mem.1 hall
    obtain rfl : i = x := by omega
    exact cenB_true.1 h2 y hy
  · intro h
    have : ascV t.length (cenB t) = elemsL t.length := by
      rw [← flP_asc]; exact flP_all fun i hi => cenB_true.2 fun y hy => h i y hi hy
    rw [this]; simp [elemsL]
end
end Go.Proofs.YtpanlghofeebhaaGreat
end
