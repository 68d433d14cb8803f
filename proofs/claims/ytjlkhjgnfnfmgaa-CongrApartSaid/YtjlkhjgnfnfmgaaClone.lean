import Derived.Test.YtjlkhjgnfnfmgaaForLaw
import Derived.Test.YtjlkhjgnfnfmgaaIdealLaw
import Derived.Test.YtjlkhjgnfnfmgaaGroup
import Derived.Test.YtjlkhjgnfnfmgaaIdpLaw
import Derived.Test.YtjlkhjgnfnfmgaaRefCg
import Derived.Test.YtjlkhjgnfnfmgaaGrpLaw
section
/- Orders by a comparison; sorted lists; the lexicographic order and the order by size. Plain. -/
namespace Go.Proofs.Ytjlkhjgnfnfmgaa
open Go Go.AM
structure TotC {α : Type} (c : α → α → Int) : Prop where
  swap : ∀ a b, c b a = - c a b
  eq : ∀ a b, c a b = 0 → a = b
  trans : ∀ a b d, c a b < 0 → c b d < 0 → c a d < 0
theorem TotC.self {α : Type} {c : α → α → Int} (h : TotC c) (a : α) : c a a = 0 := by have := h.swap a a; omega
def cmpI (a b : Int) : Int := if a < b then -1 else if b < a then 1 else 0
theorem cmpI_tot : TotC cmpI where
  swap a b := by unfold cmpI; split <;> split <;> (try split) <;> omega
  eq a b := by unfold cmpI; split <;> (try split) <;> omega
  trans a b d := by unfold cmpI; intro h1 h2; split at h1 <;> (try split at h1) <;> split at h2 <;> (try split at h2) <;> first | omega | (rw [if_pos (by omega)]; omega)
def Srt {α : Type} (c : α → α → Int) (l : List α) : Prop := l.Pairwise fun a b => c a b < 0
section
variable {α : Type} {c : α → α → Int}
theorem Srt.nodup (h : TotC c) {l : List α} (hs : Srt c l) : l.Nodup := hs.imp fun {a b} hab e => by subst e; have := h.self a; omega
theorem perm_sorted (h : TotC c) : ∀ {l m : List α}, l.Pairwise (fun a b => c a b ≤ 0) → m.Pairwise (fun a b => c a b ≤ 0) → l.Perm m → l = m
  | [], m, _, _, hp => by rw [List.nil_perm.1 hp]
  | a :: l, [], _, _, hp => by have := hp.length_eq; simp at this
  | a :: l, b :: m, h1, h2, hp => by
    have h1' := List.pairwise_cons.1 h1
    have h2' := List.pairwise_cons.1 h2
    have e : a = b := by
      have ha : a ∈ b :: m := hp.mem_iff.1 (by simp)
      have hb : b ∈ a :: l := hp.mem_iff.2 (by simp)
      rcases List.mem_cons.1 ha with e | ha
      · exact e
      · rcases List.mem_cons.1 hb with e | hb
        · exact e.symm
        · have g1 := h2'.1 a ha
          have g2 := h1'.1 b hb
          have := h.swap a b
          exact h.eq _ _ (by omega)
    subst e
    rw [perm_sorted h h1'.2 h2'.2 hp.cons_inv]
theorem sorted_uniq (h : TotC c) {l m : List α} (hl : Srt c l) (hm : Srt c m) (he : ∀ x, x ∈ l ↔ x ∈ m) : l = m :=
  perm_sorted h (hl.imp fun h => by omega) (hm.imp fun h => by omega) ((List.perm_ext_iff_of_nodup (hl.nodup h) (hm.nodup h)).2 he)
end
end Go.Proofs.Ytjlkhjgnfnfmgaa
end
section
/- All ideals of a small table: plain. Sets as a word of bits. -/
namespace Go.Proofs.Ytjlkhjgnfnfmgaa
open Go Go.AM
open Classical
theorem pairwise_adj {l : List Int} (h : Asc l) : l.Pairwise (· < ·) := by
  rw [List.pairwise_iff_getElem]
  have key : ∀ d i, i + d + 1 < l.length → l.getD i 0 < l.getD (i + d + 1) 0 := by
    intro d
    induction d with
    | zero => intro i hi; exact h i hi
    | succ d ih => intro i hi; have h1 := ih i (by omega); have h2 := h (i + d + 1) (by omega); rw [show i + (d + 1) + 1 = i + d + 1 + 1 by omega]; omega
  intro i j hi hj hij
  have := key (j - i - 1) i (by omega)
  rw [show i + (j - i - 1) + 1 = j by omega, getD_eq hi, getD_eq hj] at this
  exact this
theorem asc_of {l : List Int} (h : l.Pairwise (· < ·)) : Asc l := fun i hi => by
  rw [getD_eq (by omega), getD_eq hi]
  exact List.pairwise_iff_getElem.1 h i (i + 1) (by omega) hi (by omega)
theorem asc_ext {l m : List Int} (hl : Asc l) (hm : Asc m) (h : ∀ x, x ∈ l ↔ x ∈ m) : l = m := by
  have c : ∀ a b : Int, cmpI a b < 0 ↔ a < b := fun a b => by unfold cmpI; split <;> (try split) <;> omega
  exact sorted_uniq cmpI_tot ((pairwise_adj hl).imp fun hab => (c _ _).2 hab) ((pairwise_adj hm).imp fun hab => (c _ _).2 hab) h
theorem ascV_asc (n : Nat) (f : Nat → Bool) : Asc (ascV n f) := by
  refine asc_of ?_
  unfold ascV memV memTo
  rw [List.pairwise_map]
  refine List.Pairwise.imp ?_ (List.Pairwise.sublist List.filter_sublist List.pairwise_lt_range)
  intro a b h; exact_mod_cast h
theorem ascV_in {n : Nat} {f : Nat → Bool} {x : Int} (h : x ∈ ascV n f) : 0 ≤ x ∧ x < (n : Int) := by
  obtain ⟨i, h1, _, rfl⟩ := ascV_mem.1 h; omega
/-! ### The list of all ideals -/
/-! ### Sets as words -/
end Go.Proofs.Ytjlkhjgnfnfmgaa
end
section
/- mult.Zero where 0 is a zero: contract. -/
namespace Go.Proofs.Ytjlkhjgnfnfmgaa
open Go Go.AM
set_option maxRecDepth 100000
set_option maxHeartbeats 1000000
def elemsL (n : Nat) : List Int := (List.range n).map fun i : Nat => (i : Int)
theorem elems_fn (t : List (List Int)) (hn : t.length ≤ 400) : QF 142 [.ro (.rows .i64 t)] (.new (.ints .i64 (elemsL t.length))) := mkQ Try.func142 (by decide +kernel) rfl (Nat.le_of_ble_eq_true rfl) fun _ => by
  refine And.intro (by omega) ?_
  refine And.intro (by omega) ?_
  refine Exists.intro [] <| lp2 (fun (k : Nat) (_ : List Int) => [(10, .int .i64 k)]) (fun _ L => [(7, .vec 0 (.ints .i64 L) [])]) (fun k L => k ≤ t.length ∧ L.length = t.length ∧ ∀ j, j < k → L.getD j 0 = (j : Int)) (fun k _ => t.length - k) 0 (List.replicate t.length 0) ⟨Nat.zero_le _, by simp, by omega⟩ (by repeat' first | refine And.intro ?_ ?_ | exact True.intro | (show (_ : Int) = (_ : Int); omega) | omega | exact rfl | (simp; omega)) ?_
  rintro k L ⟨hk, hL, hj⟩
  refine And.intro (fun h1 => ?_) (fun h1 => ?_)
  · have h1 : (k : Int) < ((List.replicate ((t.length : Nat) : Int).toNat (0 : Int)).length : Int) := h1
    rw [List.length_replicate, Int.toNat_natCast] at h1
    have hkl : k < t.length := by omega
    refine And.intro (show 0 ≤ (k : Int) ∧ (k : Int) < (L.length : Int) by omega) ?_
    refine And.intro (by omega) ?_
    refine And.intro (by omega) ?_
    refine nx (k + 1, L.set k (k : Int)) ⟨by omega, by rw [List.length_set]; exact hL, fun j hj' => ?_⟩ (show t.length - (k + 1) < t.length - k by omega) (by repeat' first | refine And.intro ?_ ?_ | exact True.intro | (show (_ : Int) = (_ : Int); omega) | omega | exact rfl | (simp only [RO.len]; omega))
    by_cases e : j = k
    · subst e; rw [getD_set_eq (by omega)]
    · rw [getD_set_ne (Ne.symm e)]; exact hj j (by omega)
  · have h1 : ((List.replicate ((t.length : Nat) : Int).toNat (0 : Int)).length : Int) ≤ (k : Int) := h1
    rw [List.length_replicate, Int.toNat_natCast] at h1
    refine And.intro (And.intro (by omega) ?_) trivial
    refine congrArg (RO.ints .i64) (ext_getD 0 (by simp [elemsL]; exact hL) fun j hj' => ?_)
    rw [hj j (by omega)]; unfold elemsL; rw [map_range_getD _ _ _ _ (by omega)]
theorem mvalid_fn (t : List (List Int)) : QF 140 [.ro (.rows .i64 t)] (.bool (.v (decide (validV t = 0)))) := mkQ Try.func140 (by decide +kernel) rfl (Nat.le_of_ble_eq_true rfl) fun _ => by
  refine Or.inl (cq (valid_fn t) (And.intro rfl trivial) ?_)
  exact And.intro rfl trivial
end Go.Proofs.Ytjlkhjgnfnfmgaa
end
section
/- Package partition: Refines; mult.Opposite: contracts. -/
namespace Go.Proofs.Ytjlkhjgnfnfmgaa
open Go Go.AM
set_option maxRecDepth 100000
def Rf (p q : List Int) : Prop := ∀ i j, i < p.length → j < p.length → p.getD i 0 = p.getD j 0 → q.getD i 0 = q.getD j 0
noncomputable def rfB (p q : List Int) : Bool := @decide (Rf p q) (Classical.propDecidable _)
theorem rfB_true {p q : List Int} : rfB p q = true ↔ Rf p q := by unfold rfB; exact @decide_eq_true_iff _ (Classical.propDecidable _)
theorem rfB_false {p q : List Int} : rfB p q = false ↔ ¬ Rf p q := by unfold rfB; exact @decide_eq_false_iff_not _ (Classical.propDecidable _)
theorem prefn_fn (p q : List Int) (hp : validP p) (hq : validP q) (hl : p.length = q.length) : QF 22 [.ro (.ints .i64 p), .ro (.ints .i64 q)] (.bool (.v (rfB p q))) := mkQ Try.func22 (by decide +kernel) rfl (Nat.le_of_ble_eq_true rfl) fun _ => by
  have hm : matchP p q := ⟨hl, hp, hq⟩
  have hcl : (classes (classN p) p).length = classN p := by simp [classes]
  have hcn : classN p ≤ p.length := firsts_le p
  have hpl := hp.1
  refine Or.inl (cq (pmatch_fn p q) (And.intro rfl (And.intro rfl trivial)) ?_)
  refine And.intro (fun h1 => ?_) (fun _ => ?_)
  · have h1 : (!decide (matchP p q)) = true := h1
    rw [decide_eq_true hm] at h1; cases h1
  refine Or.inl (cq (pclasses_fn p hp) (And.intro rfl trivial) ?_)
  refine Exists.intro [] <| lp (X := Nat) (fun c => [(16, .int .i64 c)]) (fun _ => []) (fun c => c ≤ classN p ∧ ∀ c', c' < c → ∀ x ∈ (classes (classN p) p).getD c' [], q.getD x.toNat 0 = q.getD (hdN p c') 0) (fun c => classN p - c) 0 ⟨Nat.zero_le _, fun c h => absurd h (Nat.not_lt_zero _)⟩ (by repeat' first | refine And.intro ?_ ?_ | exact True.intro | (show (_ : Int) = (_ : Int); omega) | omega | exact rfl | (simp only [RO.len]; omega)) ?_
  intro c ⟨hc, hci⟩
  refine And.intro (fun h1 => ?_) (fun h1 => ?_)
  · have h1 : (c : Int) < ((classes (classN p) p).length : Int) := h1
    have hcl2 : c < classN p := by omega
    have k := hd_at hp.2 hcl2
    have kp := cls_pos hp.2 hcl2
    have hcll : ((classes (classN p) p).getD c []).length ≤ p.length := by
      rw [classes_getD hcl2, List.length_map]
      have := List.length_filter_le (fun i => decide (p.getD i 0 = (c : Int))) (List.range p.length)
      rw [List.length_range] at this; exact this
    refine And.intro (by omega) ?_
    refine Exists.intro [] <| lp (X := Nat) (fun m => [(22, .int .i64 m)]) (fun _ => []) (fun m => m ≤ ((classes (classN p) p).getD c []).length ∧ ∀ m', m' < m → q.getD (((classes (classN p) p).getD c []).getD m' 0).toNat 0 = q.getD (hdN p c) 0) (fun m => ((classes (classN p) p).getD c []).length - m) 0 ⟨Nat.zero_le _, fun m h => absurd h (Nat.not_lt_zero _)⟩ (by repeat' first | refine And.intro ?_ ?_ | exact True.intro | (show (_ : Int) = (_ : Int); omega) | omega | exact rfl | (simp only [RO.len]; omega)) ?_
    intro m ⟨hm, hmi⟩
    refine And.intro (fun h2 => ?_) (fun h2 => ?_)
    · have h2 : (m : Int) < (((classes (classN p) p).getD c []).length : Int) := h2
      have hml : m < ((classes (classN p) p).getD c []).length := by omega
      have hx := (mem_classes (p := p) hcl2).1 (getD_mem (d := 0) hml)
      have th : (((classes (classN p) p).getD c []).getD 0 0).toNat = hdN p c := by rw [k.2.2]; exact Int.toNat_natCast _
      refine And.intro (by omega) ?_
      refine Or.inl ?_
      refine Exists.intro [false, false, false, false, false, false, false, false, false, false, false] (And.intro (by decide +kernel) ?_)
      refine And.intro (show 0 ≤ ((classes (classN p) p).getD c []).getD m 0 ∧ ((classes (classN p) p).getD c []).getD m 0 < (q.length : Int) by omega) ?_
      refine And.intro (by simp only [Int.toNat_natCast]; omega) ?_
      refine And.intro (show 0 ≤ ((classes (classN p) p).getD c []).getD 0 0 ∧ ((classes (classN p) p).getD c []).getD 0 0 < (q.length : Int) by omega) ?_
      refine And.intro (fun h3 => ?_) (fun h3 => ?_)
      · have h3 : q.getD (((classes (classN p) p).getD c []).getD m 0).toNat 0 ≠ q.getD (((classes (classN p) p).getD c []).getD 0 0).toNat 0 := h3
        rw [th] at h3
        refine And.intro ?_ trivial
        refine (rfB_false.2 fun h4 => h3 (h4 _ _ (by omega) (by omega) ?_)).symm
        rw [hx.2.2, k.2.1]
      · have h3 : q.getD (((classes (classN p) p).getD c []).getD m 0).toNat 0 = q.getD (((classes (classN p) p).getD c []).getD 0 0).toNat 0 := h3
        rw [th] at h3
        refine And.intro (by omega) ?_
        refine nx (m + 1) ⟨show m + 1 ≤ _ by omega, fun m' hm' => ?_⟩ (show ((classes (classN p) p).getD c []).length - (m + 1) < ((classes (classN p) p).getD c []).length - m by omega) (by repeat' first | refine And.intro ?_ ?_ | exact True.intro | (show (_ : Int) = (_ : Int); omega) | omega | exact rfl | (simp only [RO.len]; omega))
        by_cases e : m' = m
        · subst e; exact h3
        · exact hmi m' (by omega)
    · have h2 : (((classes (classN p) p).getD c []).length : Int) ≤ (m : Int) := h2
      refine And.intro (by omega) ?_
      refine nx (c + 1) ⟨show c + 1 ≤ _ by omega, fun c' hc' x hx => ?_⟩ (show classN p - (c + 1) < classN p - c by omega) (by repeat' first | refine And.intro ?_ ?_ | exact True.intro | (show (_ : Int) = (_ : Int); omega) | omega | exact rfl | (simp only [RO.len]; omega))
      by_cases e : c' = c
      · subst e
        obtain ⟨m', hm', rfl⟩ := mem_getD 0 hx
        exact hmi m' (by omega)
      · exact hci c' (by omega) x hx
  · have h1 : ((classes (classN p) p).length : Int) ≤ (c : Int) := h1
    refine And.intro ?_ trivial
    refine (rfB_true.2 fun i j hi hj e => ?_).symm
    have ki := cls_lt hp.2 hi
    have mi := (mem_classes (p := p) ki.2.1 (x := (i : Int))).2 ⟨by omega, by omega, by rw [Int.toNat_natCast]; exact ki.2.2⟩
    have mj := (mem_classes (p := p) ki.2.1 (x := (j : Int))).2 ⟨by omega, by omega, by rw [Int.toNat_natCast, ← e]; exact ki.2.2⟩
    have e1 := hci _ (by omega) _ mi
    have e2 := hci _ (by omega) _ mj
    rw [Int.toNat_natCast] at e1 e2
    rw [e1, e2]
/-! ### The opposite semigroup -/
end Go.Proofs.Ytjlkhjgnfnfmgaa
end
section
/- Plain: subgroups, what elements generate, conjugates, cosets. -/
namespace Go.Proofs.Ytjlkhjgnfnfmgaa
section
/-! ### Subgroups -/
end
/-! ### Generating, step by step -/
theorem nodup_len {n : Nat} {l : List Int} (hn : l.Nodup) (h : ∀ x ∈ l, 0 ≤ x ∧ x < (n : Int)) : l.length ≤ n := by
  have := hn.length_le_of_subset (l₂ := disI n) fun x hx => mem_disI.2 (h x hx)
  rwa [disI_len] at this
/-! ### What was collected -/
/-! ### Closing under products, pass by pass -/
/-! ### The reference's lists -/
end Go.Proofs.Ytjlkhjgnfnfmgaa
end
section
/- Package congr: generators: contract. -/
namespace Go.Proofs.Ytjlkhjgnfnfmgaa
open Go Go.AM
set_option maxRecDepth 100000
structure GnS (t : List (List Int)) (x : Nat) (G R : List Int) (I : List Bool) (D : List Int) : Prop where
  il : I.length = t.length
  dl : D.length = t.length
  mks : ∀ z, I.getD z false = true → Mk t G z
  lo : ∀ z, z < x → I.getD z false = true
  gs : ∀ g ∈ G, 0 ≤ g ∧ g < (t.length : Int)
  gl : G.length ≤ x
  rs : ∀ y ∈ R, (0 ≤ y ∧ y < (t.length : Int)) ∧ I.getD y.toNat false = true
  rn : R.Nodup
  dd : ∀ z, 0 ≤ D.getD z 0 ∧ D.getD z 0 ≤ (G.length : Int)
section
variable {t : List (List Int)} {x : Nat} {G R : List Int} {I : List Bool} {D : List Int}
theorem GnS.rl (h : GnS t x G R I D) : R.length ≤ t.length := nodup_len h.rn fun y hy => (h.rs y hy).1
theorem GnS.start (t : List (List Int)) : GnS t 0 [] [] (List.replicate t.length false) (List.replicate t.length 0) := by
  refine ⟨by simp, by simp, fun z hz => ?_, fun z hz => absurd hz (Nat.not_lt_zero _), fun _ h => (nomatch h), Nat.le_refl _, fun _ h => (nomatch h), .nil, fun z => ?_⟩
  · simp [List.getD, List.getElem?_replicate] at hz
    split at hz <;> simp at hz
  · have : (List.replicate t.length (0 : Int)).getD z 0 = 0 := by
      simp only [List.getD, List.getElem?_replicate]
      split <;> rfl
    rw [this]; simp
theorem set_true {I : List Bool} {x z : Nat} (h : (I.set x true).getD z false = true) : z = x ∨ I.getD z false = true := by
  by_cases e : z = x
  · exact .inl e
  · rw [getD_set_ne (Ne.symm e)] at h; exact .inr h
theorem keep_true {I : List Bool} {x z : Nat} (h : I.getD z false = true) : (I.set x true).getD z false = true := by
  by_cases e : x = z
  · subst e
    have hl : x < I.length := Nat.lt_of_not_le fun hl => by
      rw [List.getD, List.getElem?_eq_none hl] at h; cases h
    exact getD_set_eq hl
  · rw [getD_set_ne e]; exact h
theorem GnS.gen (h : GnS t x G R I D) (hx : x < t.length) (hn : I.getD x false = false) : GnS t (x + 1) (G ++ [(x : Int)]) (R ++ [(x : Int)]) (I.set x true) D := by
  have hil := h.il
  refine ⟨by rw [List.length_set]; exact h.il, h.dl, fun z hz => ?_, fun z hz => ?_, fun g hg => ?_, by have := h.gl; simp; omega, fun y hy => ?_, ?_, fun z => by have := h.dd z; rw [List.length_append, List.length_singleton]; omega⟩
  · rcases set_true hz with rfl | hz
    · have := Mk.gen (t := t) (gens := G ++ [(z : Int)]) (g := (z : Int)) (by simp)
      simpa using this
    · exact (h.mks z hz).mono fun a ha => List.mem_append_left _ ha
  · by_cases e : z = x
    · subst e; exact getD_set_eq (by omega)
    · exact keep_true (h.lo z (by omega))
  · rcases List.mem_append.1 hg with hg | hg
    · exact h.gs g hg
    · rw [List.mem_singleton] at hg; omega
  · rcases List.mem_append.1 hy with hy | hy
    · exact ⟨(h.rs y hy).1, keep_true (h.rs y hy).2⟩
    · rw [List.mem_singleton] at hy
      subst hy
      exact ⟨by omega, by rw [Int.toNat_natCast]; exact getD_set_eq (by omega)⟩
  · rw [List.nodup_append]
    refine ⟨h.rn, by simp, fun a ha b hb => ?_⟩
    rw [List.mem_singleton] at hb
    subst hb
    rintro rfl
    have := (h.rs _ ha).2
    rw [Int.toNat_natCast, hn] at this; cases this
theorem GnS.skip (h : GnS t x G R I D) (hx : x < t.length) (hn : I.getD x false = true) : GnS t (x + 1) G R I D :=
  ⟨h.il, h.dl, h.mks, fun z hz => by
    by_cases e : z = x
    · subst e; exact hn
    · exact h.lo z (by omega), h.gs, by have := h.gl; omega, h.rs, h.rn, h.dd⟩
theorem GnS.push (h : GnS t x G R I D) (hs : Sh t) {y g : Int} (hy : y ∈ R) (hg : g ∈ G) (hn : I.getD (en t y.toNat g.toNat) false = false) : GnS t x G (R ++ [(en t y.toNat g.toNat : Int)]) (I.set (en t y.toNat g.toNat) true) D := by
  have hyr := h.rs y hy
  have hgr := h.gs g hg
  have hlt := (hs.ent (x := y.toNat) (y := g.toNat) (by omega) (by omega)).2
  have hil := h.il
  refine ⟨by rw [List.length_set]; exact h.il, h.dl, fun z hz => ?_, fun z hz => keep_true (h.lo z hz), h.gs, h.gl, fun a ha => ?_, ?_, h.dd⟩
  · rcases set_true hz with rfl | hz
    · exact .mul (h.mks _ hyr.2) (.gen hg)
    · exact h.mks z hz
  · rcases List.mem_append.1 ha with ha | ha
    · exact ⟨(h.rs a ha).1, keep_true (h.rs a ha).2⟩
    · rw [List.mem_singleton] at ha
      subst ha
      exact ⟨by omega, by rw [Int.toNat_natCast]; exact getD_set_eq (by omega)⟩
  · rw [List.nodup_append]
    refine ⟨h.rn, by simp, fun a ha b hb => ?_⟩
    rw [List.mem_singleton] at hb
    subst hb
    rintro rfl
    have := (h.rs _ ha).2
    rw [Int.toNat_natCast, hn] at this; cases this
theorem GnS.step (h : GnS t x G R I D) {y : Nat} (hy : y < t.length) (hd : D.getD y 0 < (G.length : Int)) : GnS t x G R I (D.set y (D.getD y 0 + 1)) := by
  have hdl := h.dl
  refine ⟨h.il, by rw [List.length_set]; exact h.dl, h.mks, h.lo, h.gs, h.gl, h.rs, h.rn, fun z => ?_⟩
  by_cases e : y = z
  · subst e; rw [getD_set_eq (by omega)]; have := h.dd y; omega
  · rw [getD_set_ne e]; exact h.dd z
theorem GnS.done (h : GnS t x G R I D) (hx : t.length ≤ x) : Spans t G := ⟨h.gs, fun z hz => h.mks z (h.lo z (by omega))⟩
end
set_option maxHeartbeats 1000000 in
theorem cgens_fn (t : List (List Int)) (h : Sh t) : EF 67 [.ro (.rows .i64 t)] (fun l : List Int => .new (.ints .i64 l)) (fun l => Spans t l ∧ l.length ≤ t.length) := mkE Try.func67 (by decide +kernel) rfl (Nat.le_of_ble_eq_true rfl) fun _ => by
  have hmost := h.most
  refine And.intro (by omega) ?_
  refine And.intro (by omega) ?_
  refine And.intro (by omega) ?_
  refine And.intro (by omega) ?_
  refine Exists.intro [] <| lp5 (fun (x : Nat) (_ _ : List Int) (_ : List Bool) (_ : List Int) => [(19, .int .i64 x), (3, .vec 32), (4, .vec 36)]) (fun _ G R I D => [(32, .vec 0 (.ints .i64 G) []), (36, .vec 0 (.ints .i64 R) []), (13, .vec 0 (.bools I) []), (16, .vec 0 (.ints .i64 D) [])]) (fun x G R I D => x ≤ t.length ∧ GnS t x G R I D) (fun x _ _ _ _ => t.length - x) 0 [] [] (List.replicate t.length false) (List.replicate t.length 0) ⟨Nat.zero_le _, GnS.start t⟩ (by repeat' first | refine And.intro ?_ ?_ | exact True.intro | (show (_ : Int) = (_ : Int); omega) | omega | exact rfl | (simp only [RO.len]; omega)) ?_
  rintro x G R I D ⟨hx, hg⟩
  have il := hg.il
  have dl := hg.dl
  have gl := hg.gl
  have rl := hg.rl
  refine And.intro (fun h1 => ?_) (fun h1 => ?_)
  · have h1 : (x : Int) < (t.length : Int) := h1
    refine And.intro (show 0 ≤ (x : Int) ∧ (x : Int) < (I.length : Int) by omega) ?_
    refine And.intro (fun h2 => ?_) (fun h2 => ?_)
    · have h2 : I.getD x false = true := h2
      refine And.intro (by omega) ?_
      exact nx (x + 1, G, R, I, D) ⟨by omega, hg.skip (by omega) h2⟩ (show t.length - (x + 1) < t.length - x by omega) (by repeat' first | refine And.intro ?_ ?_ | exact True.intro | (show (_ : Int) = (_ : Int); omega) | omega | exact rfl | (simp only [RO.len]; omega))
    · have h2 : I.getD x false = false := h2
      refine And.intro (show 0 ≤ (x : Int) ∧ (x : Int) < (I.length : Int) by omega) ?_
      refine And.intro (by omega) ?_
      refine And.intro (by simp; omega) ?_
      refine And.intro (by simp; omega) ?_
      refine Exists.intro [36] <| lp4 (fun (i : Nat) (_ : List Int) (_ : List Bool) (_ : List Int) => [(8, .int .i64 i), (4, .vec 36)]) (fun _ R I D => [(36, .vec 0 (.ints .i64 R) []), (13, .vec 0 (.bools I) []), (16, .vec 0 (.ints .i64 D) [])]) (fun i R I D => i ≤ R.length ∧ GnS t (x + 1) (G ++ [(x : Int)]) R I D) (fun i _ _ _ => t.length - i) 0 (R ++ [(x : Int)]) (I.set x true) D ⟨Nat.zero_le _, hg.gen (by omega) h2⟩ (by repeat' first | refine And.intro ?_ ?_ | exact True.intro | (show (_ : Int) = (_ : Int); omega) | omega | exact rfl | (simp only [RO.len]; omega)) ?_
      rintro i R1 I1 D1 ⟨hi, hg1⟩
      have il1 := hg1.il
      have dl1 := hg1.dl
      have rl1 := hg1.rl
      have gl1 : (G ++ [(x : Int)]).length = G.length + 1 := by simp
      refine And.intro (fun h3 => ?_) (fun h3 => ?_)
      · have h3 : (i : Int) < (R1.length : Int) := h3
        have hy1 := (hg1.rs _ (getD_mem (d := 0) (i := i) (l := R1) (by omega))).1
        refine And.intro (show 0 ≤ (i : Int) ∧ (i : Int) < (R1.length : Int) by omega) ?_
        have hymem : R1.getD i 0 ∈ R1 := getD_mem (by omega)
        obtain ⟨y, hyd⟩ : ∃ y, R1.getD i 0 = y := ⟨_, rfl⟩
        rw [hyd] at hymem hy1
        refine Exists.intro [9, 36, 38, 43, 45, 46] <| lp3 (fun (_ : List Int) (_ : List Bool) (_ : List Int) => [(4, .vec 36), (9, .int .i64 y)]) (fun R I D => [(36, .vec 0 (.ints .i64 R) []), (13, .vec 0 (.bools I) []), (16, .vec 0 (.ints .i64 D) [])]) (fun R I D => i < R.length ∧ y ∈ R ∧ GnS t (x + 1) (G ++ [(x : Int)]) R I D) (fun _ _ D => G.length + 1 - (D.getD y.toNat 0).toNat) R1 I1 D1 ⟨by omega, hymem, hg1⟩ (by repeat' first | refine And.intro ?_ ?_ | exact True.intro | exact hyd | (show (_ : Int) = (_ : Int); omega) | omega | exact rfl | (simp only [RO.len]; omega)) ?_
        rintro R2 I2 D2 ⟨hi2, hr2, hg2⟩
        have il2 := hg2.il
        have dl2 := hg2.dl
        have rl2 := hg2.rl
        have hd := hg2.dd y.toNat
        have hyl : y.toNat < t.length := by omega
        refine And.intro (show 0 ≤ y ∧ y < (D2.length : Int) by omega) ?_
        refine And.intro (fun h4 => ?_) (fun h4 => ?_)
        · have h4 : D2.getD y.toNat 0 < ((G ++ [(x : Int)]).length : Int) := h4
          have hgm : (G ++ [(x : Int)]).getD (D2.getD y.toNat 0).toNat 0 ∈ (G ++ [(x : Int)]) := getD_mem (by omega)
          have hgr := hg2.gs _ hgm
          have hdn : (D2.getD y.toNat 0).toNat < (G ++ [(x : Int)]).length := by omega
          have e1 := h.ent (x := y.toNat) (y := ((G ++ [(x : Int)]).getD (D2.getD y.toNat 0).toNat 0).toNat) (by omega) (by omega)
          have r1 := h.len (x := y.toNat) (by omega)
          refine Or.inl ?_
          refine Exists.intro [false, false, false, false, false, false, false, false, false, false, false, false, false, false] (And.intro (by decide +kernel) ?_)
          refine And.intro (show 0 ≤ y ∧ y < (t.length : Int) by omega) ?_
          refine And.intro (show 0 ≤ y ∧ y < (D2.length : Int) by omega) ?_
          refine And.intro (show 0 ≤ D2.getD y.toNat 0 ∧ D2.getD y.toNat 0 < ((G ++ [(x : Int)]).length : Int) by omega) ?_
          refine And.intro (show 0 ≤ (G ++ [(x : Int)]).getD (D2.getD y.toNat 0).toNat 0 ∧ (G ++ [(x : Int)]).getD (D2.getD y.toNat 0).toNat 0 < ((t.getD y.toNat []).length : Int) by omega) ?_
          have hz : 0 ≤ (t.getD y.toNat []).getD ((G ++ [(x : Int)]).getD (D2.getD y.toNat 0).toNat 0).toNat 0 ∧ (t.getD y.toNat []).getD ((G ++ [(x : Int)]).getD (D2.getD y.toNat 0).toNat 0).toNat 0 < (I2.length : Int) := by omega
          have hzn : ((t.getD y.toNat []).getD ((G ++ [(x : Int)]).getD (D2.getD y.toNat 0).toNat 0).toNat 0).toNat = en t y.toNat ((G ++ [(x : Int)]).getD (D2.getD y.toNat 0).toNat 0).toNat := by omega
          have hst : ∀ {R3 : List Int} {I3 : List Bool}, GnS t (x + 1) (G ++ [(x : Int)]) R3 I3 D2 → GnS t (x + 1) (G ++ [(x : Int)]) R3 I3 (D2.set y.toNat (D2.getD y.toNat 0 + 1)) := fun hh => hh.step hyl h4
          have hms : G.length + 1 - ((D2.set y.toNat (D2.getD y.toNat 0 + 1)).getD y.toNat 0).toNat < G.length + 1 - (D2.getD y.toNat 0).toNat := by
            rw [getD_set_eq (by omega)]; omega
          refine And.intro hz ?_
          refine And.intro (fun h5 => ?_) (fun h5 => ?_)
          · have h5 : (!I2.getD ((t.getD y.toNat []).getD ((G ++ [(x : Int)]).getD (D2.getD y.toNat 0).toNat 0).toNat 0).toNat false) = true := h5
            rw [Bool.not_eq_true', hzn] at h5
            have hp := hg2.push h hr2 hgm h5
            rw [← hzn, Int.toNat_of_nonneg hz.1] at hp
            have hpl := hp.rl
            refine And.intro hz ?_
            refine And.intro hz.1 ?_
            refine And.intro (show (((R2 ++ [(t.getD y.toNat []).getD ((G ++ [(x : Int)]).getD (D2.getD y.toNat 0).toNat 0).toNat 0]).length : Nat) : Int) ≤ 17592186044416 by omega) ?_
            refine And.intro (show 0 ≤ y ∧ y < (D2.length : Int) by omega) ?_
            refine And.intro (show -9223372036854775808 ≤ D2.getD y.toNat 0 + 1 ∧ D2.getD y.toNat 0 + 1 ≤ 9223372036854775807 by omega) ?_
            refine And.intro (show 0 ≤ y ∧ y < (D2.length : Int) by omega) ?_
            refine And.intro (show ((0 : Nat) : Int) ≤ y by omega) ?_
            exact nx (R2 ++ [(t.getD y.toNat []).getD ((G ++ [(x : Int)]).getD (D2.getD y.toNat 0).toNat 0).toNat 0], I2.set ((t.getD y.toNat []).getD ((G ++ [(x : Int)]).getD (D2.getD y.toNat 0).toNat 0).toNat 0).toNat true, D2.set y.toNat (D2.getD y.toNat 0 + 1)) ⟨by simp; omega, List.mem_append_left _ hr2, hst hp⟩ hms (by repeat' first | refine And.intro ?_ ?_ | exact True.intro | (show (_ : Int) = (_ : Int); omega) | omega | exact rfl | (simp only [RO.len]; omega))
          · refine And.intro (show 0 ≤ y ∧ y < (D2.length : Int) by omega) ?_
            refine And.intro (show -9223372036854775808 ≤ D2.getD y.toNat 0 + 1 ∧ D2.getD y.toNat 0 + 1 ≤ 9223372036854775807 by omega) ?_
            refine And.intro (show 0 ≤ y ∧ y < (D2.length : Int) by omega) ?_
            refine And.intro (show ((0 : Nat) : Int) ≤ y by omega) ?_
            exact nx (R2, I2, D2.set y.toNat (D2.getD y.toNat 0 + 1)) ⟨hi2, hr2, hst hg2⟩ hms (by repeat' first | refine And.intro ?_ ?_ | exact True.intro | (show (_ : Int) = (_ : Int); omega) | omega | exact rfl | (simp only [RO.len]; omega))
        · refine And.intro (by omega) ?_
          exact nx (i + 1, R2, I2, D2) ⟨by omega, hg2⟩ (show t.length - (i + 1) < t.length - i by omega) (by repeat' first | refine And.intro ?_ ?_ | exact True.intro | (show (_ : Int) = (_ : Int); omega) | omega | exact rfl | (simp only [RO.len]; omega))
      · refine And.intro (by omega) ?_
        exact nx (x + 1, G ++ [(x : Int)], R1, I1, D1) ⟨by omega, hg1⟩ (show t.length - (x + 1) < t.length - x by omega) (by repeat' first | refine And.intro ?_ ?_ | exact True.intro | (show (_ : Int) = (_ : Int); omega) | omega | exact rfl | (simp only [RO.len]; omega))
  · have h1 : (t.length : Int) ≤ (x : Int) := h1
    refine Exists.intro G (And.intro ⟨hg.done (by omega), by omega⟩ ?_)
    exact And.intro (And.intro (by omega) rfl) trivial
end Go.Proofs.Ytjlkhjgnfnfmgaa
end
section
section
/- Strongly connected components by depth-first search: the invariant, plain. -/
namespace Go.Proofs.Ytjlkhjgnfnfmgaa
section
variable {N d : Nat} {tg : Nat → Nat → Int} {G : Nat → Prop}
def Tr (tg : Nat → Nat → Int) : List (Nat × Nat) → Prop
  | p :: q :: r => (1 ≤ q.2 ∧ tg q.1 (q.2 - 1) = (p.1 : Int)) ∧ Tr tg (q :: r)
  | _ => True
end
end Go.Proofs.Ytjlkhjgnfnfmgaa
end
section
/- The network of pairs: its edges; the search's state in memory (plain). -/
namespace Go.Proofs.Ytjlkhjgnfnfmgaa
open Go Go.AM
/-! ### Lists as functions -/
def natI (K : List Nat) : List Int := K.map fun x : Nat => (x : Int)
end Go.Proofs.Ytjlkhjgnfnfmgaa
end
section
/- The search through the network, as lists: what each step keeps (plain). -/
namespace Go.Proofs.Ytjlkhjgnfnfmgaa
end Go.Proofs.Ytjlkhjgnfnfmgaa
end
section
/- Minimal congruences out of the network of pairs (plain). -/
namespace Go.Proofs.Ytjlkhjgnfnfmgaa
open Go Go.AM
def Sub (n : Nat) (p q : List Int) : Prop := ∀ x y, x < n → y < n → p.getD x 0 = p.getD y 0 → q.getD x 0 = q.getD y 0
end Go.Proofs.Ytjlkhjgnfnfmgaa
end
section
/- The list of all minimal congruences (plain). -/
namespace Go.Proofs.Ytjlkhjgnfnfmgaa
open Go Go.AM
end Go.Proofs.Ytjlkhjgnfnfmgaa
end
end
section
/- Package congr: the quotient: contract; the reference's. -/
namespace Go.Proofs.Ytjlkhjgnfnfmgaa
open Go Go.AM
set_option maxRecDepth 100000
set_option maxHeartbeats 1000000 in
theorem cQuo_fn (t : List (List Int)) (p : List Int) (h : IsCg t p 0) : QF 20 [.ro (.rows .i64 t), .ro (.ints .i64 p)] (.tup [.new (.rows .i64 (quoL t p)), .int .i64 0]) := mkQ Try.func20 (by decide +kernel) rfl (Nat.le_of_ble_eq_true rfl) fun _ => by
  have hs := h.semi
  have hpl := h.len
  have hp := h.val
  have hg := h.cg
  have hmost := hs.most
  have hcn : classN p ≤ p.length := firsts_le _
  refine Or.inl (cq (valid_fn t) (And.intro rfl trivial) ?_)
  refine And.intro (fun h1 => absurd (valid_zero.2 hs) h1) (fun h1 => ?_)
  refine Or.inl (cq (cgr_fn t p 0) (And.intro rfl (And.intro rfl (And.intro rfl trivial))) ?_)
  refine And.intro (fun h1 => ?_) (fun h1 => ?_)
  · have h1 : (!cgB t p 0) = true := h1
    rw [cgB_true.2 h] at h1; cases h1
  refine Or.inl (cq (pcount_fn p) (And.intro rfl trivial) ?_)
  have e : (if validP p then ((classN p : Nat) : Int) else 0) = classN p := if_pos hp
  refine And.intro (by omega) ?_
  refine And.intro (by omega) ?_
  refine Or.inr (Or.inr ?_)
  refine Exists.intro [36, 37, 38, 40, 41, 49, 52, 64, 10040] <| lp2 (fun (i : Nat) (_ : List (List Int)) => [(26, .int .i64 i)]) (fun _ q => [(23, .vec 0 (.nrows .i64 q) [])]) (fun i q => i ≤ p.length ∧ QuoIn t p i q) (fun i _ => p.length - i) 0 (List.replicate (if validP p then ((classN p : Nat) : Int) else 0).toNat []) ⟨Nat.zero_le _, by rw [e]; exact QuoIn.start⟩ (by repeat' first | refine And.intro ?_ ?_ | exact True.intro | (show (_ : Int) = (_ : Int); omega) | omega | exact rfl | (simp only [RO.len]; omega)) ?_
  rintro i q ⟨hi, hq⟩
  refine And.intro (fun h1 => ?_) (fun h1 => ?_)
  · have hil : i < p.length := by omega
    have hr := cls_lt hp.2 hil
    have hql := hq.1
    refine And.intro (by omega) ?_
    refine And.intro (show 0 ≤ p.getD i 0 ∧ p.getD i 0 < (q.length : Int) by omega) ?_
    refine And.intro (fun h2 => ?_) (fun h2 => ?_)
    · refine And.intro (by omega) ?_
      refine And.intro (by omega) ?_
      refine And.intro (show 0 ≤ p.getD i 0 ∧ p.getD i 0 < (q.length : Int) by omega) ?_
      refine And.intro (show ((0 : Nat) : Int) ≤ p.getD i 0 by omega) ?_
      refine Exists.intro [36, 37, 38, 40, 41, 49, 52, 64] <| lp2 (fun (j : Nat) (_ : List Int) => [(44, .int .i64 j)]) (fun _ r => [(23, .vec 0 (.nrows .i64 q) [(p.getD i 0, 40)]), (40, .vec 0 (.ints .i64 r) [])]) (fun j r => j ≤ p.length ∧ RowIn t p i j r) (fun j _ => p.length - j) 0 (List.replicate q.length 0) ⟨Nat.zero_le _, by rw [hql]; exact RowIn.start⟩ (by repeat' first | refine And.intro ?_ ?_ | exact True.intro | (show (_ : Int) = (_ : Int); omega) | omega | exact rfl | (simp only [RO.len]; omega)) ?_
      rintro j r ⟨hj, hr2⟩
      refine And.intro (fun h3 => ?_) (fun h3 => ?_)
      · have hjl : j < p.length := by omega
        have hrl := hr2.1
        have hc := cls_lt hp.2 hjl
        have e1 := hs.toSh.ent (x := i) (y := j) (by omega) (by omega)
        have r1 := hs.toSh.len (x := i) (by omega)
        have hnext := hr2.next hs.toSh hpl hp.2 hg (by omega) hjl
        rw [← Int.toNat_natCast (en t i j), ← e1.1] at hnext
        refine And.intro (by omega) ?_
        refine Or.inl ?_
        refine Exists.intro [false, false, false, false, false, false, false, false, false, false, false, false, false, false, false, false, true] (And.intro (by decide +kernel) ?_)
        refine And.intro (by simp only [Int.toNat_natCast]; omega) ?_
        refine And.intro (fun _ => ?_) (fun h4 => absurd rfl h4)
        refine And.intro (by omega) ?_
        refine And.intro (show 0 ≤ (j : Int) ∧ (j : Int) < ((t.getD i []).length : Int) by omega) ?_
        refine And.intro (show 0 ≤ (t.getD i []).getD j 0 ∧ (t.getD i []).getD j 0 < (p.length : Int) by omega) ?_
        refine And.intro (show 0 ≤ p.getD j 0 ∧ p.getD j 0 < (r.length : Int) by omega) ?_
        refine And.intro (show ((0 : Nat) : Int) ≤ p.getD j 0 by omega) ?_
        refine And.intro (by omega) ?_
        exact nx (j + 1, r.set (p.getD j 0).toNat (p.getD ((t.getD i []).getD j 0).toNat 0)) ⟨by omega, hnext⟩ (show p.length - (j + 1) < p.length - j by omega) (by repeat' first | refine And.intro ?_ ?_ | exact True.intro | (show (_ : Int) = (_ : Int); omega) | omega | exact rfl | (simp only [RO.len]; omega))
      · refine And.intro (by omega) ?_
        have hrd := hr2.done hs.toSh hpl hp.2 hg (by omega) (by omega)
        have hpos : r ≠ [] := fun he => by
          have := hr2.1
          rw [he] at this
          simp at this; omega
        refine nx (i + 1, q.set (p.getD i 0).toNat r) ⟨by omega, hq.new hp.2 hil hrd⟩ (show p.length - (i + 1) < p.length - i by omega) ?_
        repeat' first | refine And.intro ?_ ?_ | exact True.intro | exact hpos | (show (_ : Int) = (_ : Int); omega) | omega | exact rfl
    · refine And.intro ?_ (fun h0 => ?_)
      · refine And.intro (by omega) ?_
        exact nx (i + 1, q) ⟨by omega, hq.old hp.2 hil h2⟩ (show p.length - (i + 1) < p.length - i by omega) (by repeat' first | refine And.intro ?_ ?_ | exact True.intro | (show (_ : Int) = (_ : Int); omega) | omega | exact rfl | (simp only [RO.len]; omega))
      · exact absurd (List.eq_nil_of_length_eq_zero h0) h2
  · refine And.intro (And.intro (by omega) ?_) (And.intro rfl trivial)
    show RO.rows .i64 q = RO.rows .i64 (quoL t p)
    rw [hq.done hp.2 (by omega)]
end Go.Proofs.Ytjlkhjgnfnfmgaa
end
section
/- slices.Clone of integers: contract. -/
namespace Go.Proofs.Ytjlkhjgnfnfmgaa
open Go Go.AM
set_option maxRecDepth 100000
theorem cloneI_fn (l : List Int) (hl : l.length ≤ 4096) : QF 136 [.ro (.ints .i64 l)] (.new (.ints .i64 l)) := mkQ Try.func136 (by decide +kernel) rfl (Nat.le_of_ble_eq_true rfl) fun _ => by
  refine And.intro (fun h1 => ?_) ?_
  · exact And.intro h1 trivial
  · refine And.intro (by simp; omega) ?_
    exact And.intro ⟨by omega, by simp⟩ trivial
end Go.Proofs.Ytjlkhjgnfnfmgaa
end
