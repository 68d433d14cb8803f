import Derived.Test.YtdjbbjjmjopofaaGreatLag5
import Derived.Test.YtdjbbjjmjopofaaGreatNrmLaw
import Derived.Test.YtdjbbjjmjopofaaGreatSgpLaw
import Derived.Test.YtdjbbjjmjopofaaGreatGrpNrm
import Derived.Test.YtdjbbjjmjopofaaGreatRefCg
import Derived.Test.YtdjbbjjmjopofaaGreatRefPart
import Derived.Test.YtdjbbjjmjopofaaGreatIn
section
/- Plain: the list of mult's closure holds what the generators make. -/
namespace Go.Proofs.YtdjbbjjmjopofaaGreat
variable {t : List (List Int)}
/-- s' is s with more behind. -/
def ExtS (s s' : List Bool × List Int) : Prop := s.2.length ≤ s'.2.length ∧ (∀ i, i < s.2.length → s'.2.getD i 0 = s.2.getD i 0) ∧ ∀ z ∈ s.2, z ∈ s'.2
theorem ExtS.refl (s : List Bool × List Int) : ExtS s s := ⟨Nat.le_refl _, fun _ _ => rfl, fun _ h => h⟩
theorem ExtS.trans {a b c : List Bool × List Int} (h : ExtS a b) (k : ExtS b c) : ExtS a c :=
  ⟨Nat.le_trans h.1 k.1, fun i hi => (k.2.1 i (Nat.lt_of_lt_of_le hi h.1)).trans (h.2.1 i hi), fun z hz => k.2.2 z (h.2.2 z hz)⟩
theorem addS_ext (s : List Bool × List Int) (g : Nat) : ExtS s (addS s g) := by
  refine ⟨addS_len s g, fun i hi => (addS_get hi).2, fun z hz => ?_⟩
  unfold addS
  split
  · exact hz
  · exact List.mem_append_left _ hz
theorem addS_mem {n : Nat} {s : List Bool × List Int} {g : Nat} (h : ColI n s.1 s.2) (hg : g < n) : (g : Int) ∈ (addS s g).2 := by
  unfold addS
  split
  · rename_i e; exact (h.mem g hg).1 e
  · exact List.mem_append_right _ (List.mem_singleton.2 rfl)
theorem addS_src {s : List Bool × List Int} {g : Nat} {z : Int} (h : z ∈ (addS s g).2) : z ∈ s.2 ∨ z = (g : Int) := by
  unfold addS at h
  split at h
  · exact .inl h
  · rcases List.mem_append.1 h with h | h
    · exact .inl h
    · exact .inr (List.mem_singleton.1 h)
theorem rowS_all (ht : Sh t) {a : Nat} (ha : a < t.length) : ∀ (u : List Int) (s : List Bool × List Int), (∀ y ∈ u, 0 ≤ y ∧ y < (t.length : Int)) → ColI t.length s.1 s.2 → ExtS s (rowS t a u s) ∧ (∀ y ∈ u, ((en t a y.toNat : Nat) : Int) ∈ (rowS t a u s).2) ∧ ∀ z ∈ (rowS t a u s).2, z ∈ s.2 ∨ ∃ y ∈ u, z = ((en t a y.toNat : Nat) : Int)
  | [], s, _, _ => ⟨.refl s, fun y hy => (by cases hy), fun z hz => .inl hz⟩
  | y :: u, s, hu, h => by
    have hy := hu y (List.mem_cons_self)
    have he := (ht.ent (x := a) (y := y.toNat) ha (by omega)).2
    have hc := addS_col h he
    have ih := rowS_all ht ha u (addS s (en t a y.toNat)) (fun z hz => hu z (List.mem_cons_of_mem _ hz)) hc
    refine ⟨(addS_ext s _).trans ih.1, fun z hz => ?_, fun z hz => ?_⟩
    · rcases List.mem_cons.1 hz with rfl | hz
      · exact ih.1.2.2 _ (addS_mem h he)
      · exact ih.2.1 z hz
    · rcases ih.2.2 z hz with hz | ⟨w, hw, e⟩
      · rcases addS_src hz with hz | hz
        · exact .inl hz
        · exact .inr ⟨y, List.mem_cons_self, hz⟩
      · exact .inr ⟨w, List.mem_cons_of_mem _ hw, e⟩
/-- At place k all products with the generators are there. -/
def DoneS (t : List (List Int)) (u : List Int) (s : List Bool × List Int) (k : Nat) : Prop := ∀ g ∈ u, ((en t (s.2.getD k 0).toNat g.toNat : Nat) : Int) ∈ s.2
theorem DoneS.ext {u : List Int} {s s' : List Bool × List Int} {k : Nat} (h : DoneS t u s k) (e : ExtS s s') (hk : k < s.2.length) : DoneS t u s' k := fun g hg => by
  rw [e.2.1 k hk]; exact e.2.2 _ (h g hg)
theorem rnS_all (ht : Sh t) {u : List Int} {old x : Nat} (hu : ∀ y ∈ u, 0 ≤ y ∧ y < (t.length : Int)) (hx : x < t.length) (hxu : (x : Int) ∈ u) : ∀ (f i : Nat) (s : List Bool × List Int), ColI t.length s.1 s.2 → t.length < f + i → i ≤ s.2.length → old ≤ s.2.length →
    (∀ k, k < i → DoneS t u s k) → (∀ k, k < old → ∀ g ∈ u, g ≠ (x : Int) → ((en t (s.2.getD k 0).toNat g.toNat : Nat) : Int) ∈ s.2) →
    ExtS s (rnS t u old x f i s) ∧ (∀ k, k < (rnS t u old x f i s).2.length → DoneS t u (rnS t u old x f i s) k) ∧ (∀ S : Int → Prop, (∀ z ∈ s.2, S z) → (∀ a g, S a → 0 ≤ a → g ∈ u → S ((en t a.toNat g.toNat : Nat) : Int)) → ∀ z ∈ (rnS t u old x f i s).2, S z)
  | 0, i, s, h, hf, hi, _, _, _ => by have := h.le; omega
  | f + 1, i, s, h, hf, hi, ho, hd, hp => by
    unfold rnS
    split
    · rename_i hil
      have hr := h.ins _ (getD_mem (d := 0) hil)
      have hrl : (s.2.getD i 0).toNat < t.length := by omega
      have step : ∀ s', ColI t.length s'.1 s'.2 → ExtS s s' → DoneS t u s' i → (∀ S : Int → Prop, (∀ z ∈ s.2, S z) → (∀ a g, S a → 0 ≤ a → g ∈ u → S ((en t a.toNat g.toNat : Nat) : Int)) → ∀ z ∈ s'.2, S z) → ExtS s (rnS t u old x f (i + 1) s') ∧ (∀ k, k < (rnS t u old x f (i + 1) s').2.length → DoneS t u (rnS t u old x f (i + 1) s') k) ∧ (∀ S : Int → Prop, (∀ z ∈ s.2, S z) → (∀ a g, S a → 0 ≤ a → g ∈ u → S ((en t a.toNat g.toNat : Nat) : Int)) → ∀ z ∈ (rnS t u old x f (i + 1) s').2, S z) := fun s' hc he hdi hs => by
        have hel := he.1
        have ih := rnS_all (old := old) ht hu hx hxu f (i + 1) s' hc (by omega) (by omega) (by omega) (fun k hk => by
          by_cases e : k = i
          · subst e; exact hdi
          · exact (hd k (by omega)).ext he (by omega)) (fun k hk g hg hne => by rw [he.2.1 k (by omega)]; exact he.2.2 _ (hp k hk g hg hne))
        exact ⟨he.trans ih.1, ih.2.1, fun S h1 h2 => ih.2.2 S (hs S h1 h2) h2⟩
      split
      · rename_i hlt
        have he := addS_ext s (en t (s.2.getD i 0).toNat x)
        refine step _ (addS_col h (ht.ent hrl hx).2) he (fun g hg => ?_) fun S h1 h2 z hz => ?_
        · rw [he.2.1 i hil]
          by_cases e : g = (x : Int)
          · subst e; rw [Int.toNat_natCast]; exact addS_mem h (ht.ent hrl hx).2
          · exact he.2.2 _ (hp i hlt g hg e)
        · rcases addS_src hz with hz | hz
          · exact h1 z hz
          · have := h2 _ (x : Int) (h1 _ (getD_mem (d := 0) hil)) hr.1 hxu
            rw [Int.toNat_natCast] at this; rw [hz]; exact this
      · have hw := rowS_all ht hrl u s hu h
        refine step _ (rowS_ok ht rfl hrl u s hu h).1 hw.1 (fun g hg => ?_) fun S h1 h2 z hz => ?_
        · rw [hw.1.2.1 i hil]; exact hw.2.1 g hg
        · rcases hw.2.2 z hz with hz | ⟨y, hy, e⟩
          · exact h1 z hz
          · rw [e]; exact h2 _ y (h1 _ (getD_mem (d := 0) hil)) hr.1 hy
    · rename_i hil
      exact ⟨.refl s, fun k hk => hd k (by omega), fun S h1 _ => h1⟩
variable {u : List Int} {s : List Bool × List Int}
/-- What holds after each generator. -/
structure GnI (t : List (List Int)) (u : List Int) (s : List Bool × List Int) : Prop where
  col : ColI t.length s.1 s.2
  use : ∀ y ∈ u, 0 ≤ y ∧ y < (t.length : Int)
  done : ∀ k, k < s.2.length → DoneS t u s k
  has : ∀ y ∈ u, y ∈ s.2
  made : ∀ z ∈ s.2, Mk t u z.toNat
theorem GnI.start : GnI t [] (List.replicate t.length false, []) :=
  ⟨ColI.start _, fun y hy => (by cases hy), fun k hk => absurd hk (Nat.not_lt_zero _), fun y hy => (by cases hy), fun z hz => (by cases hz)⟩
theorem GnI.next (h : GnI t u s) (ht : Sh t) {x : Nat} (hx : x < t.length) (h0 : s.1.getD x false = false) : GnI t (u ++ [(x : Int)]) (gnS t u s x) := by
  have hu' : ∀ y ∈ u ++ [(x : Int)], 0 ≤ y ∧ y < (t.length : Int) := fun y hy => by
    rcases List.mem_append.1 hy with hy | hy
    · exact h.use y hy
    · rw [List.mem_singleton] at hy; omega
  have hxu : (x : Int) ∈ u ++ [(x : Int)] := List.mem_append_right _ (List.mem_singleton.2 rfl)
  have he := addS_ext s x
  have hc := addS_col h.col hx
  have H := rnS_all (old := s.2.length) ht hu' hx hxu (t.length + 1) 0 (addS s x) hc (by omega) (Nat.zero_le _) he.1 (fun k hk => absurd hk (Nat.not_lt_zero _)) (fun k hk g hg hne => by
    rw [he.2.1 k hk]
    refine he.2.2 _ (h.done k hk g ?_)
    rcases List.mem_append.1 hg with hg | hg
    · exact hg
    · exact absurd (List.mem_singleton.1 hg) hne)
  refine ⟨(gnS_ok ht h.use hx h.col h0).1, hu', H.2.1, fun y hy => ?_, fun z hz => ?_⟩
  · refine H.1.2.2 _ ?_
    rcases List.mem_append.1 hy with hy | hy
    · exact he.2.2 _ (h.has y hy)
    · rw [List.mem_singleton] at hy; rw [hy]; exact addS_mem h.col hx
  · refine H.2.2 (fun z => Mk t (u ++ [(x : Int)]) z.toNat) (fun z hz => ?_) (fun a g ha hag hg => ?_) z hz
    · rcases addS_src hz with hz | hz
      · exact (h.made z hz).mono fun a ha => List.mem_append_left _ ha
      · rw [hz]; exact .gen hxu
    · rw [Int.toNat_natCast]; exact .mul ha (.gen hg)
theorem gnS_sub (ht : Sh t) (h : GnI t u s) {x : Nat} (hx : x < t.length) {z : Int} (hz : z ∈ (addS s x).2) : z ∈ (gnS t u s x).2 := by
  have hu' : ∀ y ∈ u ++ [(x : Int)], 0 ≤ y ∧ y < (t.length : Int) := fun y hy => by
    rcases List.mem_append.1 hy with hy | hy
    · exact h.use y hy
    · rw [List.mem_singleton] at hy; omega
  have he := addS_ext s x
  exact (rnS_all (old := s.2.length) ht hu' hx (List.mem_append_right _ (List.mem_singleton.2 rfl)) (t.length + 1) 0 (addS s x) (addS_col h.col hx) (by omega) (Nat.zero_le _) he.1 (fun k hk => absurd hk (Nat.not_lt_zero _)) (fun k hk g hg hne => by
    rw [he.2.1 k hk]
    refine he.2.2 _ (h.done k hk g ?_)
    rcases List.mem_append.1 hg with hg | hg
    · exact hg
    · exact absurd (List.mem_singleton.1 hg) hne)).1.2.2 z hz
theorem gnA_spec (ht : Sh t) {l : List Int} (hl : inT t l) : ∀ j, j < l.length → GnI t (gnA t l j).1 (gnA t l j).2 ∧ (∀ k, k ≤ j → l.getD k 0 ∈ (gnA t l j).2.2) ∧ ∀ y ∈ (gnA t l j).1, y ∈ l
  | 0, hj => by
    have hy := hl _ (getD_mem (d := 0) hj)
    have ey : (((l.getD 0 0).toNat : Nat) : Int) = l.getD 0 0 := by omega
    have H := (GnI.start (t := t)).next ht (x := (l.getD 0 0).toNat) (by omega) (rep_false _ _)
    refine ⟨H, fun k hk => ?_, fun y hm => ?_⟩
    · obtain rfl : k = 0 := by omega
      have := H.has (((l.getD 0 0).toNat : Nat) : Int) (List.mem_singleton.2 rfl)
      rw [ey] at this; exact this
    · rw [show (gnA t l 0).1 = [(((l.getD 0 0).toNat : Nat) : Int)] from rfl, List.mem_singleton, ey] at hm
      rw [hm]; exact getD_mem hj
  | j + 1, hj => by
    have ih := gnA_spec ht hl j (by omega)
    have hy := hl _ (getD_mem (d := 0) hj)
    have ey : (((l.getD (j + 1) 0).toNat : Nat) : Int) = l.getD (j + 1) 0 := by omega
    unfold gnA
    split
    · rename_i e
      refine ⟨ih.1, fun k hk => ?_, ih.2.2⟩
      by_cases ek : k = j + 1
      · subst ek
        have := (ih.1.col.mem _ (show (l.getD (j + 1) 0).toNat < t.length by omega)).1 e
        rwa [ey] at this
      · exact ih.2.1 k (by omega)
    · rename_i e
      have e := Bool.eq_false_iff.2 e
      have hx : (l.getD (j + 1) 0).toNat < t.length := by omega
      have H := ih.1.next ht hx e
      refine ⟨H, fun k hk => ?_, fun y hm => ?_⟩
      · by_cases ek : k = j + 1
        · subst ek
          have := H.has (((l.getD (j + 1) 0).toNat : Nat) : Int) (List.mem_append_right _ (List.mem_singleton.2 rfl))
          rw [ey] at this; exact this
        · have h1 := ih.2.1 k (by omega)
          exact (addS_ext (gnA t l j).2 (l.getD (j + 1) 0).toNat).2.2 _ h1 |> fun h2 => gnS_sub ht ih.1 hx h2
      · rcases List.mem_append.1 hm with hm | hm
        · exact ih.2.2 y hm
        · rw [List.mem_singleton, ey] at hm; rw [hm]; exact getD_mem hj
theorem gnA_mk (h : Semi t) {l : List Int} (hl : inT t l) (h0 : 0 < l.length) {y : Nat} (hy : y < t.length) : (y : Int) ∈ (gnA t l (l.length - 1)).2.2 ↔ Mk t l y := by
  have ht := h.toSh
  have G := gnA_spec ht hl (l.length - 1) (by omega)
  constructor
  · intro hm
    have := (G.1.made _ hm).mono G.2.2
    rwa [Int.toNat_natCast] at this
  · intro m
    have huT : inT t (gnA t l (l.length - 1)).1 := fun y hy => G.1.use y hy
    have right : ∀ b, Mk t (gnA t l (l.length - 1)).1 b → ∀ a : Nat, a < t.length → (a : Int) ∈ (gnA t l (l.length - 1)).2.2 → ((en t a b : Nat) : Int) ∈ (gnA t l (l.length - 1)).2.2 := by
      intro b mb
      induction mb with
      | gen hg =>
        intro a ha hm
        obtain ⟨k, hk, e⟩ := mem_getD 0 hm
        have := G.1.done k hk _ hg
        rw [e, Int.toNat_natCast] at this; exact this
      | mul mb mc ib ic =>
        intro a ha hm
        have hb := mk_lt ht huT mb
        have hc := mk_lt ht huT mc
        rw [← assoc3 h.assoc ha hb hc]
        exact ic _ (ht.ent ha hb).2 (ib a ha hm)
    have key := mk_least (S := fun y => y < t.length ∧ (y : Int) ∈ (gnA t l (l.length - 1)).2.2) (fun g hg => by
      have hr := hl g hg
      obtain ⟨k, hk, e⟩ := mem_getD 0 hg
      have := G.2.1 k (by omega)
      rw [e] at this
      exact ⟨by omega, by rw [Int.toNat_of_nonneg hr.1]; exact this⟩) (fun a b ha hb => ⟨(ht.ent ha.1 hb.1).2, right b (by have := G.1.made _ hb.2; rwa [Int.toNat_natCast] at this) a ha.1 ha.2⟩) m
    exact key.2
theorem srt_gen (h : Semi t) {l : List Int} (hl : inT t l) (h0 : 0 < l.length) : srtI (gnA t l (l.length - 1)).2.2 = genL t l := by
  have G := (gnA_spec h.toSh hl (l.length - 1) (by omega)).1
  have hn : (genL t l).Nodup := (pairwise_adj (ascV_asc _ _)).imp fun {a b} hab e => by omega
  have hp : (srtI (gnA t l (l.length - 1)).2.2).Perm (genL t l) := (srtI_perm _).trans ((List.perm_ext_iff_of_nodup G.col.nd hn).2 fun z => by
    unfold genL
    rw [ascV_mem]
    constructor
    · intro hz
      have hr := G.col.ins z hz
      have ez : ((z.toNat : Nat) : Int) = z := by omega
      exact ⟨z.toNat, by omega, genF_iff.2 ((gnA_mk h hl h0 (by omega)).1 (by rw [ez]; exact hz)), ez.symm⟩
    · rintro ⟨i, hi, hf, rfl⟩
      exact (gnA_mk h hl h0 hi).2 (genF_iff.1 hf))
  exact hp.eq_of_pairwise (le := fun a b : Int => a ≤ b) (fun a b _ _ h1 h2 => by omega) (srtI_sorted _) ((pairwise_adj (ascV_asc _ _)).imp fun {a b} hab => by omega)
end Go.Proofs.YtdjbbjjmjopofaaGreat
end
section
/- Plain: Lagrange: each coset has as many elements as the subgroup. -/
namespace Go.Proofs.YtdjbbjjmjopofaaGreat
variable {t : List (List Int)} {l : List Int}
theorem cosL_canon (t : List (List Int)) (l : List Int) : canon (cosL t l) = cosL t l := canon_idem _
theorem cos_mem (h : Grp t) (hl : ClL t l) {c : Nat} (hc : c < classN (cosL t l)) : ∃ x0, x0 < t.length ∧ ∀ y : Int, y ∈ (classes (classN (cosL t l)) (cosL t l)).getD c [] ↔ ∃ a, a < t.length ∧ setI l a = true ∧ y = ((en t x0 a : Nat) : Int) := by
  have hf := fst_of (cosL_canon t l) hc
  have hx : fstC (cosL t l) c < t.length := by have := hf.2.2.1; rwa [cosL_len] at this
  refine ⟨fstC (cosL t l) c, hx, fun y => ?_⟩
  rw [mem_classes hc, cosL_len]
  constructor
  · rintro ⟨h0, h1, h2⟩
    have hy : y.toNat < t.length := by omega
    obtain ⟨a, ha, hs, e⟩ := (cosE_iff h hx hy).1 ((cosL_iff hl h hx hy).1 (hf.2.2.2.trans h2.symm))
    exact ⟨a, ha, hs, by omega⟩
  · rintro ⟨a, ha, hs, rfl⟩
    have he := (h.toSh.ent hx ha).2
    refine ⟨by omega, by omega, ?_⟩
    rw [Int.toNat_natCast, ← hf.2.2.2]
    exact ((cosL_iff hl h hx he).2 ((cosE_iff h hx he).2 ⟨a, ha, hs, rfl⟩)).symm
theorem cos_size (h : Grp t) (hl : ClL t l) {c : Nat} (hc : c < classN (cosL t l)) : ((classes (classN (cosL t l)) (cosL t l)).getD c []).length = l.length := by
  obtain ⟨x0, hx, hm⟩ := cos_mem h hl hc
  have hnl : l.Nodup := (pairwise_adj hl.asc).imp fun {a b} hab e => by omega
  have hcan : ∀ a b, a < t.length → b < t.length → en t x0 a = en t x0 b → a = b := fun a b ha hb e => by
    have h1 := inv_mul_cancel h hx ha
    have h2 := inv_mul_cancel h hx hb
    rw [e] at h1; exact h1.symm.trans h2
  have hn : (l.map fun a => ((en t x0 a.toNat : Nat) : Int)).Nodup := List.pairwise_map.2 (hnl.imp_of_mem fun {a b} ha hb hab e => hab (by
    have ra := hl.ins a ha
    have rb := hl.ins b hb
    have := hcan a.toNat b.toNat (by omega) (by omega) (by omega)
    omega))
  have hnc : ((classes (classN (cosL t l)) (cosL t l)).getD c []).Nodup := by
    rw [classes_getD hc]
    exact List.pairwise_map.2 ((List.nodup_range.filter _).imp fun {a b} hab e => hab (by omega))
  have hp : ((classes (classN (cosL t l)) (cosL t l)).getD c []).Perm (l.map fun a => ((en t x0 a.toNat : Nat) : Int)) := (List.perm_ext_iff_of_nodup hnc hn).2 fun y => by
    rw [hm, List.mem_map]
    constructor
    · rintro ⟨a, ha, hs, rfl⟩
      exact ⟨(a : Int), setI_iff.1 hs, by rw [Int.toNat_natCast]⟩
    · rintro ⟨a, ha, rfl⟩
      have ra := hl.ins a ha
      exact ⟨a.toNat, by omega, setI_iff.2 (by rw [Int.toNat_of_nonneg ra.1]; exact ha), rfl⟩
  have := hp.length_eq
  rwa [List.length_map] at this
theorem cls_count {n : Nat} {p : List Int} (hp : p.length = n) {m : Nat} : ∀ k : Nat, (∀ c : Nat, c < k → ((List.range n).filter fun i => p.getD i 0 = (c : Int)).length = m) → (∀ i, i < n → 0 ≤ p.getD i 0) → ((List.range n).filter fun i => decide (p.getD i 0 < (k : Int))).length = k * m
  | 0, _, h0 => by
    rw [Nat.zero_mul, List.length_eq_zero_iff, List.filter_eq_nil_iff]
    intro i hi
    have := h0 i (List.mem_range.1 hi)
    rw [decide_eq_true_iff]; omega
  | k + 1, hc, h0 => by
    have ih := cls_count hp k (fun c hk => hc c (by omega)) h0
    have e := hc k (by omega)
    have hsum : ∀ L : List Nat, (L.filter fun i => decide (p.getD i 0 < ((k + 1 : Nat) : Int))).length = (L.filter fun i => decide (p.getD i 0 < (k : Int))).length + (L.filter fun i => p.getD i 0 = (k : Int)).length := by
      intro L
      induction L with
      | nil => rfl
      | cons a L ih =>
        simp only [List.filter_cons, decide_eq_true_eq]
        by_cases e1 : p.getD a 0 < (k : Int)
        · rw [if_pos (by omega), if_pos e1, if_neg (by omega), List.length_cons, List.length_cons, ih]; omega
        · by_cases e2 : p.getD a 0 = (k : Int)
          · rw [if_pos (by omega), if_neg e1, if_pos e2, List.length_cons, List.length_cons, ih]; omega
          · rw [if_neg (by omega), if_neg e1, if_neg e2, ih]
    rw [hsum, ih, e, Nat.succ_mul]
theorem lagrange (h : Grp t) (hl : ClL t l) : t.length = classN (cosL t l) * l.length := by
  have hr : ∀ i, i < t.length → 0 ≤ (cosL t l).getD i 0 ∧ (cosL t l).getD i 0 < classN (cosL t l) := fun i hi =>
    (valid_range (cosL_canon t l) _).2 (getD_mem (by rw [cosL_len]; exact hi))
  have := cls_count (p := cosL t l) (cosL_len t l) (m := l.length) (classN (cosL t l)) (fun c hc => by
    have e := cos_size h hl hc
    rw [classes_getD hc, List.length_map, cosL_len] at e; exact e) (fun i hi => (hr i hi).1)
  rw [← this, List.filter_eq_self.2 fun i hi => decide_eq_true (hr i (List.mem_range.1 hi)).2, List.length_range]
theorem two_normal (h : Grp t) (hl : ClL t l) (h2 : classN (cosL t l) = 2) {x y : Nat} (hx : x < t.length) (hy : y < t.length) (nx : setI l x = false) (ny : setI l y = false) : cosE t l x y = true := by
  have h1 := h.one.1
  have hr : ∀ i, i < t.length → 0 ≤ (cosL t l).getD i 0 ∧ (cosL t l).getD i 0 < 2 := fun i hi => by
    have := (valid_range (cosL_canon t l) ((cosL t l).getD i 0)).2 (getD_mem (by rw [cosL_len]; exact hi))
    rw [h2] at this; exact this
  have hone : ∀ z, z < t.length → setI l z = false → (cosL t l).getD (oneN t) 0 ≠ (cosL t l).getD z 0 := fun z hz nz e => by
    obtain ⟨a, ha, hs, e2⟩ := (cosE_iff h h1 hz).1 ((cosL_iff hl h h1 hz).1 e)
    rw [(h.one.2.1 a ha).1] at e2
    rw [← e2, hs] at nz; cases nz
  have a1 := hone x hx nx
  have a2 := hone y hy ny
  have b1 := hr x hx
  have b2 := hr y hy
  have b3 := hr _ h1
  exact (cosL_iff hl h hx hy).1 (by omega)
theorem two_nrm (h : Grp t) (hl : ClL t l) (h2 : classN (cosL t l) = 2) : NrmIn t (allI t) l := fun x hx y hy => by
  have hx := mem_disI.1 hx
  have hyr := hl.ins y hy
  have hxl : x.toNat < t.length := by omega
  have hyl : y.toNat < t.length := by omega
  have hys : setI l y.toNat = true := setI_iff.2 (by rw [Int.toNat_of_nonneg hyr.1]; exact hy)
  have hi := (h.ninv hxl).1
  have hcj := cjN_lt h hxl hyl
  cases e : setI l (cjN t x.toNat y.toNat) with
  | true => rfl
  | false =>
    have hxy := (h.toSh.ent hxl hyl).2
    by_cases nx : setI l x.toNat = true
    · have h1 := hl.cl _ _ hxl hyl nx hys
      have h3 := hl.cl _ _ hxy hi h1 (hl.inv h nx)
      rw [show en t (en t x.toNat y.toNat) (invN t x.toNat) = cjN t x.toNat y.toNat from rfl, e] at h3; cases h3
    · have nx := Bool.eq_false_iff.2 nx
      obtain ⟨a, ha, hs, e2⟩ := (cosE_iff h hxl hcj).1 (two_normal h hl h2 hxl hcj nx e)
      have e3 : en t x.toNat (en t y.toNat (invN t x.toNat)) = en t x.toNat a := by
        rw [← assoc3 h.assoc hxl hyl hi]; exact e2.symm
      have e4 : en t y.toNat (invN t x.toNat) = a := h.cancelL (h.toSh.ent hyl hi).2 ha hxl e3
      have e5 : invN t x.toNat = en t (invN t y.toNat) a := by
        rw [← e4]; exact (inv_mul_cancel h hyl hi).symm
      have h5 : setI l (invN t x.toNat) = true := by
        rw [e5]; exact hl.cl _ _ (h.ninv hyl).1 ha (hl.inv h hys) hs
      have h6 := hl.inv h h5
      rw [inv_inv h hxl, nx] at h6; cases h6
theorem pw_low (h : Grp t) {x : Nat} (hx : x < t.length) : ∀ m k, k < m → ∃ j, j ≤ ordN t x ∧ pwN t x k = pwN t x j := by
  intro m
  induction m with
  | zero => intro k hk; omega
  | succ m ih =>
    intro k hk
    by_cases e : k ≤ ordN t x
    · exact ⟨k, e, rfl⟩
    · obtain ⟨j, hj, e2⟩ := ih (k - ordN t x - 1) (by omega)
      refine ⟨j, hj, ?_⟩
      rw [← e2]
      have := pwN_add h.toSemi hx (ordN t x) (k - ordN t x - 1)
      rw [show ordN t x + (k - ordN t x - 1) + 1 = k by omega, (ord_spec h hx).2.1] at this
      rw [← this]; exact (h.one.2.1 _ (pwN_lt h.toSemi hx _)).1
theorem mk_pw (h : Grp t) {x y : Nat} (hx : x < t.length) : Mk t [(x : Int)] y ↔ ∃ j, j ≤ ordN t x ∧ y = pwN t x j := by
  constructor
  · intro m
    obtain ⟨k, e⟩ := mk_least (S := fun y => ∃ k, y = pwN t x k) (fun g hg => ⟨0, by rw [List.mem_singleton] at hg; rw [hg, Int.toNat_natCast]; rfl⟩) (fun a b ha hb => by
      obtain ⟨i, rfl⟩ := ha
      obtain ⟨j, rfl⟩ := hb
      exact ⟨i + j + 1, pwN_add h.toSemi hx i j⟩) m
    obtain ⟨j, hj, e2⟩ := pw_low h hx (k + 1) k (by omega)
    exact ⟨j, hj, e.trans e2⟩
  · rintro ⟨j, _, rfl⟩
    have hb : Mk t [(x : Int)] x := by
      have : Mk t [(x : Int)] ((x : Int)).toNat := .gen (List.mem_singleton.2 rfl)
      rwa [Int.toNat_natCast] at this
    induction j with
    | zero => exact hb
    | succ j ih => exact .mul (ih (by omega)) hb
theorem ord_gen (h : Grp t) {x : Nat} (hx : x < t.length) : (genL t [(x : Int)]).length = ordN t x + 1 := by
  have hn : (genL t [(x : Int)]).Nodup := (pairwise_adj (ascV_asc _ _)).imp fun {a b} hab e => by omega
  have hm : ((List.range (ordN t x + 1)).map fun j => ((pwN t x j : Nat) : Int)).Nodup := by
    refine List.pairwise_map.2 (List.pairwise_lt_range.imp_of_mem fun {a b} ha hb hab e => ?_)
    have := List.mem_range.1 hb
    exact pw_inj h hx hab (by omega) (by omega)
  have hp : (genL t [(x : Int)]).Perm ((List.range (ordN t x + 1)).map fun j => ((pwN t x j : Nat) : Int)) := (List.perm_ext_iff_of_nodup hn hm).2 fun z => by
    unfold genL
    rw [ascV_mem, List.mem_map]
    constructor
    · rintro ⟨i, hi, hf, rfl⟩
      obtain ⟨j, hj, rfl⟩ := (mk_pw h hx).1 (genF_iff.1 hf)
      exact ⟨j, List.mem_range.2 (by omega), rfl⟩
    · rintro ⟨j, hj, rfl⟩
      exact ⟨_, pwN_lt h.toSemi hx j, genF_iff.2 ((mk_pw h hx).2 ⟨j, by have := List.mem_range.1 hj; omega, rfl⟩), rfl⟩
  have := hp.length_eq
  rwa [List.length_map, List.length_range] at this
end Go.Proofs.YtdjbbjjmjopofaaGreat
end
section
/- The statement GroupLagrange: the walk. -/
namespace Go.Proofs.YtdjbbjjmjopofaaGreat
open Go Go.AM
set_option maxRecDepth 100000
theorem grpLag_k (t : List (List Int)) (l : List Int) (x : Nat) (hn : t.length ≤ 24) (h : Grp t) (hl : inT t l) (h0 : 0 < l.length) (hx : x < t.length) : fnK TY SP Tryz.f13 [.ro (.rows .i64 t), .ro (.ints .i64 l), .int .i64 (x : Int)] (.bool (.lit true)) := by
  have hc : ClL t (genL t l) := genL_cl h.toSh hl h0
  have mG : QF 58 [.ro (.rows .i64 t), .ro (.ints .i64 l)] (.new (.ints .i64 (genL t l))) := by
    have := mGen_fn t l h.toSemi hl h0
    rwa [srt_gen h.toSemi hl h0] at this
  have hv : validP (cosL t (genL t l)) := ⟨by rw [cosL_len]; omega, cosL_canon _ _⟩
  have hcl : (classes (classN (cosL t (genL t l))) (cosL t (genL t l))).length = classN (cosL t (genL t l)) := by simp [classes]
  have hcn : classN (cosL t (genL t l)) ≤ t.length := by have := firsts_le (cosL t (genL t l)); rw [cosL_len] at this; exact this
  have ho := ord_spec h hx
  have hdiv : (t.length : Int) % ((ordN t x : Int) + 1) = 0 := by
    have hcx := genL_cl h.toSh (l := [(x : Int)]) (fun y hy => by rw [List.mem_singleton] at hy; omega) (by simp)
    have := lagrange h hcx
    rw [ord_gen h hx] at this
    rw [this, Int.natCast_mul]
    exact Int.mul_emod_left _ _
  refine Or.inl (cq (little16_fn t 24) (And.intro rfl (And.intro rfl trivial)) ?_)
  refine And.intro (fun _ => Or.inl (cq awake16_fn trivial (And.intro rfl trivial))) (fun _ => ?_)
  refine Or.inl (cq (rin_fn t l) (And.intro rfl (And.intro rfl trivial)) ?_)
  refine And.intro (fun _ => Or.inl (cq awake16_fn trivial (And.intro rfl trivial))) (fun _ => ?_)
  refine And.intro (fun _ => Or.inl (cq awake16_fn trivial (And.intro rfl trivial))) (fun _ => ?_)
  refine Or.inl (cq (rin_fn t [(x : Int)]) (And.intro rfl (And.intro rfl trivial)) ?_)
  refine And.intro (fun _ => Or.inl (cq awake16_fn trivial (And.intro rfl trivial))) (fun _ => ?_)
  refine Or.inl (cq mG (And.intro rfl (And.intro rfl trivial)) ?_)
  refine Or.inl (cq (gIsSub_fn t (genL t l)) (And.intro rfl (And.intro rfl trivial)) ?_)
  refine And.intro (fun h5 => ?_) (fun _ => ?_)
  · have h5 : (!(grpB t && clB t (genL t l))) = true := h5
    rw [grpB_true.2 h, clB_true.2 hc] at h5; exact absurd h5 (by decide)
  refine Or.inl (cq (gCos_fn t (genL t l) h hc) (And.intro rfl (And.intro rfl trivial)) ?_)
  refine Or.inl (cq (rpvalid_fn (cosL t (genL t l))) (And.intro rfl trivial) ?_)
  refine And.intro (fun h6 => ?_) (fun _ => ?_)
  · have h6 : (!decide (validP (cosL t (genL t l)))) = true := h6
    rw [decide_eq_true hv] at h6; exact absurd h6 (by decide)
  refine And.intro (fun h7 => absurd (show ((cosL t (genL t l)).length : Int) = (t.length : Int) by rw [cosL_len]) h7) (fun _ => ?_)
  refine Or.inl (cq (rclasses_fn (cosL t (genL t l)) hv) (And.intro rfl trivial) ?_)
  refine Exists.intro [] <| lp (X := Nat) (fun k => [(57, .int .i64 k)]) (fun _ => []) (fun k => k ≤ classN (cosL t (genL t l))) (fun k => classN (cosL t (genL t l)) - k) 0 (Nat.zero_le _) (by repeat' first | refine And.intro ?_ ?_ | exact True.intro | (show (_ : Int) = (_ : Int); omega) | omega | exact rfl | (simp only [RO.len]; omega)) ?_
  intro k hk
  refine And.intro (fun h1 => ?_) (fun h1 => ?_)
  · have h1 : (k : Int) < ((classes (classN (cosL t (genL t l))) (cosL t (genL t l))).length : Int) := h1
    have hkl : k < classN (cosL t (genL t l)) := by omega
    refine And.intro (by omega) ?_
    refine And.intro (fun h2 => absurd (show (((classes (classN (cosL t (genL t l))) (cosL t (genL t l))).getD k []).length : Int) = ((genL t l).length : Int) by rw [cos_size h hc hkl]) h2) (fun _ => ?_)
    refine And.intro (by omega) ?_
    exact Exists.intro (k + 1) (And.intro ⟨by show k + 1 ≤ _; omega, by show classN (cosL t (genL t l)) - (k + 1) < classN (cosL t (genL t l)) - k; omega⟩ (by repeat' first | refine And.intro ?_ ?_ | exact True.intro | (show (_ : Int) = (_ : Int); omega) | omega | exact rfl | (simp only [RO.len]; omega)))
  · refine Or.inl (cq (gord_fn t h x hx) (And.intro rfl (And.intro rfl trivial)) ?_)
    refine And.intro (fun _ => ?_) (fun h2 => absurd h2 (by omega))
    refine Or.inl ?_
    refine And.intro (by omega) ?_
    refine And.intro (fun _ => ?_) (fun h2 => absurd hdiv h2)
    refine Or.inl (cq (mPower_fn t x (ordN t x) h.toSemi hx (by omega)) (And.intro rfl (And.intro rfl (And.intro rfl trivial))) ?_)
    refine Or.inl (cq (mIdn_fn t h) (And.intro rfl trivial) ?_)
    refine And.intro (fun _ => ?_) (fun h3 => absurd (show ((pwN t x (ordN t x) : Nat) : Int) = ((oneN t : Nat) : Int) by rw [ho.2.1]) h3)
    refine Or.inl (cq (rcount_fn (cosL t (genL t l)) hv) (And.intro rfl trivial) ?_)
    refine And.intro (fun _ => Or.inl (cq awake16_fn trivial (And.intro rfl trivial))) (fun h4 => ?_)
    have h4 : ((classN (cosL t (genL t l)) : Nat) : Int) = 2 := h4
    refine Or.inl (cq (gNrm_fn t (genL t l)) (And.intro rfl (And.intro rfl trivial)) ?_)
    refine And.intro (fun _ => Or.inl (cq awake16_fn trivial (And.intro rfl trivial))) (fun h5 => ?_)
    have h5 : (grpB t && (clB t (genL t l) && nrmB t (allI t) (genL t l))) = false := h5
    rw [grpB_true.2 h, clB_true.2 hc, nrmB_true.2 (two_nrm h hc (by omega))] at h5
    exact absurd h5 (by decide)
theorem grpLagN_k (t : List (List Int)) (l : List Int) (x : Int) (hno : ¬ (t.length ≤ 24 ∧ Grp t ∧ inT t l ∧ 0 < l.length ∧ 0 ≤ x ∧ x < t.length)) : fnK TY SP Tryz.f13 [.ro (.rows .i64 t), .ro (.ints .i64 l), .int .i64 x] (.bool (.lit true)) := by
  refine Or.inl (cq (little16_fn t 24) (And.intro rfl (And.intro rfl trivial)) ?_)
  refine And.intro (fun _ => Or.inl (cq awake16_fn trivial (And.intro rfl trivial))) (fun h1 => ?_)
  refine Or.inl (cq (rin_fn t l) (And.intro rfl (And.intro rfl trivial)) ?_)
  refine And.intro (fun _ => Or.inl (cq awake16_fn trivial (And.intro rfl trivial))) (fun h2 => ?_)
  refine And.intro (fun _ => Or.inl (cq awake16_fn trivial (And.intro rfl trivial))) (fun h3 => ?_)
  refine Or.inl (cq (rin_fn t [x]) (And.intro rfl (And.intro rfl trivial)) ?_)
  refine And.intro (fun _ => Or.inl (cq awake16_fn trivial (And.intro rfl trivial))) (fun h4 => ?_)
  have h1 : (!(decide ((t.length : Int) ≤ 24) && grpB t)) = false := h1
  have h2 : (!decide (∀ y ∈ l, 0 ≤ y ∧ y < (t.length : Int))) = false := h2
  have h3 : (l.length : Int) ≠ 0 := h3
  have h4 : (!decide (∀ y ∈ [x], 0 ≤ y ∧ y < (t.length : Int))) = false := h4
  rw [Bool.not_eq_false'] at h1 h2 h4
  rw [Bool.and_eq_true] at h1
  have h5 := of_decide_eq_true h4 x (List.mem_singleton.2 rfl)
  exact absurd ⟨by have := of_decide_eq_true h1.1; omega, grpB_true.1 h1.2, of_decide_eq_true h2, by omega, h5.1, h5.2⟩ hno
theorem grpLag_fn (t : List (List Int)) (l : List Int) (x : Int) : QF 13 [.ro (.rows .i64 t), .ro (.ints .i64 l), .int .i64 x] (.bool (.lit true)) := by
  by_cases h : t.length ≤ 24 ∧ Grp t ∧ inT t l ∧ 0 < l.length ∧ 0 ≤ x ∧ x < t.length
  · obtain ⟨hn, hg, hl, h0, hx0, hx1⟩ := h
    obtain ⟨k, rfl⟩ : ∃ k : Nat, x = (k : Int) := ⟨x.toNat, by omega⟩
    exact mkQ Tryz.func13 (by decide +kernel) rfl (Nat.le_of_ble_eq_true rfl) fun _ => grpLag_k t l k hn hg hl h0 (by omega)
  · exact mkQ Tryz.func13 (by decide +kernel) rfl (Nat.le_of_ble_eq_true rfl) fun _ => grpLagN_k t l x h
end Go.Proofs.YtdjbbjjmjopofaaGreat
end
