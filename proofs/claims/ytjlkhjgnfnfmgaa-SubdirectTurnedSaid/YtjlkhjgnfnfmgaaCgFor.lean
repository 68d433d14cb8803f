import Derived.Test.YtjlkhjgnfnfmgaaLp
import Derived.Test.YtjlkhjgnfnfmgaaGroup
import Derived.Test.YtjlkhjgnfnfmgaaReesLaw
import Derived.Test.YtjlkhjgnfnfmgaaEqvLaw
import Derived.Test.YtjlkhjgnfnfmgaaRefRees
import Derived.Test.YtjlkhjgnfnfmgaaSynLaw
section
/- Package congr: generators: contract. -/
namespace Go.Proofs.Ytjlkhjgnfnfmgaa
open Go Go.AM
set_option maxRecDepth 100000
structure GnS (t : List (List Int)) (x : Nat) (G R : List Int) (I : List Bool) (D : List Int) : Prop where
  il : I.length = t.length
  dl : D.length = t.length
  mks : ∀ z, I.getD z false = true → Mk t G z
  lo : ∀ z, z < x → I.getD z false = true
  gs : ∀ g ∈ G, 0 ≤ g ∧ g < (t.length : Int)
  gl : G.length ≤ x
  rs : ∀ y ∈ R, (0 ≤ y ∧ y < (t.length : Int)) ∧ I.getD y.toNat false = true
  rn : R.Nodup
  dd : ∀ z, 0 ≤ D.getD z 0 ∧ D.getD z 0 ≤ (G.length : Int)
section
variable {t : List (List Int)} {x : Nat} {G R : List Int} {I : List Bool} {D : List Int}
theorem GnS.rl (h : GnS t x G R I D) : R.length ≤ t.length := nodup_len h.rn fun y hy => (h.rs y hy).1
theorem GnS.start (t : List (List Int)) : GnS t 0 [] [] (List.replicate t.length false) (List.replicate t.length 0) := by
  refine ⟨by simp, by simp, fun z hz => ?_, fun z hz => absurd hz (Nat.not_lt_zero _), fun _ h => (nomatch h), Nat.le_refl _, fun _ h => (nomatch h), .nil, fun z => ?_⟩
  · simp [List.getD, List.getElem?_replicate] at hz
    split at hz <;> simp at hz
  · have : (List.replicate t.length (0 : Int)).getD z 0 = 0 := by
      simp only [List.getD, List.getElem?_replicate]
      split <;> rfl
    rw [this]; simp
theorem set_true {I : List Bool} {x z : Nat} (h : (I.set x true).getD z false = true) : z = x ∨ I.getD z false = true := by
  by_cases e : z = x
  · exact .inl e
  · rw [getD_set_ne (Ne.symm e)] at h; exact .inr h
theorem keep_true {I : List Bool} {x z : Nat} (h : I.getD z false = true) : (I.set x true).getD z false = true := by
  by_cases e : x = z
  · subst e
    have hl : x < I.length := Nat.lt_of_not_le fun hl => by
      rw [List.getD, List.getElem?_eq_none hl] at h; cases h
    exact getD_set_eq hl
  · rw [getD_set_ne e]; exact h
theorem GnS.gen (h : GnS t x G R I D) (hx : x < t.length) (hn : I.getD x false = false) : GnS t (x + 1) (G ++ [(x : Int)]) (R ++ [(x : Int)]) (I.set x true) D := by
  have hil := h.il
  refine ⟨by rw [List.length_set]; exact h.il, h.dl, fun z hz => ?_, fun z hz => ?_, fun g hg => ?_, by have := h.gl; simp; omega, fun y hy => ?_, ?_, fun z => by have := h.dd z; rw [List.length_append, List.length_singleton]; omega⟩
  · rcases set_true hz with rfl | hz
    · have := Mk.gen (t := t) (gens := G ++ [(z : Int)]) (g := (z : Int)) (by simp)
      simpa using this
    · exact (h.mks z hz).mono fun a ha => List.mem_append_left _ ha
  · by_cases e : z = x
    · subst e; exact getD_set_eq (by omega)
    · exact keep_true (h.lo z (by omega))
  · rcases List.mem_append.1 hg with hg | hg
    · exact h.gs g hg
    · rw [List.mem_singleton] at hg; omega
  · rcases List.mem_append.1 hy with hy | hy
    · exact ⟨(h.rs y hy).1, keep_true (h.rs y hy).2⟩
    · rw [List.mem_singleton] at hy
      subst hy
      exact ⟨by omega, by rw [Int.toNat_natCast]; exact getD_set_eq (by omega)⟩
  · rw [List.nodup_append]
    refine ⟨h.rn, by simp, fun a ha b hb => ?_⟩
    rw [List.mem_singleton] at hb
    subst hb
    rintro rfl
    have := (h.rs _ ha).2
    rw [Int.toNat_natCast, hn] at this; cases this
theorem GnS.skip (h : GnS t x G R I D) (hx : x < t.length) (hn : I.getD x false = true) : GnS t (x + 1) G R I D :=
  ⟨h.il, h.dl, h.mks, fun z hz => by
    by_cases e : z = x
    · subst e; exact hn
    · exact h.lo z (by omega), h.gs, by have := h.gl; omega, h.rs, h.rn, h.dd⟩
theorem GnS.push (h : GnS t x G R I D) (hs : Sh t) {y g : Int} (hy : y ∈ R) (hg : g ∈ G) (hn : I.getD (en t y.toNat g.toNat) false = false) : GnS t x G (R ++ [(en t y.toNat g.toNat : Int)]) (I.set (en t y.toNat g.toNat) true) D := by
  have hyr := h.rs y hy
  have hgr := h.gs g hg
  have hlt := (hs.ent (x := y.toNat) (y := g.toNat) (by omega) (by omega)).2
  have hil := h.il
  refine ⟨by rw [List.length_set]; exact h.il, h.dl, fun z hz => ?_, fun z hz => keep_true (h.lo z hz), h.gs, h.gl, fun a ha => ?_, ?_, h.dd⟩
  · rcases set_true hz with rfl | hz
    · exact .mul (h.mks _ hyr.2) (.gen hg)
    · exact h.mks z hz
  · rcases List.mem_append.1 ha with ha | ha
    · exact ⟨(h.rs a ha).1, keep_true (h.rs a ha).2⟩
    · rw [List.mem_singleton] at ha
      subst ha
      exact ⟨by omega, by rw [Int.toNat_natCast]; exact getD_set_eq (by omega)⟩
  · rw [List.nodup_append]
    refine ⟨h.rn, by simp, fun a ha b hb => ?_⟩
    rw [List.mem_singleton] at hb
    subst hb
    rintro rfl
    have := (h.rs _ ha).2
    rw [Int.toNat_natCast, hn] at this; cases this
theorem GnS.step (h : GnS t x G R I D) {y : Nat} (hy : y < t.length) (hd : D.getD y 0 < (G.length : Int)) : GnS t x G R I (D.set y (D.getD y 0 + 1)) := by
  have hdl := h.dl
  refine ⟨h.il, by rw [List.length_set]; exact h.dl, h.mks, h.lo, h.gs, h.gl, h.rs, h.rn, fun z => ?_⟩
  by_cases e : y = z
  · subst e; rw [getD_set_eq (by omega)]; have := h.dd y; omega
  · rw [getD_set_ne e]; exact h.dd z
theorem GnS.done (h : GnS t x G R I D) (hx : t.length ≤ x) : Spans t G := ⟨h.gs, fun z hz => h.mks z (h.lo z (by omega))⟩
end
set_option maxHeartbeats 1000000 in
theorem cgens_fn (t : List (List Int)) (h : Sh t) : EF 67 [.ro (.rows .i64 t)] (fun l : List Int => .new (.ints .i64 l)) (fun l => Spans t l ∧ l.length ≤ t.length) := mkE Try.func67 (by decide +kernel) rfl (Nat.le_of_ble_eq_true rfl) fun _ => by
  have hmost := h.most
  refine And.intro (by omega) ?_
  refine And.intro (by omega) ?_
  refine And.intro (by omega) ?_
  refine And.intro (by omega) ?_
  refine Exists.intro [] <| lp5 (fun (x : Nat) (_ _ : List Int) (_ : List Bool) (_ : List Int) => [(19, .int .i64 x), (3, .vec 32), (4, .vec 36)]) (fun _ G R I D => [(32, .vec 0 (.ints .i64 G) []), (36, .vec 0 (.ints .i64 R) []), (13, .vec 0 (.bools I) []), (16, .vec 0 (.ints .i64 D) [])]) (fun x G R I D => x ≤ t.length ∧ GnS t x G R I D) (fun x _ _ _ _ => t.length - x) 0 [] [] (List.replicate t.length false) (List.replicate t.length 0) ⟨Nat.zero_le _, GnS.start t⟩ (by repeat' first | refine And.intro ?_ ?_ | exact True.intro | (show (_ : Int) = (_ : Int); omega) | omega | exact rfl | (simp only [RO.len]; omega)) ?_
  rintro x G R I D ⟨hx, hg⟩
  have il := hg.il
  have dl := hg.dl
  have gl := hg.gl
  have rl := hg.rl
  refine And.intro (fun h1 => ?_) (fun h1 => ?_)
  · have h1 : (x : Int) < (t.length : Int) := h1
    refine And.intro (show 0 ≤ (x : Int) ∧ (x : Int) < (I.length : Int) by omega) ?_
    refine And.intro (fun h2 => ?_) (fun h2 => ?_)
    · have h2 : I.getD x false = true := h2
      refine And.intro (by omega) ?_
      exact nx (x + 1, G, R, I, D) ⟨by omega, hg.skip (by omega) h2⟩ (show t.length - (x + 1) < t.length - x by omega) (by repeat' first | refine And.intro ?_ ?_ | exact True.intro | (show (_ : Int) = (_ : Int); omega) | omega | exact rfl | (simp only [RO.len]; omega))
    · have h2 : I.getD x false = false := h2
      refine And.intro (show 0 ≤ (x : Int) ∧ (x : Int) < (I.length : Int) by omega) ?_
      refine And.intro (by omega) ?_
      refine And.intro (by simp; omega) ?_
      refine And.intro (by simp; omega) ?_
      refine Exists.intro [36] <| lp4 (fun (i : Nat) (_ : List Int) (_ : List Bool) (_ : List Int) => [(8, .int .i64 i), (4, .vec 36)]) (fun _ R I D => [(36, .vec 0 (.ints .i64 R) []), (13, .vec 0 (.bools I) []), (16, .vec 0 (.ints .i64 D) [])]) (fun i R I D => i ≤ R.length ∧ GnS t (x + 1) (G ++ [(x : Int)]) R I D) (fun i _ _ _ => t.length - i) 0 (R ++ [(x : Int)]) (I.set x true) D ⟨Nat.zero_le _, hg.gen (by omega) h2⟩ (by repeat' first | refine And.intro ?_ ?_ | exact True.intro | (show (_ : Int) = (_ : Int); omega) | omega | exact rfl | (simp only [RO.len]; omega)) ?_
      rintro i R1 I1 D1 ⟨hi, hg1⟩
      have il1 := hg1.il
      have dl1 := hg1.dl
      have rl1 := hg1.rl
      have gl1 : (G ++ [(x : Int)]).length = G.length + 1 := by simp
      refine And.intro (fun h3 => ?_) (fun h3 => ?_)
      · have h3 : (i : Int) < (R1.length : Int) := h3
        have hy1 := (hg1.rs _ (getD_mem (d := 0) (i := i) (l := R1) (by omega))).1
        refine And.intro (show 0 ≤ (i : Int) ∧ (i : Int) < (R1.length : Int) by omega) ?_
        have hymem : R1.getD i 0 ∈ R1 := getD_mem (by omega)
        obtain ⟨y, hyd⟩ : ∃ y, R1.getD i 0 = y := ⟨_, rfl⟩
        rw [hyd] at hymem hy1
        refine Exists.intro [9, 36, 38, 43, 45, 46] <| lp3 (fun (_ : List Int) (_ : List Bool) (_ : List Int) => [(4, .vec 36), (9, .int .i64 y)]) (fun R I D => [(36, .vec 0 (.ints .i64 R) []), (13, .vec 0 (.bools I) []), (16, .vec 0 (.ints .i64 D) [])]) (fun R I D => i < R.length ∧ y ∈ R ∧ GnS t (x + 1) (G ++ [(x : Int)]) R I D) (fun _ _ D => G.length + 1 - (D.getD y.toNat 0).toNat) R1 I1 D1 ⟨by omega, hymem, hg1⟩ (by repeat' first | refine And.intro ?_ ?_ | exact True.intro | exact hyd | (show (_ : Int) = (_ : Int); omega) | omega | exact rfl | (simp only [RO.len]; omega)) ?_
        rintro R2 I2 D2 ⟨hi2, hr2, hg2⟩
        have il2 := hg2.il
        have dl2 := hg2.dl
        have rl2 := hg2.rl
        have hd := hg2.dd y.toNat
        have hyl : y.toNat < t.length := by omega
        refine And.intro (show 0 ≤ y ∧ y < (D2.length : Int) by omega) ?_
        refine And.intro (fun h4 => ?_) (fun h4 => ?_)
        · have h4 : D2.getD y.toNat 0 < ((G ++ [(x : Int)]).length : Int) := h4
          have hgm : (G ++ [(x : Int)]).getD (D2.getD y.toNat 0).toNat 0 ∈ (G ++ [(x : Int)]) := getD_mem (by omega)
          have hgr := hg2.gs _ hgm
          have hdn : (D2.getD y.toNat 0).toNat < (G ++ [(x : Int)]).length := by omega
          have e1 := h.ent (x := y.toNat) (y := ((G ++ [(x : Int)]).getD (D2.getD y.toNat 0).toNat 0).toNat) (by omega) (by omega)
          have r1 := h.len (x := y.toNat) (by omega)
          refine Or.inl ?_
          refine Exists.intro [false, false, false, false, false, false, false, false, false, false, false, false, false, false] (And.intro (by decide +kernel) ?_)
          refine And.intro (show 0 ≤ y ∧ y < (t.length : Int) by omega) ?_
          refine And.intro (show 0 ≤ y ∧ y < (D2.length : Int) by omega) ?_
          refine And.intro (show 0 ≤ D2.getD y.toNat 0 ∧ D2.getD y.toNat 0 < ((G ++ [(x : Int)]).length : Int) by omega) ?_
          refine And.intro (show 0 ≤ (G ++ [(x : Int)]).getD (D2.getD y.toNat 0).toNat 0 ∧ (G ++ [(x : Int)]).getD (D2.getD y.toNat 0).toNat 0 < ((t.getD y.toNat []).length : Int) by omega) ?_
          have hz : 0 ≤ (t.getD y.toNat []).getD ((G ++ [(x : Int)]).getD (D2.getD y.toNat 0).toNat 0).toNat 0 ∧ (t.getD y.toNat []).getD ((G ++ [(x : Int)]).getD (D2.getD y.toNat 0).toNat 0).toNat 0 < (I2.length : Int) := by omega
          have hzn : ((t.getD y.toNat []).getD ((G ++ [(x : Int)]).getD (D2.getD y.toNat 0).toNat 0).toNat 0).toNat = en t y.toNat ((G ++ [(x : Int)]).getD (D2.getD y.toNat 0).toNat 0).toNat := by omega
          have hst : ∀ {R3 : List Int} {I3 : List Bool}, GnS t (x + 1) (G ++ [(x : Int)]) R3 I3 D2 → GnS t (x + 1) (G ++ [(x : Int)]) R3 I3 (D2.set y.toNat (D2.getD y.toNat 0 + 1)) := fun hh => hh.step hyl h4
          have hms : G.length + 1 - ((D2.set y.toNat (D2.getD y.toNat 0 + 1)).getD y.toNat 0).toNat < G.length + 1 - (D2.getD y.toNat 0).toNat := by
            rw [getD_set_eq (by omega)]; omega
          refine And.intro hz ?_
          refine And.intro (fun h5 => ?_) (fun h5 => ?_)
          · have h5 : (!I2.getD ((t.getD y.toNat []).getD ((G ++ [(x : Int)]).getD (D2.getD y.toNat 0).toNat 0).toNat 0).toNat false) = true := h5
            rw [Bool.not_eq_true', hzn] at h5
            have hp := hg2.push h hr2 hgm h5
            rw [← hzn, Int.toNat_of_nonneg hz.1] at hp
            have hpl := hp.rl
            refine And.intro hz ?_
            refine And.intro hz.1 ?_
            refine And.intro (show (((R2 ++ [(t.getD y.toNat []).getD ((G ++ [(x : Int)]).getD (D2.getD y.toNat 0).toNat 0).toNat 0]).length : Nat) : Int) ≤ 17592186044416 by omega) ?_
            refine And.intro (show 0 ≤ y ∧ y < (D2.length : Int) by omega) ?_
            refine And.intro (show -9223372036854775808 ≤ D2.getD y.toNat 0 + 1 ∧ D2.getD y.toNat 0 + 1 ≤ 9223372036854775807 by omega) ?_
            refine And.intro (show 0 ≤ y ∧ y < (D2.length : Int) by omega) ?_
            refine And.intro (show ((0 : Nat) : Int) ≤ y by omega) ?_
            exact nx (R2 ++ [(t.getD y.toNat []).getD ((G ++ [(x : Int)]).getD (D2.getD y.toNat 0).toNat 0).toNat 0], I2.set ((t.getD y.toNat []).getD ((G ++ [(x : Int)]).getD (D2.getD y.toNat 0).toNat 0).toNat 0).toNat true, D2.set y.toNat (D2.getD y.toNat 0 + 1)) ⟨by simp; omega, List.mem_append_left _ hr2, hst hp⟩ hms (by repeat' first | refine And.intro ?_ ?_ | exact True.intro | (show (_ : Int) = (_ : Int); omega) | omega | exact rfl | (simp only [RO.len]; omega))
          · refine And.intro (show 0 ≤ y ∧ y < (D2.length : Int) by omega) ?_
            refine And.intro (show -9223372036854775808 ≤ D2.getD y.toNat 0 + 1 ∧ D2.getD y.toNat 0 + 1 ≤ 9223372036854775807 by omega) ?_
            refine And.intro (show 0 ≤ y ∧ y < (D2.length : Int) by omega) ?_
            refine And.intro (show ((0 : Nat) : Int) ≤ y by omega) ?_
            exact nx (R2, I2, D2.set y.toNat (D2.getD y.toNat 0 + 1)) ⟨hi2, hr2, hst hg2⟩ hms (by repeat' first | refine And.intro ?_ ?_ | exact True.intro | (show (_ : Int) = (_ : Int); omega) | omega | exact rfl | (simp only [RO.len]; omega))
        · refine And.intro (by omega) ?_
          exact nx (i + 1, R2, I2, D2) ⟨by omega, hg2⟩ (show t.length - (i + 1) < t.length - i by omega) (by repeat' first | refine And.intro ?_ ?_ | exact True.intro | (show (_ : Int) = (_ : Int); omega) | omega | exact rfl | (simp only [RO.len]; omega))
      · refine And.intro (by omega) ?_
        exact nx (x + 1, G ++ [(x : Int)], R1, I1, D1) ⟨by omega, hg1⟩ (show t.length - (x + 1) < t.length - x by omega) (by repeat' first | refine And.intro ?_ ?_ | exact True.intro | (show (_ : Int) = (_ : Int); omega) | omega | exact rfl | (simp only [RO.len]; omega))
  · have h1 : (t.length : Int) ≤ (x : Int) := h1
    refine Exists.intro G (And.intro ⟨hg.done (by omega), by omega⟩ ?_)
    exact And.intro (And.intro (by omega) rfl) trivial
end Go.Proofs.Ytjlkhjgnfnfmgaa
end
section
/- slices.Clone of integers: contract. -/
namespace Go.Proofs.Ytjlkhjgnfnfmgaa
open Go Go.AM
set_option maxRecDepth 100000
theorem cloneI_fn (l : List Int) (hl : l.length ≤ 4096) : QF 136 [.ro (.ints .i64 l)] (.new (.ints .i64 l)) := mkQ Try.func136 (by decide +kernel) rfl (Nat.le_of_ble_eq_true rfl) fun _ => by
  refine And.intro (fun h1 => ?_) ?_
  · exact And.intro h1 trivial
  · refine And.intro (by simp; omega) ?_
    exact And.intro ⟨by omega, by simp⟩ trivial
end Go.Proofs.Ytjlkhjgnfnfmgaa
end
section
/- The reference: classes made one; nothing joined: contracts. -/
namespace Go.Proofs.Ytjlkhjgnfnfmgaa
open Go Go.AM
set_option maxRecDepth 100000
theorem merge_fn (p : List Int) (i j : Nat) (hi : i < p.length) (hj : j < p.length) (hp : p.length ≤ 4096) : MF 156 [.vec 1000, .int .i64 i, .int .i64 j] [(1000, .vec 0 (.ints .i64 p) [])] (.tup []) [(1000, .vec 0 (.ints .i64 (mrgL p i j)) [])] := mkM Try.func156 (by decide +kernel) rfl (Nat.le_of_ble_eq_true rfl) fun _ => by
  refine Or.inl ?_
  refine Exists.intro [false, false, false, false, false, false, false, false, false, false] (And.intro (by decide +kernel) ?_)
  refine And.intro (by omega) ?_
  refine And.intro (by omega) ?_
  refine Exists.intro [] <| lp2 (fun (k : Nat) (_ : List Int) => [(19, .int .i64 k)]) (fun _ q => [(1000, .vec 0 (.ints .i64 q) [])]) (fun k q => k ≤ p.length ∧ q.length = p.length ∧ ∀ x, x < p.length → q.getD x 0 = if x < k then (mrgL p i j).getD x 0 else p.getD x 0) (fun k _ => p.length - k) 0 p ⟨Nat.zero_le _, rfl, fun x hx => by rw [if_neg (Nat.not_lt_zero _)]⟩ (by repeat' first | refine And.intro ?_ ?_ | exact True.intro | (show (_ : Int) = (_ : Int); omega) | omega | exact rfl | (simp only [RO.len]; omega)) ?_
  rintro k q ⟨hk, hq, hv⟩
  refine And.intro (fun h1 => ?_) (fun h1 => ?_)
  · have h1 : (k : Int) < (p.length : Int) := h1
    have hkl : k < p.length := by omega
    have hqk := hv k hkl
    rw [if_neg (Nat.lt_irrefl k)] at hqk
    have hmk := mrgL_get (p := p) (i := i) (j := j) hkl
    have nxt : ∀ (r : List Int), (∀ x, x < p.length → r.getD x 0 = if x = k then (mrgL p i j).getD k 0 else q.getD x 0) → ∀ x, x < p.length → r.getD x 0 = if x < k + 1 then (mrgL p i j).getD x 0 else p.getD x 0 := fun r hr x hx => by
      rw [hr x hx]
      by_cases e : x = k
      · subst e; rw [if_pos rfl, if_pos (by omega)]
      · rw [if_neg e, hv x hx]
        by_cases e2 : x < k
        · rw [if_pos e2, if_pos (by omega)]
        · rw [if_neg e2, if_neg (by omega)]
    refine And.intro (show 0 ≤ (k : Int) ∧ (k : Int) < (q.length : Int) by omega) ?_
    refine And.intro (fun h2 => ?_) (fun h2 => ?_)
    · have h2 : q.getD k 0 = p.getD j 0 := h2
      refine And.intro (show 0 ≤ (k : Int) ∧ (k : Int) < (q.length : Int) by omega) ?_
      refine And.intro (by omega) ?_
      refine And.intro (by omega) ?_
      refine nx (k + 1, q.set k (p.getD i 0)) ⟨by omega, by rw [List.length_set]; exact hq, nxt _ fun x hx => ?_⟩ (show p.length - (k + 1) < p.length - k by omega) (by repeat' first | refine And.intro ?_ ?_ | exact True.intro | (show (_ : Int) = (_ : Int); omega) | omega | exact rfl | (simp only [RO.len]; omega))
      by_cases e : x = k
      · subst e; rw [getD_set_eq (by omega), if_pos rfl, hmk, if_pos (hqk ▸ h2)]
      · rw [getD_set_ne (Ne.symm e), if_neg e]
    · have h2 : q.getD k 0 ≠ p.getD j 0 := h2
      refine And.intro (by omega) ?_
      refine nx (k + 1, q) ⟨by omega, hq, nxt _ fun x hx => ?_⟩ (show p.length - (k + 1) < p.length - k by omega) (by repeat' first | refine And.intro ?_ ?_ | exact True.intro | (show (_ : Int) = (_ : Int); omega) | omega | exact rfl | (simp only [RO.len]; omega))
      by_cases e : x = k
      · subst e; rw [if_pos rfl, hmk, if_neg (hqk ▸ h2)]; exact hqk
      · rw [if_neg e]
  · have h1 : (p.length : Int) ≤ (k : Int) := h1
    refine And.intro ?_ trivial
    refine And.intro (And.intro (by omega) ?_) trivial
    refine congrArg (RO.ints .i64) (ext_getD 0 (by rw [mrgL_len]; exact hq) fun x hx => ?_)
    rw [hv x (by omega), if_pos (by omega)]
theorem rdis_fn (n : Nat) (hn : n ≤ 4096) : QF 92 [.int .i64 n] (.new (.ints .i64 (disI n))) := mkQ Try.func92 (by decide +kernel) rfl (Nat.le_of_ble_eq_true rfl) fun _ => by
  refine And.intro (by omega) ?_
  refine And.intro (by omega) ?_
  refine Exists.intro [] <| lp2 (fun (k : Nat) (_ : List Int) => [(9, .int .i64 k)]) (fun _ L => [(6, .vec 0 (.ints .i64 L) [])]) (fun k L => k ≤ n ∧ L.length = n ∧ ∀ j, j < k → L.getD j 0 = (j : Int)) (fun k _ => n - k) 0 (List.replicate n 0) ⟨Nat.zero_le _, by simp, by omega⟩ (by repeat' first | refine And.intro ?_ ?_ | exact True.intro | (show (_ : Int) = (_ : Int); omega) | omega | exact rfl | (simp; omega)) ?_
  rintro k L ⟨hk, hL, hj⟩
  refine And.intro (fun h1 => ?_) (fun h1 => ?_)
  · have h1 : (k : Int) < ((List.replicate ((n : Nat) : Int).toNat (0 : Int)).length : Int) := h1
    rw [List.length_replicate, Int.toNat_natCast] at h1
    have hkl : k < n := by omega
    refine And.intro (show 0 ≤ (k : Int) ∧ (k : Int) < (L.length : Int) by omega) ?_
    refine And.intro (by omega) ?_
    refine And.intro (by omega) ?_
    refine nx (k + 1, L.set k (k : Int)) ⟨by omega, by rw [List.length_set]; exact hL, fun j hj' => ?_⟩ (show n - (k + 1) < n - k by omega) (by repeat' first | refine And.intro ?_ ?_ | exact True.intro | (show (_ : Int) = (_ : Int); omega) | omega | exact rfl | (simp only [RO.len]; omega))
    by_cases e : j = k
    · subst e; rw [getD_set_eq (by omega)]
    · rw [getD_set_ne (Ne.symm e)]; exact hj j (by omega)
  · have h1 : ((List.replicate ((n : Nat) : Int).toNat (0 : Int)).length : Int) ≤ (k : Int) := h1
    rw [List.length_replicate, Int.toNat_natCast] at h1
    refine And.intro (And.intro (by omega) ?_) trivial
    refine congrArg (RO.ints .i64) (ext_getD 0 (by rw [disI_len]; exact hL) fun j hj' => ?_)
    rw [hj j (by omega), disI_get (by omega)]
end Go.Proofs.Ytjlkhjgnfnfmgaa
end
section
/- The forest of partition: root, union, partition; FromPairs; Discrete: contracts. -/
namespace Go.Proofs.Ytjlkhjgnfnfmgaa
open Go Go.AM
set_option maxRecDepth 100000
theorem froot_fn (n : Nat) (p : List Int) (r : Nat → Nat) (i : Nat) (h : Fo n p r) (hi : i < n) (hn : n ≤ 4096) : MF 154 [.vec 1000, .int .i64 i] [(1000, .vec 0 (.ints .i64 p) [])] (.int .i64 (r i : Nat)) [(1000, .vec 0 (.ints .i64 (fndL (i + 1) p i)) [])] := mkM Try.func154 (by decide +kernel) rfl (Nat.le_of_ble_eq_true rfl) fun _ => by
  refine Exists.intro [] <| lp2 (fun (j : Nat) (_ : List Int) => [(1, .int .i64 j)]) (fun _ q => [(1000, .vec 0 (.ints .i64 q) [])]) (fun j q => j < n ∧ Fo n q r ∧ r j = r i ∧ fndL (j + 1) q j = fndL (i + 1) p i) (fun j _ => j) i p ⟨hi, h, rfl, rfl⟩ (by repeat' first | refine And.intro ?_ ?_ | exact True.intro | (show (_ : Int) = (_ : Int); omega) | omega | exact rfl | (simp only [RO.len]; omega)) ?_
  rintro j q ⟨hj, hq, hr, hf⟩
  have hjl := hq.len
  have hle := hq.le j hj
  have hgg := hq.le (q.getD j 0).toNat (by omega)
  refine And.intro (by omega) ?_
  refine And.intro (fun h1 => ?_) (fun h1 => ?_)
  · have h1 : q.getD j 0 ≠ (j : Int) := h1
    have hl := half_lt hq hj h1
    have hqh := hq.half hj
    have hlh := hqh.le j hj
    have hlen := hqh.len
    refine And.intro (by omega) ?_
    refine And.intro (show 0 ≤ q.getD j 0 ∧ q.getD j 0 < (q.length : Int) by omega) ?_
    refine And.intro (by omega) ?_
    refine And.intro (by omega) ?_
    refine And.intro (show 0 ≤ (j : Int) ∧ (j : Int) < ((q.set j (q.getD (q.getD j 0).toNat 0)).length : Int) by rw [List.length_set]; omega) ?_
    have ej : (((halfL q j).getD j 0).toNat : Int) = (halfL q j).getD j 0 := by omega
    refine nx (((halfL q j).getD j 0).toNat, halfL q j) ⟨by omega, hqh, (hqh.par j hj).trans hr, ?_⟩ hl (by repeat' first | refine And.intro ?_ ?_ | exact True.intro | exact ej.symm | exact rfl | repeat' first | refine And.intro ?_ ?_ | exact True.intro | (show (_ : Int) = (_ : Int); omega) | omega | exact rfl | (simp only [RO.len]; omega))
    rw [← hf, fndL.eq_2 q j j, if_neg h1]
    exact fndL_fuel _ _ hqh (by omega) (by omega) (by omega)
  · have h1 : q.getD j 0 = (j : Int) := h1
    refine And.intro ?_ ?_
    · refine And.intro (And.intro (by omega) ?_) trivial
      rw [← hf]; unfold fndL; rw [if_pos h1]
    · show (j : Int) = (r i : Nat)
      rw [← hr, hq.fix j hj h1]
theorem funion_fn (n : Nat) (p : List Int) (r : Nat → Nat) (i j : Nat) (h : Fo n p r) (hi : i < n) (hj : j < n) (hn : n ≤ 4096) : MF 87 [.vec 1000, .int .i64 i, .int .i64 j] [(1000, .vec 0 (.ints .i64 p) [])] (.tup []) [(1000, .vec 0 (.ints .i64 (ufL r p i j)) [])] := mkM Try.func87 (by decide +kernel) rfl (Nat.le_of_ble_eq_true rfl) fun _ => by
  have h1 := fndL_fo (i + 1) h hi
  refine Or.inr (Or.inl (cm [] [(1000, 1000)] (froot_fn n p r i h hi hn) ?_))
  refine And.intro (by repeat' first | refine And.intro ?_ ?_ | exact True.intro | (show (_ : Int) = (_ : Int); omega) | omega | exact rfl | (simp only [RO.len]; omega)) ?_
  refine Or.inr (Or.inl (cm [] [(1000, 1000)] (froot_fn n (fndL (i + 1) p i) r j h1 hj hn) ?_))
  refine And.intro (by repeat' first | refine And.intro ?_ ?_ | exact True.intro | (show (_ : Int) = (_ : Int); omega) | omega | exact rfl | (simp only [RO.len]; omega)) ?_
  have h2 := fndL_fo (j + 1) h1 hj
  have hl := h2.len
  have ri := h.rlt hi
  have rj := h.rlt hj
  refine And.intro (by omega) ?_
  refine And.intro (by omega) ?_
  refine And.intro (And.intro (And.intro (by omega) ?_) trivial) trivial
  refine congrArg (RO.ints .i64) ?_
  unfold ufL
  rw [show (max (r i : Int) (r j : Int)).toNat = max (r i) (r j) by omega, show min (r i : Int) (r j : Int) = ((min (r i) (r j) : Nat) : Int) by omega]
theorem fpart_fn (n : Nat) (p : List Int) (r : Nat → Nat) (h : Fo n p r) (hn : n ≤ 4096) : MF 88 [.vec 1000] [(1000, .vec 0 (.ints .i64 p) [])] (.vec 21) [(21, .vec 0 (.ints .i64 (canon (rtL n r))) []), (1000, .vec 0 (.ints .i64 (fndA p n)) [])] := mkM Try.func88 (by decide +kernel) rfl (Nat.le_of_ble_eq_true rfl) fun _ => by
  have hpl := h.len
  refine And.intro (by omega) ?_
  refine And.intro (by omega) ?_
  refine Exists.intro [] <| lp2 (fun (k : Nat) (_ : List Int) => [(10, .int .i64 k)]) (fun k L => [(1000, .vec 0 (.ints .i64 (fndA p k)) []), (7, .vec 0 (.ints .i64 L) [])]) (fun k L => k ≤ n ∧ L.length = n ∧ ∀ j, j < k → L.getD j 0 = (r j : Int)) (fun k _ => n - k) 0 (List.replicate n 0) ⟨Nat.zero_le _, by simp, by omega⟩ (by repeat' first | refine And.intro ?_ ?_ | exact True.intro | (show (_ : Int) = (_ : Int); omega) | omega | exact rfl | (simp; omega)) ?_
  rintro k L ⟨hk, hL, hj⟩
  have hfo := fndA_fo h k hk
  have hfl := hfo.len
  refine And.intro (fun h1 => ?_) (fun h1 => ?_)
  · have h1 : (k : Int) < (p.length : Int) := h1
    have hkl : k < n := by omega
    refine Or.inr (Or.inl (cm [] [(1000, 1000)] (froot_fn n (fndA p k) r k hfo hkl hn) ?_))
    refine And.intro (by repeat' first | refine And.intro ?_ ?_ | exact True.intro | (show (_ : Int) = (_ : Int); omega) | omega | exact rfl | (simp only [RO.len]; omega)) ?_
    refine And.intro (by omega) ?_
    refine And.intro (by omega) ?_
    refine And.intro (by omega) ?_
    refine nx (k + 1, L.set k (r k : Int)) ⟨by omega, by rw [List.length_set]; exact hL, fun j hj' => ?_⟩ (show n - (k + 1) < n - k by omega) (by repeat' first | refine And.intro ?_ ?_ | exact True.intro | (show (_ : Int) = (_ : Int); omega) | omega | exact rfl | (simp only [RO.len]; omega))
    by_cases e : j = k
    · subst e; rw [getD_set_eq (by omega)]
    · rw [getD_set_ne (Ne.symm e)]; exact hj j (by omega)
  · have h1 : (p.length : Int) ≤ (k : Int) := h1
    obtain rfl : k = n := by omega
    have eL : L = rtL k r := ext_getD 0 (by rw [rtL_len]; exact hL) fun x hx => by rw [hj x (by omega), rtL_get (by omega)]
    subst eL
    refine Or.inl (cq (canonI_fn (rtL k r) (by rw [rtL_len]; omega)) (And.intro rfl trivial) ?_)
    exact And.intro (And.intro (And.intro (by omega) rfl) (And.intro (And.intro (by omega) rfl) trivial)) (And.intro (by omega) (And.intro trivial trivial))
theorem pdis_fn (n : Nat) (hn : n ≤ 4096) : QF 153 [.int .i64 n] (.new (.ints .i64 (disI n))) := mkQ Try.func153 (by decide +kernel) rfl (Nat.le_of_ble_eq_true rfl) fun _ => by
  refine And.intro (fun h1 => absurd (show (n : Int) < 0 from h1) (by omega)) (fun _ => ?_)
  refine And.intro (fun h1 => absurd (show (4096 : Int) < (n : Int) from h1) (by omega)) (fun _ => ?_)
  refine And.intro (by omega) ?_
  refine And.intro (by omega) ?_
  refine Exists.intro [] <| lp2 (fun (k : Nat) (_ : List Int) => [(14, .int .i64 k)]) (fun _ L => [(12, .vec 0 (.ints .i64 L) [])]) (fun k L => k ≤ n ∧ L.length = n ∧ ∀ j, j < k → L.getD j 0 = (j : Int)) (fun k _ => n - k) 0 (List.replicate n 0) ⟨Nat.zero_le _, by simp, by omega⟩ (by repeat' first | refine And.intro ?_ ?_ | exact True.intro | (show (_ : Int) = (_ : Int); omega) | omega | exact rfl | (simp; omega)) ?_
  rintro k L ⟨hk, hL, hj⟩
  refine And.intro (fun h1 => ?_) (fun h1 => ?_)
  · have h1 : (k : Int) < (n : Int) := h1
    have hkl : k < n := by omega
    refine And.intro (show 0 ≤ (k : Int) ∧ (k : Int) < (L.length : Int) by omega) ?_
    refine And.intro (by omega) ?_
    refine And.intro (by omega) ?_
    refine nx (k + 1, L.set k (k : Int)) ⟨by omega, by rw [List.length_set]; exact hL, fun j hj' => ?_⟩ (show n - (k + 1) < n - k by omega) (by repeat' first | refine And.intro ?_ ?_ | exact True.intro | (show (_ : Int) = (_ : Int); omega) | omega | exact rfl | (simp only [RO.len]; omega))
    by_cases e : j = k
    · subst e; rw [getD_set_eq (by omega)]
    · rw [getD_set_ne (Ne.symm e)]; exact hj j (by omega)
  · have h1 : (n : Int) ≤ (k : Int) := h1
    refine And.intro (And.intro (by omega) ?_) trivial
    refine congrArg (RO.ints .i64) (ext_getD 0 (by rw [disI_len]; exact hL) fun j hj' => ?_)
    rw [hj j (by omega), disI_get (by omega)]
theorem fnew_fn (n : Nat) (hn : n ≤ 4096) : QF 86 [.int .i64 n] (.new (.ints .i64 (disI n))) := mkQ Try.func86 (by decide +kernel) rfl (Nat.le_of_ble_eq_true rfl) fun _ => by
  refine Or.inl (cq (pdis_fn n hn) (And.intro rfl trivial) ?_)
  exact And.intro (And.intro (by omega) rfl) trivial
theorem prR_snoc : ∀ (l : List (Int × Int)) (r : Nat → Nat) (x : Int × Int), prR r (l ++ [x]) = ufR (prR r l) x.1.toNat x.2.toNat
  | [], _, _ => rfl
  | _ :: l, _, x => prR_snoc l _ x
theorem fpairs_k (n : Nat) (hn : n ≤ 4096) (l : List (Int × Int)) (hll : l.length ≤ 140737488355328) (hl : ∀ x ∈ l, 0 ≤ x.1 ∧ x.1 < (n : Int) ∧ 0 ≤ x.2 ∧ x.2 < (n : Int)) : fnK TY SP Try.f124 [.int .i64 n, .ro (.pairs l)] (.new (.ints .i64 (canon (rtL n (prR id l))))) := by
  refine And.intro (fun h1 => absurd (show (n : Int) < 0 from h1) (by omega)) (fun _ => ?_)
  refine And.intro (fun h1 => absurd (show (4096 : Int) < (n : Int) from h1) (by omega)) (fun _ => ?_)
  refine Or.inl (cq (fnew_fn n hn) (And.intro rfl trivial) ?_)
  refine Exists.intro [] <| lp2 (fun (k : Nat) (_ : List Int) => [(18, .int .i64 k)]) (fun _ p => [(15, .vec 0 (.ints .i64 p) [])]) (fun k p => k ≤ l.length ∧ Fo n p (prR id (l.take k))) (fun k _ => l.length - k) 0 (disI n) ⟨Nat.zero_le _, by rw [List.take_zero]; exact Fo.dis n⟩ (by repeat' first | refine And.intro ?_ ?_ | exact True.intro | (show (_ : Int) = (_ : Int); omega) | omega | exact rfl | (simp only [RO.len]; omega)) ?_
  rintro k p ⟨hk, hp⟩
  have hpl := hp.len
  refine And.intro (fun h1 => ?_) (fun h1 => ?_)
  · have h1 : (k : Int) < (l.length : Int) := h1
    have hkl : k < l.length := by omega
    have hx := hl (l.getD k (0, 0)) (getD_mem hkl)
    have e1 : ((l.getD k (0, 0)).1.toNat : Int) = (l.getD k (0, 0)).1 := by omega
    have e2 : ((l.getD k (0, 0)).2.toNat : Int) = (l.getD k (0, 0)).2 := by omega
    have funion := funion_fn n p (prR id (l.take k)) (l.getD k (0, 0)).1.toNat (l.getD k (0, 0)).2.toNat hp (by omega) (by omega) hn
    rw [e1, e2] at funion
    have n10 : ¬ (1 : Int) = ((0 : Nat) : Int) := by omega
    have n01 : ¬ (0 : Int) = ((0 + 1 : Nat) : Int) := by omega
    refine And.intro (by omega) ?_
    refine And.intro (by omega) ?_
    refine And.intro (fun _ => ?_) (And.intro (fun h => absurd h n01) trivial)
    refine And.intro (by omega) ?_
    refine And.intro (fun h => absurd h n10) (And.intro (fun _ => ?_) trivial)
    refine And.intro (fun h4 => ?_) (fun _ => ?_)
    · have h4 : min (l.getD k (0, 0)).1 (l.getD k (0, 0)).2 < 0 := h4
      omega
    refine And.intro (by omega) ?_
    refine And.intro (fun _ => ?_) (And.intro (fun h => absurd h n01) trivial)
    refine And.intro (by omega) ?_
    refine And.intro (fun h => absurd h n10) (And.intro (fun _ => ?_) trivial)
    refine And.intro (fun h4 => ?_) (fun _ => ?_)
    · have h4 : (n : Int) ≤ max (l.getD k (0, 0)).1 (l.getD k (0, 0)).2 := h4
      omega
    refine And.intro (by omega) ?_
    refine And.intro (fun _ => ?_) (And.intro (fun h => absurd h n01) trivial)
    refine And.intro (by omega) ?_
    refine And.intro (fun h => absurd h n10) (And.intro (fun _ => ?_) trivial)
    refine Or.inr (Or.inl (cm [] [(1000, 15)] funion ?_))
    refine And.intro (by repeat' first | refine And.intro ?_ ?_ | exact True.intro | (show (_ : Int) = (_ : Int); omega) | omega | exact rfl | (simp only [RO.len]; omega)) ?_
    refine And.intro (by omega) ?_
    refine nx (k + 1, ufL (prR id (l.take k)) p (l.getD k (0, 0)).1.toNat (l.getD k (0, 0)).2.toNat) ⟨by omega, ?_⟩ (show l.length - (k + 1) < l.length - k by omega) (by repeat' first | refine And.intro ?_ ?_ | exact True.intro | (show (_ : Int) = (_ : Int); omega) | omega | exact rfl | (simp only [RO.len]; omega))
    rw [List.take_add_one, List.getElem?_eq_getElem hkl]
    rw [show (some l[k]).toList = [l[k]] from rfl, prR_snoc]
    have eg : l[k] = l.getD k (0, 0) := by rw [List.getD_eq_getElem?_getD, List.getElem?_eq_getElem hkl]; rfl
    rw [eg]
    exact hp.union (by omega) (by omega)
  · have h1 : (l.length : Int) ≤ (k : Int) := h1
    rw [List.take_of_length_le (by omega)] at hp
    refine Or.inr (Or.inl (cm [] [(1000, 15), (21, 301)] (fpart_fn n p (prR id l) hp hn) ?_))
    refine And.intro (by repeat' first | refine And.intro ?_ ?_ | exact True.intro | (show (_ : Int) = (_ : Int); omega) | omega | exact rfl | (simp only [RO.len]; omega)) ?_
    exact And.intro (And.intro (by omega) rfl) trivial
theorem fpairs_fn (n : Nat) (hn : n ≤ 4096) (l : List (Int × Int)) (hl : ∀ x ∈ l, 0 ≤ x.1 ∧ x.1 < (n : Int) ∧ 0 ≤ x.2 ∧ x.2 < (n : Int)) : QF 124 [.int .i64 n, .ro (.pairs l)] (.new (.ints .i64 (canon (rtL n (prR id l))))) := mkQ Try.func124 (by decide +kernel) rfl (Nat.le_of_ble_eq_true rfl) fun hf => fpairs_k n hn l hf.2.1.1 hl
end Go.Proofs.Ytjlkhjgnfnfmgaa
end
section
/- Package congr: the forest: contracts. -/
namespace Go.Proofs.Ytjlkhjgnfnfmgaa
open Go Go.AM
set_option maxRecDepth 100000
abbrev foS (p : List Int) (c : Int) : Store := [(1000, .box [.vec 1001, .int .i64 c]), (1001, .vec 0 (.ints .i64 p) [])]
theorem cfind_fn (n : Nat) (p : List Int) (r : Nat → Nat) (c : Int) (i : Nat) (h : Fo n p r) (hi : i < n) (hn : n ≤ 4096) : MF 139 [.ptr 1000 0, .int .i64 i] (foS p c) (.int .i64 (r i : Nat)) (foS (fndL (i + 1) p i) c) := mkM Try.func139 (by decide +kernel) rfl (Nat.le_of_ble_eq_true rfl) fun _ => by
  refine Exists.intro [] <| lp2 (fun (j : Nat) (_ : List Int) => [(1, .int .i64 j)]) (fun _ q => [(1001, .vec 0 (.ints .i64 q) [])]) (fun j q => j < n ∧ Fo n q r ∧ r j = r i ∧ fndL (j + 1) q j = fndL (i + 1) p i) (fun j _ => j) i p ⟨hi, h, rfl, rfl⟩ (by repeat' first | refine And.intro ?_ ?_ | exact True.intro | (show (_ : Int) = (_ : Int); omega) | omega | exact rfl | (simp only [RO.len]; omega)) ?_
  rintro j q ⟨hj, hq, hr, hf⟩
  have hjl := hq.len
  have hle := hq.le j hj
  have hgg := hq.le (q.getD j 0).toNat (by omega)
  refine And.intro (by omega) ?_
  refine And.intro (fun h1 => ?_) (fun h1 => ?_)
  · have h1 : q.getD j 0 ≠ (j : Int) := h1
    have hl := half_lt hq hj h1
    have hqh := hq.half hj
    have hlh := hqh.le j hj
    have hlen := hqh.len
    refine Or.inl ?_
    refine Exists.intro [false, false, false, false, false, false, false, false, false, false, false, false, false, false, false, false, false, false, false, true] (And.intro (by decide +kernel) ?_)
    refine And.intro (by omega) ?_
    refine And.intro (by simp only [Int.toNat_natCast]; omega) ?_
    refine And.intro (by omega) ?_
    refine And.intro (by omega) ?_
    refine And.intro (by simp; omega) ?_
    have ej : (((halfL q j).getD j 0).toNat : Int) = (halfL q j).getD j 0 := by omega
    refine nx (((halfL q j).getD j 0).toNat, halfL q j) ⟨by omega, hqh, (hqh.par j hj).trans hr, ?_⟩ hl (by repeat' first | refine And.intro ?_ ?_ | exact True.intro | exact ej.symm | exact rfl | repeat' first | refine And.intro ?_ ?_ | exact True.intro | (show (_ : Int) = (_ : Int); omega) | omega | exact rfl | (simp only [RO.len]; omega))
    rw [← hf, fndL.eq_2 q j j, if_neg h1]
    exact fndL_fuel _ _ hqh (by omega) (by omega) (by omega)
  · have h1 : q.getD j 0 = (j : Int) := h1
    have e : q = fndL (i + 1) p i := by rw [← hf]; unfold fndL; rw [if_pos h1]
    refine And.intro (And.intro (by repeat' first | refine And.intro ?_ ?_ | exact True.intro | (show (_ : Int) = (_ : Int); omega) | omega | exact rfl | (simp only [RO.len]; omega)) (And.intro (And.intro (by omega) (congrArg (RO.ints .i64) e)) trivial)) ?_
    · show (j : Int) = (r i : Nat)
      rw [← hr, hq.fix j hj h1]
theorem cjoin_fn (n : Nat) (p : List Int) (r : Nat → Nat) (i j : Nat) (h : Fo n p r) (hi : i < n) (hj : j < n) (hn : n ≤ 4096) : MF 81 [.ptr 1000 0, .int .i64 i, .int .i64 j] (foS p (cntR n r)) (.bool (.v (decide (r i ≠ r j)))) (foS (jnP r p i j) (cntR n (jnR r i j))) := mkM Try.func81 (by decide +kernel) rfl (Nat.le_of_ble_eq_true rfl) fun _ => by
  have h1 := fndL_fo (i + 1) h hi
  have h2 := fndL_fo (j + 1) h1 hj
  have hl := h2.len
  have ri := h.rlt hi
  have rj := h.rlt hj
  have hc := jn_cnt h hi hj
  have hcl := cnt_le n r
  refine Or.inr (Or.inl (cm [] [(1000, 1000), (1001, 1001)] (cfind_fn n p r (cntR n r) i h hi hn) ?_))
  refine And.intro (by repeat' first | refine And.intro ?_ ?_ | exact True.intro | (show (_ : Int) = (_ : Int); omega) | omega | exact rfl | (simp only [RO.len]; omega)) ?_
  refine Or.inr (Or.inl (cm [] [(1000, 1000), (1001, 1001)] (cfind_fn n (fndL (i + 1) p i) r (cntR n r) j h1 hj hn) ?_))
  refine And.intro (by repeat' first | refine And.intro ?_ ?_ | exact True.intro | (show (_ : Int) = (_ : Int); omega) | omega | exact rfl | (simp only [RO.len]; omega)) ?_
  refine And.intro (fun h1 => ?_) (fun h1 => ?_)
  · have h1 : (r i : Int) = (r j : Int) := h1
    have h1 : r i = r j := by omega
    rw [if_pos h1] at hc
    have e : fndL (j + 1) (fndL (i + 1) p i) j = jnP r p i j := (if_pos h1).symm
    refine And.intro (And.intro (And.intro (by repeat' first | refine And.intro ?_ ?_ | exact True.intro | (show (_ : Int) = (_ : Int); omega) | omega | exact rfl | (simp only [RO.len]; omega)) (And.intro ?_ trivial)) (And.intro (And.intro (by omega) (congrArg (RO.ints .i64) e)) trivial)) ?_
    · show (cntR n r : Int) = (cntR n (jnR r i j) : Int)
      omega
    · exact (decide_eq_false fun h2 => h2 h1).symm
  · have h1 : (r i : Int) ≠ (r j : Int) := h1
    have h1 : r i ≠ r j := by omega
    rw [if_neg h1] at hc
    have e : (fndL (j + 1) (fndL (i + 1) p i) j).set (max (r i : Int) (r j : Int)).toNat (min (r i : Int) (r j : Int)) = jnP r p i j := by
      unfold jnP ufL
      rw [if_neg h1, show (max (r i : Int) (r j : Int)).toNat = max (r i) (r j) by omega, show min (r i : Int) (r j : Int) = ((min (r i) (r j) : Nat) : Int) by omega]
    refine And.intro (by omega) ?_
    refine And.intro (by omega) ?_
    refine And.intro (by omega) ?_
    refine And.intro (And.intro (And.intro (by repeat' first | refine And.intro ?_ ?_ | exact True.intro | (show (_ : Int) = (_ : Int); omega) | omega | exact rfl | (simp only [RO.len]; omega)) (And.intro ?_ trivial)) (And.intro (And.intro (by omega) (congrArg (RO.ints .i64) e)) trivial)) ?_
    · show (cntR n r : Int) - 1 = (cntR n (jnR r i j) : Int)
      omega
    · exact (decide_eq_true h1).symm
theorem creset_fn (n : Nat) (p : List Int) (c : Int) (hl : p.length = n) (hn : n ≤ 4096) : MF 90 [.ptr 1000 0] (foS p c) (.tup []) (foS (disI n) n) := mkM Try.func90 (by decide +kernel) rfl (Nat.le_of_ble_eq_true rfl) fun _ => by
  refine Exists.intro [] <| lp2 (fun (j : Nat) (_ : List Int) => [(8, .int .i64 j)]) (fun _ q => [(1001, .vec 0 (.ints .i64 q) [])]) (fun j q => j ≤ n ∧ q.length = n ∧ ∀ k, k < j → q.getD k 0 = (k : Int)) (fun j _ => n - j) 0 p ⟨Nat.zero_le _, hl, fun k h => by omega⟩ (by repeat' first | refine And.intro ?_ ?_ | exact True.intro | (show (_ : Int) = (_ : Int); omega) | omega | exact rfl | (simp only [RO.len]; omega)) ?_
  rintro j q ⟨hj, hq, hk⟩
  refine And.intro (fun h1 => ?_) (fun h1 => ?_)
  · have h1 : (j : Int) < (p.length : Int) := h1
    refine And.intro (by omega) ?_
    refine And.intro (by omega) ?_
    refine And.intro (by omega) ?_
    refine nx (j + 1, q.set j (j : Int)) ⟨by omega, by rw [List.length_set]; exact hq, fun k hkj => ?_⟩ (show n - (j + 1) < n - j by omega) (by repeat' first | refine And.intro ?_ ?_ | exact True.intro | (show (_ : Int) = (_ : Int); omega) | omega | exact rfl | (simp only [RO.len]; omega))
    by_cases e : k = j
    · subst e; rw [getD_set_eq (by omega)]
    · rw [getD_set_ne (Ne.symm e)]; exact hk k (by omega)
  · have h1 : (p.length : Int) ≤ (j : Int) := h1
    have e : q = disI n := ext_getD 0 (by rw [disI_len]; exact hq) fun k hk' => by rw [hk k (by omega), disI_get (by omega)]
    refine And.intro (And.intro (And.intro (by repeat' first | refine And.intro ?_ ?_ | exact True.intro | (show (_ : Int) = (_ : Int); omega) | omega | exact rfl | (simp only [RO.len]; omega)) (And.intro (show (q.length : Int) = (n : Int) by omega) trivial)) (And.intro (And.intro (by omega) (congrArg (RO.ints .i64) e)) trivial)) trivial
theorem cnew_fn (n : Nat) (hn : n ≤ 4096) : MF 66 [.int .i64 n] [] (.ptr 7 0) [(7, .box [.vec 5, .int .i64 n]), (5, .vec 0 (.ints .i64 (disI n)) [])] := mkM Try.func66 (by decide +kernel) rfl (Nat.le_of_ble_eq_true rfl) fun _ => by
  refine And.intro (by omega) ?_
  refine And.intro (by omega) ?_
  refine Or.inr (Or.inl (cm [] [(1000, 7), (1001, 5)] (creset_fn n (List.replicate n 0) 0 (by simp) hn) ?_))
  refine And.intro (by repeat' first | refine And.intro ?_ ?_ | exact True.intro | (show (_ : Int) = (_ : Int); omega) | omega | exact rfl | (simp only [RO.len]; omega)) ?_
  exact And.intro (And.intro (And.intro (by repeat' first | refine And.intro ?_ ?_ | exact True.intro | (show (_ : Int) = (_ : Int); omega) | omega | exact rfl | (simp only [RO.len]; omega)) (And.intro rfl trivial)) (And.intro (And.intro (by omega) rfl) trivial)) (by repeat' first | refine And.intro ?_ ?_ | exact True.intro | (show (_ : Int) = (_ : Int); omega) | omega | exact rfl | (simp only [RO.len]; omega))
end Go.Proofs.Ytjlkhjgnfnfmgaa
end
