/- Package congr: generators: contract. -/
import Derived.Test.YteopelpnpdbbcaaSgpLaw
import Derived.Test.YteopelpnpdbbcaaLp
import Derived.Test.YteopelpnpdbbcaaGroup
namespace Go.Proofs.Yteopelpnpdbbcaa
open Go Go.AM
set_option maxRecDepth 100000
/-- The search for generators: gens, reached, in, done. -/
structure GnS (t : List (List Int)) (x : Nat) (G R : List Int) (I : List Bool) (D : List Int) : Prop where
  il : I.length = t.length
  dl : D.length = t.length
  mks : ∀ z, I.getD z false = true → Mk t G z
  lo : ∀ z, z < x → I.getD z false = true
  gs : ∀ g ∈ G, 0 ≤ g ∧ g < (t.length : Int)
  gl : G.length ≤ x
  rs : ∀ y ∈ R, (0 ≤ y ∧ y < (t.length : Int)) ∧ I.getD y.toNat false = true
  rn : R.Nodup
  dd : ∀ z, 0 ≤ D.getD z 0 ∧ D.getD z 0 ≤ (G.length : Int)
section
variable {t : List (List Int)} {x : Nat} {G R : List Int} {I : List Bool} {D : List Int}
theorem GnS.rl (h : GnS t x G R I D) : R.length ≤ t.length := nodup_len h.rn fun y hy => (h.rs y hy).1
theorem GnS.start (t : List (List Int)) : GnS t 0 [] [] (List.replicate t.length false) (List.replicate t.length 0) := by
  refine ⟨by simp, by simp, fun z hz => ?_, fun z hz => absurd hz (Nat.not_lt_zero _), fun _ h => (nomatch h), Nat.le_refl _, fun _ h => (nomatch h), .nil, fun z => ?_⟩
  · simp [List.getD, List.getElem?_replicate] at hz
    split at hz <;> simp at hz
  · have : (List.replicate t.length (0 : Int)).getD z 0 = 0 := by
      simp only [List.getD, List.getElem?_replicate]
      split <;> rfl
    rw [this]; simp
theorem set_true {I : List Bool} {x z : Nat} (h : (I.set x true).getD z false = true) : z = x ∨ I.getD z false = true := by
  by_cases e : z = x
  · exact .inl e
  · rw [getD_set_ne (Ne.symm e)] at h; exact .inr h
theorem keep_true {I : List Bool} {x z : Nat} (h : I.getD z false = true) : (I.set x true).getD z false = true := by
  by_cases e : x = z
  · subst e
    have hl : x < I.length := Nat.lt_of_not_le fun hl => by
      rw [List.getD, List.getElem?_eq_none hl] at h; cases h
    exact getD_set_eq hl
  · rw [getD_set_ne e]; exact h
/-- A new generator. -/
theorem GnS.gen (h : GnS t x G R I D) (hx : x < t.length) (hn : I.getD x false = false) : GnS t (x + 1) (G ++ [(x : Int)]) (R ++ [(x : Int)]) (I.set x true) D := by
  have hil := h.il
  refine ⟨by rw [List.length_set]; exact h.il, h.dl, fun z hz => ?_, fun z hz => ?_, fun g hg => ?_, by have := h.gl; simp; omega, fun y hy => ?_, ?_, fun z => by have := h.dd z; rw [List.length_append, List.length_singleton]; omega⟩
  · rcases set_true hz with rfl | hz
    · have := Mk.gen (t := t) (gens := G ++ [(z : Int)]) (g := (z : Int)) (by simp)
      simpa using this
    · exact (h.mks z hz).mono fun a ha => List.mem_append_left _ ha
  · by_cases e : z = x
    · subst e; exact getD_set_eq (by omega)
    · exact keep_true (h.lo z (by omega))
  · rcases List.mem_append.1 hg with hg | hg
    · exact h.gs g hg
    · rw [List.mem_singleton] at hg; omega
  · rcases List.mem_append.1 hy with hy | hy
    · exact ⟨(h.rs y hy).1, keep_true (h.rs y hy).2⟩
    · rw [List.mem_singleton] at hy
      subst hy
      exact ⟨by omega, by rw [Int.toNat_natCast]; exact getD_set_eq (by omega)⟩
  · rw [List.nodup_append]
    refine ⟨h.rn, by simp, fun a ha b hb => ?_⟩
    rw [List.mem_singleton] at hb
    subst hb
    rintro rfl
    have := (h.rs _ ha).2
    rw [Int.toNat_natCast, hn] at this; cases this
theorem GnS.skip (h : GnS t x G R I D) (hx : x < t.length) (hn : I.getD x false = true) : GnS t (x + 1) G R I D :=
  ⟨h.il, h.dl, h.mks, fun z hz => by
    by_cases e : z = x
    · subst e; exact hn
    · exact h.lo z (by omega), h.gs, by have := h.gl; omega, h.rs, h.rn, h.dd⟩
/-- A product is reached. -/
theorem GnS.push (h : GnS t x G R I D) (hs : Sh t) {y g : Int} (hy : y ∈ R) (hg : g ∈ G) (hn : I.getD (en t y.toNat g.toNat) false = false) : GnS t x G (R ++ [(en t y.toNat g.toNat : Int)]) (I.set (en t y.toNat g.toNat) true) D := by
  have hyr := h.rs y hy
  have hgr := h.gs g hg
  have hlt := (hs.ent (x := y.toNat) (y := g.toNat) (by omega) (by omega)).2
  have hil := h.il
  refine ⟨by rw [List.length_set]; exact h.il, h.dl, fun z hz => ?_, fun z hz => keep_true (h.lo z hz), h.gs, h.gl, fun a ha => ?_, ?_, h.dd⟩
  · rcases set_true hz with rfl | hz
    · exact .mul (h.mks _ hyr.2) (.gen hg)
    · exact h.mks z hz
  · rcases List.mem_append.1 ha with ha | ha
    · exact ⟨(h.rs a ha).1, keep_true (h.rs a ha).2⟩
    · rw [List.mem_singleton] at ha
      subst ha
      exact ⟨by omega, by rw [Int.toNat_natCast]; exact getD_set_eq (by omega)⟩
  · rw [List.nodup_append]
    refine ⟨h.rn, by simp, fun a ha b hb => ?_⟩
    rw [List.mem_singleton] at hb
    subst hb
    rintro rfl
    have := (h.rs _ ha).2
    rw [Int.toNat_natCast, hn] at this; cases this
theorem GnS.step (h : GnS t x G R I D) {y : Nat} (hy : y < t.length) (hd : D.getD y 0 < (G.length : Int)) : GnS t x G R I (D.set y (D.getD y 0 + 1)) := by
  have hdl := h.dl
  refine ⟨h.il, by rw [List.length_set]; exact h.dl, h.mks, h.lo, h.gs, h.gl, h.rs, h.rn, fun z => ?_⟩
  by_cases e : y = z
  · subst e; rw [getD_set_eq (by omega)]; have := h.dd y; omega
  · rw [getD_set_ne e]; exact h.dd z
theorem GnS.done (h : GnS t x G R I D) (hx : t.length ≤ x) : Spans t G := ⟨h.gs, fun z hz => h.mks z (h.lo z (by omega))⟩
end
set_option maxHeartbeats 1000000 in
theorem cgens_k (t : List (List Int)) (h : Sh t) : fnEK TY SP Try.f64 [.ro (.rows .i64 t)] (fun l : List Int => .new (.ints .i64 l)) (fun l => Spans t l ∧ l.length ≤ t.length) := by
  have hmost := h.most
  refine And.intro (by omega) ?_
  refine And.intro (by omega) ?_
  refine And.intro (by omega) ?_
  refine And.intro (by omega) ?_
  refine Exists.intro [] <| lp5 (fun (x : Nat) (_ _ : List Int) (_ : List Bool) (_ : List Int) => [(19, .int .i64 x), (3, .vec 32), (4, .vec 36)]) (fun _ G R I D => [(32, .vec 0 (.ints .i64 G) []), (36, .vec 0 (.ints .i64 R) []), (13, .vec 0 (.bools I) []), (16, .vec 0 (.ints .i64 D) [])]) (fun x G R I D => x ≤ t.length ∧ GnS t x G R I D) (fun x _ _ _ _ => t.length - x) 0 [] [] (List.replicate t.length false) (List.replicate t.length 0) ⟨Nat.zero_le _, GnS.start t⟩ (by repeat' first | refine And.intro ?_ ?_ | exact True.intro | (show (_ : Int) = (_ : Int); omega) | omega | exact rfl | (simp only [RO.len]; omega)) ?_
  rintro x G R I D ⟨hx, hg⟩
  have il := hg.il
  have dl := hg.dl
  have gl := hg.gl
  have rl := hg.rl
  refine And.intro (fun h1 => ?_) (fun h1 => ?_)
  · have h1 : (x : Int) < (t.length : Int) := h1
    refine And.intro (show 0 ≤ (x : Int) ∧ (x : Int) < (I.length : Int) by omega) ?_
    refine And.intro (fun h2 => ?_) (fun h2 => ?_)
    · have h2 : I.getD x false = true := h2
      refine And.intro (by omega) ?_
      exact nx (x + 1, G, R, I, D) ⟨by omega, hg.skip (by omega) h2⟩ (show t.length - (x + 1) < t.length - x by omega) (by repeat' first | refine And.intro ?_ ?_ | exact True.intro | (show (_ : Int) = (_ : Int); omega) | omega | exact rfl | (simp only [RO.len]; omega))
    · have h2 : I.getD x false = false := h2
      refine And.intro (show 0 ≤ (x : Int) ∧ (x : Int) < (I.length : Int) by omega) ?_
      refine And.intro (by omega) ?_
      refine And.intro (by simp; omega) ?_
      refine And.intro (by simp; omega) ?_
      refine Exists.intro [36] <| lp4 (fun (i : Nat) (_ : List Int) (_ : List Bool) (_ : List Int) => [(8, .int .i64 i), (4, .vec 36)]) (fun _ R I D => [(36, .vec 0 (.ints .i64 R) []), (13, .vec 0 (.bools I) []), (16, .vec 0 (.ints .i64 D) [])]) (fun i R I D => i ≤ R.length ∧ GnS t (x + 1) (G ++ [(x : Int)]) R I D) (fun i _ _ _ => t.length - i) 0 (R ++ [(x : Int)]) (I.set x true) D ⟨Nat.zero_le _, hg.gen (by omega) h2⟩ (by repeat' first | refine And.intro ?_ ?_ | exact True.intro | (show (_ : Int) = (_ : Int); omega) | omega | exact rfl | (simp only [RO.len]; omega)) ?_
      rintro i R1 I1 D1 ⟨hi, hg1⟩
      have il1 := hg1.il
      have dl1 := hg1.dl
      have rl1 := hg1.rl
      have gl1 : (G ++ [(x : Int)]).length = G.length + 1 := by simp
      refine And.intro (fun h3 => ?_) (fun h3 => ?_)
      · have h3 : (i : Int) < (R1.length : Int) := h3
        have hy1 := (hg1.rs _ (getD_mem (d := 0) (i := i) (l := R1) (by omega))).1
        refine And.intro (show 0 ≤ (i : Int) ∧ (i : Int) < (R1.length : Int) by omega) ?_
        have hymem : R1.getD i 0 ∈ R1 := getD_mem (by omega)
        obtain ⟨y, hyd⟩ : ∃ y, R1.getD i 0 = y := ⟨_, rfl⟩
        rw [hyd] at hymem hy1
        refine Exists.intro [9, 36, 38, 43, 45, 46] <| lp3 (fun (_ : List Int) (_ : List Bool) (_ : List Int) => [(4, .vec 36), (9, .int .i64 y)]) (fun R I D => [(36, .vec 0 (.ints .i64 R) []), (13, .vec 0 (.bools I) []), (16, .vec 0 (.ints .i64 D) [])]) (fun R I D => i < R.length ∧ y ∈ R ∧ GnS t (x + 1) (G ++ [(x : Int)]) R I D) (fun _ _ D => G.length + 1 - (D.getD y.toNat 0).toNat) R1 I1 D1 ⟨by omega, hymem, hg1⟩ (by repeat' first | refine And.intro ?_ ?_ | exact True.intro | exact hyd | (show (_ : Int) = (_ : Int); omega) | omega | exact rfl | (simp only [RO.len]; omega)) ?_
        rintro R2 I2 D2 ⟨hi2, hr2, hg2⟩
        have il2 := hg2.il
        have dl2 := hg2.dl
        have rl2 := hg2.rl
        have hd := hg2.dd y.toNat
        have hyl : y.toNat < t.length := by omega
        refine And.intro (show 0 ≤ y ∧ y < (D2.length : Int) by omega) ?_
        refine And.intro (fun h4 => ?_) (fun h4 => ?_)
        · have h4 : D2.getD y.toNat 0 < ((G ++ [(x : Int)]).length : Int) := h4
          have hgm : (G ++ [(x : Int)]).getD (D2.getD y.toNat 0).toNat 0 ∈ (G ++ [(x : Int)]) := getD_mem (by omega)
          have hgr := hg2.gs _ hgm
          have hdn : (D2.getD y.toNat 0).toNat < (G ++ [(x : Int)]).length := by omega
          have e1 := h.ent (x := y.toNat) (y := ((G ++ [(x : Int)]).getD (D2.getD y.toNat 0).toNat 0).toNat) (by omega) (by omega)
          have r1 := h.len (x := y.toNat) (by omega)
          refine Or.inl ?_
          refine Exists.intro [false, false, false, false, false, false, false, false, false, false, false, false, false, false] (And.intro (by decide +kernel) ?_)
          refine And.intro (show 0 ≤ y ∧ y < (t.length : Int) by omega) ?_
          refine And.intro (show 0 ≤ y ∧ y < (D2.length : Int) by omega) ?_
          refine And.intro (show 0 ≤ D2.getD y.toNat 0 ∧ D2.getD y.toNat 0 < ((G ++ [(x : Int)]).length : Int) by omega) ?_
          refine And.intro (show 0 ≤ (G ++ [(x : Int)]).getD (D2.getD y.toNat 0).toNat 0 ∧ (G ++ [(x : Int)]).getD (D2.getD y.toNat 0).toNat 0 < ((t.getD y.toNat []).length : Int) by omega) ?_
          have hz : 0 ≤ (t.getD y.toNat []).getD ((G ++ [(x : Int)]).getD (D2.getD y.toNat 0).toNat 0).toNat 0 ∧ (t.getD y.toNat []).getD ((G ++ [(x : Int)]).getD (D2.getD y.toNat 0).toNat 0).toNat 0 < (I2.length : Int) := by omega
          have hzn : ((t.getD y.toNat []).getD ((G ++ [(x : Int)]).getD (D2.getD y.toNat 0).toNat 0).toNat 0).toNat = en t y.toNat ((G ++ [(x : Int)]).getD (D2.getD y.toNat 0).toNat 0).toNat := by omega
          have hst : ∀ {R3 : List Int} {I3 : List Bool}, GnS t (x + 1) (G ++ [(x : Int)]) R3 I3 D2 → GnS t (x + 1) (G ++ [(x : Int)]) R3 I3 (D2.set y.toNat (D2.getD y.toNat 0 + 1)) := fun hh => hh.step hyl h4
          have hms : G.length + 1 - ((D2.set y.toNat (D2.getD y.toNat 0 + 1)).getD y.toNat 0).toNat < G.length + 1 - (D2.getD y.toNat 0).toNat := by
            rw [getD_set_eq (by omega)]; omega
          refine And.intro hz ?_
          refine And.intro (fun h5 => ?_) (fun h5 => ?_)
          · have h5 : (!I2.getD ((t.getD y.toNat []).getD ((G ++ [(x : Int)]).getD (D2.getD y.toNat 0).toNat 0).toNat 0).toNat false) = true := h5
            rw [Bool.not_eq_true', hzn] at h5
            have hp := hg2.push h hr2 hgm h5
            rw [← hzn, Int.toNat_of_nonneg hz.1] at hp
            have hpl := hp.rl
            refine And.intro hz ?_
            refine And.intro hz.1 ?_
            refine And.intro (show (((R2 ++ [(t.getD y.toNat []).getD ((G ++ [(x : Int)]).getD (D2.getD y.toNat 0).toNat 0).toNat 0]).length : Nat) : Int) ≤ 17592186044416 by omega) ?_
            refine And.intro (show 0 ≤ y ∧ y < (D2.length : Int) by omega) ?_
            refine And.intro (show -9223372036854775808 ≤ D2.getD y.toNat 0 + 1 ∧ D2.getD y.toNat 0 + 1 ≤ 9223372036854775807 by omega) ?_
            refine And.intro (show 0 ≤ y ∧ y < (D2.length : Int) by omega) ?_
            refine And.intro (show ((0 : Nat) : Int) ≤ y by omega) ?_
            exact nx (R2 ++ [(t.getD y.toNat []).getD ((G ++ [(x : Int)]).getD (D2.getD y.toNat 0).toNat 0).toNat 0], I2.set ((t.getD y.toNat []).getD ((G ++ [(x : Int)]).getD (D2.getD y.toNat 0).toNat 0).toNat 0).toNat true, D2.set y.toNat (D2.getD y.toNat 0 + 1)) ⟨by simp; omega, List.mem_append_left _ hr2, hst hp⟩ hms (by repeat' first | refine And.intro ?_ ?_ | exact True.intro | (show (_ : Int) = (_ : Int); omega) | omega | exact rfl | (simp only [RO.len]; omega))
          · refine And.intro (show 0 ≤ y ∧ y < (D2.length : Int) by omega) ?_
            refine And.intro (show -9223372036854775808 ≤ D2.getD y.toNat 0 + 1 ∧ D2.getD y.toNat 0 + 1 ≤ 9223372036854775807 by omega) ?_
            refine And.intro (show 0 ≤ y ∧ y < (D2.length : Int) by omega) ?_
            refine And.intro (show ((0 : Nat) : Int) ≤ y by omega) ?_
            exact nx (R2, I2, D2.set y.toNat (D2.getD y.toNat 0 + 1)) ⟨hi2, hr2, hst hg2⟩ hms (by repeat' first | refine And.intro ?_ ?_ | exact True.intro | (show (_ : Int) = (_ : Int); omega) | omega | exact rfl | (simp only [RO.len]; omega))
        · refine And.intro (by omega) ?_
          exact nx (i + 1, R2, I2, D2) ⟨by omega, hg2⟩ (show t.length - (i + 1) < t.length - i by omega) (by repeat' first | refine And.intro ?_ ?_ | exact True.intro | (show (_ : Int) = (_ : Int); omega) | omega | exact rfl | (simp only [RO.len]; omega))
      · refine And.intro (by omega) ?_
        exact nx (x + 1, G ++ [(x : Int)], R1, I1, D1) ⟨by omega, hg1⟩ (show t.length - (x + 1) < t.length - x by omega) (by repeat' first | refine And.intro ?_ ?_ | exact True.intro | (show (_ : Int) = (_ : Int); omega) | omega | exact rfl | (simp only [RO.len]; omega))
  · have h1 : (t.length : Int) ≤ (x : Int) := h1
    refine Exists.intro G (And.intro ⟨hg.done (by omega), by omega⟩ ?_)
    exact And.intro (And.intro (by omega) rfl) trivial
theorem cgens_fn (t : List (List Int)) (h : Sh t) : EF 64 [.ro (.rows .i64 t)] (fun l : List Int => .new (.ints .i64 l)) (fun l => Spans t l ∧ l.length ≤ t.length) := mkE Try.func64 (by decide +kernel) rfl (Nat.le_of_ble_eq_true rfl) fun _ => cgens_k t h
end Go.Proofs.Yteopelpnpdbbcaa
