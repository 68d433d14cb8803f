import Derived.Test.YtagdbfklniiabaaSgpLaw
import Derived.Test.YtagdbfklniiabaaRefCgG
import Derived.Test.YtagdbfklniiabaaReesLaw
import Derived.Test.YtagdbfklniiabaaIdpLaw
import Derived.Test.YtagdbfklniiabaaEqvLaw
section
/- Package congr: generators: contract. -/
namespace Go.Proofs.Ytagdbfklniiabaa
open Go Go.AM
set_option maxRecDepth 100000
structure GnS (t : List (List Int)) (x : Nat) (G R : List Int) (I : List Bool) (D : List Int) : Prop where
  il : I.length = t.length
  dl : D.length = t.length
  mks : ∀ z, I.getD z false = true → Mk t G z
  lo : ∀ z, z < x → I.getD z false = true
  gs : ∀ g ∈ G, 0 ≤ g ∧ g < (t.length : Int)
  gl : G.length ≤ x
  rs : ∀ y ∈ R, (0 ≤ y ∧ y < (t.length : Int)) ∧ I.getD y.toNat false = true
  rn : R.Nodup
  dd : ∀ z, 0 ≤ D.getD z 0 ∧ D.getD z 0 ≤ (G.length : Int)
section
variable {t : List (List Int)} {x : Nat} {G R : List Int} {I : List Bool} {D : List Int}
theorem GnS.rl (h : GnS t x G R I D) : R.length ≤ t.length := nodup_len h.rn fun y hy => (h.rs y hy).1
theorem GnS.start (t : List (List Int)) : GnS t 0 [] [] (List.replicate t.length false) (List.replicate t.length 0) := by
  refine ⟨by simp, by simp, fun z hz => ?_, fun z hz => absurd hz (Nat.not_lt_zero _), fun _ h => (nomatch h), Nat.le_refl _, fun _ h => (nomatch h), .nil, fun z => ?_⟩
  · simp [List.getD, List.getElem?_replicate] at hz
    split at hz <;> simp at hz
  · have : (List.replicate t.length (0 : Int)).getD z 0 = 0 := by
      simp only [List.getD, List.getElem?_replicate]
      split <;> rfl
    rw [this]; simp
theorem set_true {I : List Bool} {x z : Nat} (h : (I.set x true).getD z false = true) : z = x ∨ I.getD z false = true := by
  by_cases e : z = x
  · exact .inl e
  · rw [getD_set_ne (Ne.symm e)] at h; exact .inr h
theorem keep_true {I : List Bool} {x z : Nat} (h : I.getD z false = true) : (I.set x true).getD z false = true := by
  by_cases e : x = z
  · subst e
    have hl : x < I.length := Nat.lt_of_not_le fun hl => by
      rw [List.getD, List.getElem?_eq_none hl] at h; cases h
    exact getD_set_eq hl
  · rw [getD_set_ne e]; exact h
theorem GnS.gen (h : GnS t x G R I D) (hx : x < t.length) (hn : I.getD x false = false) : GnS t (x + 1) (G ++ [(x : Int)]) (R ++ [(x : Int)]) (I.set x true) D := by
  have hil := h.il
  refine ⟨by rw [List.length_set]; exact h.il, h.dl, fun z hz => ?_, fun z hz => ?_, fun g hg => ?_, by have := h.gl; simp; omega, fun y hy => ?_, ?_, fun z => by have := h.dd z; rw [List.length_append, List.length_singleton]; omega⟩
  · rcases set_true hz with rfl | hz
    · have := Mk.gen (t := t) (gens := G ++ [(z : Int)]) (g := (z : Int)) (by simp)
      simpa using this
    · exact (h.mks z hz).mono fun a ha => List.mem_append_left _ ha
  · by_cases e : z = x
    · subst e; exact getD_set_eq (by omega)
    · exact keep_true (h.lo z (by omega))
  · rcases List.mem_append.1 hg with hg | hg
    · exact h.gs g hg
    · rw [List.mem_singleton] at hg; omega
  · rcases List.mem_append.1 hy with hy | hy
    · exact ⟨(h.rs y hy).1, keep_true (h.rs y hy).2⟩
    · rw [List.mem_singleton] at hy
      subst hy
      exact ⟨by omega, by rw [Int.toNat_natCast]; exact getD_set_eq (by omega)⟩
  · rw [List.nodup_append]
    refine ⟨h.rn, by simp, fun a ha b hb => ?_⟩
    rw [List.mem_singleton] at hb
    subst hb
    rintro rfl
    have := (h.rs _ ha).2
    rw [Int.toNat_natCast, hn] at this; cases this
theorem GnS.skip (h : GnS t x G R I D) (hx : x < t.length) (hn : I.getD x false = true) : GnS t (x + 1) G R I D :=
  ⟨h.il, h.dl, h.mks, fun z hz => by
    by_cases e : z = x
    · subst e; exact hn
    · exact h.lo z (by omega), h.gs, by have := h.gl; omega, h.rs, h.rn, h.dd⟩
theorem GnS.push (h : GnS t x G R I D) (hs : Sh t) {y g : Int} (hy : y ∈ R) (hg : g ∈ G) (hn : I.getD (en t y.toNat g.toNat) false = false) : GnS t x G (R ++ [(en t y.toNat g.toNat : Int)]) (I.set (en t y.toNat g.toNat) true) D := by
  have hyr := h.rs y hy
  have hgr := h.gs g hg
  have hlt := (hs.ent (x := y.toNat) (y := g.toNat) (by omega) (by omega)).2
  have hil := h.il
  refine ⟨by rw [List.length_set]; exact h.il, h.dl, fun z hz => ?_, fun z hz => keep_true (h.lo z hz), h.gs, h.gl, fun a ha => ?_, ?_, h.dd⟩
  · rcases set_true hz with rfl | hz
    · exact .mul (h.mks _ hyr.2) (.gen hg)
    · exact h.mks z hz
  · rcases List.mem_append.1 ha with ha | ha
    · exact ⟨(h.rs a ha).1, keep_true (h.rs a ha).2⟩
    · rw [List.mem_singleton] at ha
      subst ha
      exact ⟨by omega, by rw [Int.toNat_natCast]; exact getD_set_eq (by omega)⟩
  · rw [List.nodup_append]
    refine ⟨h.rn, by simp, fun a ha b hb => ?_⟩
    rw [List.mem_singleton] at hb
    subst hb
    rintro rfl
    have := (h.rs _ ha).2
    rw [Int.toNat_natCast, hn] at this; cases this
theorem GnS.step (h : GnS t x G R I D) {y : Nat} (hy : y < t.length) (hd : D.getD y 0 < (G.length : Int)) : GnS t x G R I (D.set y (D.getD y 0 + 1)) := by
  have hdl := h.dl
  refine ⟨h.il, by rw [List.length_set]; exact h.dl, h.mks, h.lo, h.gs, h.gl, h.rs, h.rn, fun z => ?_⟩
  by_cases e : y = z
  · subst e; rw [getD_set_eq (by omega)]; have := h.dd y; omega
  · rw [getD_set_ne e]; exact h.dd z
theorem GnS.done (h : GnS t x G R I D) (hx : t.length ≤ x) : Spans t G := ⟨h.gs, fun z hz => h.mks z (h.lo z (by omega))⟩
end
set_option maxHeartbeats 1000000 in
theorem cgens_fn (t : List (List Int)) (h : Sh t) : EF 63 [.ro (.rows .i64 t)] (fun l : List Int => .new (.ints .i64 l)) (fun l => Spans t l ∧ l.length ≤ t.length) := mkE Try.func63 (by decide +kernel) rfl (Nat.le_of_ble_eq_true rfl) fun _ => by
  have hmost := h.most
  refine And.intro (by omega) ?_
  refine And.intro (by omega) ?_
  refine And.intro (by omega) ?_
  refine And.intro (by omega) ?_
  refine Exists.intro [] <| lp5 (fun (x : Nat) (_ _ : List Int) (_ : List Bool) (_ : List Int) => [(19, .int .i64 x), (3, .vec 32), (4, .vec 36)]) (fun _ G R I D => [(32, .vec 0 (.ints .i64 G) []), (36, .vec 0 (.ints .i64 R) []), (13, .vec 0 (.bools I) []), (16, .vec 0 (.ints .i64 D) [])]) (fun x G R I D => x ≤ t.length ∧ GnS t x G R I D) (fun x _ _ _ _ => t.length - x) 0 [] [] (List.replicate t.length false) (List.replicate t.length 0) ⟨Nat.zero_le _, GnS.start t⟩ (by repeat' first | refine And.intro ?_ ?_ | exact True.intro | (show (_ : Int) = (_ : Int); omega) | omega | exact rfl | (simp only [RO.len]; omega)) ?_
  rintro x G R I D ⟨hx, hg⟩
  have il := hg.il
  have dl := hg.dl
  have gl := hg.gl
  have rl := hg.rl
  refine And.intro (fun h1 => ?_) (fun h1 => ?_)
  · have h1 : (x : Int) < (t.length : Int) := h1
    refine And.intro (show 0 ≤ (x : Int) ∧ (x : Int) < (I.length : Int) by omega) ?_
    refine And.intro (fun h2 => ?_) (fun h2 => ?_)
    · have h2 : I.getD x false = true := h2
      refine And.intro (by omega) ?_
      exact nx (x + 1, G, R, I, D) ⟨by omega, hg.skip (by omega) h2⟩ (show t.length - (x + 1) < t.length - x by omega) (by repeat' first | refine And.intro ?_ ?_ | exact True.intro | (show (_ : Int) = (_ : Int); omega) | omega | exact rfl | (simp only [RO.len]; omega))
    · have h2 : I.getD x false = false := h2
      refine And.intro (show 0 ≤ (x : Int) ∧ (x : Int) < (I.length : Int) by omega) ?_
      refine And.intro (by omega) ?_
      refine And.intro (by simp; omega) ?_
      refine And.intro (by simp; omega) ?_
      refine Exists.intro [36] <| lp4 (fun (i : Nat) (_ : List Int) (_ : List Bool) (_ : List Int) => [(8, .int .i64 i), (4, .vec 36)]) (fun _ R I D => [(36, .vec 0 (.ints .i64 R) []), (13, .vec 0 (.bools I) []), (16, .vec 0 (.ints .i64 D) [])]) (fun i R I D => i ≤ R.length ∧ GnS t (x + 1) (G ++ [(x : Int)]) R I D) (fun i _ _ _ => t.length - i) 0 (R ++ [(x : Int)]) (I.set x true) D ⟨Nat.zero_le _, hg.gen (by omega) h2⟩ (by repeat' first | refine And.intro ?_ ?_ | exact True.intro | (show (_ : Int) = (_ : Int); omega) | omega | exact rfl | (simp only [RO.len]; omega)) ?_
      rintro i R1 I1 D1 ⟨hi, hg1⟩
      have il1 := hg1.il
      have dl1 := hg1.dl
      have rl1 := hg1.rl
      have gl1 : (G ++ [(x : Int)]).length = G.length + 1 := by simp
      refine And.intro (fun h3 => ?_) (fun h3 => ?_)
      · have h3 : (i : Int) < (R1.length : Int) := h3
        have hy1 := (hg1.rs _ (getD_mem (d := 0) (i := i) (l := R1) (by omega))).1
        refine And.intro (show 0 ≤ (i : Int) ∧ (i : Int) < (R1.length : Int) by omega) ?_
        have hymem : R1.getD i 0 ∈ R1 := getD_mem (by omega)
        obtain ⟨y, hyd⟩ : ∃ y, R1.getD i 0 = y := ⟨_, rfl⟩
        rw [hyd] at hymem hy1
        refine Exists.intro [9, 36, 38, 43, 45, 46] <| lp3 (fun (_ : List Int) (_ : List Bool) (_ : List Int) => [(4, .vec 36), (9, .int .i64 y)]) (fun R I D => [(36, .vec 0 (.ints .i64 R) []), (13, .vec 0 (.bools I) []), (16, .vec 0 (.ints .i64 D) [])]) (fun R I D => i < R.length ∧ y ∈ R ∧ GnS t (x + 1) (G ++ [(x : Int)]) R I D) (fun _ _ D => G.length + 1 - (D.getD y.toNat 0).toNat) R1 I1 D1 ⟨by omega, hymem, hg1⟩ (by repeat' first | refine And.intro ?_ ?_ | exact True.intro | exact hyd | (show (_ : Int) = (_ : Int); omega) | omega | exact rfl | (simp only [RO.len]; omega)) ?_
        rintro R2 I2 D2 ⟨hi2, hr2, hg2⟩
        have il2 := hg2.il
        have dl2 := hg2.dl
        have rl2 := hg2.rl
        have hd := hg2.dd y.toNat
        have hyl : y.toNat < t.length := by omega
        refine And.intro (show 0 ≤ y ∧ y < (D2.length : Int) by omega) ?_
        refine And.intro (fun h4 => ?_) (fun h4 => ?_)
        · have h4 : D2.getD y.toNat 0 < ((G ++ [(x : Int)]).length : Int) := h4
          have hgm : (G ++ [(x : Int)]).getD (D2.getD y.toNat 0).toNat 0 ∈ (G ++ [(x : Int)]) := getD_mem (by omega)
          have hgr := hg2.gs _ hgm
          have hdn : (D2.getD y.toNat 0).toNat < (G ++ [(x : Int)]).length := by omega
          have e1 := h.ent (x := y.toNat) (y := ((G ++ [(x : Int)]).getD (D2.getD y.toNat 0).toNat 0).toNat) (by omega) (by omega)
          have r1 := h.len (x := y.toNat) (by omega)
          refine Or.inl ?_
          refine Exists.intro [false, false, false, false, false, false, false, false, false, false, false, false, false, false] (And.intro (by decide +kernel) ?_)
          refine And.intro (show 0 ≤ y ∧ y < (t.length : Int) by omega) ?_
          refine And.intro (show 0 ≤ y ∧ y < (D2.length : Int) by omega) ?_
          refine And.intro (show 0 ≤ D2.getD y.toNat 0 ∧ D2.getD y.toNat 0 < ((G ++ [(x : Int)]).length : Int) by omega) ?_
          refine And.intro (show 0 ≤ (G ++ [(x : Int)]).getD (D2.getD y.toNat 0).toNat 0 ∧ (G ++ [(x : Int)]).getD (D2.getD y.toNat 0).toNat 0 < ((t.getD y.toNat []).length : Int) by omega) ?_
          have hz : 0 ≤ (t.getD y.toNat []).getD ((G ++ [(x : Int)]).getD (D2.getD y.toNat 0).toNat 0).toNat 0 ∧ (t.getD y.toNat []).getD ((G ++ [(x : Int)]).getD (D2.getD y.toNat 0).toNat 0).toNat 0 < (I2.length : Int) := by omega
          have hzn : ((t.getD y.toNat []).getD ((G ++ [(x : Int)]).getD (D2.getD y.toNat 0).toNat 0).toNat 0).toNat = en t y.toNat ((G ++ [(x : Int)]).getD (D2.getD y.toNat 0).toNat 0).toNat := by omega
          have hst : ∀ {R3 : List Int} {I3 : List Bool}, GnS t (x + 1) (G ++ [(x : Int)]) R3 I3 D2 → GnS t (x + 1) (G ++ [(x : Int)]) R3 I3 (D2.set y.toNat (D2.getD y.toNat 0 + 1)) := fun hh => hh.step hyl h4
          have hms : G.length + 1 - ((D2.set y.toNat (D2.getD y.toNat 0 + 1)).getD y.toNat 0).toNat < G.length + 1 - (D2.getD y.toNat 0).toNat := by
            rw [getD_set_eq (by omega)]; omega
          refine And.intro hz ?_
          refine And.intro (fun h5 => ?_) (fun h5 => ?_)
          · have h5 : (!I2.getD ((t.getD y.toNat []).getD ((G ++ [(x : Int)]).getD (D2.getD y.toNat 0).toNat 0).toNat 0).toNat false) = true := h5
            rw [Bool.not_eq_true', hzn] at h5
            have hp := hg2.push h hr2 hgm h5
            rw [← hzn, Int.toNat_of_nonneg hz.1] at hp
            have hpl := hp.rl
            refine And.intro hz ?_
            refine And.intro hz.1 ?_
            refine And.intro (show (((R2 ++ [(t.getD y.toNat []).getD ((G ++ [(x : Int)]).getD (D2.getD y.toNat 0).toNat 0).toNat 0]).length : Nat) : Int) ≤ 17592186044416 by omega) ?_
            refine And.intro (show 0 ≤ y ∧ y < (D2.length : Int) by omega) ?_
            refine And.intro (show -9223372036854775808 ≤ D2.getD y.toNat 0 + 1 ∧ D2.getD y.toNat 0 + 1 ≤ 9223372036854775807 by omega) ?_
            refine And.intro (show 0 ≤ y ∧ y < (D2.length : Int) by omega) ?_
            refine And.intro (show ((0 : Nat) : Int) ≤ y by omega) ?_
            exact nx (R2 ++ [(t.getD y.toNat []).getD ((G ++ [(x : Int)]).getD (D2.getD y.toNat 0).toNat 0).toNat 0], I2.set ((t.getD y.toNat []).getD ((G ++ [(x : Int)]).getD (D2.getD y.toNat 0).toNat 0).toNat 0).toNat true, D2.set y.toNat (D2.getD y.toNat 0 + 1)) ⟨by simp; omega, List.mem_append_left _ hr2, hst hp⟩ hms (by repeat' first | refine And.intro ?_ ?_ | exact True.intro | (show (_ : Int) = (_ : Int); omega) | omega | exact rfl | (simp only [RO.len]; omega))
          · refine And.intro (show 0 ≤ y ∧ y < (D2.length : Int) by omega) ?_
            refine And.intro (show -9223372036854775808 ≤ D2.getD y.toNat 0 + 1 ∧ D2.getD y.toNat 0 + 1 ≤ 9223372036854775807 by omega) ?_
            refine And.intro (show 0 ≤ y ∧ y < (D2.length : Int) by omega) ?_
            refine And.intro (show ((0 : Nat) : Int) ≤ y by omega) ?_
            exact nx (R2, I2, D2.set y.toNat (D2.getD y.toNat 0 + 1)) ⟨hi2, hr2, hst hg2⟩ hms (by repeat' first | refine And.intro ?_ ?_ | exact True.intro | (show (_ : Int) = (_ : Int); omega) | omega | exact rfl | (simp only [RO.len]; omega))
        · refine And.intro (by omega) ?_
          exact nx (i + 1, R2, I2, D2) ⟨by omega, hg2⟩ (show t.length - (i + 1) < t.length - i by omega) (by repeat' first | refine And.intro ?_ ?_ | exact True.intro | (show (_ : Int) = (_ : Int); omega) | omega | exact rfl | (simp only [RO.len]; omega))
      · refine And.intro (by omega) ?_
        exact nx (x + 1, G ++ [(x : Int)], R1, I1, D1) ⟨by omega, hg1⟩ (show t.length - (x + 1) < t.length - x by omega) (by repeat' first | refine And.intro ?_ ?_ | exact True.intro | (show (_ : Int) = (_ : Int); omega) | omega | exact rfl | (simp only [RO.len]; omega))
  · have h1 : (t.length : Int) ≤ (x : Int) := h1
    refine Exists.intro G (And.intro ⟨hg.done (by omega), by omega⟩ ?_)
    exact And.intro (And.intro (by omega) rfl) trivial
end Go.Proofs.Ytagdbfklniiabaa
end
section
section
/- Strongly connected components by depth-first search: the invariant, plain. -/
namespace Go.Proofs.Ytagdbfklniiabaa
section
variable {N d : Nat} {tg : Nat → Nat → Int} {G : Nat → Prop}
def Tr (tg : Nat → Nat → Int) : List (Nat × Nat) → Prop
  | p :: q :: r => (1 ≤ q.2 ∧ tg q.1 (q.2 - 1) = (p.1 : Int)) ∧ Tr tg (q :: r)
  | _ => True
end
end Go.Proofs.Ytagdbfklniiabaa
end
section
/- The network of pairs: its edges; the search's state in memory (plain). -/
namespace Go.Proofs.Ytagdbfklniiabaa
open Go Go.AM
/-! ### Lists as functions -/
def natI (K : List Nat) : List Int := K.map fun x : Nat => (x : Int)
end Go.Proofs.Ytagdbfklniiabaa
end
section
/- The search through the network, as lists: what each step keeps (plain). -/
namespace Go.Proofs.Ytagdbfklniiabaa
end Go.Proofs.Ytagdbfklniiabaa
end
section
/- Minimal congruences out of the network of pairs (plain). -/
namespace Go.Proofs.Ytagdbfklniiabaa
open Go Go.AM
def Sub (n : Nat) (p q : List Int) : Prop := ∀ x y, x < n → y < n → p.getD x 0 = p.getD y 0 → q.getD x 0 = q.getD y 0
theorem sub_eq {n : Nat} {p q : List Int} (hp : p.length = n) (hq : q.length = n) (cp : canon p = p) (cq : canon q = q) (h1 : Sub n p q) (h2 : Sub n q p) : p = q := by
  rw [← cp, ← cq]; exact ker_canon hp hq fun a b ha hb => ⟨h1 a b ha hb, h2 a b ha hb⟩
end Go.Proofs.Ytagdbfklniiabaa
end
section
/- The list of all minimal congruences (plain). -/
namespace Go.Proofs.Ytagdbfklniiabaa
open Go Go.AM
end Go.Proofs.Ytagdbfklniiabaa
end
end
section
/- Comparisons of numbers and of lists: contracts. -/
namespace Go.Proofs.Ytagdbfklniiabaa
open Go Go.AM
set_option maxRecDepth 100000
theorem isNaN_fn (a : Int) : QF 118 [.int .i64 a] (.bool (.lit false)) := mkQ Try.func118 (by decide +kernel) rfl (Nat.le_of_ble_eq_true rfl) fun _ => by
  refine And.intro ?_ trivial
  show decide (a ≠ a) = false
  simp
theorem compare_fn (a b : Int) : QF 95 [.int .i64 a, .int .i64 b] (.int .i64 (cmpI a b)) := mkQ Try.func95 (by decide +kernel) rfl (Nat.le_of_ble_eq_true rfl) fun _ => by
  refine Or.inl (cq (isNaN_fn a) (And.intro rfl trivial) ?_)
  refine Or.inl (cq (isNaN_fn b) (And.intro rfl trivial) ?_)
  unfold cmpI
  refine And.intro (fun h1 => ?_) (fun h1 => ?_)
  · exact And.intro (by rw [if_pos h1]; rfl) trivial
  · refine And.intro (fun h2 => ?_) (fun h2 => ?_)
    · exact And.intro (by rw [if_neg (by omega), if_pos h2]; rfl) trivial
    · exact And.intro (by rw [if_neg (by omega), if_neg (by omega)]; rfl) trivial
theorem compareL_k (a b : List Int) (ha : a.length ≤ 140737488355328) (hb : b.length ≤ 140737488355328) : fnK TY SP Try.f55 [.ro (.ints .i64 a), .ro (.ints .i64 b)] (.int .i64 (cmpL a b)) := by
  refine Exists.intro [] <| lp (X := Nat) (fun i => [(11, .int .i64 i)]) (fun _ => []) (fun i => (i ≤ a.length ∧ i ≤ b.length) ∧ ∀ j, j < i → a.getD j 0 = b.getD j 0) (fun i => a.length - i) 0 (by simp) (by repeat' first | refine And.intro ?_ ?_ | exact True.intro | (show (_ : Int) = (_ : Int); omega) | omega | exact rfl | (simp only [RO.len]; omega)) ?_
  rintro i ⟨⟨hi, hi2⟩, hs⟩
  refine And.intro (fun h1 => ?_) (fun h1 => ?_)
  · refine And.intro (by omega) ?_
    refine And.intro (fun h2 => ?_) (fun h2 => ?_)
    · refine And.intro ?_ trivial
      rw [cmpL_end hs hi hi2 (.inr (by omega))]
      unfold cmpI; rw [if_neg (by omega), if_pos (by omega)]; rfl
    · refine And.intro (by omega) ?_
      refine Or.inl (cq (compare_fn (a.getD i 0) (b.getD i 0)) (And.intro rfl (And.intro rfl trivial)) ?_)
      refine And.intro (fun h3 => ?_) (fun h3 => ?_)
      · refine And.intro ?_ trivial
        exact (cmpL_here hs (by omega) (by omega) fun e => h3 (by rw [e]; exact cmpI_tot.self _)).symm
      · refine And.intro (by omega) ?_
        refine nx (i + 1) ⟨⟨by omega, by omega⟩, fun j hj => ?_⟩ (show a.length - (i + 1) < a.length - i by omega) (by repeat' first | refine And.intro ?_ ?_ | exact True.intro | (show (_ : Int) = (_ : Int); omega) | omega | exact rfl | (simp only [RO.len]; omega))
        by_cases e : j = i
        · subst e; exact cmpI_tot.eq _ _ h3
        · exact hs j (by omega)
  · have e := cmpL_end hs hi hi2 (.inl (by omega))
    refine And.intro (fun h2 => ?_) (fun h2 => ?_)
    · refine And.intro ?_ trivial
      rw [e]; unfold cmpI; rw [if_pos h2]; rfl
    · refine And.intro ?_ trivial
      rw [e]; unfold cmpI; rw [if_neg (by omega), if_neg (by omega)]; rfl
theorem rLess_k (a b : List Int) (ha : a.length ≤ 140737488355328) (hb : b.length ≤ 140737488355328) : fnK TY SP Try.f18 [.ro (.ints .i64 a), .ro (.ints .i64 b)] (.bool (.v (decide (cmpL a b < 0)))) := by
  refine Exists.intro [] <| lp (X := Nat) (fun i => [(5, .int .i64 i)]) (fun _ => []) (fun i => (i ≤ a.length ∧ i ≤ b.length) ∧ ∀ j, j < i → a.getD j 0 = b.getD j 0) (fun i => a.length - i) 0 (by simp) (by repeat' first | refine And.intro ?_ ?_ | exact True.intro | (show (_ : Int) = (_ : Int); omega) | omega | exact rfl | (simp only [RO.len]; omega)) ?_
  rintro i ⟨⟨hi, hi2⟩, hs⟩
  have fin : i = a.length ∨ i = b.length → decide ((a.length : Int) < (b.length : Int)) = decide (cmpL a b < 0) := fun he => by
    rw [cmpL_end hs hi hi2 he]
    unfold cmpI
    refine decide_eq_decide.2 ?_
    split <;> (try split) <;> omega
  refine And.intro (fun h1 => ?_) (fun h1 => ?_)
  · refine And.intro (fun h2 => ?_) (fun h2 => ?_)
    · refine Or.inl <| Exists.intro [false, false, false, false, false, false, false, false, false] (And.intro (by decide +kernel) ?_)
      refine And.intro (by omega) ?_
      refine And.intro (by omega) ?_
      refine And.intro (fun h3 => ?_) (fun h3 => ?_)
      · have h3 : a.getD i 0 ≠ b.getD i 0 := h3
        refine Or.inl <| Exists.intro [false, false, false, false, false, false, false, false, false, false] (And.intro (by decide +kernel) ?_)
        refine And.intro (by omega) ?_
        refine And.intro (by omega) ?_
        refine And.intro ?_ trivial
        show decide (a.getD i 0 < b.getD i 0) = decide (cmpL a b < 0)
        rw [cmpL_here hs (by omega) (by omega) h3]
        unfold cmpI
        refine decide_eq_decide.2 ?_
        split <;> (try split) <;> omega
      · have h3 : a.getD i 0 = b.getD i 0 := h3
        refine And.intro (by omega) ?_
        refine nx (i + 1) ⟨⟨by omega, by omega⟩, fun j hj => ?_⟩ (show a.length - (i + 1) < a.length - i by omega) (by repeat' first | refine And.intro ?_ ?_ | exact True.intro | (show (_ : Int) = (_ : Int); omega) | omega | exact rfl | (simp only [RO.len]; omega))
        by_cases e : j = i
        · subst e; exact h3
        · exact hs j (by omega)
    · exact And.intro (fin (.inr (by omega))) trivial
  · exact And.intro (fin (.inl (by omega))) trivial
theorem rLess_fn (a b : List Int) : QF 18 [.ro (.ints .i64 a), .ro (.ints .i64 b)] (.bool (.v (decide (cmpL a b < 0)))) := mkQ Try.func18 (by decide +kernel) rfl (Nat.le_of_ble_eq_true rfl) fun hf => rLess_k a b hf.1.1 hf.2.1.1
def insSch : Sch :=
  let F : Sch := .br 7 (.br 11 (.fst 12 .done) .no) .no
  let A6 : Sch := .br 4 F .no
  .fst 1 (.fst 2 (.fst 3 (.fst 5 (.fst 8 (.fst 9 (.fst 10 (.br 0 (.br 4 (.br 6 F .no) (.br 6 A6 .no)) (.br 6 (.br 0 A6 .no) .no))))))))
end Go.Proofs.Ytagdbfklniiabaa
end
section
/- The reference's minimal congruences: contracts. -/
namespace Go.Proofs.Ytagdbfklniiabaa
open Go Go.AM
set_option maxRecDepth 100000
theorem insRow_fn (l : List (List Int)) (x : List Int) (hl : l.length ≤ 100000) (hs0 : Srt cmpL l) : QF 71 [.ro (.rows .i64 l), .ro (.ints .i64 x)] (.ro (.rows .i64 (insC cmpL l x))) := mkQ Try.func71 (by decide +kernel) rfl (Nat.le_of_ble_eq_true rfl) fun _ => by
  refine Exists.intro [] <| lp (X := Nat) (fun i => [(5, .int .i64 i)]) (fun _ => []) (fun i => i ≤ l.length ∧ ∀ j, i ≤ j → j < l.length → cmpL x (l.getD j []) < 0) (fun i => i) l.length (by simp; omega) (by repeat' first | refine And.intro ?_ ?_ | exact True.intro | (show (_ : Int) = (_ : Int); omega) | omega | exact rfl | (simp only [RO.len]; omega)) ?_
  rintro i ⟨hi, hs⟩
  have e0 : ((i : Int) - 1).toNat = i - 1 := by omega
  refine And.intro (fun h1 => ?_) (fun h1 => ?_)
  · refine And.intro (by omega) ?_
    refine And.intro (by omega) ?_
    refine Or.inl (cq (rLess_fn x (l.getD ((i : Int) - 1).toNat [])) (And.intro rfl (And.intro rfl trivial)) ?_)
    refine And.intro (fun h2 => ?_) (fun h2 => ?_)
    · have h2 : cmpL x (l.getD ((i : Int) - 1).toNat []) < 0 := of_decide_eq_true h2
      rw [e0] at h2
      refine And.intro (by omega) ?_
      refine nx (i - 1) ⟨by omega, fun j hj hjl => ?_⟩ (show i - 1 < i by omega) (by repeat' first | refine And.intro ?_ ?_ | exact True.intro | (show (_ : Int) = (_ : Int); omega) | omega | exact rfl | (simp only [RO.len]; omega))
      by_cases e : j = i - 1
      · rw [e]; exact h2
      · exact hs j (by omega) hjl
    · have h2 : ¬ cmpL x (l.getD ((i : Int) - 1).toNat []) < 0 := of_decide_eq_false h2
      rw [e0] at h2
      refine And.intro (fun h3 => ?_) (fun h3 => by omega)
      refine And.intro (by omega) ?_
      refine And.intro (by omega) ?_
      refine Or.inl (cq (same_fn (l.getD ((i : Int) - 1).toNat []) x) (And.intro rfl (And.intro rfl trivial)) ?_)
      refine And.intro (fun h4 => ?_) (fun h4 => ?_)
      · have h4 : l.getD ((i : Int) - 1).toNat [] = x := of_decide_eq_true h4
        rw [e0] at h4
        refine And.intro ?_ trivial
        refine congrArg (RO.rows .i64) (insC_in ?_).symm
        rw [← h4]
        exact getD_mem (by omega)
      · have h4 : ¬ l.getD ((i : Int) - 1).toNat [] = x := of_decide_eq_false h4
        rw [e0] at h4
        have hlt : cmpL (l.getD (i - 1) []) x < 0 := by
          have := cmpL_tot.swap (l.getD (i - 1) []) x
          have := mt (cmpL_tot.eq (l.getD (i - 1) []) x) h4
          omega
        have fin := insC_at cmpL_tot (d := []) hs0 hi hs fun _ => hlt
        refine Or.inr (Exists.intro insSch (And.intro (by decide +kernel) ?_))
        refine And.intro (by omega) ?_
        refine And.intro (by omega) ?_
        repeat' first | exact trivial | refine And.intro ?_ ?_
        all_goals first | (simp; omega) | exact congrArg (RO.rows .i64) (by rw [← fin]; simp)
  · refine And.intro (fun h3 => by omega) (fun h3 => ?_)
    have fin := insC_at cmpL_tot (d := []) hs0 hi hs fun h => by omega
    refine Or.inr (Exists.intro insSch (And.intro (by decide +kernel) ?_))
    refine And.intro (by omega) ?_
    refine And.intro (by omega) ?_
    repeat' first | exact trivial | refine And.intro ?_ ?_
    all_goals first | (simp; omega) | exact congrArg (RO.rows .i64) (by rw [← fin]; simp)
end Go.Proofs.Ytagdbfklniiabaa
end
section
/- The reference's principal and minimal congruences: contracts. -/
namespace Go.Proofs.Ytagdbfklniiabaa
open Go Go.AM
set_option maxRecDepth 100000
noncomputable def prnG (t : List (List Int)) (x y : Nat) : List Int := genP t 0 (relP [((x : Int), (y : Int))])
noncomputable def prnL (t : List (List Int)) : List (List Int) := srt cmpL (firsts ((List.range t.length).flatMap fun x => (List.range x).map fun y => prnG t x y))
theorem prnL_srt (t : List (List Int)) : Srt cmpL (prnL t) := srt_srt cmpL_tot (firsts_nodup _)
theorem mem_prnL {t : List (List Int)} {p : List Int} : p ∈ prnL t ↔ ∃ x y, y < x ∧ x < t.length ∧ p = prnG t x y := by
  unfold prnL
  rw [srt_mem, mem_firsts, List.mem_flatMap]
  constructor
  · rintro ⟨x, hx, h⟩
    obtain ⟨y, hy, rfl⟩ := List.mem_map.1 h
    exact ⟨x, y, List.mem_range.1 hy, List.mem_range.1 hx, rfl⟩
  · rintro ⟨x, y, h1, h2, rfl⟩
    exact ⟨x, List.mem_range.2 h2, List.mem_map.2 ⟨y, List.mem_range.2 h1, rfl⟩⟩
structure PrI (t : List (List Int)) (x y : Nat) (L : List (List Int)) : Prop where
  srt : Srt cmpL L
  mem : ∀ p, p ∈ L ↔ ∃ a b, b < a ∧ (a < x ∨ a = x ∧ b < y) ∧ p = prnG t a b
  len : L.length ≤ x * 60 + y
theorem PrI.start (t : List (List Int)) : PrI t 0 0 [] := ⟨List.Pairwise.nil, fun p => ⟨fun h => absurd h List.not_mem_nil, fun ⟨a, b, _, h, _⟩ => by omega⟩, Nat.le_refl _⟩
theorem PrI.next {t : List (List Int)} {x y : Nat} {L : List (List Int)} (h : PrI t x y L) (hy : y < x) : PrI t x (y + 1) (insC cmpL L (prnG t x y)) := by
  refine ⟨insC_srt cmpL_tot h.srt, fun p => ?_, ?_⟩
  · rw [insC_mem, h.mem]
    constructor
    · rintro (rfl | ⟨a, b, h1, h2, rfl⟩)
      · exact ⟨x, y, hy, by omega, rfl⟩
      · exact ⟨a, b, h1, by omega, rfl⟩
    · rintro ⟨a, b, h1, h2, rfl⟩
      by_cases e : a = x ∧ b = y
      · obtain ⟨rfl, rfl⟩ := e; exact .inl rfl
      · exact .inr ⟨a, b, h1, by omega, rfl⟩
  · have := insC_len (c := cmpL) L (prnG t x y)
    have := h.len
    omega
theorem PrI.row {t : List (List Int)} {x y : Nat} {L : List (List Int)} (h : PrI t x y L) (hy : x ≤ y) (hx : y ≤ 60) : PrI t (x + 1) 0 L :=
  ⟨h.srt, fun p => (h.mem p).trans ⟨fun ⟨a, b, h1, h2, h3⟩ => ⟨a, b, h1, by omega, h3⟩, fun ⟨a, b, h1, h2, h3⟩ => ⟨a, b, h1, by omega, h3⟩⟩, by have := h.len; omega⟩
theorem PrI.done {t : List (List Int)} {x : Nat} {L : List (List Int)} (h : PrI t x 0 L) (hx : x = t.length) : L = prnL t := by
  refine sorted_uniq cmpL_tot h.srt (prnL_srt t) fun p => ?_
  rw [h.mem, mem_prnL]
  exact ⟨fun ⟨a, b, h1, h2, h3⟩ => ⟨a, b, h1, by omega, h3⟩, fun ⟨a, b, h1, h2, h3⟩ => ⟨a, b, h1, by omega, h3⟩⟩
set_option maxHeartbeats 1000000 in
theorem rprn_fn (t : List (List Int)) (hs : Sh t) (ht : t.length ≤ 60) : QF 39 [.ro (.rows .i64 t)] (.ro (.rows .i64 (prnL t))) := mkQ Try.func39 (by decide +kernel) rfl (Nat.le_of_ble_eq_true rfl) fun _ => by
  refine Exists.intro [20, 21, 22, 10021, 10022] <| lp2 (fun (x : Nat) (L : List (List Int)) => [(8, .int .i64 x), (3, .ro (.rows .i64 L))]) (fun _ _ => []) (fun x L => x ≤ t.length ∧ PrI t x 0 L) (fun x _ => t.length - x) 0 [] ⟨Nat.zero_le _, .start t⟩ (by repeat' first | refine And.intro ?_ ?_ | exact True.intro | (show (_ : Int) = (_ : Int); omega) | omega | exact rfl | (simp only [RO.len]; omega)) ?_
  rintro x L0 ⟨hx, h0⟩
  refine And.intro (fun h1 => ?_) (fun h1 => ?_)
  · have h1 : (x : Int) < (t.length : Int) := h1
    refine Exists.intro [20, 21, 22, 10021, 10022] <| lp2 (fun (y : Nat) (L : List (List Int)) => [(5, .int .i64 y), (3, .ro (.rows .i64 L))]) (fun _ _ => []) (fun y L => y ≤ x ∧ PrI t x y L) (fun y _ => x - y) 0 L0 ⟨Nat.zero_le _, h0⟩ (by repeat' first | refine And.intro ?_ ?_ | exact True.intro | (show (_ : Int) = (_ : Int); omega) | omega | exact rfl | (simp only [RO.len]; omega)) ?_
    rintro y L ⟨hy, hI⟩
    have hLl := hI.len
    refine And.intro (fun h2 => ?_) (fun h2 => ?_)
    · have h2 : (y : Int) < (x : Int) := h2
      have hin : inW t.length [((x : Int), (y : Int))] := fun q hq => by rw [List.mem_singleton] at hq; subst hq; exact ⟨⟨by omega, h1⟩, by omega, by show (y : Int) < (t.length : Int); omega⟩
      refine Or.inl (cq (rgnr_fn t [((x : Int), (y : Int))] 0 hs hin) (And.intro rfl (And.intro rfl (And.intro rfl trivial))) ?_)
      refine Or.inl (cq (insRow_fn L (prnG t x y) (by omega) hI.srt) (And.intro rfl (And.intro rfl trivial)) ?_)
      refine And.intro (by omega) ?_
      exact nx (y + 1, insC cmpL L (prnG t x y)) ⟨by omega, hI.next (by omega)⟩ (show x - (y + 1) < x - y by omega) (by repeat' first | refine And.intro ?_ ?_ | exact True.intro | (show (_ : Int) = (_ : Int); omega) | omega | exact rfl | (simp only [RO.len]; omega))
    · have h2 : (x : Int) ≤ (y : Int) := h2
      refine And.intro (by omega) ?_
      exact nx (x + 1, L) ⟨by omega, hI.row (by omega) (by omega)⟩ (show t.length - (x + 1) < t.length - x by omega) (by repeat' first | refine And.intro ?_ ?_ | exact True.intro | (show (_ : Int) = (_ : Int); omega) | omega | exact rfl | (simp only [RO.len]; omega))
  · have h1 : (t.length : Int) ≤ (x : Int) := h1
    refine And.intro ?_ trivial
    exact congrArg (RO.rows .i64) (h0.done (by omega))
theorem prnG_is {t : List (List Int)} (h : Semi t) (x y : Nat) : IsCg t (prnG t x y) 0 := genP_is h (by decide)
theorem prnG_eq {t : List (List Int)} {x y : Nat} (hx : x < t.length) (hy : y < t.length) : (prnG t x y).getD x 0 = (prnG t x y).getD y 0 :=
  (genP_iff hx hy).2 (.rel (List.mem_singleton.2 rfl))
theorem prnG_sub {t : List (List Int)} {x y : Nat} {q : List Int} (hq : IsCg t q 0) (e : q.getD x 0 = q.getD y 0) : Sub t.length (prnG t x y) q := fun a b ha hb h => by
  refine Cgr.sub (fun c d hcd => ?_) hq.cg ((genP_iff ha hb).1 h)
  have := List.mem_singleton.1 hcd
  injection this with h1 h2
  have h1 : c = x := by omega
  have h2 : d = y := by omega
  rw [h1, h2]; exact e
theorem prnL_len {t : List (List Int)} : (prnL t).length ≤ t.length * t.length := by
  unfold prnL
  rw [srt_len]
  refine Nat.le_trans (firsts_le _) ?_
  rw [List.length_flatMap]
  have : ∀ n, ((List.range n).map fun x => ((List.range x).map fun y => prnG t x y).length).sum ≤ n * t.length ∨ t.length < n := fun n => by
    induction n with
    | zero => exact .inl (by simp)
    | succ n ih =>
      by_cases hn : t.length < n + 1
      · exact .inr hn
      · refine .inl ?_
        rcases ih with ih | ih
        · rw [List.range_succ, List.map_append, List.sum_append, Nat.succ_mul]
          simp only [List.map_cons, List.map_nil, List.sum_cons, List.sum_nil, List.length_map, List.length_range]
          simp only [List.length_map, List.length_range] at ih
          omega
        · omega
  rcases this t.length with h | h
  · exact h
  · omega
end Go.Proofs.Ytagdbfklniiabaa
end
section
/- Package subdirect: the meets of a list's ends, and the list without what is superfluous: contracts. -/
namespace Go.Proofs.Ytagdbfklniiabaa
open Go Go.AM
set_option maxRecDepth 100000
def Pt (n : Nat) (p : List Int) : Prop := p.length = n ∧ validP p
end Go.Proofs.Ytagdbfklniiabaa
end
section
/- slices.Clone of integers: contract. -/
namespace Go.Proofs.Ytagdbfklniiabaa
open Go Go.AM
set_option maxRecDepth 100000
theorem cloneI_fn (l : List Int) (hl : l.length ≤ 4096) : QF 79 [.ro (.ints .i64 l)] (.new (.ints .i64 l)) := mkQ Try.func79 (by decide +kernel) rfl (Nat.le_of_ble_eq_true rfl) fun _ => by
  refine And.intro (fun h1 => ?_) ?_
  · exact And.intro h1 trivial
  · refine And.intro (by simp; omega) ?_
    exact And.intro ⟨by omega, by simp⟩ trivial
end Go.Proofs.Ytagdbfklniiabaa
end
