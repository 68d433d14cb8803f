/- The reference of Rees matrix semigroups: its contracts. -/
import Derived.Test.YtfoemneboalddaaRees
namespace Go.Proofs.Ytfoemneboalddaa
open Go Go.AM
set_option maxRecDepth 100000

theorem base_k (G : List (List Int)) (R C : Int) (P : List (List Int)) (z : Bool) : fnK TY SP Try.f39 [rav G R C P z] (.int .i64 (zI z)) := by
  refine And.intro (fun h1 => ?_) (fun h1 => ?_)
  · rw [h1]; exact And.intro rfl trivial
  · rw [h1]; exact And.intro rfl trivial
theorem base_fn (G : List (List Int)) (R C : Int) (P : List (List Int)) (z : Bool) : QF 39 [rav G R C P z] (.int .i64 (zI z)) := mkQ Try.func39 (by decide +kernel) rfl (Nat.le_of_ble_eq_true rfl) fun _ => base_k G R C P z

theorem rsize_k (G : List (List Int)) (R C : Int) (P : List (List Int)) (z : Bool) (h : Rees G R C P z) : fnK TY SP Try.f38 [rav G R C P z] (.int .i64 (sizeI G.length R C z)) := by
  have hle := h.le
  have hz := z_cases z
  have e : sizeI G.length R C z = R * G.length * C + zI z := by unfold sizeI; rw [Int.mul_comm (G.length : Int) R]
  have hs := h.small
  have m1 : 0 ≤ R * (G.length : Int) := Int.mul_nonneg (by omega) (by omega)
  have m2 : R * (G.length : Int) * 1 ≤ R * G.length * C := Int.mul_le_mul_of_nonneg_left (by omega) m1
  rw [e] at hs ⊢
  refine Or.inl <| Exists.intro [false, false, false, false, false, false, false, false, false, false, false, false, false] (And.intro (by decide +kernel) ?_)
  refine And.intro (by omega) ?_
  refine And.intro (by omega) ?_
  refine cq (base_fn G R C P z) (And.intro (by repeat' first | refine And.intro ?_ ?_ | exact True.intro | (show (_ : Int) = (_ : Int); omega) | omega | exact rfl | (simp only [RO.len]; omega)) trivial) ?_
  refine And.intro (by omega) ?_
  exact And.intro rfl trivial
theorem rsize_fn (G : List (List Int)) (R C : Int) (P : List (List Int)) (z : Bool) (h : Rees G R C P z) : QF 38 [rav G R C P z] (.int .i64 (sizeI G.length R C z)) := mkQ Try.func38 (by decide +kernel) rfl (Nat.le_of_ble_eq_true rfl) fun _ => rsize_k G R C P z h

theorem rval_k (G : List (List Int)) (R C : Int) (P : List (List Int)) (z : Bool) (hG : G.length ≤ 140737488355328) (hP : P.length ≤ 140737488355328 ∧ ∀ m ∈ P, m.length ≤ 140737488355328) :
    fnK TY SP Try.f32 [rav G R C P z] (.int .i64 (reesV G R C P z)) := by
  have hP1 := hP.1
  refine Or.inl (cq (rgroup_fn G) (And.intro rfl trivial) ?_)
  refine And.intro (fun h0 => ?_) (fun h0 => ?_)
  · exact And.intro (rees_no fun h => by rw [grpB_true.2 h.1] at h0; cases h0) trivial
  have hg : Grp G := grpB_true.1 (by simpa using h0)
  have hgp := hg.pos
  have hgm := hg.most
  refine And.intro (fun h1 => ?_) (fun h1 => ?_)
  · exact And.intro (rees_no fun h => by have := h.2.r; omega) trivial
  refine And.intro (fun h2 => ?_) (fun h2 => ?_)
  · exact And.intro (rees_no fun h => by have := h.2.c; omega) trivial
  refine And.intro (fun h3 => ?_) (fun h3 => ?_)
  · exact And.intro (rees_no fun h => h3 h.2.p) trivial
  refine Exists.intro [] <| lp (X := Nat) (fun k => [(33, .int .i64 k)]) (fun _ => []) (fun k => k ≤ P.length ∧ ∀ j, j < k → ((P.getD j []).length : Int) = R ∧ ∀ g ∈ P.getD j [], entOk G.length z g) (fun k => P.length - k) 0 ⟨Nat.zero_le _, by omega⟩ (by repeat' first | refine And.intro ?_ ?_ | exact True.intro | (show (_ : Int) = (_ : Int); omega) | omega | exact rfl | (simp only [RO.len]; omega)) ?_
  intro k hk
  refine And.intro (fun h4 => ?_) (fun h4 => ?_)
  · have hkl : k < P.length := by omega
    have hml := hP.2 _ (getD_mem (d := []) hkl)
    refine And.intro (by omega) ?_
    refine And.intro (fun h5 => ?_) (fun h5 => ?_)
    · exact And.intro (rees_no fun h => h5 (h.2.rows _ (getD_mem hkl)).1) trivial
    refine Exists.intro [] <| lp (X := Nat) (fun i => [(44, .int .i64 i)]) (fun _ => []) (fun i => i ≤ (P.getD k []).length ∧ ∀ j, j < i → entOk G.length z ((P.getD k []).getD j 0)) (fun i => (P.getD k []).length - i) 0 ⟨Nat.zero_le _, by omega⟩ (by repeat' first | refine And.intro ?_ ?_ | exact True.intro | (show (_ : Int) = (_ : Int); omega) | omega | exact rfl | (simp only [RO.len]; omega)) ?_
    intro i hi
    refine And.intro (fun h6 => ?_) (fun h6 => ?_)
    · have h6 : (i : Int) < ((P.getD k []).length : Int) := h6
      have hil : i < (P.getD k []).length := by omega
      have bad : ¬ entOk G.length z ((P.getD k []).getD i 0) → 4 = reesV G R C P z := fun hb => rees_no fun h => hb ((h.2.rows _ (getD_mem hkl)).2 _ (getD_mem hil))
      refine And.intro ⟨by omega, h6⟩ ?_
      have next : entOk G.length z ((P.getD k []).getD i 0) → ∀ j, j < i + 1 → entOk G.length z ((P.getD k []).getD j 0) := fun he j hj => by
        by_cases hji : j < i
        · exact hi.2 j hji
        · have : j = i := by omega
          rw [this]; exact he
      refine And.intro (fun h7 => ?_) (fun h7 => ?_)
      · have h7 : (P.getD k []).getD i 0 < -1 := h7
        exact And.intro (bad fun he => by have := he.1; omega) trivial
      have h7 : -1 ≤ (P.getD k []).getD i 0 := h7
      refine And.intro (fun h8 => ?_) (fun h8 => ?_)
      · have h8 : (G.length : Int) ≤ (P.getD k []).getD i 0 := h8
        exact And.intro (bad fun he => by have := he.2.1; omega) trivial
      have h8 : (P.getD k []).getD i 0 < (G.length : Int) := h8
      refine And.intro (fun h9 => ?_) (fun h9 => ?_)
      · have h9 : (P.getD k []).getD i 0 < 0 := h9
        refine And.intro (fun h10 => ?_) (fun h10 => ?_)
        · exact And.intro (bad fun he => by rw [he.2.2 h9] at h10; cases h10) trivial
        · refine And.intro (by omega) ?_
          refine nx (i + 1) ⟨by omega, next ⟨h7, h8, fun _ => by simpa using h10⟩⟩ (show (P.getD k []).length - (i + 1) < (P.getD k []).length - i by omega) (by repeat' first | refine And.intro ?_ ?_ | exact True.intro | (show (_ : Int) = (_ : Int); omega) | omega | exact rfl | (simp only [RO.len]; omega))
      · have h9 : 0 ≤ (P.getD k []).getD i 0 := h9
        refine And.intro (by omega) ?_
        refine nx (i + 1) ⟨by omega, next ⟨h7, h8, fun _ => by omega⟩⟩ (show (P.getD k []).length - (i + 1) < (P.getD k []).length - i by omega) (by repeat' first | refine And.intro ?_ ?_ | exact True.intro | (show (_ : Int) = (_ : Int); omega) | omega | exact rfl | (simp only [RO.len]; omega))
    · have h6 : ((P.getD k []).length : Int) ≤ (i : Int) := h6
      refine And.intro (by omega) ?_
      refine nx (k + 1) ⟨by omega, fun j hj => ?_⟩ (show P.length - (k + 1) < P.length - k by omega) (by repeat' first | refine And.intro ?_ ?_ | exact True.intro | (show (_ : Int) = (_ : Int); omega) | omega | exact rfl | (simp only [RO.len]; omega))
      by_cases hjk : j < k
      · exact hk.2 j hjk
      · have : j = k := by omega
        rw [this]
        refine ⟨h5, fun g hg => ?_⟩
        obtain ⟨q, hq, rfl⟩ := mem_getD 0 hg
        exact hi.2 q (by omega)
  · have hs : Shaped G R C P z := ⟨h1, h2, h3, fun row hrow => by
      obtain ⟨j, hj, rfl⟩ := mem_getD [] hrow
      exact hk.2 j (by omega)⟩
    have hn : 0 < (G.length : Int) := by omega
    have hz := z_cases z
    refine And.intro (fun h6 => ?_) (fun h6 => ?_)
    · have e : (400 - zI z : Int) = 400 - 1 := by rw [h6]; rfl
      refine And.intro (by omega) ?_
      refine Or.inl <| Exists.intro [false, false, false, false, false, false, false, false, false, false, false, false, false, false, false, false, false, false, false, false, false] (And.intro (by decide +kernel) ?_)
      refine And.intro (by omega) ?_
      refine And.intro (fun h7 => ?_) (fun h7 => ?_)
      · exact And.intro (lim_a hg hs (by rw [e]; exact h7)) trivial
      have hd := lim_d hn h1 (m := 400 - 1) (by omega) h7
      refine And.intro (by omega) ?_
      refine And.intro (by omega) ?_
      refine And.intro (fun h8 => ?_) (fun h8 => ?_)
      · exact And.intro (lim_b hg hs (by rw [e]; exact h8)) trivial
      · exact And.intro (lim_c hg hs (by rw [e]; exact h8)) trivial
    · have e : (400 - zI z : Int) = 400 := by rw [h6]; rfl
      refine Or.inl <| Exists.intro [false, false, false, false, false, false, false, false, false, false, false, false, false, false, false, false, false, false, false, false, false] (And.intro (by decide +kernel) ?_)
      refine And.intro (by omega) ?_
      refine And.intro (fun h7 => ?_) (fun h7 => ?_)
      · exact And.intro (lim_a hg hs (by rw [e]; exact h7)) trivial
      have hd := lim_d hn h1 (m := 400) (by omega) h7
      refine And.intro (by omega) ?_
      refine And.intro (by omega) ?_
      refine And.intro (fun h8 => ?_) (fun h8 => ?_)
      · exact And.intro (lim_b hg hs (by rw [e]; exact h8)) trivial
      · exact And.intro (lim_c hg hs (by rw [e]; exact h8)) trivial
theorem rval_fn (G : List (List Int)) (R C : Int) (P : List (List Int)) (z : Bool) : QF 32 [rav G R C P z] (.int .i64 (reesV G R C P z)) :=
  mkQ Try.func32 (by decide +kernel) rfl (Nat.le_of_ble_eq_true rfl) fun hf => rval_k G R C P z hf.1.1.1 ⟨hf.1.2.2.2.1.1, fun m hm => (hf.1.2.2.2.1.2 m hm).1⟩

theorem rnum_k (G : List (List Int)) (R C : Int) (P : List (List Int)) (z : Bool) (h : Rees G R C P z) (i g l : Int) :
    fnK TY SP Try.f33 [rav G R C P z, .int .i64 i, .int .i64 g, .int .i64 l] (.int .i64 (if (0 ≤ i ∧ i < R) ∧ (0 ≤ g ∧ g < G.length) ∧ (0 ≤ l ∧ l < C) then numI G.length C z i g l else -1)) := by
  have hle := h.le
  refine And.intro (fun h2 => ?_) (fun h2 => ?_)
  · rw [if_neg (fun h => by omega)]; exact And.intro rfl trivial
  refine And.intro (fun h3 => ?_) (fun h3 => ?_)
  · rw [if_neg (fun h => by omega)]; exact And.intro rfl trivial
  refine And.intro (fun h4 => ?_) (fun h4 => ?_)
  · rw [if_neg (fun h => by omega)]; exact And.intro rfl trivial
  refine And.intro (fun h5 => ?_) (fun h5 => ?_)
  · rw [if_neg (fun h => by omega)]; exact And.intro rfl trivial
  refine And.intro (fun h6 => ?_) (fun h6 => ?_)
  · rw [if_neg (fun h => by omega)]; exact And.intro rfl trivial
  refine And.intro (fun h7 => ?_) (fun h7 => ?_)
  · rw [if_neg (fun h => by omega)]; exact And.intro rfl trivial
  rw [if_pos ⟨⟨h2, h3⟩, ⟨h4, h5⟩, ⟨h6, h7⟩⟩]
  have hz := z_cases z
  have hn := num_lt (z := z) (n := G.length) (R := R) (i := i) (g := g) (l := l) hle.1 hle.2.2.2.2.1 ⟨h2, h3⟩ ⟨h4, h5⟩ ⟨h6, h7⟩
  have hs := h.small
  have a1 : 0 ≤ i * (G.length : Int) := Int.mul_nonneg h2 (by omega)
  have a2 : 0 ≤ (i * (G.length : Int) + g) * C := Int.mul_nonneg (by omega) (by omega)
  have a3 : i * (G.length : Int) + g ≤ (i * (G.length : Int) + g) * C := by
    have := Int.mul_le_mul_of_nonneg_left (show (1 : Int) ≤ C by omega) (show 0 ≤ i * (G.length : Int) + g by omega)
    rw [Int.mul_one] at this; exact this
  unfold numI at hn
  refine Or.inl <| Exists.intro [false, false, false, false, false, false, false, false, false, false, false, false, false, false, false, false] (And.intro (by decide +kernel) ?_)
  refine And.intro (by omega) ?_
  refine And.intro (by omega) ?_
  refine And.intro (by omega) ?_
  refine And.intro (by omega) ?_
  refine cq (base_fn G R C P z) (And.intro (by repeat' first | refine And.intro ?_ ?_ | exact True.intro | (show (_ : Int) = (_ : Int); omega) | omega | exact rfl | (simp only [RO.len]; omega)) trivial) ?_
  refine And.intro (by omega) ?_
  exact And.intro rfl trivial
theorem rnum_fn (G : List (List Int)) (R C : Int) (P : List (List Int)) (z : Bool) (h : Rees G R C P z) (i g l : Int) :
    QF 33 [rav G R C P z, .int .i64 i, .int .i64 g, .int .i64 l] (.int .i64 (if (0 ≤ i ∧ i < R) ∧ (0 ≤ g ∧ g < G.length) ∧ (0 ≤ l ∧ l < C) then numI G.length C z i g l else -1)) := mkQ Try.func33 (by decide +kernel) rfl (Nat.le_of_ble_eq_true rfl) fun _ => rnum_k G R C P z h i g l

theorem rmul_k (G : List (List Int)) (R C : Int) (P : List (List Int)) (z : Bool) (h : Rees G R C P z) (x y : Int) :
    fnK TY SP Try.f41 [rav G R C P z, .int .i64 x, .int .i64 y] (.int .i64 (if 0 ≤ x ∧ x < sizeI G.length R C z ∧ 0 ≤ y ∧ y < sizeI G.length R C z then mulI G C P z x y else -1)) := by
  have hle := h.le
  refine And.intro (fun h2 => ?_) (fun h2 => ?_)
  · rw [if_neg (fun h => by omega)]; exact And.intro rfl trivial
  refine Or.inl (cq (rsize_fn G R C P z h) (And.intro (by repeat' first | refine And.intro ?_ ?_ | exact True.intro | (show (_ : Int) = (_ : Int); omega) | omega | exact rfl | (simp only [RO.len]; omega)) trivial) ?_)
  refine And.intro (fun h3 => ?_) (fun h3 => ?_)
  · rw [if_neg (fun h => by omega)]; exact And.intro rfl trivial
  refine And.intro (fun h4 => ?_) (fun h4 => ?_)
  · rw [if_neg (fun h => by omega)]; exact And.intro rfl trivial
  refine Or.inl (cq (rsize_fn G R C P z h) (And.intro (by repeat' first | refine And.intro ?_ ?_ | exact True.intro | (show (_ : Int) = (_ : Int); omega) | omega | exact rfl | (simp only [RO.len]; omega)) trivial) ?_)
  refine And.intro (fun h5 => ?_) (fun h5 => ?_)
  · rw [if_neg (fun h => by omega)]; exact And.intro rfl trivial
  rw [if_pos ⟨h2, h3, h4, h5⟩]
  have hz := z_cases z
  have hsm := h.small
  refine Or.inl <| Exists.intro [false, false, false, false, false, false, false, false, false, false] (And.intro (by decide +kernel) ?_)
  refine cq (base_fn G R C P z) (And.intro (by repeat' first | refine And.intro ?_ ?_ | exact True.intro | (show (_ : Int) = (_ : Int); omega) | omega | exact rfl | (simp only [RO.len]; omega)) trivial) ?_
  refine And.intro (by omega) ?_
  refine cq (base_fn G R C P z) (And.intro (by repeat' first | refine And.intro ?_ ?_ | exact True.intro | (show (_ : Int) = (_ : Int); omega) | omega | exact rfl | (simp only [RO.len]; omega)) trivial) ?_
  refine And.intro (by omega) ?_
  refine And.intro (fun h6 => ?_) (fun h6 => ?_)
  · refine And.intro ?_ trivial
    show 0 = mulI G C P z x y
    unfold mulI; rw [if_pos (.inl h6)]
  refine And.intro (fun h7 => ?_) (fun h7 => ?_)
  · refine And.intro ?_ trivial
    show 0 = mulI G C P z x y
    unfold mulI; rw [if_pos (.inr h7)]
  have c1 := coord (z := z) (x := x) hle.1 hle.2.2.1 hle.2.2.2.2.1 (by omega) h3
  have c2 := coord (z := z) (x := y) hle.1 hle.2.2.1 hle.2.2.2.2.1 (by omega) h5
  have d1 : 0 ≤ (x - zI z) / C := Int.ediv_nonneg h6 (by omega)
  have d2 : 0 ≤ (y - zI z) / C := Int.ediv_nonneg h7 (by omega)
  have hpe := h.pent (l := ((x - zI z) % C).toNat) (i := ((y - zI z) / C / G.length).toNat) (by omega) (by omega)
  have g1 := h.grp.len (x := ((x - zI z) / C % G.length).toNat) (by omega)
  refine Or.inl <| Exists.intro [false, false, false, false, false, false, false, false, false, false, false, false, false, false, false, false, false] (And.intro (by decide +kernel) ?_)
  refine Or.inl (And.intro (by omega) ?_)
  refine And.intro (by omega) ?_
  refine And.intro (by omega) ?_
  refine And.intro (by omega) ?_
  refine And.intro (by omega) ?_
  refine And.intro (fun h8 => ?_) (fun h8 => ?_)
  · refine And.intro ?_ trivial
    show 0 = mulI G C P z x y
    unfold mulI; rw [if_neg (by omega), if_pos h8]
  have e1 := h.grp.ent (x := ((x - zI z) / C % G.length).toNat) (y := ((P.getD ((x - zI z) % C).toNat []).getD ((y - zI z) / C / G.length).toNat 0).toNat) (by omega) (by omega)
  have e1' : ((G.getD ((x - zI z) / C % G.length).toNat []).getD ((P.getD ((x - zI z) % C).toNat []).getD ((y - zI z) / C / G.length).toNat 0).toNat 0).toNat < G.length := by rw [e1.1]; simpa using e1.2
  have g2 := h.grp.len (x := ((G.getD ((x - zI z) / C % G.length).toNat []).getD ((P.getD ((x - zI z) % C).toNat []).getD ((y - zI z) / C / G.length).toNat 0).toNat 0).toNat) e1'
  have e2 := h.grp.ent (x := ((G.getD ((x - zI z) / C % G.length).toNat []).getD ((P.getD ((x - zI z) % C).toNat []).getD ((y - zI z) / C / G.length).toNat 0).toNat 0).toNat) (y := ((y - zI z) / C % G.length).toNat) e1' (by omega)
  refine Or.inl <| Exists.intro [false, false, false, false, false, false, false, false, false, false, false, false, false, false, false, false, false, false, false, false, false, false, false, false, false, false] (And.intro (by decide +kernel) ?_)
  refine And.intro (by omega) ?_
  refine Or.inl (And.intro (by omega) ?_)
  refine And.intro (by omega) ?_
  refine And.intro (by omega) ?_
  refine And.intro (by omega) ?_
  refine And.intro (by omega) ?_
  refine Or.inl (And.intro (by omega) ?_)
  refine And.intro (by omega) ?_
  refine Or.inl <| Exists.intro [false, false, false, false, false, false, false, false, false, false, false, false, false, false] (And.intro (by decide +kernel) ?_)
  refine And.intro (by omega) ?_
  refine And.intro (by omega) ?_
  refine Or.inl (And.intro (by omega) ?_)
  refine cq (rnum_fn G R C P z h _ _ _) (And.intro (by repeat' first | refine And.intro ?_ ?_ | exact True.intro | (show (_ : Int) = (_ : Int); omega) | omega | exact rfl | (simp only [RO.len]; omega)) (And.intro rfl (And.intro rfl (And.intro rfl trivial)))) ?_
  refine And.intro ?_ trivial
  show (if _ then numI G.length C z _ _ _ else -1) = mulI G C P z x y
  rw [if_pos ⟨⟨c1.1, c1.2.1⟩, (by rw [e2.1]; omega), ⟨c2.2.2.2.2.1, c2.2.2.2.2.2⟩⟩]
  unfold mulI; rw [if_neg (by omega), if_neg (by omega)]
theorem rmul_fn (G : List (List Int)) (R C : Int) (P : List (List Int)) (z : Bool) (h : Rees G R C P z) (x y : Int) :
    QF 41 [rav G R C P z, .int .i64 x, .int .i64 y] (.int .i64 (if 0 ≤ x ∧ x < sizeI G.length R C z ∧ 0 ≤ y ∧ y < sizeI G.length R C z then mulI G C P z x y else -1)) := mkQ Try.func41 (by decide +kernel) rfl (Nat.le_of_ble_eq_true rfl) fun _ => rmul_k G R C P z h x y

theorem same_k (a b : List Int) (ha : a.length ≤ 140737488355328) (_hb : b.length ≤ 140737488355328) : fnK TY SP Try.f11 [.ro (.ints .i64 a), .ro (.ints .i64 b)] (.bool (.v (decide (a = b)))) := by
  refine And.intro (fun h1 => ?_) (fun h1 => ?_)
  · refine And.intro ?_ trivial
    show false = decide (a = b)
    rw [decide_eq_false (fun e => h1 (by rw [e]))]
  refine Exists.intro [] <| lp (X := Nat) (fun k => [(13, .int .i64 k)]) (fun _ => []) (fun k => k ≤ a.length ∧ ∀ j, j < k → a.getD j 0 = b.getD j 0) (fun k => a.length - k) 0 ⟨Nat.zero_le _, by omega⟩ (by repeat' first | refine And.intro ?_ ?_ | exact True.intro | (show (_ : Int) = (_ : Int); omega) | omega | exact rfl | (simp only [RO.len]; omega)) ?_
  intro k hk
  refine And.intro (fun h2 => ?_) (fun h2 => ?_)
  · refine Or.inl <| Exists.intro [false, false, false, false, false, false, false, false, false] (And.intro (by decide +kernel) ?_)
    refine And.intro (by omega) ?_
    refine And.intro (by omega) ?_
    refine And.intro (fun h3 => ?_) (fun h3 => ?_)
    · refine And.intro ?_ trivial
      show false = decide (a = b)
      rw [decide_eq_false (fun e => h3 (by rw [e]))]
    · refine And.intro (by omega) ?_
      refine nx (k + 1) ⟨by omega, fun j hj => ?_⟩ (show a.length - (k + 1) < a.length - k by omega) (by repeat' first | refine And.intro ?_ ?_ | exact True.intro | (show (_ : Int) = (_ : Int); omega) | omega | exact rfl | (simp only [RO.len]; omega))
      by_cases hjk : j < k
      · exact hk.2 j hjk
      · have : j = k := by omega
        rw [this]; exact h3
  · refine And.intro ?_ trivial
    show true = decide (a = b)
    rw [decide_eq_true (ext_getD 0 (by omega) fun i hi => hk.2 i (by omega))]
theorem same_fn (a b : List Int) : QF 11 [.ro (.ints .i64 a), .ro (.ints .i64 b)] (.bool (.v (decide (a = b)))) := mkQ Try.func11 (by decide +kernel) rfl (Nat.le_of_ble_eq_true rfl) fun hf => same_k a b hf.1.1 hf.2.1.1

theorem sameRows_k (a b : List (List Int)) (ha : a.length ≤ 140737488355328) (_hb : b.length ≤ 140737488355328) : fnK TY SP Try.f34 [.ro (.rows .i64 a), .ro (.rows .i64 b)] (.bool (.v (decide (a = b)))) := by
  refine And.intro (fun h1 => ?_) (fun h1 => ?_)
  · refine And.intro ?_ trivial
    show false = decide (a = b)
    rw [decide_eq_false (fun e => h1 (by rw [e]))]
  refine Exists.intro [] <| lp (X := Nat) (fun k => [(13, .int .i64 k)]) (fun _ => []) (fun k => k ≤ a.length ∧ ∀ j, j < k → a.getD j [] = b.getD j []) (fun k => a.length - k) 0 ⟨Nat.zero_le _, by omega⟩ (by repeat' first | refine And.intro ?_ ?_ | exact True.intro | (show (_ : Int) = (_ : Int); omega) | omega | exact rfl | (simp only [RO.len]; omega)) ?_
  intro k hk
  refine And.intro (fun h2 => ?_) (fun h2 => ?_)
  · refine Or.inl <| Exists.intro [false, false, false, false, false, false, false, false, false, false] (And.intro (by decide +kernel) ?_)
    refine And.intro (by omega) ?_
    refine And.intro (by omega) ?_
    refine cq (same_fn (a.getD k []) (b.getD k [])) (And.intro rfl (And.intro rfl trivial)) ?_
    refine And.intro (fun h3 => ?_) (fun h3 => ?_)
    · refine And.intro ?_ trivial
      show false = decide (a = b)
      rw [decide_eq_false (fun e => by rw [e] at h3; simp at h3)]
    · refine And.intro (by omega) ?_
      refine nx (k + 1) ⟨by omega, fun j hj => ?_⟩ (show a.length - (k + 1) < a.length - k by omega) (by repeat' first | refine And.intro ?_ ?_ | exact True.intro | (show (_ : Int) = (_ : Int); omega) | omega | exact rfl | (simp only [RO.len]; omega))
      by_cases hjk : j < k
      · exact hk.2 j hjk
      · have : j = k := by omega
        rw [this]; simpa using h3
  · refine And.intro ?_ trivial
    show true = decide (a = b)
    rw [decide_eq_true (ext_getD [] (by omega) fun i hi => hk.2 i (by omega))]
theorem sameRows_fn (a b : List (List Int)) : QF 34 [.ro (.rows .i64 a), .ro (.rows .i64 b)] (.bool (.v (decide (a = b)))) := mkQ Try.func34 (by decide +kernel) rfl (Nat.le_of_ble_eq_true rfl) fun hf => sameRows_k a b hf.1.1 hf.2.1.1
end Go.Proofs.Ytfoemneboalddaa
