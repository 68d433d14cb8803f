import Derived.Test.YtpanlghofeebhaaReesLaw
section
/- Package rees: its contracts. -/
namespace Go.Proofs.Ytpanlghofeebhaa
open Go Go.AM
set_option maxRecDepth 100000
abbrev rav (G : List (List Int)) (R C : Int) (P : List (List Int)) (z : Bool) : AV := .agg [.ro (.rows .i64 G), .int .i64 R, .int .i64 C, .ro (.rows .i64 P), .bool (.v z)]
theorem sh_no {G : List (List Int)} {R C : Int} {P : List (List Int)} {z : Bool} (h : ¬ Shaped G R C P z) : false = shapedB G R C P z := (shapedB_false.2 h).symm
def entOk (n : Nat) (z : Bool) (g : Int) : Prop := -1 ≤ g ∧ g < n ∧ (g < 0 → z = true)
theorem sh_ent {G : List (List Int)} {R C : Int} {P : List (List Int)} {z : Bool} {k i : Nat} (hk : k < P.length) (hi : i < (P.getD k []).length) (h : ¬ entOk G.length z ((P.getD k []).getD i 0)) : false = shapedB G R C P z :=
  sh_no fun hs => h ((hs.rows _ (getD_mem hk)).2 _ (getD_mem hi))
theorem shaped_k (G : List (List Int)) (R C : Int) (P : List (List Int)) (z : Bool) (_hG : G.length ≤ 140737488355328) (hP : P.length ≤ 140737488355328 ∧ ∀ m ∈ P, m.length ≤ 140737488355328) :
    fnK TY SP Try.f78 [rav G R C P z] (.bool (.v (shapedB G R C P z))) := by
  have hP1 := hP.1
  refine And.intro (fun h1 => ?_) (fun h1 => ?_)
  · exact And.intro (sh_no fun hs => by have := hs.r; omega) trivial
  refine And.intro (fun h2 => ?_) (fun h2 => ?_)
  · exact And.intro (sh_no fun hs => by have := hs.c; omega) trivial
  refine And.intro (fun h3 => ?_) (fun h3 => ?_)
  · exact And.intro (sh_no fun hs => h3 hs.p) trivial
  refine Exists.intro [] <| lp (X := Nat) (fun k => [(26, .int .i64 k)]) (fun _ => []) (fun k => k ≤ P.length ∧ ∀ j, j < k → ((P.getD j []).length : Int) = R ∧ ∀ g ∈ P.getD j [], entOk G.length z g) (fun k => P.length - k) 0 ⟨Nat.zero_le _, by omega⟩ (by repeat' first | refine And.intro ?_ ?_ | exact True.intro | (show (_ : Int) = (_ : Int); omega) | omega | exact rfl | (simp only [RO.len]; omega)) ?_
  intro k hk
  refine And.intro (fun h4 => ?_) (fun h4 => ?_)
  · have hkl : k < P.length := by omega
    have hml := hP.2 _ (getD_mem (d := []) hkl)
    refine And.intro (by omega) ?_
    refine And.intro (fun h5 => ?_) (fun h5 => ?_)
    · exact And.intro (sh_no fun hs => h5 (hs.rows _ (getD_mem hkl)).1) trivial
    refine Exists.intro [] <| lp (X := Nat) (fun i => [(37, .int .i64 i)]) (fun _ => []) (fun i => i ≤ (P.getD k []).length ∧ ∀ j, j < i → entOk G.length z ((P.getD k []).getD j 0)) (fun i => (P.getD k []).length - i) 0 ⟨Nat.zero_le _, by omega⟩ (by repeat' first | refine And.intro ?_ ?_ | exact True.intro | (show (_ : Int) = (_ : Int); omega) | omega | exact rfl | (simp only [RO.len]; omega)) ?_
    intro i hi
    refine And.intro (fun h6 => ?_) (fun h6 => ?_)
    · have h6 : (i : Int) < ((P.getD k []).length : Int) := h6
      have hil : i < (P.getD k []).length := by omega
      refine And.intro ⟨by omega, h6⟩ ?_
      have next : entOk G.length z ((P.getD k []).getD i 0) → ∀ j, j < i + 1 → entOk G.length z ((P.getD k []).getD j 0) := fun he j hj => by
        by_cases hji : j < i
        · exact hi.2 j hji
        · have : j = i := by omega
          rw [this]; exact he
      refine And.intro (fun h7 => ?_) (fun h7 => ?_)
      · have h7 : (P.getD k []).getD i 0 < -1 := h7
        exact And.intro (sh_ent hkl hil fun he => by have := he.1; omega) trivial
      have h7 : -1 ≤ (P.getD k []).getD i 0 := h7
      refine And.intro (fun h8 => ?_) (fun h8 => ?_)
      · have h8 : (G.length : Int) ≤ (P.getD k []).getD i 0 := h8
        exact And.intro (sh_ent hkl hil fun he => by have := he.2.1; omega) trivial
      have h8 : (P.getD k []).getD i 0 < (G.length : Int) := h8
      refine And.intro (fun h9 => ?_) (fun h9 => ?_)
      · have h9 : (P.getD k []).getD i 0 < 0 := h9
        refine And.intro (fun h10 => ?_) (fun h10 => ?_)
        · exact And.intro (sh_ent hkl hil fun he => by rw [he.2.2 h9] at h10; cases h10) trivial
        · refine And.intro (by omega) ?_
          refine nx (i + 1) ⟨by omega, next ⟨h7, h8, fun _ => by simpa using h10⟩⟩ (show (P.getD k []).length - (i + 1) < (P.getD k []).length - i by omega) (by repeat' first | refine And.intro ?_ ?_ | exact True.intro | (show (_ : Int) = (_ : Int); omega) | omega | exact rfl | (simp only [RO.len]; omega))
      · have h9 : 0 ≤ (P.getD k []).getD i 0 := h9
        refine And.intro (by omega) ?_
        refine nx (i + 1) ⟨by omega, next ⟨h7, h8, fun _ => by omega⟩⟩ (show (P.getD k []).length - (i + 1) < (P.getD k []).length - i by omega) (by repeat' first | refine And.intro ?_ ?_ | exact True.intro | (show (_ : Int) = (_ : Int); omega) | omega | exact rfl | (simp only [RO.len]; omega))
    · have h6 : ((P.getD k []).length : Int) ≤ (i : Int) := h6
      refine And.intro (by omega) ?_
      refine nx (k + 1) ⟨by omega, fun j hj => ?_⟩ (show P.length - (k + 1) < P.length - k by omega) (by repeat' first | refine And.intro ?_ ?_ | exact True.intro | (show (_ : Int) = (_ : Int); omega) | omega | exact rfl | (simp only [RO.len]; omega))
      by_cases hjk : j < k
      · exact hk.2 j hjk
      · have : j = k := by omega
        rw [this]
        refine ⟨h5, fun g hg => ?_⟩
        obtain ⟨q, hq, rfl⟩ := mem_getD 0 hg
        exact hi.2 q (by omega)
  · refine And.intro ?_ trivial
    show true = shapedB G R C P z
    symm
    refine shapedB_true.2 ⟨h1, h2, h3, fun row hrow => ?_⟩
    obtain ⟨j, hj, rfl⟩ := mem_getD [] hrow
    exact hk.2 j (by omega)
theorem numI_true (n C i g l : Int) : (i * n + g) * C + l + 1 = numI n C true i g l := by simp [numI, zI]
theorem numI_false (n C i g l : Int) : (i * n + g) * C + l = numI n C false i g l := by simp [numI, zI]
theorem num_fn (G : List (List Int)) (R C : Int) (P : List (List Int)) (z : Bool) (h : Rees G R C P z) (i g l : Int) (hi : 0 ≤ i ∧ i < R) (hg : 0 ≤ g ∧ g < G.length) (hl : 0 ≤ l ∧ l < C) :
    QF 35 [rav G R C P z, .int .i64 i, .int .i64 g, .int .i64 l] (.int .i64 (numI G.length C z i g l)) := mkQ Try.func35 (by decide +kernel) rfl (Nat.le_of_ble_eq_true rfl) fun _ => by
  have hle := h.le
  have hz := z_cases z
  have hn := num_lt (z := z) (n := G.length) hle.1 hle.2.2.2.2.1 hi hg hl
  have hs := h.small
  have a1 : 0 ≤ i * (G.length : Int) := Int.mul_nonneg hi.1 (by omega)
  have a2 : 0 ≤ (i * (G.length : Int) + g) * C := Int.mul_nonneg (by omega) (by omega)
  have a3 : i * (G.length : Int) + g ≤ (i * (G.length : Int) + g) * C := by
    have := Int.mul_le_mul_of_nonneg_left (show (1 : Int) ≤ C by omega) (show 0 ≤ i * (G.length : Int) + g by omega)
    rw [Int.mul_one] at this; exact this
  unfold numI at hn
  refine And.intro (by omega) ?_
  refine And.intro (by omega) ?_
  refine And.intro (by omega) ?_
  refine And.intro (by omega) ?_
  refine And.intro (fun h1 => ?_) (fun h1 => ?_)
  · refine And.intro (by omega) ?_
    refine And.intro ?_ trivial
    show (i * (G.length : Int) + g) * C + l + 1 = numI G.length C z i g l
    rw [h1]; exact numI_true ..
  · refine And.intro ?_ trivial
    show (i * (G.length : Int) + g) * C + l = numI G.length C z i g l
    rw [h1]; exact numI_false ..
theorem triple_neg (G : List (List Int)) (R C : Int) (P : List (List Int)) (z : Bool) (x : Int) (hx : 0 ≤ x) (hn : x - zI z < 0) :
    QF 79 [rav G R C P z, .int .i64 x] (.tup [.int .i64 0, .int .i64 0, .int .i64 0, .bool (.lit false)]) := mkQ Try.func79 (by decide +kernel) rfl (Nat.le_of_ble_eq_true rfl) fun _ => by
  refine And.intro (fun h1 => ?_) (fun h1 => ?_)
  · have e : zI z = 1 := by rw [h1]; rfl
    refine And.intro (by omega) ?_
    refine And.intro (fun h2 => ?_) (fun h2 => ?_)
    · exact ⟨rfl, rfl, rfl, rfl, trivial⟩
    · omega
  · have e : zI z = 0 := by rw [h1]; rfl
    omega
theorem triple_pos_k (G : List (List Int)) (R C : Int) (P : List (List Int)) (z : Bool) (h : Rees G R C P z) (x : Int) (hx2 : x ≤ 9223372036854775807) (hn : 0 ≤ x - zI z) :
    fnK TY SP Try.f79 [rav G R C P z, .int .i64 x] (.tup [.int .i64 ((x - zI z) / C / G.length), .int .i64 ((x - zI z) / C % G.length), .int .i64 ((x - zI z) % C), .bool (.lit true)]) := by
  have hle := h.le
  have hz := z_cases z
  refine And.intro (fun h1 => ?_) (fun h1 => ?_)
  · have e : zI z = 1 := by rw [h1]; rfl
    rw [e] at hn ⊢
    refine And.intro (by omega) ?_
    refine And.intro (fun h2 => ?_) (fun h2 => ?_)
    · omega
    · have h3 : 0 ≤ (x - 1) / C := Int.ediv_nonneg h2 (by omega)
      refine And.intro (by omega) ?_
      refine Or.inl <| Exists.intro [false, false, false, false, false, false, false, false, false, false, false, false, false, false, false, false, false, false] (And.intro (by decide +kernel) ?_)
      refine And.intro (by omega) ?_
      refine Or.inl (And.intro (by omega) ?_)
      refine Or.inl (And.intro (by omega) ?_)
      exact ⟨rfl, rfl, rfl, rfl, trivial⟩
  · have e : zI z = 0 := by rw [h1]; rfl
    rw [e, Int.sub_zero] at hn
    rw [e, Int.sub_zero]
    refine And.intro (fun h2 => ?_) (fun h2 => ?_)
    · omega
    · have h3 : 0 ≤ x / C := Int.ediv_nonneg h2 (by omega)
      refine And.intro (by omega) ?_
      refine Or.inl <| Exists.intro [false, false, false, false, false, false, false, false, false, false, false, false, false, false, false, false, false, false] (And.intro (by decide +kernel) ?_)
      refine And.intro (by omega) ?_
      refine Or.inl (And.intro (by omega) ?_)
      refine Or.inl (And.intro (by omega) ?_)
      exact ⟨rfl, rfl, rfl, rfl, trivial⟩
theorem triple_pos (G : List (List Int)) (R C : Int) (P : List (List Int)) (z : Bool) (h : Rees G R C P z) (x : Int) (hn : 0 ≤ x - zI z) :
    QF 79 [rav G R C P z, .int .i64 x] (.tup [.int .i64 ((x - zI z) / C / G.length), .int .i64 ((x - zI z) / C % G.length), .int .i64 ((x - zI z) % C), .bool (.lit true)]) :=
  mkQ Try.func79 (by decide +kernel) rfl (Nat.le_of_ble_eq_true rfl) fun hf => triple_pos_k G R C P z h x hf.2.1.2 hn
theorem shaped_fn (G : List (List Int)) (R C : Int) (P : List (List Int)) (z : Bool) : QF 78 [rav G R C P z] (.bool (.v (shapedB G R C P z))) :=
  mkQ Try.func78 (by decide +kernel) rfl (Nat.le_of_ble_eq_true rfl) fun hf => shaped_k G R C P z hf.1.1.1 ⟨hf.1.2.2.2.1.1, fun m hm => (hf.1.2.2.2.1.2 m hm).1⟩
theorem size_fn (G : List (List Int)) (R C : Int) (P : List (List Int)) (z : Bool) (hG : 1 ≤ G.length ∧ G.length ≤ 400) (hR : 1 ≤ R) (hC : 1 ≤ C) :
    QF 34 [rav G R C P z] (.int .i64 (min (sizeI G.length R C z) 401)) := mkQ Try.func34 (by decide +kernel) rfl (Nat.le_of_ble_eq_true rfl) fun _ => by
  refine Exists.intro [] <| lp2 (fun (k : Nat) (n : Int) => [(14, .int .i64 k), (3, .int .i64 n)]) (fun _ _ => []) (fun k n => (k = 0 ∧ n = G.length) ∨ (k = 1 ∧ n = G.length * R ∧ R ≤ 401) ∨ (k = 2 ∧ n = G.length * R * C ∧ R ≤ 401 ∧ C ≤ 401 ∧ G.length * R ≤ 401)) (fun k _ => 2 - k) 0 G.length (.inl ⟨rfl, rfl⟩) (by repeat' first | refine And.intro ?_ ?_ | exact True.intro | (show (_ : Int) = (_ : Int); omega) | omega | exact rfl | (simp only [RO.len]; omega)) ?_
  intro k n hk
  have hz := z_cases z
  have p1 : 0 ≤ (G.length : Int) * R := Int.mul_nonneg (by omega) (by omega)
  have p2 : 1 * R ≤ (G.length : Int) * R := Int.mul_le_mul_of_nonneg_right (by omega) (by omega)
  have p3 : (G.length : Int) * R * 1 ≤ G.length * R * C := Int.mul_le_mul_of_nonneg_left (by omega) p1
  have p4 : 1 * C ≤ G.length * R * C := Int.mul_le_mul_of_nonneg_right (by omega) (by omega)
  refine And.intro (fun h1 => ?_) (fun h1 => ?_)
  · refine And.intro (by omega) ?_
    refine And.intro (fun h2 => ?_) (And.intro (fun h2 => ?_) trivial)
    · have h2 : (k : Int) = 0 := h2
      have hn : n = G.length := by omega
      have r1 : n * R ≤ 400 * R := Int.mul_le_mul_of_nonneg_right (by omega) (by omega)
      have r2 : 0 ≤ n * R := Int.mul_nonneg (by omega) (by omega)
      refine And.intro (fun h3 => ?_) (fun h3 => ?_)
      · omega
      refine And.intro (fun h4 => ?_) (fun h4 => ?_)
      · refine And.intro ?_ trivial
        show 401 = min (sizeI G.length R C z) 401
        unfold sizeI; omega
      · refine And.intro (by omega) ?_
        refine And.intro (by omega) ?_
        refine nx (k + 1, n * R) (.inr (.inl ⟨by omega, by rw [hn], by omega⟩)) (show 2 - (k + 1) < 2 - k by omega) (by repeat' first | refine And.intro ?_ ?_ | exact True.intro | (show (_ : Int) = (_ : Int); omega) | omega | exact rfl | (simp only [RO.len]; omega))
    · have h2 : (k : Int) = 0 + 1 := h2
      have hn : n = G.length * R ∧ R ≤ 401 := by omega
      refine And.intro (fun h3 => ?_) (fun h3 => ?_)
      · refine And.intro ?_ trivial
        show 401 = min (sizeI G.length R C z) 401
        unfold sizeI; omega
      have r1 : n * C ≤ 401 * C := Int.mul_le_mul_of_nonneg_right (by omega) (by omega)
      have r2 : 0 ≤ n * C := Int.mul_nonneg (by omega) (by omega)
      refine And.intro (fun h4 => ?_) (fun h4 => ?_)
      · refine And.intro ?_ trivial
        show 401 = min (sizeI G.length R C z) 401
        unfold sizeI; omega
      · refine And.intro (by omega) ?_
        refine And.intro (by omega) ?_
        refine nx (k + 1, n * C) (.inr (.inr ⟨by omega, by rw [hn.1], by omega, by omega, by omega⟩)) (show 2 - (k + 1) < 2 - k by omega) (by repeat' first | refine And.intro ?_ ?_ | exact True.intro | (show (_ : Int) = (_ : Int); omega) | omega | exact rfl | (simp only [RO.len]; omega))
  · have hn : n = G.length * R * C ∧ R ≤ 401 ∧ C ≤ 401 ∧ G.length * R ≤ 401 := by omega
    have r1 : G.length * R * C ≤ 401 * C := Int.mul_le_mul_of_nonneg_right (by omega) (by omega)
    refine And.intro (fun h2 => ?_) (fun h2 => ?_)
    · refine And.intro (by omega) ?_
      refine And.intro ?_ trivial
      show min (n + 1) 401 = min (sizeI G.length R C z) 401
      rw [h2, hn.1]; rfl
    · refine And.intro ?_ trivial
      show min n 401 = min (sizeI G.length R C z) 401
      have e : sizeI G.length R C z = n := by rw [h2, hn.1]; exact Int.add_zero _
      rw [e]
theorem rees_no {G : List (List Int)} {R C : Int} {P : List (List Int)} {z : Bool} (h : ¬ (Grp G ∧ Shaped G R C P z)) : 4 = reesV G R C P z := by
  unfold reesV; rw [if_neg h]
theorem rvalid2_fn (G : List (List Int)) (R C : Int) (P : List (List Int)) (z : Bool) : QF 36 [rav G R C P z] (.int .i64 (reesV G R C P z)) := mkQ Try.func36 (by decide +kernel) rfl (Nat.le_of_ble_eq_true rfl) fun _ => by
  refine Or.inl (cq (isgroup_fn G) (And.intro rfl trivial) ?_)
  refine And.intro (fun h1 => ?_) (fun h1 => ?_)
  · exact And.intro (rees_no fun h => by rw [grpB_true.2 h.1] at h1; cases h1) trivial
  · have hg : Grp G := grpB_true.1 (by simpa using h1)
    refine Or.inl (cq (shaped_fn G R C P z) (And.intro (by repeat' first | refine And.intro ?_ ?_ | exact True.intro | (show (_ : Int) = (_ : Int); omega) | omega | exact rfl | (simp only [RO.len]; omega)) trivial) ?_)
    refine And.intro (fun h2 => ?_) (fun h2 => ?_)
    · exact And.intro (rees_no fun h => by rw [shapedB_true.2 h.2] at h2; cases h2) trivial
    · have hs : Shaped G R C P z := shapedB_true.1 (by simpa using h2)
      have hgp := hg.pos
      have hgm := hg.most
      refine Or.inl (cq (size_fn G R C P z ⟨by omega, by omega⟩ hs.r hs.c) (And.intro (by repeat' first | refine And.intro ?_ ?_ | exact True.intro | (show (_ : Int) = (_ : Int); omega) | omega | exact rfl | (simp only [RO.len]; omega)) trivial) ?_)
      refine And.intro (fun h3 => ?_) (fun h3 => ?_)
      · refine And.intro (show 3 = reesV G R C P z from ?_) trivial
        unfold reesV
        rw [if_pos ⟨hg, hs⟩, if_pos (by omega)]
      · refine And.intro (show 0 = reesV G R C P z from ?_) trivial
        unfold reesV
        rw [if_pos ⟨hg, hs⟩, if_neg (by omega)]
theorem prod_fn (G : List (List Int)) (R C : Int) (P : List (List Int)) (z : Bool) (h : Rees G R C P z) (x y : Int) (hx : 0 ≤ x ∧ x < sizeI G.length R C z) (hy : 0 ≤ y ∧ y < sizeI G.length R C z) :
    QF 37 [rav G R C P z, .int .i64 x, .int .i64 y] (.int .i64 (mulI G C P z x y)) := mkQ Try.func37 (by decide +kernel) rfl (Nat.le_of_ble_eq_true rfl) fun _ => by
  have hle := h.le
  by_cases hx0 : x - zI z < 0
  · refine Or.inl (cq (triple_neg G R C P z x hx.1 hx0) (And.intro (by repeat' first | refine And.intro ?_ ?_ | exact True.intro | (show (_ : Int) = (_ : Int); omega) | omega | exact rfl | (simp only [RO.len]; omega)) (And.intro rfl trivial)) ?_)
    refine And.intro ?_ trivial
    show 0 = mulI G C P z x y
    unfold mulI; rw [if_pos (.inl hx0)]
  refine Or.inl (cq (triple_pos G R C P z h x (by omega)) (And.intro (by repeat' first | refine And.intro ?_ ?_ | exact True.intro | (show (_ : Int) = (_ : Int); omega) | omega | exact rfl | (simp only [RO.len]; omega)) (And.intro rfl trivial)) ?_)
  by_cases hy0 : y - zI z < 0
  · refine Or.inl (cq (triple_neg G R C P z y hy.1 hy0) (And.intro (by repeat' first | refine And.intro ?_ ?_ | exact True.intro | (show (_ : Int) = (_ : Int); omega) | omega | exact rfl | (simp only [RO.len]; omega)) (And.intro rfl trivial)) ?_)
    refine And.intro ?_ trivial
    show 0 = mulI G C P z x y
    unfold mulI; rw [if_pos (.inr hy0)]
  refine Or.inl (cq (triple_pos G R C P z h y (by omega)) (And.intro (by repeat' first | refine And.intro ?_ ?_ | exact True.intro | (show (_ : Int) = (_ : Int); omega) | omega | exact rfl | (simp only [RO.len]; omega)) (And.intro rfl trivial)) ?_)
  have c1 := coord (z := z) (x := x) hle.1 hle.2.2.1 hle.2.2.2.2.1 (by omega) hx.2
  have c2 := coord (z := z) (x := y) hle.1 hle.2.2.1 hle.2.2.2.2.1 (by omega) hy.2
  have hpe := h.pent (l := ((x - zI z) % C).toNat) (i := ((y - zI z) / C / G.length).toNat) (by omega) (by omega)
  have g1 := h.grp.len (x := ((x - zI z) / C % G.length).toNat) (by omega)
  refine And.intro (by omega) ?_
  refine And.intro (by omega) ?_
  refine And.intro (fun h2 => ?_) (fun h2 => ?_)
  · refine And.intro ?_ trivial
    show 0 = mulI G C P z x y
    unfold mulI; rw [if_neg (by omega), if_pos h2]
  have e1 := h.grp.ent (x := ((x - zI z) / C % G.length).toNat) (y := ((P.getD ((x - zI z) % C).toNat []).getD ((y - zI z) / C / G.length).toNat 0).toNat) (by omega) (by omega)
  have e1' : ((G.getD ((x - zI z) / C % G.length).toNat []).getD ((P.getD ((x - zI z) % C).toNat []).getD ((y - zI z) / C / G.length).toNat 0).toNat 0).toNat < G.length := by rw [e1.1]; simpa using e1.2
  have g2 := h.grp.len (x := ((G.getD ((x - zI z) / C % G.length).toNat []).getD ((P.getD ((x - zI z) % C).toNat []).getD ((y - zI z) / C / G.length).toNat 0).toNat 0).toNat) e1'
  have e2 := h.grp.ent (x := ((G.getD ((x - zI z) / C % G.length).toNat []).getD ((P.getD ((x - zI z) % C).toNat []).getD ((y - zI z) / C / G.length).toNat 0).toNat 0).toNat) (y := ((y - zI z) / C % G.length).toNat) e1' (by omega)
  refine Or.inl <| Exists.intro [false, false, false, false, false, false, false, false, false, false, false, false, false, false, false, false, false, false, false, false, false, false, false, false, false, false, false] (And.intro (by decide +kernel) ?_)
  refine And.intro (by omega) ?_
  refine And.intro (by omega) ?_
  refine And.intro (by omega) ?_
  refine And.intro (by omega) ?_
  refine And.intro (by omega) ?_
  refine And.intro (by omega) ?_
  refine cq (num_fn G R C P z h _ _ _ ⟨c1.1, c1.2.1⟩ (show 0 ≤ (G.getD ((G.getD ((x - zI z) / C % G.length).toNat []).getD ((P.getD ((x - zI z) % C).toNat []).getD ((y - zI z) / C / G.length).toNat 0).toNat 0).toNat []).getD ((y - zI z) / C % G.length).toNat 0 ∧ (G.getD ((G.getD ((x - zI z) / C % G.length).toNat []).getD ((P.getD ((x - zI z) % C).toNat []).getD ((y - zI z) / C / G.length).toNat 0).toNat 0).toNat []).getD ((y - zI z) / C % G.length).toNat 0 < G.length by rw [e2.1]; omega) ⟨c2.2.2.2.2.1, c2.2.2.2.2.2⟩) (And.intro (by repeat' first | refine And.intro ?_ ?_ | exact True.intro | (show (_ : Int) = (_ : Int); omega) | omega | exact rfl | (simp only [RO.len]; omega)) (And.intro rfl (And.intro rfl (And.intro rfl trivial)))) ?_
  refine And.intro ?_ trivial
  show numI G.length C z _ _ _ = mulI G C P z x y
  unfold mulI; rw [if_neg (by omega), if_neg (by omega)]
theorem sizeV (G : List (List Int)) (R C : Int) (P : List (List Int)) (z : Bool) (h : Rees G R C P z) : QF 34 [rav G R C P z] (.int .i64 (sizeI G.length R C z)) := by
  have hle := h.le
  have := size_fn G R C P z ⟨by omega, by omega⟩ h.sh.r h.sh.c
  rwa [Int.min_eq_left (by have := h.small; omega)] at this
theorem size_pos {n R C : Int} {z : Bool} (hn : 1 ≤ n) (hR : 1 ≤ R) (hC : 1 ≤ C) : 1 ≤ sizeI n R C z := by
  have := Int.mul_pos (Int.mul_pos (show 0 < n by omega) (show 0 < R by omega)) (show 0 < C by omega)
  have hz := z_cases z
  unfold sizeI; omega
theorem table_no (G : List (List Int)) (R C : Int) (P : List (List Int)) (z : Bool) (h : reesV G R C P z ≠ 0) : QF 27 [rav G R C P z] (.tup [.nils, .int .i64 (reesV G R C P z)]) := mkQ Try.func27 (by decide +kernel) rfl (Nat.le_of_ble_eq_true rfl) fun _ => by
  refine Or.inl (cq (rvalid2_fn G R C P z) (And.intro (by repeat' first | refine And.intro ?_ ?_ | exact True.intro | (show (_ : Int) = (_ : Int); omega) | omega | exact rfl | (simp only [RO.len]; omega)) trivial) ?_)
  refine And.intro (fun h1 => ?_) (fun h1 => absurd h1 h)
  exact ⟨trivial, rfl, trivial⟩
theorem reg_no (G : List (List Int)) (R C : Int) (P : List (List Int)) (z : Bool) (h : reesV G R C P z ≠ 0) : QF 29 [rav G R C P z] (.bool (.lit false)) := mkQ Try.func29 (by decide +kernel) rfl (Nat.le_of_ble_eq_true rfl) fun _ => by
  refine Or.inl (cq (rvalid2_fn G R C P z) (And.intro (by repeat' first | refine And.intro ?_ ?_ | exact True.intro | (show (_ : Int) = (_ : Int); omega) | omega | exact rfl | (simp only [RO.len]; omega)) trivial) ?_)
  exact And.intro (fun _ => And.intro rfl trivial) (fun h1 => absurd h1 h)
theorem table_fn (G : List (List Int)) (R C : Int) (P : List (List Int)) (z : Bool) (h : Rees G R C P z) : QF 27 [rav G R C P z] (.tup [.ro (.rows .i64 (tabI G C P z (sizeI G.length R C z).toNat)), .int .i64 0]) := mkQ Try.func27 (by decide +kernel) rfl (Nat.le_of_ble_eq_true rfl) fun _ => by
  have hle := h.le
  have hsm := h.small
  have hsp := size_pos (z := z) hle.1 hle.2.2.1 hle.2.2.2.2.1
  refine Or.inl (cq (rvalid2_fn G R C P z) (And.intro (by repeat' first | refine And.intro ?_ ?_ | exact True.intro | (show (_ : Int) = (_ : Int); omega) | omega | exact rfl | (simp only [RO.len]; omega)) trivial) ?_)
  refine And.intro (fun h1 => absurd (rees_zero.2 h) h1) (fun h1 => ?_)
  refine Or.inl (cq (sizeV G R C P z h) (And.intro (by repeat' first | refine And.intro ?_ ?_ | exact True.intro | (show (_ : Int) = (_ : Int); omega) | omega | exact rfl | (simp only [RO.len]; omega)) trivial) ?_)
  refine And.intro (by omega) ?_
  refine And.intro (by omega) ?_
  refine Or.inl ?_
  refine Exists.intro [] <| lp2 (fun (x : Nat) (t : List (List Int)) => [(18, .int .i64 x)]) (fun x t => [(15, .vec 0 (.rows .i64 t) [])])
    (fun x t => x ≤ (sizeI G.length R C z).toNat ∧ t.length = (sizeI G.length R C z).toNat ∧ ∀ j, j < x → t.getD j [] = (tabI G C P z (sizeI G.length R C z).toNat).getD j []) (fun x _ => (sizeI G.length R C z).toNat - x) 0 (List.replicate (sizeI G.length R C z).toNat []) ⟨Nat.zero_le _, by simp, by omega⟩ (by repeat' first | refine And.intro ?_ ?_ | exact True.intro | (show (_ : Int) = (_ : Int); omega) | omega | exact rfl | (simp only [RO.len]; omega)) ?_
  intro x t hx
  have htl := hx.2.1
  refine And.intro (fun h2 => ?_) (fun h2 => ?_)
  · replace h2 : (x : Int) < ((List.replicate (sizeI G.length R C z).toNat ([] : List Int)).length : Int) := h2
    rw [List.length_replicate] at h2
    have h2 : x < (sizeI G.length R C z).toNat := by omega
    refine And.intro (by omega) ?_
    refine And.intro (by omega) ?_
    refine And.intro (by omega) ?_
    refine And.intro (by omega) ?_
    refine Exists.intro [] <| lp2 (fun (y : Nat) (r : List Int) => [(29, .int .i64 y)]) (fun y r => [(25, .vec 0 (.ints .i64 r) [])])
      (fun y r => y ≤ (sizeI G.length R C z).toNat ∧ r.length = (sizeI G.length R C z).toNat ∧ ∀ j : Nat, j < y → r.getD j 0 = mulI G C P z (x : Nat) (j : Nat)) (fun y _ => (sizeI G.length R C z).toNat - y) 0 (List.replicate (sizeI G.length R C z).toNat 0) ⟨Nat.zero_le _, by simp, by omega⟩ (by repeat' first | refine And.intro ?_ ?_ | exact True.intro | (show (_ : Int) = (_ : Int); omega) | omega | exact rfl | (simp; omega)) ?_
    intro y r hy
    have hrl := hy.2.1
    refine And.intro (fun h3 => ?_) (fun h3 => ?_)
    · have h3 : y < (sizeI G.length R C z).toNat := by omega
      refine Or.inl <| Exists.intro [false, false, false, false, false, false, false, false, false, false, true] (And.intro (by decide +kernel) ?_)
      refine And.intro (by omega) ?_
      refine And.intro (fun _ => ?_) (fun hne => absurd rfl hne)
      refine cq (prod_fn G R C P z h x y ⟨by omega, by omega⟩ ⟨by omega, by omega⟩) (And.intro (by repeat' first | refine And.intro ?_ ?_ | exact True.intro | (show (_ : Int) = (_ : Int); omega) | omega | exact rfl | (simp only [RO.len]; omega)) (And.intro rfl (And.intro rfl trivial))) ?_
      refine And.intro (by omega) ?_
      refine And.intro (by omega) ?_
      refine And.intro (by omega) ?_
      refine nx (y + 1, r.set y (mulI G C P z (x : Nat) (y : Nat))) ⟨by omega, by rw [List.length_set]; exact hrl, fun j hj => ?_⟩ (show (sizeI G.length R C z).toNat - (y + 1) < (sizeI G.length R C z).toNat - y by omega) (by repeat' first | refine And.intro ?_ ?_ | exact True.intro | (show (_ : Int) = (_ : Int); omega) | omega | exact rfl | (simp only [RO.len]; omega))
      by_cases hjy : j = y
      · rw [hjy, getD_set_eq (by omega)]
      · rw [getD_set_ne (Ne.symm hjy)]; exact hy.2.2 j (by omega)
    · have h3 : (sizeI G.length R C z).toNat ≤ y := by omega
      have e : r = (tabI G C P z (sizeI G.length R C z).toNat).getD x [] := by
        rw [tab_row h2]
        refine ext_getD 0 (by simp; exact hrl) fun i hi => ?_
        rw [hy.2.2 i (by omega), map_range_getD _ _ _ _ (by omega)]
      refine And.intro (by omega) ?_
      refine nx (x + 1, t.set x r) ⟨by omega, by rw [List.length_set]; exact htl, fun j hj => ?_⟩ (show (sizeI G.length R C z).toNat - (x + 1) < (sizeI G.length R C z).toNat - x by omega) (by repeat' first | refine And.intro ?_ ?_ | exact True.intro | (show (_ : Int) = (_ : Int); omega) | omega | exact rfl | (simp only [RO.len]; omega))
      by_cases hjx : j = x
      · rw [hjx, getD_set_eq (by omega), e]
      · rw [getD_set_ne (Ne.symm hjx)]; exact hx.2.2 j (by omega)
  · replace h2 : ((List.replicate (sizeI G.length R C z).toNat ([] : List Int)).length : Int) ≤ (x : Int) := h2
    rw [List.length_replicate] at h2
    have h2 : (sizeI G.length R C z).toNat ≤ x := by omega
    have e : t = tabI G C P z (sizeI G.length R C z).toNat := ext_getD [] (by rw [tab_len]; exact htl) fun i hi => hx.2.2 i (by omega)
    rw [e]
    exact ⟨⟨trivial, rfl⟩, rfl, trivial⟩
def Met (P : List (List Int)) (k i : Nat) (met : List Bool) : Prop := ∀ q, q < met.length → (met.getD q false = true ↔ ∃ j, (j < k ∨ (j = k ∧ q < i)) ∧ 0 ≤ (P.getD j []).getD q 0)
theorem met_start (P : List (List Int)) (n : Nat) : Met P 0 0 (List.replicate n false) := fun q hq => by
  have : (List.replicate n false).getD q false = false := by simp [List.getD, List.getElem?_replicate]; split <;> rfl
  rw [this]
  exact ⟨fun h => (by cases h), fun ⟨j, h, _⟩ => by omega⟩
theorem met_row {P : List (List Int)} {k i : Nat} {met : List Bool} (h : Met P k i met) (hi : met.length ≤ i) : Met P (k + 1) 0 met := fun q hq => by
  rw [h q hq]
  exact ⟨fun ⟨j, h1, h2⟩ => ⟨j, by omega, h2⟩, fun ⟨j, h1, h2⟩ => ⟨j, by omega, h2⟩⟩
theorem met_yes {P : List (List Int)} {k i : Nat} {met : List Bool} (h : Met P k i met) (hi : i < met.length) (hp : 0 ≤ (P.getD k []).getD i 0) : Met P k (i + 1) (met.set i true) := fun q hq => by
  rw [List.length_set] at hq
  by_cases hqi : q = i
  · subst hqi
    rw [getD_set_eq hi]
    exact ⟨fun _ => ⟨k, .inr ⟨rfl, by omega⟩, hp⟩, fun _ => rfl⟩
  · rw [getD_set_ne (Ne.symm hqi), h q hq]
    exact ⟨fun ⟨j, h1, h2⟩ => ⟨j, by omega, h2⟩, fun ⟨j, h1, h2⟩ => ⟨j, by omega, h2⟩⟩
theorem met_no {P : List (List Int)} {k i : Nat} {met : List Bool} (h : Met P k i met) (hp : (P.getD k []).getD i 0 < 0) : Met P k (i + 1) met := fun q hq => by
  rw [h q hq]
  refine ⟨fun ⟨j, h1, h2⟩ => ⟨j, by omega, h2⟩, fun ⟨j, h1, h2⟩ => ⟨j, ?_, h2⟩⟩
  rcases h1 with h1 | ⟨h1, h3⟩
  · exact .inl h1
  · by_cases hq : q = i
    · subst hq; subst h1; omega
    · exact .inr ⟨h1, by omega⟩
theorem any_no {P : List (List Int)} {k i : Nat} {any : Bool} (h : any = true ↔ ∃ i' : Nat, i' < i ∧ 0 ≤ (P.getD k []).getD i' 0) (hp : (P.getD k []).getD i 0 < 0) : any = true ↔ ∃ i' : Nat, i' < i + 1 ∧ 0 ≤ (P.getD k []).getD i' 0 := by
  rw [h]
  refine ⟨fun ⟨i', h1, h2⟩ => ⟨i', by omega, h2⟩, fun ⟨i', h1, h2⟩ => ⟨i', ?_, h2⟩⟩
  by_cases hii : i' = i
  · subst hii; omega
  · omega
theorem reg_fn (G : List (List Int)) (R C : Int) (P : List (List Int)) (z : Bool) (h : Rees G R C P z) : QF 29 [rav G R C P z] (.bool (.v (regB R P))) := mkQ Try.func29 (by decide +kernel) rfl (Nat.le_of_ble_eq_true rfl) fun _ => by
  have hle := h.le
  have hpl := h.sh.p
  refine Or.inl (cq (rvalid2_fn G R C P z) (And.intro (by repeat' first | refine And.intro ?_ ?_ | exact True.intro | (show (_ : Int) = (_ : Int); omega) | omega | exact rfl | (simp only [RO.len]; omega)) trivial) ?_)
  refine And.intro (fun h1 => absurd (rees_zero.2 h) h1) (fun h1 => ?_)
  refine And.intro (by omega) ?_
  refine And.intro (by omega) ?_
  refine Exists.intro [] <| lp2 (fun (k : Nat) (met : List Bool) => [(20, .int .i64 k)]) (fun k met => [(16, .vec 0 (.bools met) [])])
    (fun k met => k ≤ P.length ∧ met.length = R.toNat ∧ Met P k 0 met ∧ ∀ j, j < k → ∃ i : Nat, (i : Int) < R ∧ 0 ≤ (P.getD j []).getD i 0) (fun k _ => P.length - k) 0 (List.replicate R.toNat false) ⟨Nat.zero_le _, by simp, met_start _ _, by omega⟩ (by repeat' first | refine And.intro ?_ ?_ | exact True.intro | (show (_ : Int) = (_ : Int); omega) | omega | exact rfl | (simp; omega)) ?_
  intro k met hk
  have hml := hk.2.1
  refine And.intro (fun h2 => ?_) (fun h2 => ?_)
  · have hkl : k < P.length := by omega
    have hrow := h.sh.rows _ (getD_mem (d := []) hkl)
    refine And.intro (by omega) ?_
    refine Exists.intro [] <| lp3 (fun (i : Nat) (any : Bool) (met : List Bool) => [(26, .int .i64 i), (6, .bool (.v any))]) (fun i any met => [(16, .vec 0 (.bools met) [])])
      (fun i any met => i ≤ (P.getD k []).length ∧ met.length = R.toNat ∧ Met P k i met ∧ (any = true ↔ ∃ i' : Nat, i' < i ∧ 0 ≤ (P.getD k []).getD i' 0)) (fun i _ _ => (P.getD k []).length - i) 0 false met ⟨Nat.zero_le _, hml, hk.2.2.1, ⟨fun h => (by cases h), fun ⟨i, h, _⟩ => by omega⟩⟩ (by repeat' first | refine And.intro ?_ ?_ | exact True.intro | (show (_ : Int) = (_ : Int); omega) | omega | exact rfl | (simp only [RO.len]; omega)) ?_
    intro i any met2 hi
    have hml2 := hi.2.1
    refine And.intro (fun h3 => ?_) (fun h3 => ?_)
    · have h3 : i < (P.getD k []).length := by
        replace h3 : (i : Int) < ((P.getD k []).length : Int) := h3
        omega
      have hrl := hrow.1
      refine And.intro ⟨by omega, show (i : Int) < ((P.getD k []).length : Int) by omega⟩ ?_
      refine And.intro (fun h4 => ?_) (fun h4 => ?_)
      · have h4 : 0 ≤ (P.getD k []).getD i 0 := h4
        refine And.intro (by omega) ?_
        refine And.intro (by omega) ?_
        refine And.intro (by omega) ?_
        refine nx (i + 1, true, met2.set i true) ⟨by omega, by rw [List.length_set]; exact hml2, met_yes hi.2.2.1 (by omega) h4, ⟨fun _ => ⟨i, by omega, h4⟩, fun _ => rfl⟩⟩ (show (P.getD k []).length - (i + 1) < (P.getD k []).length - i by omega) (by repeat' first | refine And.intro ?_ ?_ | exact True.intro | (show (_ : Int) = (_ : Int); omega) | omega | exact rfl | (simp only [RO.len]; omega))
      · have h4 : (P.getD k []).getD i 0 < 0 := h4
        refine And.intro (by omega) ?_
        refine nx (i + 1, any, met2) ⟨by omega, hml2, met_no hi.2.2.1 h4, any_no hi.2.2.2 h4⟩ (show (P.getD k []).length - (i + 1) < (P.getD k []).length - i by omega) (by repeat' first | refine And.intro ?_ ?_ | exact True.intro | (show (_ : Int) = (_ : Int); omega) | omega | exact rfl | (simp only [RO.len]; omega))
    · have h3 : (P.getD k []).length ≤ i := by
        replace h3 : ((P.getD k []).length : Int) ≤ (i : Int) := h3
        omega
      have hrl := hrow.1
      refine And.intro (fun h4 => ?_) (fun h4 => ?_)
      · refine And.intro ?_ trivial
        show false = regB R P
        symm
        rw [regB_false]
        intro hr
        obtain ⟨i', h5, h6⟩ := hr.1 k hkl
        have := hi.2.2.2.2 ⟨i', by omega, h6⟩
        rw [this] at h4; cases h4
      · have h4 : any = true := by simpa using h4
        refine And.intro (by omega) ?_
        refine nx (k + 1, met2) ⟨by omega, hml2, met_row hi.2.2.1 (by omega), fun j hj => ?_⟩ (show P.length - (k + 1) < P.length - k by omega) (by repeat' first | refine And.intro ?_ ?_ | exact True.intro | (show (_ : Int) = (_ : Int); omega) | omega | exact rfl | (simp only [RO.len]; omega))
        by_cases hjk : j < k
        · exact hk.2.2.2 j hjk
        · have : j = k := by omega
          rw [this]
          obtain ⟨i', h5, h6⟩ := hi.2.2.2.1 h4
          exact ⟨i', by omega, h6⟩
  · have hkP : k = P.length := by omega
    refine Exists.intro [] <| lp (X := Nat) (fun q => [(42, .int .i64 q)]) (fun _ => []) (fun q => q ≤ R.toNat ∧ ∀ q', q' < q → met.getD q' false = true) (fun q => R.toNat - q) 0 ⟨Nat.zero_le _, by omega⟩ (by repeat' first | refine And.intro ?_ ?_ | exact True.intro | (show (_ : Int) = (_ : Int); omega) | omega | exact rfl | (simp only [RO.len]; omega)) ?_
    intro q hq
    refine And.intro (fun h3 => ?_) (fun h3 => ?_)
    · refine And.intro (by omega) ?_
      refine And.intro (fun h4 => ?_) (fun h4 => ?_)
      · have h4 : met.getD q false = false := by simpa using h4
        refine And.intro ?_ trivial
        show false = regB R P
        symm
        rw [regB_false]
        intro hr
        obtain ⟨j, h5, h6⟩ := hr.2 q (by omega)
        have := (hk.2.2.1 q (by omega)).2 ⟨j, by omega, h6⟩
        rw [this] at h4; cases h4
      · have h4 : met.getD q false = true := by simpa using h4
        refine And.intro (by omega) ?_
        refine nx (q + 1) ⟨by omega, fun q' hq' => ?_⟩ (show R.toNat - (q + 1) < R.toNat - q by omega) (by repeat' first | refine And.intro ?_ ?_ | exact True.intro | (show (_ : Int) = (_ : Int); omega) | omega | exact rfl | (simp only [RO.len]; omega))
        by_cases hqq : q' < q
        · exact hq.2 q' hqq
        · have : q' = q := by omega
          rw [this]; exact h4
    · refine And.intro ?_ trivial
      show true = regB R P
      symm
      rw [regB_true]
      refine ⟨fun j hj => hk.2.2.2 j (by omega), fun i hi => ?_⟩
      obtain ⟨j, h5, h6⟩ := (hk.2.2.1 i (by omega)).1 (hq.2 i (by omega))
      exact ⟨j, by omega, h6⟩
end Go.Proofs.Ytpanlghofeebhaa
end
section
/- The Brandt semigroup of order five; tables that are too large for a statement. -/
namespace Go.Proofs.Ytpanlghofeebhaa
open Go Go.AM
set_option maxRecDepth 100000
theorem brandt_k : fnK TY SP Try.f28 [] (rav [[0]] 2 2 [[0, -1], [-1, 0]] true) :=
  ⟨⟨⟨trivial, rfl⟩, rfl, rfl, ⟨trivial, rfl⟩, rfl, trivial⟩, trivial⟩
theorem brandt_fn : QF 28 [] (rav [[0]] 2 2 [[0, -1], [-1, 0]] true) := mkQ Try.func28 (by decide +kernel) rfl (Nat.le_of_ble_eq_true rfl) fun _ => brandt_k
theorem brandt_ok : Rees [[0]] 2 2 [[0, -1], [-1, 0]] true := by
  have hs : Sh [[0]] := ⟨by decide, by decide, fun r hr => by simp at hr; subst hr; exact ⟨rfl, fun x hx => by simp at hx; subst hx; decide⟩⟩
  have e0 : ∀ x y : Nat, x < 1 → y < 1 → en [[0]] x y = 0 := fun x y hx hy => by
    have : x = 0 := by omega
    have : y = 0 := by omega
    subst x; subst y; rfl
  refine ⟨⟨⟨hs, fun g hg x y hx hy => ?_⟩, 0, by decide, fun x hx => ?_, fun x hx => ⟨0, by decide, ?_⟩⟩, ⟨by decide, by decide, by decide, fun row hrow => ?_⟩, by decide⟩
  · have hg : g < 1 := hg
    have hx : x < 1 := hx
    have hy : y < 1 := hy
    rw [e0 x g hx hg, e0 g y hg hy, e0 0 y (by omega) hy, e0 x 0 hx (by omega)]
  · have hx : x < 1 := hx
    rw [e0 0 x (by omega) hx, e0 x 0 hx (by omega)]; omega
  · have hx : x < 1 := hx
    exact ⟨e0 x 0 hx (by omega), e0 0 x (by omega) hx⟩
  · simp at hrow
    rcases hrow with rfl | rfl
    · exact ⟨rfl, fun g hg => by simp at hg; rcases hg with rfl | rfl <;> decide⟩
    · exact ⟨rfl, fun g hg => by simp at hg; rcases hg with rfl | rfl <;> decide⟩
theorem brandt_reg : Reg 2 [[0, -1], [-1, 0]] := by
  refine ⟨fun j hj => ?_, fun i hi => ?_⟩
  · have hj : j < 2 := hj
    rcases Nat.lt_or_ge j 1 with h | h
    · have : j = 0 := by omega
      subst this; exact ⟨0, by decide, by decide⟩
    · have : j = 1 := by omega
      subst this; exact ⟨1, by decide, by decide⟩
  · rcases Nat.lt_or_ge i 1 with h | h
    · have : i = 0 := by omega
      subst this; exact ⟨0, by decide, by decide⟩
    · have : i = 1 := by omega
      subst this; exact ⟨1, by decide, by decide⟩
theorem awake_k : fnK TY SP Try.f7 [] (.bool (.lit true)) := by
  refine Or.inl (cq brandt_fn trivial ?_)
  refine Or.inl (cq (table_fn _ _ _ _ _ brandt_ok) (And.intro (by repeat' first | refine And.intro ?_ ?_ | exact True.intro | (show (_ : Int) = (_ : Int); omega) | omega | exact rfl | (simp only [RO.len]; omega)) trivial) ?_)
  refine And.intro (fun _ => ?_) (fun h => absurd rfl h)
  refine And.intro (fun _ => ?_) (fun h => absurd (show ((tabI [[0]] 2 [[0, -1], [-1, 0]] true 5).length : Int) = 5 by decide) h)
  refine Or.inl (cq brandt_fn trivial ?_)
  refine Or.inl (cq (reg_fn _ _ _ _ _ brandt_ok) (And.intro (by repeat' first | refine And.intro ?_ ?_ | exact True.intro | (show (_ : Int) = (_ : Int); omega) | omega | exact rfl | (simp only [RO.len]; omega)) trivial) ?_)
  refine And.intro (fun _ => ?_) (fun h => absurd (h.symm.trans (regB_true.2 brandt_reg)) (by decide))
  refine And.intro (by omega) ?_
  refine And.intro (by decide +kernel) ?_
  refine And.intro (fun _ => ?_) (fun h => absurd (show ((tabI [[0]] 2 [[0, -1], [-1, 0]] true 5).getD 1 []).getD 1 0 = 1 by decide +kernel) h)
  refine And.intro (by omega) ?_
  refine And.intro (by decide +kernel) ?_
  refine And.intro ?_ trivial
  show decide (((tabI [[0]] 2 [[0, -1], [-1, 0]] true 5).getD 1 []).getD 4 0 = 0) = true
  decide +kernel
theorem awake_fn : QF 7 [] (.bool (.lit true)) := mkQ Try.func7 (by decide +kernel) rfl (Nat.le_of_ble_eq_true rfl) fun _ => awake_k
end Go.Proofs.Ytpanlghofeebhaa
end
