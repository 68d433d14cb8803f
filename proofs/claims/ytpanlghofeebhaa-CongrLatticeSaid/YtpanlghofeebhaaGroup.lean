import Derived.Test.YtpanlghofeebhaaEqvLaw
section
/- Plain: a forest of parents, none above its child's number: roots, halving, union. -/
namespace Go.Proofs.Ytpanlghofeebhaa
structure Fo (n : Nat) (p : List Int) (r : Nat → Nat) : Prop where
  len : p.length = n
  le : ∀ i, i < n → 0 ≤ p.getD i 0 ∧ p.getD i 0 ≤ (i : Int)
  par : ∀ i, i < n → r (p.getD i 0).toNat = r i
  fix : ∀ i, i < n → p.getD i 0 = (i : Int) → r i = i
def halfL (p : List Int) (i : Nat) : List Int := p.set i (p.getD (p.getD i 0).toNat 0)
def fndL : Nat → List Int → Nat → List Int
  | 0, p, _ => p
  | f + 1, p, i => if p.getD i 0 = (i : Int) then p else fndL f (halfL p i) ((halfL p i).getD i 0).toNat
theorem Fo.rle {n : Nat} {p : List Int} {r : Nat → Nat} (h : Fo n p r) : ∀ m i, i < m → i < n → r i ≤ i := by
  intro m
  induction m with
  | zero => intro i hi; omega
  | succ m ih =>
    intro i hi hn
    by_cases e : p.getD i 0 = (i : Int)
    · rw [h.fix i hn e]; exact Nat.le_refl _
    · have := h.le i hn
      have h1 := ih (p.getD i 0).toNat (by omega) (by omega)
      rw [h.par i hn] at h1; omega
theorem Fo.root {n : Nat} {p : List Int} {r : Nat → Nat} (h : Fo n p r) : ∀ m i, i < m → i < n → p.getD (r i) 0 = (r i : Int) := by
  intro m
  induction m with
  | zero => intro i hi; omega
  | succ m ih =>
    intro i hi hn
    by_cases e : p.getD i 0 = (i : Int)
    · rw [h.fix i hn e]; exact e
    · have := h.le i hn
      have h1 := ih (p.getD i 0).toNat (by omega) (by omega)
      rwa [h.par i hn] at h1
theorem Fo.rlt {n : Nat} {p : List Int} {r : Nat → Nat} (h : Fo n p r) {i : Nat} (hi : i < n) : r i < n := Nat.lt_of_le_of_lt (h.rle (i + 1) i (by omega) hi) hi
theorem Fo.rr {n : Nat} {p : List Int} {r : Nat → Nat} (h : Fo n p r) {i : Nat} (hi : i < n) : r (r i) = r i := h.fix _ (h.rlt hi) (h.root (i + 1) i (by omega) hi)
theorem Fo.half {n : Nat} {p : List Int} {r : Nat → Nat} (h : Fo n p r) {i : Nat} (hi : i < n) : Fo n (halfL p i) r := by
  have h0 := h.le i hi
  have h1 := h.le (p.getD i 0).toNat (by omega)
  have hl := h.len
  have hg : ∀ k, (halfL p i).getD k 0 = if k = i then p.getD (p.getD i 0).toNat 0 else p.getD k 0 := fun k => by
    unfold halfL
    by_cases e : k = i
    · subst e; rw [getD_set_eq (by omega), if_pos rfl]
    · rw [getD_set_ne (Ne.symm e), if_neg e]
  refine ⟨by unfold halfL; rw [List.length_set]; exact h.len, fun k hk => ?_, fun k hk => ?_, fun k hk e => ?_⟩
  · rw [hg]
    by_cases e : k = i
    · subst e; rw [if_pos rfl]; omega
    · rw [if_neg e]; exact h.le k hk
  · rw [hg]
    by_cases e : k = i
    · subst e; rw [if_pos rfl, h.par _ (by omega), h.par _ hk]
    · rw [if_neg e]; exact h.par k hk
  · rw [hg] at e
    by_cases e1 : k = i
    · subst e1; rw [if_pos rfl] at e; exact h.fix k hk (by omega)
    · rw [if_neg e1] at e; exact h.fix k hk e
theorem fndL_fo {n : Nat} {r : Nat → Nat} : ∀ (f : Nat) {p : List Int} {i : Nat}, Fo n p r → i < n → Fo n (fndL f p i) r
  | 0, _, _, h, _ => h
  | f + 1, p, i, h, hi => by
    unfold fndL
    split
    · exact h
    · have := (h.half hi).le i hi
      exact fndL_fo f (h.half hi) (by omega)
theorem half_lt {n : Nat} {p : List Int} {r : Nat → Nat} (h : Fo n p r) {i : Nat} (hi : i < n) (e : p.getD i 0 ≠ (i : Int)) : ((halfL p i).getD i 0).toNat < i := by
  have h0 := h.le i hi
  have h1 := h.le (p.getD i 0).toNat (by omega)
  have hl := h.len
  unfold halfL
  rw [getD_set_eq (by omega)]; omega
theorem fndL_fuel {n : Nat} {r : Nat → Nat} : ∀ (f g : Nat) {p : List Int} {i : Nat}, Fo n p r → i < n → i < f → i < g → fndL f p i = fndL g p i
  | 0, _, _, _, _, _, hf, _ => by omega
  | _ + 1, 0, _, _, _, _, _, hg => by omega
  | f + 1, g + 1, p, i, h, hi, hf, hg => by
    unfold fndL
    split
    · rfl
    · rename_i e
      have := half_lt h hi e
      exact fndL_fuel f g (h.half hi) (by omega) (by omega) (by omega)
def ufR (r : Nat → Nat) (i j : Nat) : Nat → Nat := fun k => if r k = max (r i) (r j) then min (r i) (r j) else r k
def ufL (r : Nat → Nat) (p : List Int) (i j : Nat) : List Int := (fndL (j + 1) (fndL (i + 1) p i) j).set (max (r i) (r j)) ((min (r i) (r j) : Nat) : Int)
theorem Fo.union {n : Nat} {p : List Int} {r : Nat → Nat} (h : Fo n p r) {i j : Nat} (hi : i < n) (hj : j < n) : Fo n (ufL r p i j) (ufR r i j) := by
  have h2 := fndL_fo (j + 1) (fndL_fo (i + 1) h hi) hj
  unfold ufL
  revert h2
  generalize fndL (j + 1) (fndL (i + 1) p i) j = q
  intro h2
  have ri := h2.rlt hi
  have rj := h2.rlt hj
  have rri := h2.rr hi
  have rrj := h2.rr hj
  have hl := h2.len
  have hm : max (r i) (r j) < n := by omega
  have rm : r (max (r i) (r j)) = max (r i) (r j) := by
    rcases Nat.le_total (r i) (r j) with e | e
    · rw [Nat.max_eq_right e]; exact rrj
    · rw [Nat.max_eq_left e]; exact rri
  have rn : r (min (r i) (r j)) = min (r i) (r j) := by
    rcases Nat.le_total (r i) (r j) with e | e
    · rw [Nat.min_eq_left e]; exact rri
    · rw [Nat.min_eq_right e]; exact rrj
  have hle : min (r i) (r j) ≤ max (r i) (r j) := by omega
  generalize hM : max (r i) (r j) = M at *
  generalize hN : min (r i) (r j) = N at *
  have hg : ∀ k, (q.set M (N : Int)).getD k 0 = if k = M then (N : Int) else q.getD k 0 := fun k => by
    by_cases e : k = M
    · subst e; rw [getD_set_eq (by omega), if_pos rfl]
    · rw [getD_set_ne (Ne.symm e), if_neg e]
  have hu : ∀ k, ufR r i j k = if r k = M then N else r k := fun k => by unfold ufR; rw [hM, hN]
  refine ⟨by rw [List.length_set]; exact hl, fun k hk => ?_, fun k hk => ?_, fun k hk e => ?_⟩
  · rw [hg]
    by_cases e : k = M
    · rw [if_pos e]; omega
    · rw [if_neg e]; exact h2.le k hk
  · rw [hg, hu, hu]
    by_cases e : k = M
    · subst e
      rw [if_pos rfl, Int.toNat_natCast, rn, rm, if_pos rfl]
      split <;> rfl
    · rw [if_neg e, h2.par k hk]
  · rw [hg] at e
    rw [hu]
    by_cases e1 : k = M
    · subst e1
      rw [if_pos rfl] at e
      rw [rm, if_pos rfl]; omega
    · rw [if_neg e1] at e
      have := h2.fix k hk e
      rw [this, if_neg e1]
def KerR (n : Nat) (r : Nat → Nat) (R : Nat → Nat → Prop) : Prop := ∀ a b, a < n → b < n → (r a = r b ↔ Eg R a b)
theorem KerR.union {n : Nat} {r : Nat → Nat} {R : Nat → Nat → Prop} (h : KerR n r R) {i j : Nat} (hi : i < n) (hj : j < n) : KerR n (ufR r i j) (orP R i j) := fun a b ha hb => by
  rw [eg_or, ← h a b ha hb, ← h a i ha hi, ← h j b hj hb, ← h a j ha hj, ← h i b hi hb]
  unfold ufR
  have m1 : max (r i) (r j) = r i ∧ min (r i) (r j) = r j ∨ max (r i) (r j) = r j ∧ min (r i) (r j) = r i := by omega
  generalize r a = x; generalize r b = y
  revert m1
  generalize r i = u; generalize r j = v; generalize max u v = M; generalize min u v = N
  intro m1
  split <;> split <;> omega
theorem Fo.dis (n : Nat) : Fo n (disI n) id :=
  ⟨disI_len n, fun i hi => by rw [disI_get hi]; omega, fun i hi => by rw [disI_get hi]; simp, fun i _ _ => rfl⟩
theorem KerR.dis (n : Nat) : KerR n id fun _ _ => False := fun a b _ _ =>
  ⟨fun e => by have e : a = b := e; subst e; exact .refl _, fun e => e.least (Q := fun a b => id a = id b) (fun _ => rfl) (fun _ _ e => e.symm) (fun _ _ _ e f => e.trans f) fun _ _ f => f.elim⟩
def fndA (p : List Int) : Nat → List Int
  | 0 => p
  | k + 1 => fndL (k + 1) (fndA p k) k
theorem fndA_fo {n : Nat} {p : List Int} {r : Nat → Nat} (h : Fo n p r) : ∀ k, k ≤ n → Fo n (fndA p k) r
  | 0, _ => h
  | k + 1, hk => fndL_fo (k + 1) (fndA_fo h k (by omega)) hk
def rtL (n : Nat) (r : Nat → Nat) : List Int := (List.range n).map fun i => (r i : Int)
theorem rtL_len (n : Nat) (r : Nat → Nat) : (rtL n r).length = n := by simp [rtL]
theorem rtL_get {n : Nat} {r : Nat → Nat} {i : Nat} (h : i < n) : (rtL n r).getD i 0 = (r i : Int) := by simp [rtL, List.getD, h]
theorem KerR.ker {n : Nat} {r : Nat → Nat} {R : Nat → Nat → Prop} (h : KerR n r R) : KerOf n (rtL n r) R :=
  ⟨rtL_len n r, fun a b ha hb => by rw [rtL_get ha, rtL_get hb, ← h a b ha hb]; omega⟩
end Go.Proofs.Ytpanlghofeebhaa
end
section
/- Package mult: its contracts. -/
namespace Go.Proofs.Ytpanlghofeebhaa
open Go Go.AM
set_option maxRecDepth 100000
theorem shape_bad {t : List (List Int)} (h : ¬ 400 < (t.length : Int)) (k : Nat) (hk : k < t.length) (hb : ¬ rowOk t.length (t.getD k [])) : 4 = shapeV t := by
  unfold shapeV
  rw [if_neg (by omega), if_neg (by omega), if_neg]
  intro hall
  exact hb (hall _ (by simp [List.getD, hk]))
theorem shape_k (t : List (List Int)) : fnK TY SP Try.f87 [.ro (.rows .i64 t)] (.int .i64 (shapeV t)) := by
  refine And.intro (fun h => ?_) (fun h => ?_)
  · refine And.intro (show (3 : Int) = shapeV t from ?_) trivial
    unfold shapeV; rw [if_pos (by omega)]
  refine And.intro (fun h1 => ?_) (fun h1 => ?_)
  · refine And.intro (show (4 : Int) = shapeV t from ?_) trivial
    unfold shapeV; rw [if_neg (by omega), if_pos (by omega)]
  refine Exists.intro [] <| lp (X := Nat) (fun k => [(15, .int .i64 k)]) (fun _ => []) (fun k => k ≤ t.length ∧ ∀ j, j < k → rowOk t.length (t.getD j [])) (fun k => t.length - k) 0 ⟨Nat.zero_le _, by simp⟩ ⟨⟨rfl, trivial⟩, trivial⟩ fun k hk => ?_
  refine And.intro (fun h2 => ?_) (fun h2 => ?_)
  · refine And.intro ⟨by omega, by omega⟩ ?_
    refine And.intro (fun h3 => ?_) (fun h3 => ?_)
    · refine And.intro (show (4 : Int) = shapeV t from ?_) trivial
      exact shape_bad (by omega) k (by omega) (fun hr => h3 (by have := hr.1; simp only [Int.toNat_natCast]; exact_mod_cast this))
    · simp only [Int.toNat_natCast] at h3
      refine Exists.intro [] <| lp (X := Nat) (fun i => [(26, .int .i64 i)]) (fun _ => []) (fun i => i ≤ t.length ∧ ∀ j, j < i → 0 ≤ (t.getD k []).getD j 0 ∧ (t.getD k []).getD j 0 < t.length) (fun i => t.length - i) 0 ⟨Nat.zero_le _, by simp⟩ ⟨⟨rfl, trivial⟩, trivial⟩ fun i hi => ?_
      refine And.intro (fun h4 => ?_) (fun h4 => ?_)
      · simp only [Int.toNat_natCast] at h4
        refine And.intro ⟨by omega, by simp only [Int.toNat_natCast]; omega⟩ ?_
        have hm : (t.getD k []).getD i 0 ∈ t.getD k [] := getD_mem (by omega)
        refine And.intro (fun h5 => ?_) (fun h5 => ?_)
        · refine And.intro (show (4 : Int) = shapeV t from ?_) trivial
          refine shape_bad (by omega) k (by omega) (fun hr => ?_)
          have h6 := hr.2 _ hm
          simp only [Int.toNat_natCast] at h5
          omega
        · refine And.intro (fun h6 => ?_) (fun h6 => ?_)
          · refine And.intro (show (4 : Int) = shapeV t from ?_) trivial
            refine shape_bad (by omega) k (by omega) (fun hr => ?_)
            have h7 := hr.2 _ hm
            simp only [Int.toNat_natCast] at h6
            omega
          · refine And.intro ⟨by omega, by omega⟩ ?_
            refine nx (i + 1) ⟨by omega, fun j hj => ?_⟩ (show t.length - (i + 1) < t.length - i by omega) ⟨⟨rfl, trivial⟩, trivial⟩
            by_cases hji : j < i
            · exact hi.2 j hji
            · have : j = i := by omega
              subst this
              exact ⟨h5, h6⟩
      · simp only [Int.toNat_natCast] at h4
        refine And.intro ⟨by omega, by omega⟩ ?_
        refine nx (k + 1) ⟨by omega, fun j hj => ?_⟩ (show t.length - (k + 1) < t.length - k by omega) ⟨⟨rfl, trivial⟩, trivial⟩
        by_cases hjk : j < k
        · exact hk.2 j hjk
        · have : j = k := by omega
          subst this
          refine ⟨by omega, fun x hx => ?_⟩
          obtain ⟨q, hq, rfl⟩ := mem_getD 0 hx
          exact hi.2 q (by omega)
  · refine And.intro (show (0 : Int) = shapeV t from ?_) trivial
    unfold shapeV
    rw [if_neg (by omega), if_neg (by omega), if_pos]
    intro r hr
    obtain ⟨j, hj, rfl⟩ := mem_getD [] hr
    exact hk.2 j (by omega)
theorem shape_fn (t : List (List Int)) : QF 87 [.ro (.rows .i64 t)] (.int .i64 (shapeV t)) := mkQ Try.func87 (by decide +kernel) rfl (Nat.le_of_ble_eq_true rfl) fun _ => shape_k t
theorem light_no {t : List (List Int)} (_hs : Sh t) {gens : List Int} (_hg : ∀ g ∈ gens, 0 ≤ g ∧ g < t.length) {k x y : Nat} (hk : k < gens.length) (hx : x < t.length) (hy : y < t.length)
    (h : en t (en t x (gens.getD k 0).toNat) y ≠ en t x (en t (gens.getD k 0).toNat y)) : false = lightB t gens := by
  symm
  rw [lightB_false]
  intro hall
  exact h (hall _ (getD_mem hk) x y hx hy)
theorem associates_k (t : List (List Int)) (gens : List Int) (hs : Sh t) (hg : ∀ g ∈ gens, 0 ≤ g ∧ g < t.length) (hgl : gens.length ≤ 140737488355328) :
    fnK TY SP Try.f88 [.ro (.rows .i64 t), .ro (.ints .i64 gens)] (.bool (.v (lightB t gens))) := by
  have hpos := hs.pos
  have hmost := hs.most
  refine And.intro (by omega) ?_
  refine And.intro (by omega) ?_
  refine Exists.intro [] <| lp2 (fun k (tr : List Bool) => [(18, .int .i64 (k : Nat))]) (fun k tr => [(15, .vec 0 (.bools tr) [])]) (fun k tr => k ≤ gens.length ∧ tr.length = t.length ∧ (∀ j, j < k → Lt t (gens.getD j 0).toNat) ∧ ∀ g, tr.getD g false = true → Lt t g) (fun k tr => gens.length - k) 0 (List.replicate t.length false) ?_ ⟨⟨rfl, trivial⟩, ⟨⟨by omega, by simp⟩, rfl⟩, trivial⟩ ?_
  · exact ⟨Nat.zero_le _, by simp, by simp, fun g h => by simp [List.getD, List.getElem?_replicate] at h; split at h <;> simp at h⟩
  rintro k tr ⟨hk, htr, hL, hT⟩
  refine And.intro (fun h1 => ?_) (fun h1 => ?_)
  · refine And.intro (by omega) ?_
    have hkl : k < gens.length := by omega
    have g1 : 0 ≤ gens.getD (k : Int).toNat 0 ∧ gens.getD (k : Int).toNat 0 < t.length := hg _ (getD_mem (by simp; omega))
    have g2 : (gens.getD (k : Int).toNat 0).toNat < t.length := by omega
    refine And.intro (by omega) ?_
    refine And.intro (fun h2 => ?_) (fun h2 => ?_)
    · refine And.intro (by omega) ?_
      refine nx (k + 1, tr) ⟨by omega, htr, fun j hj => ?_, hT⟩ (show gens.length - (k + 1) < gens.length - k by omega) ⟨⟨rfl, trivial⟩, ⟨⟨by omega, by omega⟩, rfl⟩, trivial⟩
      by_cases hjk : j < k
      · exact hL j hjk
      · obtain rfl : j = k := by omega
        exact hT _ (by simpa using h2)
    · refine And.intro (by omega) ?_
      refine And.intro (by omega) ?_
      refine Exists.intro [] <| lp (X := Nat) (fun x => [(31, .int .i64 x)]) (fun _ => []) (fun x => x ≤ t.length ∧ ∀ x' y, x' < x → y < t.length → en t (en t x' (gens.getD (k : Int).toNat 0).toNat) y = en t x' (en t (gens.getD (k : Int).toNat 0).toNat y)) (fun x => t.length - x) 0 ⟨Nat.zero_le _, by omega⟩ ⟨⟨rfl, trivial⟩, ⟨⟨by omega, by simp⟩, rfl⟩, trivial⟩ ?_
      rintro x ⟨hx, hX⟩
      refine And.intro (fun h3 => ?_) (fun h3 => ?_)
      · have hxl : x < t.length := by omega
        have hrl := hs.len hxl
        have a1 := hs.ent hxl g2
        refine And.intro (by omega) ?_
        refine And.intro (by simp only [Int.toNat_natCast] at *; omega) ?_
        refine And.intro (by simp only [Int.toNat_natCast] at *; omega) ?_
        refine And.intro (by omega) ?_
        refine Exists.intro [] <| lp (X := Nat) (fun y => [(47, .int .i64 y)]) (fun _ => []) (fun y => y ≤ t.length ∧ ∀ y', y' < y → en t (en t x (gens.getD (k : Int).toNat 0).toNat) y' = en t x (en t (gens.getD (k : Int).toNat 0).toNat y')) (fun y => t.length - y) 0 ⟨Nat.zero_le _, by omega⟩ ⟨⟨rfl, trivial⟩, ⟨⟨by omega, by simp⟩, rfl⟩, trivial⟩ ?_
        rintro y ⟨hy, hY⟩
        have hgl2 := hs.len g2
        refine And.intro (fun h4 => ?_) (fun h4 => ?_)
        · have hyl : y < t.length := by omega
          have b1 := hs.ent g2 hyl
          have b2 := hs.ent a1.2 hyl
          have b3 := hs.ent hxl b1.2
          have hll := hs.len a1.2
          refine And.intro (by omega) ?_
          refine Or.inl <| Exists.intro [false, false, false, false, false, false, false, false, false] (And.intro (by decide +kernel) ?_)
          refine And.intro (show 0 ≤ (y : Int) ∧ (y : Int) < ((t.getD (en t x (gens.getD (k : Int).toNat 0).toNat) []).length : Int) by omega) ?_
          refine And.intro (by simp only [Int.toNat_natCast] at *; omega) ?_
          refine And.intro (fun h5 => ?_) (fun h5 => ?_)
          · refine And.intro (light_no hs hg hkl hxl hyl fun he => h5 ?_) trivial
            show (t.getD (en t x (gens.getD (k : Int).toNat 0).toNat) []).getD y 0 = (t.getD x []).getD (en t (gens.getD (k : Int).toNat 0).toNat y) 0
            rw [b2.1, b3.1]
            exact congrArg _ he
          · refine And.intro (by omega) ?_
            refine nx (y + 1) ⟨by omega, fun y' hy' => ?_⟩ (show t.length - (y + 1) < t.length - y by omega) ⟨⟨rfl, trivial⟩, ⟨⟨by omega, by omega⟩, rfl⟩, trivial⟩
            by_cases hyy : y' < y
            · exact hY y' hyy
            · obtain rfl : y' = y := by omega
              have h5 : (t.getD (en t x (gens.getD (k : Int).toNat 0).toNat) []).getD y' 0 = (t.getD x []).getD (en t (gens.getD (k : Int).toNat 0).toNat y') 0 := h5
              rw [b2.1, b3.1] at h5
              exact_mod_cast h5
        · refine And.intro (by omega) ?_
          refine nx (x + 1) ⟨by omega, fun x' y hx' hy => ?_⟩ (show t.length - (x + 1) < t.length - x by omega) ⟨⟨rfl, trivial⟩, ⟨⟨by omega, by simp⟩, rfl⟩, trivial⟩
          by_cases hxx : x' < x
          · exact hX x' y hxx hy
          · obtain rfl : x' = x := by omega
            exact hY y (by omega)
      · refine And.intro (by omega) ?_
        refine nx (k + 1, tr.set (gens.getD (k : Int).toNat 0).toNat true) ⟨by omega, by simp [htr], fun j hj => ?_, fun g hgt => ?_⟩ (show gens.length - (k + 1) < gens.length - k by omega) ⟨⟨rfl, trivial⟩, ⟨⟨by omega, by omega⟩, rfl⟩, trivial⟩
        · by_cases hjk : j < k
          · exact hL j hjk
          · obtain rfl : j = k := by omega
            intro x' y' hx' hy'
            exact hX x' y' (by omega) hy'
        · by_cases hge : g = (gens.getD (k : Int).toNat 0).toNat
          · subst hge
            intro x' y' hx' hy'
            exact hX x' y' (by omega) hy'
          · refine hT g ?_
            rwa [getD_set_ne (Ne.symm hge)] at hgt
  · refine And.intro ?_ trivial
    show true = lightB t gens
    symm
    rw [lightB_true]
    intro g hgm
    obtain ⟨j, hj, rfl⟩ := mem_getD 0 hgm
    exact hL j (by omega)
theorem associates_fn (t : List (List Int)) (gens : List Int) (hs : Sh t) (hg : ∀ g ∈ gens, 0 ≤ g ∧ g < t.length) :
    QF 88 [.ro (.rows .i64 t), .ro (.ints .i64 gens)] (.bool (.v (lightB t gens))) :=
  mkQ Try.func88 (by decide +kernel) rfl (Nat.le_of_ble_eq_true rfl) fun hf => associates_k t gens hs hg hf.2.1.1
def addMade (inn : List Bool) (made : List Int) (x : Nat) : List Int := if inn.getD x false = true then made else made ++ [(x : Int)]
theorem add_k (x : Nat) (inn : List Bool) (made : List Int) (wm : Nat) (hx : x < inn.length) (hm : made.length < 100000) (hw : wm ≤ made.length) :
    fnMK TY SP Try.f128 [.int .i64 x, .ptr 1000 0, .ptr 1001 0] [(1000, .box [.vec 1002]), (1002, .vec 0 (.bools inn) []), (1001, .box [.vec 501]), (501, .vec wm (.ints .i64 made) [])] (.tup [])
      [(1000, .box [.vec 1002]), (1002, .vec 0 (.bools (inn.set x true)) []), (1001, .box [.vec 501]), (501, .vec wm (.ints .i64 (addMade inn made x)) [])] := by
  refine And.intro (by omega) ?_
  refine And.intro (fun h1 => ?_) (fun h1 => ?_)
  · have h1 : inn.getD x false = false := by simpa using h1
    refine And.intro (by omega) ?_
    refine And.intro (by omega) ?_
    refine And.intro (by simp; omega) ?_
    have e : addMade inn made x = made ++ [(x : Int)] := by unfold addMade; rw [h1]; rfl
    rw [e]
    refine And.intro ⟨⟨⟨rfl, trivial, trivial⟩, trivial⟩, ⟨⟨by omega, by simp [RO.len]⟩, rfl⟩, ⟨⟨rfl, trivial, trivial⟩, trivial⟩, ⟨⟨by omega, by simp [RO.len]; omega⟩, rfl⟩, trivial⟩ trivial
  · have h1 : inn.getD x false = true := by simpa using h1
    have e : addMade inn made x = made := by unfold addMade; rw [h1]; rfl
    have e2 : inn.set x true = inn := by
      refine List.ext_getElem? fun i => ?_
      rw [List.getElem?_set]
      split
      · rename_i hi; subst hi
        simp [hx]
        rw [getD_eq hx] at h1
        exact h1
      · rfl
    rw [e, e2]
    refine And.intro ⟨⟨⟨rfl, trivial, trivial⟩, trivial⟩, ⟨⟨by omega, by simp [RO.len]⟩, rfl⟩, ⟨⟨rfl, trivial, trivial⟩, trivial⟩, ⟨⟨by omega, by simp [RO.len]; omega⟩, rfl⟩, trivial⟩ trivial
theorem add_fn (x : Nat) (inn : List Bool) (made : List Int) (wm : Nat) (hx : x < inn.length) (hm : made.length < 100000) (hw : wm ≤ made.length) :
    MF 128 [.int .i64 x, .ptr 1000 0, .ptr 1001 0] [(1000, .box [.vec 1002]), (1002, .vec 0 (.bools inn) []), (1001, .box [.vec 501]), (501, .vec wm (.ints .i64 made) [])] (.tup [])
      [(1000, .box [.vec 1002]), (1002, .vec 0 (.bools (inn.set x true)) []), (1001, .box [.vec 501]), (501, .vec wm (.ints .i64 (addMade inn made x)) [])] :=
  mkM Try.func128 (by decide +kernel) rfl (Nat.le_of_ble_eq_true rfl) fun _ => add_k x inn made wm hx hm hw
structure Mkd (t : List (List Int)) (gens : List Int) (inn : List Bool) (made : List Int) : Prop where
  len : inn.length = t.length
  cnt : inn.count true = made.length
  mem : ∀ x, x < t.length → (inn.getD x false = true ↔ (x : Int) ∈ made)
  el : ∀ x ∈ made, 0 ≤ x ∧ x < t.length
  mkd : ∀ x ∈ made, Mk t gens x.toNat
theorem Mkd.le {t : List (List Int)} {gens : List Int} {inn : List Bool} {made : List Int} (h : Mkd t gens inn made) : made.length ≤ t.length := by
  rw [← h.cnt, ← h.len]; exact List.count_le_length
theorem Mkd.add {t : List (List Int)} {gens : List Int} {inn : List Bool} {made : List Int} (h : Mkd t gens inn made) {x : Nat} (hx : x < t.length) (hm : Mk t gens x) :
    Mkd t gens (inn.set x true) (addMade inn made x) ∧ (∀ y ∈ made, y ∈ addMade inn made x) ∧ (x : Int) ∈ addMade inn made x ∧ made.length ≤ (addMade inn made x).length := by
  have hxi : x < inn.length := by rw [h.len]; exact hx
  cases hb : inn.getD x false with
  | true =>
    have e : addMade inn made x = made := by unfold addMade; rw [hb]; rfl
    have e2 : inn.set x true = inn := by
      refine List.ext_getElem? fun i => ?_
      rw [List.getElem?_set]
      split
      · rename_i hi; subst hi
        simp [hxi]
        rw [getD_eq hxi] at hb
        exact hb
      · rfl
    rw [e, e2]
    exact ⟨h, fun _ h => h, (h.mem x hx).1 hb, Nat.le_refl _⟩
  | false =>
    have e : addMade inn made x = made ++ [(x : Int)] := by unfold addMade; rw [hb]; rfl
    rw [e]
    refine ⟨⟨by simp [h.len], ?_, fun y hy => ?_, fun y hy => ?_, fun y hy => ?_⟩, fun y hy => by simp [hy], by simp, by simp⟩
    · rw [List.count_set hxi]
      rw [getD_eq hxi] at hb
      simp [hb, h.cnt]
    · by_cases hyx : y = x
      · subst hyx; rw [getD_set_eq hxi]; simp
      · rw [getD_set_ne (Ne.symm hyx), h.mem y hy]
        simp; omega
    · rcases List.mem_append.1 hy with hy | hy
      · exact h.el y hy
      · simp at hy; omega
    · rcases List.mem_append.1 hy with hy | hy
      · exact h.mkd y hy
      · simp at hy; subst hy; simpa using hm
theorem Mkd.mono {t : List (List Int)} {g g' : List Int} {inn : List Bool} {made : List Int} (h : Mkd t g inn made) (hs : ∀ x ∈ g, x ∈ g') : Mkd t g' inn made :=
  ⟨h.len, h.cnt, h.mem, h.el, fun x hx => (h.mkd x hx).mono hs⟩
theorem Mkd.get {t : List (List Int)} {gens : List Int} {inn : List Bool} {made : List Int} (h : Mkd t gens inn made) {j : Nat} (hj : j < made.length) : made.getD j 0 = ((made.getD j 0).toNat : Int) ∧ (made.getD j 0).toNat < t.length ∧ Mk t gens (made.getD j 0).toNat := by
  have hm : made.getD j 0 ∈ made := getD_mem hj
  have h1 := h.el _ hm
  exact ⟨by omega, by omega, h.mkd _ hm⟩
theorem take_getD {α : Type} {l : List α} {n i : Nat} {d : α} (h : i < n) : ((l.take n).drop 0).getD i d = l.getD i d := by
  simp [List.getD, h]
set_option maxHeartbeats 1000000 in
theorem spanning_k (t : List (List Int)) (hs : Sh t) :
    fnEK TY SP Try.f89 [.ro (.rows .i64 t)] (fun g : List Int => .ro (.ints .i64 g)) (fun g => Spans t g) := by
  have hpos := hs.pos
  have hmost := hs.most
  refine And.intro (by omega) ?_
  refine And.intro (by omega) ?_
  refine Exists.intro [] <| lp4 (fun (k : Nat) (gens : List Int) (inn : List Bool) (made : List Int) => [(18, .int .i64 k), (3, .vec 28), (7, .int .i64 made.length)])
    (fun k gens inn made => [(28, .vec 0 (.ints .i64 gens) []), (14, .vec 0 (.bools inn) []), (40, .vec made.length (.ints .i64 made) []), (4, .box [.vec 40])])
    (fun k gens inn made => k ≤ t.length ∧ gens.length ≤ k ∧ (∀ g ∈ gens, 0 ≤ g ∧ g < t.length) ∧ Mkd t gens inn made ∧ ∀ x, x < k → (x : Int) ∈ made) (fun k _ _ _ => t.length - k) 0 [] (List.replicate t.length false) [] ?_ ?_ ?_
  · refine ⟨Nat.zero_le _, Nat.le_refl _, by simp, ⟨by simp, by simp [List.count_replicate], fun x _ => ?_, by simp, by simp⟩, by simp⟩
    simp [List.getD, List.getElem?_replicate]
    split <;> simp
  · repeat' first | exact True.intro | omega | refine And.intro ?_ ?_ | exact rfl | simp [RO.len]
  rintro k gens inn made ⟨hk, hgk, hg, hM, hall⟩
  have hml := hM.le
  have hil := hM.len
  refine And.intro (fun h1 => ?_) (fun h1 => ?_)
  · refine And.intro (by omega) ?_
    refine And.intro (fun h2 => ?_) (fun h2 => ?_)
    · refine And.intro (by omega) ?_
      refine nx (k + 1, gens, inn, made) ⟨by omega, by omega, hg, hM, fun x hx => ?_⟩ (show t.length - (k + 1) < t.length - k by omega) ?_
      · by_cases hxk : x < k
        · exact hall x hxk
        · obtain rfl : x = k := by omega
          exact (hM.mem x (by omega)).1 (by simpa using h2)
      · repeat' first | refine And.intro ?_ ?_ | exact True.intro | (show (_ : Int) = (_ : Int); omega) | omega | exact rfl | (simp only [RO.len]; omega)
    · refine And.intro (by simp; omega) ?_
      have hg' : ∀ g ∈ gens ++ [(k : Int)], 0 ≤ g ∧ g < t.length := fun g hgm => by
        rcases List.mem_append.1 hgm with h | h
        · exact hg g h
        · simp at h; omega
      have hM0 := hM.mono (g' := gens ++ [(k : Int)]) (fun x hx => by simp [hx])
      obtain ⟨hM1, hsub1, hin1, hle1⟩ := hM0.add (x := k) (by omega) (by have := Mk.gen (t := t) (gens := gens ++ [(k : Int)]) (g := k) (by simp); simpa using this)
      refine Or.inr (cm [] [(1000, 5), (1001, 4), (1002, 14), (501, 40)] (add_fn k inn made made.length (by omega) (by omega) (Nat.le_refl _)) ?_)
      refine And.intro (by repeat' first | refine And.intro ?_ ?_ | exact True.intro | (show (_ : Int) = (_ : Int); omega) | omega | exact rfl | (simp only [RO.len]; omega)) ?_
      refine Exists.intro [] <| lp3 (fun (mu : Nat) (inn : List Bool) (made : List Int) => [(7, .int .i64 mu)])
        (fun mu inn made => [(14, .vec 0 (.bools inn) []), (40, .vec mu (.ints .i64 made) []), (4, .box [.vec 40])])
        (fun mu inn made => mu ≤ made.length ∧ Mkd t (gens ++ [(k : Int)]) inn made ∧ ∀ x, x < k + 1 → (x : Int) ∈ made) (fun mu _ _ => t.length - mu) made.length (inn.set k true) (addMade inn made k) ?_ ?_ ?_
      · refine ⟨hle1, hM1, fun x hx => ?_⟩
        by_cases hxk : x < k
        · exact hsub1 _ (hall x hxk)
        · obtain rfl : x = k := by omega
          exact hin1
      · repeat' first | refine And.intro ?_ ?_ | exact True.intro | (show (_ : Int) = (_ : Int); omega) | omega | exact rfl | (simp only [RO.len]; omega)
      clear hM1 hsub1 hin1 hle1 hM0
      rintro mu inn made ⟨hmu, hM, hall⟩
      have hml := hM.le
      have hil := hM.len
      refine And.intro (fun h3 => ?_) (fun h3 => ?_)
      · have hX := hM.get (j := (mu : Int).toNat) (by omega)
        refine And.intro (by omega) ?_
        refine And.intro (by omega) ?_
        refine And.intro (by omega) ?_
        refine Or.inl ?_
        refine Exists.intro [33, 38, 40, 42] <| lp3 (fun (j : Nat) (inn : List Bool) (made2 : List Int) => [(47, .int .i64 j)])
          (fun j inn made2 => [(14, .vec 0 (.bools inn) []), (40, .vec (mu + 1) (.ints .i64 made2) []), (4, .box [.vec 40])])
          (fun j inn made2 => j ≤ mu + 1 ∧ Mkd t (gens ++ [(k : Int)]) inn made2 ∧ made.length ≤ made2.length ∧ ∀ y ∈ made, y ∈ made2) (fun j _ _ => mu + 1 - j) 0 inn made ⟨Nat.zero_le _, hM, Nat.le_refl _, fun _ h => h⟩ ?_ ?_
        · repeat' first | refine And.intro ?_ ?_ | exact True.intro | (show (_ : Int) = (_ : Int); omega) | omega | exact rfl | (simp only [RO.len]; omega)
        rintro j inn2 made2 ⟨hj, hM2, hle2, hsub2⟩
        have hml2 := hM2.le
        have hil2 := hM2.len
        have hlen : ((made.take ((mu : Int) + 1).toNat).drop 0).length = mu + 1 := by simp; omega
        refine And.intro (fun h4 => ?_) (fun h4 => ?_)
        · have hY := hM.get (j := (j : Int).toNat) (by omega)
          have hY' : ((made.take ((mu : Int) + 1).toNat).drop 0).getD (j : Int).toNat 0 = made.getD (j : Int).toNat 0 := take_getD (by omega)
          have e1 := hs.ent hX.2.1 hY.2.1
          have e2 := hs.ent hY.2.1 hX.2.1
          have l1 := hs.len hX.2.1
          have l2 := hs.len hY.2.1
          have A := hM2.add e1.2 (.mul hX.2.2 hY.2.2)
          have B := A.1.add e2.2 (.mul hY.2.2 hX.2.2)
          have la := A.1.le
          have lb := B.1.le
          have ia := A.1.len
          have hle3 := A.2.2.2
          have hE1 : (t.getD (made.getD (mu : Int).toNat 0).toNat []).getD (((made.take ((mu : Int) + 1).toNat).drop 0).getD (j : Int).toNat 0).toNat 0 = (en t (made.getD (mu : Int).toNat 0).toNat (made.getD (j : Int).toNat 0).toNat : Int) := by rw [hY']; exact e1.1
          have hE2 : (t.getD (((made.take ((mu : Int) + 1).toNat).drop 0).getD (j : Int).toNat 0).toNat []).getD (made.getD (mu : Int).toNat 0).toNat 0 = (en t (made.getD (j : Int).toNat 0).toNat (made.getD (mu : Int).toNat 0).toNat : Int) := by rw [hY']; exact e2.1
          refine And.intro (by omega) ?_
          refine And.intro (by omega) ?_
          refine And.intro (by rw [hY']; omega) ?_
          refine Or.inr (cm [] [(1000, 5), (1001, 4), (1002, 14), (501, 40)] (add_fn (en t (made.getD (mu : Int).toNat 0).toNat (made.getD (j : Int).toNat 0).toNat) inn2 made2 (mu + 1) (by omega) (by omega) (by omega)) ?_)
          refine And.intro (And.intro (by repeat' first | refine And.intro ?_ ?_ | exact True.intro | (show (_ : Int) = (_ : Int); omega) | omega | exact rfl | (simp only [RO.len]; omega)) (And.intro hE1 (And.intro ⟨rfl, rfl, trivial, trivial⟩ (And.intro ⟨rfl, rfl, trivial, trivial⟩ trivial)))) ?_
          refine And.intro (by omega) ?_
          refine And.intro (by rw [hY']; omega) ?_
          refine Or.inr (cm [] [(1000, 5), (1001, 4), (1002, 14), (501, 40)] (add_fn (en t (made.getD (j : Int).toNat 0).toNat (made.getD (mu : Int).toNat 0).toNat) (inn2.set (en t (made.getD (mu : Int).toNat 0).toNat (made.getD (j : Int).toNat 0).toNat) true) (addMade inn2 made2 (en t (made.getD (mu : Int).toNat 0).toNat (made.getD (j : Int).toNat 0).toNat)) (mu + 1) (by rw [ia]; exact e2.2) (by omega) (by omega)) ?_)
          refine And.intro (And.intro (by repeat' first | refine And.intro ?_ ?_ | exact True.intro | (show (_ : Int) = (_ : Int); omega) | omega | exact rfl | (simp only [RO.len]; omega)) (And.intro hE2 (And.intro ⟨rfl, rfl, trivial, trivial⟩ (And.intro ⟨rfl, rfl, trivial, trivial⟩ trivial)))) ?_
          refine And.intro (by omega) ?_
          refine nx (j + 1, _, _) ⟨by omega, B.1, by omega, fun y hy => B.2.1 _ (A.2.1 _ (hsub2 y hy))⟩ (show mu + 1 - (j + 1) < mu + 1 - j by omega) ?_
          repeat' first | refine And.intro ?_ ?_ | exact True.intro | (show (_ : Int) = (_ : Int); omega) | omega | exact rfl | (simp only [RO.len]; omega)
        · refine And.intro (by omega) ?_
          refine nx (mu + 1, inn2, made2) ⟨by omega, hM2, fun x hx => hsub2 _ (hall x hx)⟩ (show t.length - (mu + 1) < t.length - mu by omega) ?_
          repeat' first | refine And.intro ?_ ?_ | exact True.intro | (show (_ : Int) = (_ : Int); omega) | omega | exact rfl | (simp only [RO.len]; omega)
      · refine And.intro (by omega) ?_
        refine nx (k + 1, gens ++ [(k : Int)], inn, made) ⟨by omega, by simp; omega, hg', hM, hall⟩ (show t.length - (k + 1) < t.length - k by omega) ?_
        repeat' first | refine And.intro ?_ ?_ | exact True.intro | (show (_ : Int) = (_ : Int); omega) | omega | exact rfl | (simp only [RO.len]; omega)
  · refine Exists.intro gens (And.intro ⟨hg, fun x hx => ?_⟩ ?_)
    · have := hM.mkd _ (hall x (by omega)); simpa using this
    · repeat' first | refine And.intro ?_ ?_ | exact True.intro | (show (_ : Int) = (_ : Int); omega) | omega | exact rfl | (simp only [RO.len]; omega)
theorem spanning_fn (t : List (List Int)) (hs : Sh t) : EF 89 [.ro (.rows .i64 t)] (fun g : List Int => .ro (.ints .i64 g)) (fun g => Spans t g) :=
  mkE Try.func89 (by decide +kernel) rfl (Nat.le_of_ble_eq_true rfl) fun _ => spanning_k t hs
theorem valid_fn (t : List (List Int)) : QF 46 [.ro (.rows .i64 t)] (.int .i64 (validV t)) := mkQ Try.func46 (by decide +kernel) rfl (Nat.le_of_ble_eq_true rfl) fun _ => by
  refine Or.inl (cq (shape_fn t) (And.intro rfl trivial) ?_)
  refine And.intro (fun h1 => ?_) (fun h1 => ?_)
  · refine And.intro (show shapeV t = validV t from ?_) trivial
    unfold validV; rw [if_pos h1]
  · have hs := shape_zero.1 h1
    refine Or.inr (Or.inr (ce (spanning_fn t hs) (And.intro rfl trivial) fun g hg => ?_))
    refine Or.inl (cq (associates_fn t g hs hg.el) (And.intro rfl (And.intro rfl trivial)) ?_)
    have e := light_assoc hs hg
    refine And.intro (fun h2 => ?_) (fun h2 => ?_)
    · refine And.intro (show (5 : Int) = validV t from ?_) trivial
      unfold validV
      rw [if_neg (by omega), if_neg]
      intro ha
      rw [e.2 ha] at h2
      cases h2
    · refine And.intro (show (0 : Int) = validV t from ?_) trivial
      unfold validV
      rw [if_neg (by omega), if_pos]
      refine e.1 ?_
      revert h2
      cases lightB t g <;> simp
end Go.Proofs.Ytpanlghofeebhaa
end
section
/- Tables and groups, of the program and of the reference: their contracts. -/
namespace Go.Proofs.Ytpanlghofeebhaa
open Go Go.AM
set_option maxRecDepth 100000
set_option maxHeartbeats 4000000 in
theorem rshape_k (t : List (List Int)) : fnK TY SP Try.f65 [.ro (.rows .i64 t)] (.int .i64 (shapeV t)) := shape_k t
theorem rshape_fn (t : List (List Int)) : QF 65 [.ro (.rows .i64 t)] (.int .i64 (shapeV t)) := mkQ Try.func65 (by decide +kernel) rfl (Nat.le_of_ble_eq_true rfl) fun _ => rshape_k t
theorem assoc_k (t : List (List Int)) : fnEK TY SP Try.f68 [.ro (.rows .i64 t)] (fun x : Int × Int × Int => .tup [.int .i64 x.1, .int .i64 x.2.1, .int .i64 x.2.2, .int .i64 (validV t)]) (fun _ => True) := by
  refine Or.inl (cq (rshape_fn t) (And.intro rfl trivial) ?_)
  refine And.intro (fun h1 => ?_) (fun h1 => ?_)
  · refine Exists.intro (0, 0, 0) (And.intro trivial ⟨rfl, rfl, rfl, ?_, trivial⟩)
    show shapeV t = validV t
    unfold validV; rw [if_pos h1]
  have hs := shape_zero.1 h1
  have hpos := hs.pos
  have hmost := hs.most
  refine Exists.intro [] <| lp (X := Nat) (fun x => [(17, .int .i64 x)]) (fun _ => []) (fun x => x ≤ t.length ∧ ∀ x' y z, x' < x → y < t.length → z < t.length → en t (en t x' y) z = en t x' (en t y z)) (fun x => t.length - x) 0 ⟨Nat.zero_le _, by omega⟩ ⟨⟨rfl, trivial⟩, trivial⟩ ?_
  intro x hx
  refine And.intro (fun h2 => ?_) (fun h2 => ?_)
  · refine Exists.intro [] <| lp (X := Nat) (fun y => [(22, .int .i64 y)]) (fun _ => []) (fun y => y ≤ t.length ∧ ∀ y' z, y' < y → z < t.length → en t (en t x y') z = en t x (en t y' z)) (fun y => t.length - y) 0 ⟨Nat.zero_le _, by omega⟩ ⟨⟨rfl, trivial⟩, trivial⟩ ?_
    intro y hy
    refine And.intro (fun h3 => ?_) (fun h3 => ?_)
    · refine Exists.intro [] <| lp (X := Nat) (fun z => [(27, .int .i64 z)]) (fun _ => []) (fun z => z ≤ t.length ∧ ∀ z', z' < z → en t (en t x y) z' = en t x (en t y z')) (fun z => t.length - z) 0 ⟨Nat.zero_le _, by omega⟩ ⟨⟨rfl, trivial⟩, trivial⟩ ?_
      intro z hz
      refine And.intro (fun h4 => ?_) (fun h4 => ?_)
      · have hxl : x < t.length := by omega
        have hyl : y < t.length := by omega
        have hzl : z < t.length := by omega
        have a1 := hs.ent hxl hyl
        have a2 := hs.ent a1.2 hzl
        have a3 := hs.ent hyl hzl
        have a4 := hs.ent hxl a3.2
        have l1 := hs.len hxl
        have l2 := hs.len hyl
        have l3 := hs.len a1.2
        refine Or.inl <| Exists.intro [false, false, false, false, false, false, false, false, false, false, false, false, false, false, false, false, false, false, false, false, false, false, false, false, false, false, false] (And.intro (by decide +kernel) ?_)
        refine And.intro (by omega) ?_
        refine And.intro (by simp only [Int.toNat_natCast]; omega) ?_
        refine And.intro (by simp only [Int.toNat_natCast]; omega) ?_
        refine And.intro (show 0 ≤ (z : Int) ∧ (z : Int) < ((t.getD (en t x y) []).length : Int) by omega) ?_
        refine And.intro (by omega) ?_
        refine And.intro (by omega) ?_
        refine And.intro (by simp only [Int.toNat_natCast]; omega) ?_
        refine And.intro (by simp only [Int.toNat_natCast]; omega) ?_
        refine And.intro (fun h5 => ?_) (fun h5 => ?_)
        · have h5 : (t.getD (en t x y) []).getD z 0 ≠ (t.getD x []).getD (en t y z) 0 := h5
          rw [a2.1, a4.1] at h5
          refine Exists.intro ((x : Int), (y : Int), (z : Int)) (And.intro trivial ⟨rfl, rfl, rfl, ?_, trivial⟩)
          show (5 : Int) = validV t
          unfold validV
          rw [if_neg (by omega), if_neg]
          intro ha
          exact h5 (congrArg _ (ha y hyl x z hxl hzl))
        · have h5 : (t.getD (en t x y) []).getD z 0 = (t.getD x []).getD (en t y z) 0 := h5
          rw [a2.1, a4.1] at h5
          refine And.intro (by omega) ?_
          refine nx (z + 1) ⟨by omega, fun z' hz' => ?_⟩ (show t.length - (z + 1) < t.length - z by omega) ⟨⟨rfl, trivial⟩, trivial⟩
          by_cases hzz : z' < z
          · exact hz.2 z' hzz
          · have : z' = z := by omega
            rw [this]; exact_mod_cast h5
      · refine And.intro (by omega) ?_
        refine nx (y + 1) ⟨by omega, fun y' z hy' hz' => ?_⟩ (show t.length - (y + 1) < t.length - y by omega) ⟨⟨rfl, trivial⟩, trivial⟩
        by_cases hyy : y' < y
        · exact hy.2 y' z hyy hz'
        · have : y' = y := by omega
          rw [this]; exact hz.2 z (by omega)
    · refine And.intro (by omega) ?_
      refine nx (x + 1) ⟨by omega, fun x' y z hx' hy' hz' => ?_⟩ (show t.length - (x + 1) < t.length - x by omega) ⟨⟨rfl, trivial⟩, trivial⟩
      by_cases hxx : x' < x
      · exact hx.2 x' y z hxx hy' hz'
      · have : x' = x := by omega
        rw [this]; exact hy.2 y z (by omega) hz'
  · refine Exists.intro (0, 0, 0) (And.intro trivial ⟨rfl, rfl, rfl, ?_, trivial⟩)
    show 0 = validV t
    symm
    rw [valid_zero]
    exact ⟨hs, fun g hg x y hx' hy' => hx.2 x g y (by omega) hg hy'⟩
theorem rvalidate_fn (t : List (List Int)) : QF 22 [.ro (.rows .i64 t)] (.int .i64 (validV t)) := mkQ Try.func22 (by decide +kernel) rfl (Nat.le_of_ble_eq_true rfl) fun _ => by
  refine Or.inr (Or.inr (ce (mkE Try.func68 (by decide +kernel) rfl (Nat.le_of_ble_eq_true rfl) fun _ => assoc_k t) (And.intro rfl trivial) fun x _ => ?_))
  exact And.intro rfl trivial
theorem rvalid_fn (t : List (List Int)) : QF 26 [.ro (.rows .i64 t)] (.bool (.v (decide (validV t = 0)))) := mkQ Try.func26 (by decide +kernel) rfl (Nat.le_of_ble_eq_true rfl) fun _ => by
  refine Or.inl (cq (rvalidate_fn t) (And.intro rfl trivial) ?_)
  exact And.intro rfl trivial
end Go.Proofs.Ytpanlghofeebhaa
end
