/- Package ideal: all ideals: marks, principals, their unions. -/
import Derived.Test.YtdmfhcppdpcceaaGreatCmp
import Derived.Test.YtdmfhcppdpcceaaGreatIdealsLaw
import Derived.Test.YtdmfhcppdpcceaaGreatIdeal
namespace Go.Proofs.YtdmfhcppdpcceaaGreat
open Go Go.AM
set_option maxRecDepth 100000
abbrev mkA (w : Int) : AV := .agg [.int .u64 w, .int .u64 0, .int .u64 0, .int .u64 0, .int .u64 0, .int .u64 0, .int .u64 0]
theorem icmp_k (a b : List Int) : fnK TY SP Tryz.f39 [.ro (.ints .i64 a), .ro (.ints .i64 b)] (.int .i64 (cmpS a b)) := by
  refine Or.inl (cq (compare_fn a.length b.length) (And.intro rfl (And.intro rfl trivial)) ?_)
  refine Or.inl (cq (compareL_fn a b) (And.intro rfl (And.intro rfl trivial)) ?_)
  refine Or.inl (cq (or2_fn (cmpI a.length b.length) (cmpL a b)) (And.intro rfl trivial) ?_)
  exact And.intro rfl trivial
theorem icmp_fn (a b : List Int) : QF 39 [.ro (.ints .i64 a), .ro (.ints .i64 b)] (.int .i64 (cmpS a b)) := mkQ Tryz.func39 (by decide +kernel) rfl (Nat.le_of_ble_eq_true rfl) fun _ => icmp_k a b

theorem union_k (n : Nat) (hn : n ≤ 9) (f g : Nat → Bool) : fnK TY SP Tryz.f36 [mkA (wd f n : Nat), mkA (wd g n : Nat)] (mkA (wd (fun x => f x || g x) n : Nat)) := by
  have h1 := wd_or f g (k := n) (by omega)
  refine Exists.intro [] <| lp2 (fun (i : Nat) (_ : Int) => [(8, .int .i64 i)]) (fun _ v => [(2, .box [.int .u64 v, .int .u64 0, .int .u64 0, .int .u64 0, .int .u64 0, .int .u64 0, .int .u64 0])]) (fun i v => i ≤ 7 ∧ (i = 0 → v = (wd f n : Nat)) ∧ (0 < i → v = (wd (fun x => f x || g x) n : Nat))) (fun i _ => 7 - i) 0 ((wd f n : Nat) : Int) ⟨by omega, fun _ => rfl, fun h => by omega⟩ (by repeat' first | refine And.intro ?_ ?_ | exact True.intro | (show (_ : Int) = (_ : Int); omega) | omega | exact rfl | (simp only [RO.len]; omega)) ?_
  rintro i v ⟨hi, hv, hv2⟩
  refine And.intro (fun h2 => ?_) (fun h2 => ?_)
  · have h2 : (i : Int) < 7 := h2
    refine And.intro (by omega) ?_
    repeat' first | (exfalso; omega) | exact trivial | refine And.intro (by omega) ?_ | refine And.intro (fun h => ?_) ?_
    all_goals first
      | refine nx (i + 1, v) ⟨by omega, fun h => absurd h (by omega), fun _ => hv2 (by omega)⟩ (show 7 - (i + 1) < 7 - i by omega) (by repeat' first | refine And.intro ?_ ?_ | exact True.intro | (show (_ : Int) = (_ : Int); omega) | exact rfl | decide)
      | refine nx (i + 1, orI .u64 v (wd g n : Nat)) ⟨by omega, fun h => absurd h (by omega), fun _ => by rw [hv (by omega)]; exact h1⟩ (show 7 - (i + 1) < 7 - i by omega) (by repeat' first | refine And.intro ?_ ?_ | exact True.intro | (show (_ : Int) = (_ : Int); omega) | exact rfl | decide)
  · have h2 : (7 : Int) ≤ (i : Int) := h2
    refine And.intro ?_ trivial
    repeat' first | exact True.intro | refine And.intro ?_ ?_ | exact rfl | exact hv2 (by omega)
theorem union_fn (n : Nat) (hn : n ≤ 9) (f g : Nat → Bool) : QF 36 [mkA (wd f n : Nat), mkA (wd g n : Nat)] (mkA (wd (fun x => f x || g x) n : Nat)) := mkQ Tryz.func36 (by decide +kernel) rfl (Nat.le_of_ble_eq_true rfl) fun _ => union_k n hn f g

theorem elements_k (n : Nat) (hn : n ≤ 9) (f : Nat → Bool) : fnK TY SP Tryz.f37 [mkA (wd f n : Nat), .int .i64 n] (.ro (.ints .i64 (ascV n f))) := by
  have hsl := setB_len n f
  refine Exists.intro [] <| lp (X := Nat) (fun k => [(8, .int .i64 k), (5, .vec 23)]) (fun k => [(23, .vec 0 (.ints .i64 (memTo (setB n f) k)) [])]) (fun k => k ≤ n) (fun k => n - k) 0 (Nat.zero_le _) (by repeat' first | refine And.intro ?_ ?_ | exact True.intro | (show (_ : Int) = (_ : Int); omega) | omega | exact rfl | (simp only [RO.len]; omega)) ?_
  intro k hk
  have hm := memTo_len (l := setB n f) (k := k)
  refine And.intro (fun h1 => ?_) (fun h1 => ?_)
  · have e1 : (k : Int) % 64 = ((k : Nat) : Int) := by omega
    have hb := wd_has f (k := n) (x := k) (by omega) (by omega)
    refine And.intro (by omega) ?_
    refine And.intro (by omega) ?_
    refine And.intro (fun h2 => ?_) ?_
    · refine Or.inl (And.intro (by omega) ?_)
      refine And.intro (by omega) ?_
      refine And.intro (fun h3 => ?_) (fun h3 => ?_)
      · have h3 : andI .u64 (shrI .u64 ((wd f n : Nat) : Int) ((k : Int) % 64)) 1 = 1 := h3
        rw [e1] at h3
        have hf : (setB n f).getD k false = true := by rw [setB_get (by omega)]; exact hb.1 h3
        refine And.intro (by rw [List.length_append, List.length_singleton]; omega) ?_
        refine And.intro (by omega) ?_
        refine nx (k + 1) (by omega) (show n - (k + 1) < n - k by omega) ?_
        refine And.intro (by repeat' first | refine And.intro ?_ ?_ | exact True.intro | (show (_ : Int) = (_ : Int); omega) | omega | exact rfl | (simp only [RO.len]; omega)) (And.intro (And.intro (And.intro (by omega) (Nat.zero_le _)) (congrArg (RO.ints .i64) (memTo_yes hf).symm)) (by repeat' first | refine And.intro ?_ ?_ | exact True.intro | (show (_ : Int) = (_ : Int); omega) | omega | exact rfl | (simp only [RO.len]; omega)))
      · have h3 : ¬ andI .u64 (shrI .u64 ((wd f n : Nat) : Int) ((k : Int) % 64)) 1 = 1 := h3
        rw [e1] at h3
        have hf : (setB n f).getD k false = false := by
          rw [setB_get (by omega)]
          cases hfk : f k with
          | true => exact absurd (hb.2 hfk) h3
          | false => rfl
        refine And.intro (by omega) ?_
        refine nx (k + 1) (by omega) (show n - (k + 1) < n - k by omega) ?_
        refine And.intro (by repeat' first | refine And.intro ?_ ?_ | exact True.intro | (show (_ : Int) = (_ : Int); omega) | omega | exact rfl | (simp only [RO.len]; omega)) (And.intro (And.intro (And.intro (by omega) (Nat.zero_le _)) (congrArg (RO.ints .i64) (memTo_no hf).symm)) (by repeat' first | refine And.intro ?_ ?_ | exact True.intro | (show (_ : Int) = (_ : Int); omega) | omega | exact rfl | (simp only [RO.len]; omega)))
    · repeat' first | (exfalso; omega) | exact trivial | refine And.intro (fun h => ?_) ?_
  · have h1 : k = n := by omega
    refine And.intro ?_ trivial
    refine And.intro trivial ?_
    show RO.ints .i64 (memTo (setB n f) k) = RO.ints .i64 (memTo (setB n f) (setB n f).length)
    rw [h1, hsl]
theorem elements_fn (n : Nat) (hn : n ≤ 9) (f : Nat → Bool) : QF 37 [mkA (wd f n : Nat), .int .i64 n] (.ro (.ints .i64 (ascV n f))) := mkQ Tryz.func37 (by decide +kernel) rfl (Nat.le_of_ble_eq_true rfl) fun _ => elements_k n hn f

theorem cloneM_k (l : List (List Int)) (hl : l.length ≤ 4096) : fnK TY SP Tryz.f35 [.ro (.arrs 5 .u64 l)] (.new (.arrs 5 .u64 l)) := by
  refine And.intro (fun h1 => ?_) ?_
  · exact And.intro h1 trivial
  · refine And.intro (by simp; omega) ?_
    exact And.intro ⟨by omega, by simp⟩ trivial
theorem cloneM_fn (l : List (List Int)) (hl : l.length ≤ 4096) : QF 35 [.ro (.arrs 5 .u64 l)] (.new (.arrs 5 .u64 l)) := mkQ Tryz.func35 (by decide +kernel) rfl (Nat.le_of_ble_eq_true rfl) fun _ => cloneM_k l hl

/-- The first k principal ideals, each once. -/
def baseTo (t : List (List Int)) (k : Nat) : List (List Int) := firsts ((List.range k).map (prL t))
/-- Seen marks. -/
def seenM (n : Nat) (F : List (List Int)) : List (List Int × Int) := F.map fun s => (mkI n s, 1)
theorem seen_get {n : Nat} {F : List (List Int)} (hF : ∀ s ∈ F, ascV n (setI s) = s) {u : List Int} (hu : ascV n (setI u) = u) : (getM (seenM n F) (mkI n u)).getD 0 = if u ∈ F then 1 else 0 := by
  induction F with
  | nil => rfl
  | cons s F ih =>
    have ih := ih fun x hx => hF x (List.mem_cons_of_mem _ hx)
    show (getM ((mkI n s, 1) :: seenM n F) (mkI n u)).getD 0 = _
    simp only [getM]
    by_cases e : s = u
    · subst e; simp
    · rw [if_neg fun h => e (mkI_inj (hF s (by simp)) hu h), ih]
      simp [Ne.symm e]
theorem seen_set {n : Nat} {F : List (List Int)} (hF : ∀ s ∈ F, ascV n (setI s) = s) {u : List Int} (hu : ascV n (setI u) = u) (hn : u ∉ F) : setM (seenM n F) (mkI n u) 1 = seenM n (F ++ [u]) := by
  induction F with
  | nil => rfl
  | cons s F ih =>
    have ih := ih (fun x hx => hF x (List.mem_cons_of_mem _ hx)) fun h => hn (List.mem_cons_of_mem _ h)
    show setM ((mkI n s, 1) :: seenM n F) (mkI n u) 1 = (mkI n s, 1) :: seenM n (F ++ [u])
    simp only [setM]
    rw [if_neg fun h => hn (by rw [mkI_inj (hF s (by simp)) hu h]; simp), ih]
theorem baseTo_next (t : List (List Int)) (k : Nat) : baseTo t (k + 1) = if prL t k ∈ baseTo t k then baseTo t k else baseTo t k ++ [prL t k] := by
  unfold baseTo
  rw [List.range_succ, List.map_append, List.map_singleton, firsts_snoc]
  by_cases h : prL t k ∈ (List.range k).map (prL t)
  · rw [if_pos h, if_pos (mem_firsts.2 h)]
  · rw [if_neg h, if_neg fun h' => h (mem_firsts.1 h')]
theorem baseTo_mem {t : List (List Int)} {k : Nat} {s : List Int} : s ∈ baseTo t k ↔ ∃ x, x < k ∧ prL t x = s := by
  unfold baseTo
  rw [mem_firsts, List.mem_map]
  exact ⟨fun ⟨x, hx, e⟩ => ⟨x, List.mem_range.1 hx, e⟩, fun ⟨x, hx, e⟩ => ⟨x, List.mem_range.2 hx, e⟩⟩
theorem baseTo_len (t : List (List Int)) (k : Nat) : (baseTo t k).length ≤ k := by
  have := firsts_le ((List.range k).map (prL t))
  simpa [baseTo] using this
theorem baseTo_id {t : List (List Int)} (h : Semi t) {k : Nat} (hk : k ≤ t.length) {s : List Int} (hs : s ∈ baseTo t k) : IdL t s := by
  obtain ⟨x, hx, rfl⟩ := baseTo_mem.1 hs
  exact prL_id h (by omega)
theorem baseTo_self {t : List (List Int)} (h : Semi t) {k : Nat} (hk : k ≤ t.length) : ∀ s ∈ baseTo t k, ascV t.length (setI s) = s := fun _ hs => (baseTo_id h hk hs).self
theorem mkI_pr (t : List (List Int)) (x : Nat) : mkI t.length (prL t x) = [((wd (prF t x) t.length : Nat) : Int), 0, 0, 0, 0, 0, 0] := by
  unfold mkI prL
  rw [wd_congr fun y hy => ascV_set (f := prF t x) hy]
theorem wd_yes {f : Nat → Bool} {k : Nat} (hk : k ≤ 62) (h : f k = true) : orI .u64 ((wd f k : Nat) : Int) (shlI .u64 1 ((k : Nat) : Int)) = ((wd f (k + 1) : Nat) : Int) := by
  rw [wd_add f hk]; simp [wd, h]
theorem wd_no {f : Nat → Bool} {k : Nat} (h : f k = false) : wd f (k + 1) = wd f k := by simp [wd, h]

set_option maxHeartbeats 1000000 in
theorem principals_k (t : List (List Int)) (h : Semi t) (hn : t.length ≤ 9) : fnK TY SP Tryz.f34 [.ro (.rows .i64 t)] (.new (.arrs 5 .u64 ((baseTo t t.length).map (mkI t.length)))) := by
  refine Exists.intro [] <| lp (X := Nat) (fun i => [(12, .int .i64 i), (4, .vec 48)]) (fun i => [(9, .map (.arr 7 .u64) none (seenM t.length (baseTo t i))), (48, .vec 0 (.arrs 5 .u64 ((baseTo t i).map (mkI t.length))) [])]) (fun i => i ≤ t.length) (fun i => t.length - i) 0 (Nat.zero_le _) (by repeat' first | refine And.intro ?_ ?_ | exact True.intro | (show (_ : Int) = (_ : Int); omega) | omega | exact rfl | (simp only [RO.len]; omega)) ?_
  intro x hx
  refine And.intro (fun h1 => ?_) (fun h1 => ?_)
  · have hxl : x < t.length := by omega
    have hin : inT t [(x : Int)] := fun y hy => by rw [List.mem_singleton] at hy; omega
    have hbl := baseTo_len t x
    have hself := baseTo_self h (Nat.le_of_lt hxl)
    have hpr := (prL_id h hxl).self
    refine Or.inl (cq (marked_fn t.length [(x : Int)] (by omega) hin) (And.intro rfl (And.intro rfl trivial)) ?_)
    refine Or.inl (cq (two_fn t h.toSh (setI [(x : Int)])) (And.intro rfl (And.intro rfl trivial)) ?_)
    have hpl := setB_len t.length (twoF t (setI [(x : Int)]))
    refine Exists.intro [] <| lp (X := Nat) (fun y => [(23, .int .i64 y)]) (fun y => [(6, .box [.int .u64 (wd (prF t x) y : Nat), .int .u64 0, .int .u64 0, .int .u64 0, .int .u64 0, .int .u64 0, .int .u64 0])]) (fun y => y ≤ t.length) (fun y => t.length - y) 0 (Nat.zero_le _) (by repeat' first | refine And.intro ?_ ?_ | exact True.intro | (show (_ : Int) = (_ : Int); omega) | omega | exact rfl | (simp only [RO.len]; omega)) ?_
    intro y hy
    refine And.intro (fun h2 => ?_) (fun h2 => ?_)
    · have h2 : (y : Int) < ((setB t.length (twoF t (setI [(x : Int)]))).length : Int) := h2
      have hyl : y < t.length := by omega
      have e1 : (y : Int) % 64 = ((y : Nat) : Int) := by omega
      refine And.intro (by omega) ?_
      refine And.intro (fun h3 => ?_) (fun h3 => ?_)
      · have h3 : (setB t.length (twoF t (setI [(x : Int)]))).getD y false = true := h3
        rw [setB_get hyl] at h3
        have h3 : prF t x y = true := h3
        refine Or.inl <| Exists.intro [false, false, false, false, false, false, false, false, false, true] (And.intro (by decide +kernel) ?_)
        refine And.intro (by omega) ?_
        refine And.intro (by omega) ?_
        repeat' first | (exfalso; omega) | exact trivial | refine And.intro (by omega) ?_ | refine Or.inl (And.intro (by omega) ?_) | refine And.intro (fun h => ?_) ?_
        refine nx (y + 1) (by omega) (show t.length - (y + 1) < t.length - y by omega) ?_
        have e2 : orI .u64 ((wd (prF t x) y : Nat) : Int) (shlI .u64 1 ((y : Int) % 64)) = ((wd (prF t x) (y + 1) : Nat) : Int) := by rw [e1]; exact wd_yes (by omega) h3
        repeat' first | refine And.intro ?_ ?_ | exact True.intro | (show (_ : Int) = (_ : Int); omega) | omega | exact rfl | (simp only [RO.len]; omega)
      · have h3 : (setB t.length (twoF t (setI [(x : Int)]))).getD y false = false := h3
        rw [setB_get hyl] at h3
        have h3 : prF t x y = false := h3
        have e2 : ((wd (prF t x) y : Nat) : Int) = ((wd (prF t x) (y + 1) : Nat) : Int) := by rw [wd_no h3]
        refine And.intro (by omega) ?_
        refine nx (y + 1) (by omega) (show t.length - (y + 1) < t.length - y by omega) ?_
        repeat' first | refine And.intro ?_ ?_ | exact True.intro | (show (_ : Int) = (_ : Int); omega) | omega | exact rfl | (simp only [RO.len]; omega)
    · have h2 : ((setB t.length (twoF t (setI [(x : Int)]))).length : Int) ≤ (y : Int) := h2
      have hyn : y = t.length := by omega
      subst hyn
      have hg := seen_get hself hpr
      rw [mkI_pr] at hg
      refine And.intro (fun h3 => ?_) (fun h3 => ?_)
      · have h3 : (getM (seenM t.length (baseTo t x)) [((wd (prF t x) t.length : Nat) : Int), 0, 0, 0, 0, 0, 0]).getD 0 = 0 := h3
        have hno : prL t x ∉ baseTo t x := fun hm => by rw [hg, if_pos hm] at h3; cases h3
        have hb : baseTo t (x + 1) = baseTo t x ++ [prL t x] := by rw [baseTo_next, if_neg hno]
        have hs := seen_set hself hpr hno
        rw [mkI_pr, ← hb] at hs
        have hm : (baseTo t x).map (mkI t.length) ++ [[((wd (prF t x) t.length : Nat) : Int), 0, 0, 0, 0, 0, 0]] = (baseTo t (x + 1)).map (mkI t.length) := by rw [hb, List.map_append, ← mkI_pr]; rfl
        refine And.intro (by rw [hm, List.length_map]; have := baseTo_len t (x + 1); omega) ?_
        refine And.intro (by omega) ?_
        refine nx (x + 1) (by omega) (show t.length - (x + 1) < t.length - x by omega) ?_
        repeat' first | refine And.intro ?_ ?_ | exact True.intro | exact hs | exact congrArg (RO.arrs 5 .u64) hm | (show (_ : Int) = (_ : Int); omega) | omega | exact rfl
      · have h3 : (getM (seenM t.length (baseTo t x)) [((wd (prF t x) t.length : Nat) : Int), 0, 0, 0, 0, 0, 0]).getD 0 ≠ 0 := h3
        have hyes : prL t x ∈ baseTo t x := Classical.byContradiction fun hm => by rw [hg, if_neg hm] at h3; exact h3 rfl
        have hb : baseTo t (x + 1) = baseTo t x := by rw [baseTo_next, if_pos hyes]
        refine And.intro (by omega) ?_
        refine nx (x + 1) (by omega) (show t.length - (x + 1) < t.length - x by omega) ?_
        have hs : seenM t.length (baseTo t x) = seenM t.length (baseTo t (x + 1)) := by rw [hb]
        have hm : (baseTo t x).map (mkI t.length) = (baseTo t (x + 1)).map (mkI t.length) := by rw [hb]
        repeat' first | refine And.intro ?_ ?_ | exact True.intro | exact hs | exact congrArg (RO.arrs 5 .u64) hm | (show (_ : Int) = (_ : Int); omega) | omega | exact rfl
  · have hxn : x = t.length := by omega
    subst hxn
    exact And.intro (And.intro rfl rfl) trivial
theorem principals_fn (t : List (List Int)) (h : Semi t) (hn : t.length ≤ 9) : QF 34 [.ro (.rows .i64 t)] (.new (.arrs 5 .u64 ((baseTo t t.length).map (mkI t.length)))) := mkQ Tryz.func34 (by decide +kernel) rfl (Nat.le_of_ble_eq_true rfl) fun _ => principals_k t h hn

/-- What the search for unions keeps. -/
structure GenInv (t : List (List Int)) (F : List (List Int)) (i k : Nat) : Prop where
  nodup : F.Nodup
  ids : ∀ s ∈ F, IdL t s
  base : ∀ s ∈ baseTo t t.length, s ∈ F
  ile : i ≤ F.length
  done : ∀ i', i' < i → ∀ m ∈ baseTo t t.length, unL t.length (F.getD i' []) m ∈ F
  part : ∀ k', k' < k → i < F.length → unL t.length (F.getD i []) ((baseTo t t.length).getD k' []) ∈ F
  kle : k ≤ (baseTo t t.length).length
theorem GenInv.start {t : List (List Int)} (h : Semi t) : GenInv t (baseTo t t.length) 0 0 :=
  ⟨firsts_nodup _, fun s hs => baseTo_id h (Nat.le_refl _) hs, fun _ hs => hs, Nat.zero_le _, fun i hi => absurd hi (Nat.not_lt_zero _), fun k hk => absurd hk (Nat.not_lt_zero _), Nat.zero_le _⟩
theorem GenInv.len {t : List (List Int)} {F : List (List Int)} {i k : Nat} (H : GenInv t F i k) (hn : t.length ≤ 9) : F.length ≤ 512 := ids_le H.nodup H.ids hn
theorem GenInv.self {t : List (List Int)} {F : List (List Int)} {i k : Nat} (H : GenInv t F i k) : ∀ s ∈ F, ascV t.length (setI s) = s := fun s hs => (H.ids s hs).self
theorem GenInv.un {t : List (List Int)} {F : List (List Int)} {i k : Nat} (H : GenInv t F i k) (h : Semi t) (hi : i < F.length) (hk : k < (baseTo t t.length).length) : IdL t (unL t.length (F.getD i []) ((baseTo t t.length).getD k [])) :=
  unL_id h.toSh (H.ids _ (getD_mem hi)) (baseTo_id h (Nat.le_refl _) (getD_mem hk))
theorem GenInv.old {t : List (List Int)} {F : List (List Int)} {i k : Nat} (H : GenInv t F i k) (hk : k < (baseTo t t.length).length) (hm : unL t.length (F.getD i []) ((baseTo t t.length).getD k []) ∈ F) : GenInv t F i (k + 1) :=
  ⟨H.nodup, H.ids, H.base, H.ile, H.done, fun k' hk' hi' => by
    by_cases e : k' = k
    · rw [e]; exact hm
    · exact H.part k' (by omega) hi', hk⟩
theorem GenInv.new {t : List (List Int)} {F : List (List Int)} {i k : Nat} (H : GenInv t F i k) (h : Semi t) (hi : i < F.length) (hk : k < (baseTo t t.length).length) (hm : unL t.length (F.getD i []) ((baseTo t t.length).getD k []) ∉ F) :
    GenInv t (F ++ [unL t.length (F.getD i []) ((baseTo t t.length).getD k [])]) i (k + 1) := by
  have eg : ∀ j, j < F.length → (F ++ [unL t.length (F.getD i []) ((baseTo t t.length).getD k [])]).getD j [] = F.getD j [] := fun j hj => by
    rw [getD_eq (by simp; omega), getD_eq hj, List.getElem_append_left]
  refine ⟨List.nodup_append.2 ⟨H.nodup, by simp, fun a ha b hb => ?_⟩, fun s hs => ?_, fun s hs => List.mem_append.2 (.inl (H.base s hs)), by simp; omega, fun i' hi' m hm' => ?_, fun k' hk' _ => ?_, hk⟩
  · rw [List.mem_singleton] at hb
    intro e; rw [← e] at hb; exact hm (by rw [← hb]; exact ha)
  · rcases List.mem_append.1 hs with hs | hs
    · exact H.ids s hs
    · rw [List.mem_singleton] at hs; rw [hs]; exact H.un h hi hk
  · rw [eg i' (by omega)]; exact List.mem_append.2 (.inl (H.done i' hi' m hm'))
  · rw [eg i hi]
    by_cases e : k' = k
    · rw [e]; exact List.mem_append.2 (.inr (by simp))
    · exact List.mem_append.2 (.inl (H.part k' (by omega) hi))
theorem GenInv.next {t : List (List Int)} {F : List (List Int)} {i k : Nat} (H : GenInv t F i k) (hi : i < F.length) (hk : (baseTo t t.length).length ≤ k) : GenInv t F (i + 1) 0 :=
  ⟨H.nodup, H.ids, H.base, hi, fun i' hi' m hm => by
    by_cases e : i' = i
    · subst e
      obtain ⟨k', hk', rfl⟩ := mem_getD [] hm
      exact H.part k' (by omega) hi
    · exact H.done i' (by omega) m hm, fun k hk => absurd hk (Nat.not_lt_zero _), Nat.zero_le _⟩
theorem GenInv.all {t : List (List Int)} {F : List (List Int)} {i : Nat} (H : GenInv t F i 0) (h : Semi t) (hi : F.length ≤ i) : srt cmpS F = idsL t := by
  refine idsL_of H.nodup fun l => ⟨H.ids l, all_of_closed h (fun x hx => H.base _ (baseTo_mem.2 ⟨x, hx, rfl⟩)) (fun a ha x hx => ?_) l⟩
  obtain ⟨i', hi', rfl⟩ := mem_getD [] ha
  exact H.done i' (by omega) _ (baseTo_mem.2 ⟨x, hx, rfl⟩)
theorem mk_args {m : List Int} {w : Int} (e : m = [w, 0, 0, 0, 0, 0, 0]) : leT [] [] (.agg (aggL 7 .u64 m 0)) (mkA w) := by subst e; exact ⟨rfl, rfl, rfl, rfl, rfl, rfl, rfl, trivial⟩
end Go.Proofs.YtdmfhcppdpcceaaGreat
