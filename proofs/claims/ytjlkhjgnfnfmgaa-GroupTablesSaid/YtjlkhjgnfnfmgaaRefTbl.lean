import Derived.Test.YtjlkhjgnfnfmgaaTblLaw
import Derived.Test.YtjlkhjgnfnfmgaaPTbLaw
section
/- The table of permutations: contracts. -/
namespace Go.Proofs.Ytjlkhjgnfnfmgaa
open Go Go.AM
set_option maxRecDepth 100000
set_option maxHeartbeats 4000000 in
theorem gtab_ok (G : List (List Int)) (h : tabE G = 0) : QF 41 [.ro (.rows .i64 G)] (.tup [.new (.rows .i64 (pbL G G.length)), .int .i64 0]) := mkQ Try.func41 (by decide +kernel) rfl (Nat.le_of_ble_eq_true rfl) fun _ => by
  obtain ⟨hm, hd, h400, hC⟩ := tabE_ok.1 h
  obtain ⟨h0, hpm⟩ := may_zero.1 hm
  have hbyte : ∀ {f : List Int}, f ∈ G → f.length ≤ 32 ∧ ∀ x ∈ f, 0 ≤ x ∧ x ≤ 255 := fun hf => by
    have hv := (hpm _ hf).2.1
    exact ⟨hv.1.2, fun x hx => by have := hv.2 x hx; have := hv.1.2; omega⟩
  refine And.intro (fun h1 => absurd (show (G.length : Int) = 0 from h1) (by omega)) (fun _ => ?_)
  refine And.intro (by omega) ?_
  refine Or.inl (cq (gpms_fn G ((G.getD 0 []).length : Int)) (And.intro rfl (And.intro rfl trivial)) ?_)
  refine And.intro (fun h1 => ?_) (fun _ => ?_)
  · have h1 : (!pmsB G ((G.getD 0 []).length : Int)) = true := h1
    rw [pmsB_true.2 hpm] at h1; cases h1
  refine Exists.intro [] <| lp2 (fun (i : Nat) (_ : List (List Int × Int)) => [(29, .int .i64 i)]) (fun _ M => [(26, .map .str (some .i64) M)]) (fun i M => i ≤ G.length ∧ NuI G i M) (fun i _ => G.length - i) 0 [] ⟨Nat.zero_le _, NuI.start G⟩ (by repeat' first | refine And.intro ?_ ?_ | exact True.intro | (show (_ : Int) = (_ : Int); omega) | omega | exact rfl | (simp only [RO.len]; omega)) ?_
  rintro i M ⟨hi, hI⟩
  refine And.intro (fun h1 => ?_) (fun h1 => ?_)
  · have h1 : (i : Int) < (G.length : Int) := h1
    have hil : i < G.length := by omega
    have hb := hbyte (getD_mem (d := []) hil)
    refine And.intro (by omega) ?_
    refine Or.inl (cq (gtext_fn (G.getD i []) hb.1 hb.2) (And.intro rfl trivial) ?_)
    refine And.intro (by omega) ?_
    exact nx (i + 1, setM M (G.getD i []) (i : Int)) ⟨by omega, hI.next hil⟩ (show G.length - (i + 1) < G.length - i by omega) (by repeat' first | refine And.intro ?_ ?_ | exact True.intro | (show (_ : Int) = (_ : Int); omega) | omega | exact rfl | (simp only [RO.len]; omega))
  have h1 : (G.length : Int) ≤ (i : Int) := h1
  have hie : i = G.length := by omega
  subst hie
  have hle := hI.le
  refine And.intro (by omega) ?_
  refine And.intro (fun h2 => absurd hd (hI.dup.1 h2)) (fun _ => ?_)
  refine And.intro (fun h2 => ?_) (fun _ => ?_)
  · have h2 : 400 < (G.length : Int) := h2
    omega
  refine And.intro (by omega) ?_
  refine And.intro (by omega) ?_
  refine Or.inl ?_
  refine Exists.intro [] <| lp2 (fun (x : Nat) (_ : List (List Int)) => [(52, .int .i64 x)]) (fun _ q => [(49, .vec 0 (.rows .i64 q) [])]) (fun x q => x ≤ G.length ∧ q.length = G.length ∧ ∀ x', x' < x → q.getD x' [] = pbR G x' G.length) (fun x _ => G.length - x) 0 (List.replicate G.length []) ⟨Nat.zero_le _, by simp, fun x h => absurd h (Nat.not_lt_zero _)⟩ (by repeat' first | refine And.intro ?_ ?_ | exact True.intro | (show (_ : Int) = (_ : Int); omega) | omega | exact rfl | (simp only [RO.len]; omega)) ?_
  rintro x q ⟨hx, hq, hqx⟩
  refine And.intro (fun h3 => ?_) (fun h3 => ?_)
  · have h3 : (x : Int) < (G.length : Int) := h3
    have hxl : x < G.length := by omega
    have hpx := hpm _ (getD_mem (d := []) hxl)
    refine And.intro (by omega) ?_
    refine And.intro (by omega) ?_
    refine And.intro (by omega) ?_
    refine And.intro (show 0 ≤ (x : Int) ∧ (x : Int) < (q.length : Int) by omega) ?_
    refine And.intro (by omega) ?_
    refine Exists.intro [] <| lp2 (fun (y : Nat) (_ : List Int) => [(65, .int .i64 y)]) (fun _ r => [(49, .vec 0 (.rows .i64 q) [((x : Int), 61)]), (61, .vec 0 (.ints .i64 r) [])]) (fun y r => y ≤ G.length ∧ r.length = G.length ∧ ∀ y', y' < y → r.getD y' 0 = (pbE G x y' : Int)) (fun y _ => G.length - y) 0 (List.replicate G.length 0) ⟨Nat.zero_le _, by simp, fun x h => absurd h (Nat.not_lt_zero _)⟩ (by repeat' first | refine And.intro ?_ ?_ | exact True.intro | (show (_ : Int) = (_ : Int); omega) | omega | exact rfl | (simp only [RO.len]; omega)) ?_
    rintro y r ⟨hy, hr, hry⟩
    refine And.intro (fun h4 => ?_) (fun h4 => ?_)
    · have h4 : (y : Int) < (G.length : Int) := h4
      have hyl : y < G.length := by omega
      have hpy := hpm _ (getD_mem (d := []) hyl)
      have hin := hC x y hxl hyl
      have hcx := hbyte (getD_mem (d := []) hxl)
      have hcb := hbyte hin
      have hget := hI.get hd (cmpP (G.getD x []) (G.getD y []))
      rw [if_pos hin] at hget
      have hpp := (hpx.2.perm).rng
      have hll : (G.getD x []).length = (G.getD y []).length := by have := hpx.1; have := hpy.1; omega
      refine And.intro (by omega) ?_
      refine Or.inl (cq (gcomp_fn (G.getD x []) (G.getD y []) hcx.1 (fun z hz => by have := hpp z hz; omega)) (And.intro rfl (And.intro rfl trivial)) ?_)
      refine Or.inl (cq (gtext_fn (cmpP (G.getD x []) (G.getD y [])) hcb.1 hcb.2) (And.intro rfl trivial) ?_)
      refine And.intro (fun h5 => ?_) (fun _ => ?_)
      · have h5 : (!(getM M (cmpP (G.getD x []) (G.getD y []))).isSome) = true := h5
        rw [hget] at h5; cases h5
      have hval : (getM M (cmpP (G.getD x []) (G.getD y []))).getD 0 = (pbE G x y : Int) := by rw [hget]; rfl
      refine And.intro (by omega) ?_
      refine And.intro (fun _ => ?_) (fun h6 => absurd rfl h6)
      refine And.intro (by omega) ?_
      refine And.intro (by omega) ?_
      refine And.intro (by omega) ?_
      refine nx (y + 1, r.set y ((getM M (cmpP (G.getD x []) (G.getD y []))).getD 0)) ⟨by omega, by rw [List.length_set]; exact hr, fun y' hy' => ?_⟩ (show G.length - (y + 1) < G.length - y by omega) (by repeat' first | refine And.intro ?_ ?_ | exact True.intro | (show (_ : Int) = (_ : Int); omega) | omega | exact rfl | (simp only [RO.len]; omega))
      by_cases e : y' = y
      · subst e; rw [getD_set_eq (by omega), hval]
      · rw [getD_set_ne (Ne.symm e)]; exact hry y' (by omega)
    · have h4 : (G.length : Int) ≤ (y : Int) := h4
      have hrd : r = pbR G x G.length := ext_getD 0 (by rw [pbR_len]; exact hr) fun z hz => by rw [hry z (by omega), pbR_get (by omega)]
      refine And.intro (by omega) ?_
      refine nx (x + 1, q.set x r) ⟨by omega, by rw [List.length_set]; exact hq, fun x' hx' => ?_⟩ (show G.length - (x + 1) < G.length - x by omega) (by repeat' first | refine And.intro ?_ ?_ | exact True.intro | (show (_ : Int) = (_ : Int); omega) | omega | exact rfl | (simp only [RO.len]; omega))
      by_cases e : x' = x
      · subst e; rw [getD_set_eq (by omega)]; exact hrd
      · rw [getD_set_ne (Ne.symm e)]; exact hqx x' (by omega)
  · have h3 : (G.length : Int) ≤ (x : Int) := h3
    have em : q = pbL G G.length := ext_getD [] (by rw [pbL_len]; exact hq) fun z hz => by rw [hqx z (by omega), pbL_get (by omega)]
    repeat' first | refine And.intro ?_ ?_ | exact True.intro | exact congrArg (RO.rows .i64) em | omega | exact rfl
set_option maxHeartbeats 4000000 in
theorem gtab_no (G : List (List Int)) (h : tabE G ≠ 0) : QF 41 [.ro (.rows .i64 G)] (.tup [.nils, .int .i64 (tabE G)]) := mkQ Try.func41 (by decide +kernel) rfl (Nat.le_of_ble_eq_true rfl) fun hf => by
  have hGl : G.length ≤ 140737488355328 := hf.1.1
  refine And.intro (fun h1 => ?_) (fun h0 => ?_)
  · have h1 : (G.length : Int) = 0 := h1
    have e1 : mayV G = 1 := by unfold mayV; rw [if_pos (by omega)]
    exact And.intro trivial (And.intro (show (1 : Int) = tabE G by rw [tabE_may (by rw [e1]; decide), e1]) trivial)
  have h0 : ¬ (G.length : Int) = 0 := h0
  refine And.intro (by omega) ?_
  refine Or.inl (cq (gpms_fn G ((G.getD 0 []).length : Int)) (And.intro rfl (And.intro rfl trivial)) ?_)
  refine And.intro (fun h1 => ?_) (fun h1 => ?_)
  · have h1 : (!pmsB G ((G.getD 0 []).length : Int)) = true := h1
    have e1 : mayV G = 4 := by unfold mayV; rw [if_neg (by omega), if_neg (by simpa using h1)]
    exact And.intro trivial (And.intro (show (4 : Int) = tabE G by rw [tabE_may (by rw [e1]; decide), e1]) trivial)
  have h1 : (!pmsB G ((G.getD 0 []).length : Int)) = false := h1
  have hpm : pmsP G ((G.getD 0 []).length : Int) := pmsB_true.1 (by simpa using h1)
  have hm : mayV G = 0 := may_zero.2 ⟨by omega, hpm⟩
  have hbyte : ∀ {f : List Int}, f ∈ G → f.length ≤ 32 ∧ ∀ x ∈ f, 0 ≤ x ∧ x ≤ 255 := fun hf => by
    have hv := (hpm _ hf).2.1
    exact ⟨hv.1.2, fun x hx => by have := hv.2 x hx; have := hv.1.2; omega⟩
  refine Exists.intro [] <| lp2 (fun (i : Nat) (_ : List (List Int × Int)) => [(29, .int .i64 i)]) (fun _ M => [(26, .map .str (some .i64) M)]) (fun i M => i ≤ G.length ∧ NuI G i M) (fun i _ => G.length - i) 0 [] ⟨Nat.zero_le _, NuI.start G⟩ (by repeat' first | refine And.intro ?_ ?_ | exact True.intro | (show (_ : Int) = (_ : Int); omega) | omega | exact rfl | (simp only [RO.len]; omega)) ?_
  rintro i M ⟨hi, hI⟩
  refine And.intro (fun h1 => ?_) (fun h1 => ?_)
  · have h1 : (i : Int) < (G.length : Int) := h1
    have hil : i < G.length := by omega
    have hb := hbyte (getD_mem (d := []) hil)
    refine And.intro (by omega) ?_
    refine Or.inl (cq (gtext_fn (G.getD i []) hb.1 hb.2) (And.intro rfl trivial) ?_)
    refine And.intro (by omega) ?_
    exact nx (i + 1, setM M (G.getD i []) (i : Int)) ⟨by omega, hI.next hil⟩ (show G.length - (i + 1) < G.length - i by omega) (by repeat' first | refine And.intro ?_ ?_ | exact True.intro | (show (_ : Int) = (_ : Int); omega) | omega | exact rfl | (simp only [RO.len]; omega))
  have h1 : (G.length : Int) ≤ (i : Int) := h1
  have hie : i = G.length := by omega
  subst hie
  have hle := hI.le
  refine And.intro (by omega) ?_
  refine And.intro (fun h2 => ?_) (fun h2 => ?_)
  · have hd := hI.dup.1 h2
    exact And.intro trivial (And.intro (show (4 : Int) = tabE G by rw [tabE_dup hm hd]) trivial)
  have hd : G.Nodup := Classical.byContradiction fun hn => by
    have := hI.dup.2 hn
    have h2 : (G.length : Int) ≤ (M.length : Int) := h2
    omega
  refine And.intro (fun h3 => ?_) (fun h3 => ?_)
  · have h3 : 400 < (G.length : Int) := h3
    exact And.intro trivial (And.intro (show (3 : Int) = tabE G by rw [tabE_big hm hd (by omega)]) trivial)
  have h3 : (G.length : Int) ≤ 400 := h3
  have h400 : G.length ≤ 400 := by omega
  have hC : ¬ ClsP G := fun hc => h (tabE_ok.2 ⟨hm, hd, h400, hc⟩)
  have h9 : (9 : Int) = tabE G := (tabE_cls hm hd h400 hC).symm
  refine And.intro (by omega) ?_
  refine And.intro (by omega) ?_
  refine Or.inl ?_
  refine Exists.intro [] <| lp2 (fun (x : Nat) (_ : List (List Int)) => [(52, .int .i64 x)]) (fun _ q => [(49, .vec 0 (.rows .i64 q) [])]) (fun x q => x ≤ G.length ∧ q.length = G.length ∧ ∀ a b, a < x → b < G.length → cmpP (G.getD a []) (G.getD b []) ∈ G) (fun x _ => G.length - x) 0 (List.replicate G.length []) ⟨Nat.zero_le _, by simp, fun a _ h => absurd h (Nat.not_lt_zero _)⟩ (by repeat' first | refine And.intro ?_ ?_ | exact True.intro | (show (_ : Int) = (_ : Int); omega) | omega | exact rfl | (simp only [RO.len]; omega)) ?_
  rintro x q ⟨hx, hq, hqx⟩
  refine And.intro (fun h3 => ?_) (fun h3 => ?_)
  · have h3 : (x : Int) < (G.length : Int) := h3
    have hxl : x < G.length := by omega
    have hpx := hpm _ (getD_mem (d := []) hxl)
    refine And.intro (by omega) ?_
    refine And.intro (by omega) ?_
    refine And.intro (by omega) ?_
    refine And.intro (show 0 ≤ (x : Int) ∧ (x : Int) < (q.length : Int) by omega) ?_
    refine And.intro (by omega) ?_
    refine Exists.intro [] <| lp2 (fun (y : Nat) (_ : List Int) => [(65, .int .i64 y)]) (fun _ r => [(49, .vec 0 (.rows .i64 q) [((x : Int), 61)]), (61, .vec 0 (.ints .i64 r) [])]) (fun y r => y ≤ G.length ∧ r.length = G.length ∧ ∀ b, b < y → cmpP (G.getD x []) (G.getD b []) ∈ G) (fun y _ => G.length - y) 0 (List.replicate G.length 0) ⟨Nat.zero_le _, by simp, fun x h => absurd h (Nat.not_lt_zero _)⟩ (by repeat' first | refine And.intro ?_ ?_ | exact True.intro | (show (_ : Int) = (_ : Int); omega) | omega | exact rfl | (simp only [RO.len]; omega)) ?_
    rintro y r ⟨hy, hr, hry⟩
    refine And.intro (fun h4 => ?_) (fun h4 => ?_)
    · have h4 : (y : Int) < (G.length : Int) := h4
      have hyl : y < G.length := by omega
      have hpy := hpm _ (getD_mem (d := []) hyl)
      have hcx := hbyte (getD_mem (d := []) hxl)
      have hcy := hbyte (getD_mem (d := []) hyl)
      have hget := hI.get hd (cmpP (G.getD x []) (G.getD y []))
      have hpp := (hpx.2.perm).rng
      have hll : (G.getD x []).length = (G.getD y []).length := by have := hpx.1; have := hpy.1; omega
      have hcb : ∀ z ∈ cmpP (G.getD x []) (G.getD y []), 0 ≤ z ∧ z ≤ 255 := fun z hz => by
        obtain ⟨v, hv, rfl⟩ := List.mem_map.1 hz
        have := hpp v hv
        exact hcy.2 _ (getD_mem (by omega))
      refine And.intro (by omega) ?_
      refine Or.inl (cq (gcomp_fn (G.getD x []) (G.getD y []) hcx.1 (fun z hz => by have := hpp z hz; omega)) (And.intro rfl (And.intro rfl trivial)) ?_)
      refine Or.inl (cq (gtext_fn (cmpP (G.getD x []) (G.getD y [])) (by rw [cmpP_len]; exact hcx.1) hcb) (And.intro rfl trivial) ?_)
      refine And.intro (fun h5 => ?_) (fun h5 => ?_)
      · exact And.intro trivial (And.intro h9 trivial)
      have h5 : (!(getM M (cmpP (G.getD x []) (G.getD y []))).isSome) = false := h5
      have hin : cmpP (G.getD x []) (G.getD y []) ∈ G := Classical.byContradiction fun hno => by rw [hget, if_neg hno] at h5; cases h5
      refine And.intro (by omega) ?_
      refine And.intro (fun _ => ?_) (fun h6 => absurd rfl h6)
      refine And.intro (by omega) ?_
      refine And.intro (by omega) ?_
      refine And.intro (by omega) ?_
      refine nx (y + 1, r.set y ((getM M (cmpP (G.getD x []) (G.getD y []))).getD 0)) ⟨by omega, by rw [List.length_set]; exact hr, fun b hb => ?_⟩ (show G.length - (y + 1) < G.length - y by omega) (by repeat' first | refine And.intro ?_ ?_ | exact True.intro | (show (_ : Int) = (_ : Int); omega) | omega | exact rfl | (simp only [RO.len]; omega))
      by_cases e : b = y
      · subst e; exact hin
      · exact hry b (by omega)
    · have h4 : (G.length : Int) ≤ (y : Int) := h4
      refine And.intro (by omega) ?_
      refine nx (x + 1, q.set x r) ⟨by omega, by rw [List.length_set]; exact hq, fun a b ha hb => ?_⟩ (show G.length - (x + 1) < G.length - x by omega) (by repeat' first | refine And.intro ?_ ?_ | exact True.intro | (show (_ : Int) = (_ : Int); omega) | omega | exact rfl | (simp only [RO.len]; omega))
      by_cases e : a = x
      · subst e; exact hry b (by omega)
      · exact hqx a b (by omega) hb
  · have h3 : (G.length : Int) ≤ (x : Int) := h3
    exact absurd (fun a b ha hb => hqx a b (by omega) hb) hC
end Go.Proofs.Ytjlkhjgnfnfmgaa
end
section
/- The reference's table of permutations: contracts. -/
namespace Go.Proofs.Ytjlkhjgnfnfmgaa
open Go Go.AM
set_option maxRecDepth 100000
theorem nodup_at {G : List (List Int)} (hd : G.Nodup) {a b : Nat} (ha : a < G.length) (hb : b < G.length) (e : G.getD a [] = G.getD b []) : a = b := by
  rw [getD_eq ha, getD_eq hb] at e
  exact (List.getElem_inj hd).1 e
set_option maxHeartbeats 4000000 in
theorem rtab_ok (G : List (List Int)) (h : tabE G = 0) : QF 42 [.ro (.rows .i64 G)] (.tup [.new (.rows .i64 (pbL G G.length)), .int .i64 0]) := mkQ Try.func42 (by decide +kernel) rfl (Nat.le_of_ble_eq_true rfl) fun hf => by
  have hGl : G.length ≤ 140737488355328 := hf.1.1
  obtain ⟨hm, hd, h400, hC⟩ := tabE_ok.1 h
  refine Or.inl (cq (rmay16_fn G) (And.intro rfl trivial) ?_)
  refine And.intro (fun h1 => absurd hm h1) (fun _ => ?_)
  obtain ⟨h0, hpm⟩ := may_zero.1 hm
  refine Exists.intro [] <| lp (X := Nat) (fun i => [(23, .int .i64 i)]) (fun _ => []) (fun i => i ≤ G.length ∧ ∀ a b, b < a → a < i → G.getD a [] ≠ G.getD b []) (fun i => G.length - i) 0 ⟨Nat.zero_le _, fun a b _ h => absurd h (Nat.not_lt_zero _)⟩ (by repeat' first | refine And.intro ?_ ?_ | exact True.intro | (show (_ : Int) = (_ : Int); omega) | omega | exact rfl | (simp only [RO.len]; omega)) ?_
  rintro i ⟨hi, hI⟩
  refine And.intro (fun h1 => ?_) (fun h1 => ?_)
  · have h1 : (i : Int) < (G.length : Int) := h1
    refine Exists.intro [] <| lp (X := Nat) (fun j => [(6, .int .i64 j)]) (fun _ => []) (fun j => j ≤ i ∧ ∀ b, b < j → G.getD i [] ≠ G.getD b []) (fun j => i - j) 0 ⟨Nat.zero_le _, fun b h => absurd h (Nat.not_lt_zero _)⟩ (by repeat' first | refine And.intro ?_ ?_ | exact True.intro | (show (_ : Int) = (_ : Int); omega) | omega | exact rfl | (simp only [RO.len]; omega)) ?_
    rintro j ⟨hj, hJ⟩
    refine And.intro (fun h2 => ?_) (fun h2 => ?_)
    · have h2 : (j : Int) < (i : Int) := h2
      refine Or.inl ?_
      refine Exists.intro (List.replicate 9 false) (And.intro (by decide +kernel) ?_)
      refine And.intro (by omega) ?_
      refine And.intro (by omega) ?_
      refine Exists.intro _ (Exists.intro _ (And.intro (same_fn (G.getD i []) (G.getD j [])) (And.intro (And.intro rfl (And.intro rfl trivial)) ?_)))
      refine And.intro (fun h3 => ?_) (fun h3 => ?_)
      · have h4 : G.getD i [] = G.getD j [] := of_decide_eq_true h3
        refine absurd (nodup_at hd (by omega) (by omega) h4) (by omega)
      · have h4 : ¬ G.getD i [] = G.getD j [] := of_decide_eq_false h3
        refine And.intro (by omega) ?_
        exact nx (j + 1) ⟨by omega, fun b hb => if e : b = j then e ▸ h4 else hJ b (by omega)⟩ (show i - (j + 1) < i - j by omega) (by repeat' first | refine And.intro ?_ ?_ | exact True.intro | (show (_ : Int) = (_ : Int); omega) | omega | exact rfl | (simp only [RO.len]; omega))
    · have h2 : (i : Int) ≤ (j : Int) := h2
      refine And.intro (by omega) ?_
      refine nx (i + 1) ⟨by omega, fun a b hba ha => ?_⟩ (show G.length - (i + 1) < G.length - i by omega) (by repeat' first | refine And.intro ?_ ?_ | exact True.intro | (show (_ : Int) = (_ : Int); omega) | omega | exact rfl | (simp only [RO.len]; omega))
      by_cases e : a = i
      · subst e; exact hJ b (by omega)
      · exact hI a b hba (by omega)
  have h1 : (G.length : Int) ≤ (i : Int) := h1
  refine And.intro (fun h2 => absurd (show 400 < (G.length : Int) from h2) (by omega)) (fun _ => ?_)
  refine Exists.intro [] <| lp (X := Nat) (fun x => [(46, .int .i64 x), (7, .vec 82)]) (fun x => [(82, .vec 0 (.rows .i64 (pbL G x)) [])]) (fun x => x ≤ G.length) (fun x => G.length - x) 0 (Nat.zero_le _) (by repeat' first | refine And.intro ?_ ?_ | exact True.intro | (show (_ : Int) = (_ : Int); omega) | omega | exact rfl | (simp only [RO.len]; omega)) ?_
  rintro x hx
  refine And.intro (fun h3 => ?_) (fun h3 => ?_)
  · have h3 : (x : Int) < (G.length : Int) := h3
    have hxl : x < G.length := by omega
    have hpx := hpm _ (getD_mem (d := []) hxl)
    have hxv := hpx.2.1
    have hxlen := pbL_len (E := G) x
    refine And.intro (by omega) ?_
    refine Exists.intro [] <| lp (X := Nat) (fun y => [(52, .int .i64 y), (10, .vec 77)]) (fun y => [(77, .vec 0 (.ints .i64 (pbR G x y)) [])]) (fun y => y ≤ G.length) (fun y => G.length - y) 0 (Nat.zero_le _) (by repeat' first | refine And.intro ?_ ?_ | exact True.intro | (show (_ : Int) = (_ : Int); omega) | omega | exact rfl | (simp only [RO.len]; omega)) ?_
    rintro y hy
    refine And.intro (fun h4 => ?_) (fun h4 => ?_)
    · have h4 : (y : Int) < (G.length : Int) := h4
      have hyl : y < G.length := by omega
      have hpy := hpm _ (getD_mem (d := []) hyl)
      have hpp := (hpx.2.perm).rng
      have hll : (G.getD x []).length = (G.getD y []).length := by have := hpx.1; have := hpy.1; omega
      have hylen := pbR_len (E := G) x y
      refine And.intro (by omega) ?_
      refine Or.inl (cq (rcomp_fn (G.getD x []) (G.getD y []) hxv.1.2 (fun z hz => by have := hpp z hz; omega)) (And.intro rfl (And.intro rfl trivial)) ?_)
      refine Exists.intro [] <| lp2 (fun (k : Nat) (c : Int) => [(61, .int .i64 k), (14, .int .i64 c)]) (fun _ _ => []) (fun k c => k ≤ G.length ∧ (∀ a, a < k → G.getD a [] = cmpP (G.getD x []) (G.getD y []) → c = (a : Int)) ∧ (c = -1 ∨ ∃ a, a < k ∧ G.getD a [] = cmpP (G.getD x []) (G.getD y []) ∧ c = (a : Int))) (fun k _ => G.length - k) 0 (-1) ⟨Nat.zero_le _, fun a h => absurd h (Nat.not_lt_zero _), .inl rfl⟩ (by repeat' first | refine And.intro ?_ ?_ | exact True.intro | (show (_ : Int) = (_ : Int); omega) | omega | exact rfl | (simp only [RO.len]; omega)) ?_
      rintro k c ⟨hk, hc1, hc2⟩
      refine And.intro (fun h5 => ?_) (fun h5 => ?_)
      · have h5 : (k : Int) < (G.length : Int) := h5
        refine And.intro (by omega) ?_
        refine Or.inl (cq (same_fn (G.getD k []) (cmpP (G.getD x []) (G.getD y []))) (And.intro rfl (And.intro rfl trivial)) ?_)
        refine And.intro (fun h6 => ?_) (fun h6 => ?_)
        · have h6 : G.getD k [] = cmpP (G.getD x []) (G.getD y []) := of_decide_eq_true h6
          refine And.intro (by omega) ?_
          refine nx (k + 1, (k : Int)) ⟨by omega, fun a ha e => ?_, .inr ⟨k, by omega, h6, rfl⟩⟩ (show G.length - (k + 1) < G.length - k by omega) (by repeat' first | refine And.intro ?_ ?_ | exact True.intro | (show (_ : Int) = (_ : Int); omega) | omega | exact rfl | (simp only [RO.len]; omega))
          have := nodup_at hd (show a < G.length by omega) (show k < G.length by omega) (e.trans h6.symm)
          omega
        · have h6 : ¬ G.getD k [] = cmpP (G.getD x []) (G.getD y []) := of_decide_eq_false h6
          refine And.intro (by omega) ?_
          refine nx (k + 1, c) ⟨by omega, fun a ha e => ?_, hc2.imp id fun ⟨a, h7, h8, h9⟩ => ⟨a, by omega, h8, h9⟩⟩ (show G.length - (k + 1) < G.length - k by omega) (by repeat' first | refine And.intro ?_ ?_ | exact True.intro | (show (_ : Int) = (_ : Int); omega) | omega | exact rfl | (simp only [RO.len]; omega))
          by_cases ea : a = k
          · subst ea; exact absurd e h6
          · exact hc1 a (by omega) e
      · have h5 : (G.length : Int) ≤ (k : Int) := h5
        have hin := hC x y hxl hyl
        have hix := idx_get hin
        have hce : c = (pbE G x y : Int) := hc1 (pbE G x y) (by have := hix.1; unfold pbE; omega) hix.2
        have he : pbR G x y ++ [c] = pbR G x (y + 1) := by rw [pbR_succ, hce]
        refine And.intro (fun h6 => absurd (show c < 0 from h6) (by omega)) (fun _ => ?_)
        refine And.intro (show ((pbR G x y ++ [c]).length : Int) ≤ 17592186044416 by rw [List.length_append, List.length_singleton]; omega) ?_
        refine And.intro (by omega) ?_
        exact nx (y + 1) (show y + 1 ≤ G.length by omega) (show G.length - (y + 1) < G.length - y by omega) (by repeat' first | refine And.intro ?_ ?_ | exact True.intro | exact congrArg (RO.ints .i64) he | omega | exact rfl)
    · have h4 : (G.length : Int) ≤ (y : Int) := h4
      have hye : y = G.length := by omega
      subst hye
      have he : pbL G x ++ [pbR G x G.length] = pbL G (x + 1) := (pbL_succ x).symm
      refine And.intro (show ((pbL G x ++ [pbR G x G.length]).length : Int) ≤ 2199023255552 by rw [List.length_append, List.length_singleton]; omega) ?_
      refine And.intro (by omega) ?_
      exact nx (x + 1) (show x + 1 ≤ G.length by omega) (show G.length - (x + 1) < G.length - x by omega) (by repeat' first | refine And.intro ?_ ?_ | exact True.intro | exact congrArg (RO.rows .i64) he | omega | exact rfl)
  · have h3 : (G.length : Int) ≤ (x : Int) := h3
    have hxe : x = G.length := by omega
    subst hxe
    repeat' first | refine And.intro ?_ ?_ | exact True.intro | omega | exact rfl
set_option maxHeartbeats 4000000 in
theorem rtab_no (G : List (List Int)) (h : tabE G ≠ 0) : QF 42 [.ro (.rows .i64 G)] (.tup [.nils, .int .i64 (tabE G)]) := mkQ Try.func42 (by decide +kernel) rfl (Nat.le_of_ble_eq_true rfl) fun hf => by
  have hGl : G.length ≤ 140737488355328 := hf.1.1
  refine Or.inl (cq (rmay16_fn G) (And.intro rfl trivial) ?_)
  refine And.intro (fun h1 => ?_) (fun h1 => ?_)
  · exact And.intro trivial (And.intro (show mayV G = tabE G from (tabE_may h1).symm) trivial)
  have hm : mayV G = 0 := h1
  obtain ⟨h0, hpm⟩ := may_zero.1 hm
  refine Exists.intro [] <| lp (X := Nat) (fun i => [(23, .int .i64 i)]) (fun _ => []) (fun i => i ≤ G.length ∧ ∀ a b, b < a → a < i → G.getD a [] ≠ G.getD b []) (fun i => G.length - i) 0 ⟨Nat.zero_le _, fun a b _ h => absurd h (Nat.not_lt_zero _)⟩ (by repeat' first | refine And.intro ?_ ?_ | exact True.intro | (show (_ : Int) = (_ : Int); omega) | omega | exact rfl | (simp only [RO.len]; omega)) ?_
  rintro i ⟨hi, hI⟩
  refine And.intro (fun h1 => ?_) (fun h1 => ?_)
  · have h1 : (i : Int) < (G.length : Int) := h1
    refine Exists.intro [] <| lp (X := Nat) (fun j => [(6, .int .i64 j)]) (fun _ => []) (fun j => j ≤ i ∧ ∀ b, b < j → G.getD i [] ≠ G.getD b []) (fun j => i - j) 0 ⟨Nat.zero_le _, fun b h => absurd h (Nat.not_lt_zero _)⟩ (by repeat' first | refine And.intro ?_ ?_ | exact True.intro | (show (_ : Int) = (_ : Int); omega) | omega | exact rfl | (simp only [RO.len]; omega)) ?_
    rintro j ⟨hj, hJ⟩
    refine And.intro (fun h2 => ?_) (fun h2 => ?_)
    · have h2 : (j : Int) < (i : Int) := h2
      refine Or.inl ?_
      refine Exists.intro (List.replicate 9 false) (And.intro (by decide +kernel) ?_)
      refine And.intro (by omega) ?_
      refine And.intro (by omega) ?_
      refine Exists.intro _ (Exists.intro _ (And.intro (same_fn (G.getD i []) (G.getD j [])) (And.intro (And.intro rfl (And.intro rfl trivial)) ?_)))
      refine And.intro (fun h3 => ?_) (fun h3 => ?_)
      · have h4 : G.getD i [] = G.getD j [] := of_decide_eq_true h3
        have hd : ¬ G.Nodup := fun hd => absurd (nodup_at hd (by omega) (by omega) h4) (by omega)
        exact And.intro trivial (And.intro (show (4 : Int) = tabE G by rw [tabE_dup hm hd]) trivial)
      · have h4 : ¬ G.getD i [] = G.getD j [] := of_decide_eq_false h3
        refine And.intro (by omega) ?_
        exact nx (j + 1) ⟨by omega, fun b hb => if e : b = j then e ▸ h4 else hJ b (by omega)⟩ (show i - (j + 1) < i - j by omega) (by repeat' first | refine And.intro ?_ ?_ | exact True.intro | (show (_ : Int) = (_ : Int); omega) | omega | exact rfl | (simp only [RO.len]; omega))
    · have h2 : (i : Int) ≤ (j : Int) := h2
      refine And.intro (by omega) ?_
      refine nx (i + 1) ⟨by omega, fun a b hba ha => ?_⟩ (show G.length - (i + 1) < G.length - i by omega) (by repeat' first | refine And.intro ?_ ?_ | exact True.intro | (show (_ : Int) = (_ : Int); omega) | omega | exact rfl | (simp only [RO.len]; omega))
      by_cases e : a = i
      · subst e; exact hJ b (by omega)
      · exact hI a b hba (by omega)
  have h1 : (G.length : Int) ≤ (i : Int) := h1
  have hd : G.Nodup := List.nodup_iff_pairwise_ne.2 (List.pairwise_iff_getElem.2 fun a b ha hb hab e => hI b a hab (by omega) (by rw [getD_eq ha, getD_eq hb]; exact e.symm))
  refine And.intro (fun h2 => ?_) (fun h2 => ?_)
  · have h2 : 400 < (G.length : Int) := h2
    exact And.intro trivial (And.intro (show (3 : Int) = tabE G by rw [tabE_big hm hd (by omega)]) trivial)
  have h2 : (G.length : Int) ≤ 400 := h2
  have h400 : G.length ≤ 400 := by omega
  have hC : ¬ ClsP G := fun hc => h (tabE_ok.2 ⟨hm, hd, h400, hc⟩)
  have h9 : (9 : Int) = tabE G := (tabE_cls hm hd h400 hC).symm
  refine Exists.intro [] <| lp (X := Nat) (fun x => [(46, .int .i64 x), (7, .vec 82)]) (fun x => [(82, .vec 0 (.rows .i64 (pbL G x)) [])]) (fun x => x ≤ G.length ∧ ∀ a b, a < x → b < G.length → cmpP (G.getD a []) (G.getD b []) ∈ G) (fun x => G.length - x) 0 (⟨Nat.zero_le _, fun a _ h => absurd h (Nat.not_lt_zero _)⟩) (by repeat' first | refine And.intro ?_ ?_ | exact True.intro | (show (_ : Int) = (_ : Int); omega) | omega | exact rfl | (simp only [RO.len]; omega)) ?_
  rintro x ⟨hx, hqx⟩
  refine And.intro (fun h3 => ?_) (fun h3 => ?_)
  · have h3 : (x : Int) < (G.length : Int) := h3
    have hxl : x < G.length := by omega
    have hpx := hpm _ (getD_mem (d := []) hxl)
    have hxv := hpx.2.1
    have hxlen := pbL_len (E := G) x
    refine And.intro (by omega) ?_
    refine Exists.intro [] <| lp (X := Nat) (fun y => [(52, .int .i64 y), (10, .vec 77)]) (fun y => [(77, .vec 0 (.ints .i64 (pbR G x y)) [])]) (fun y => y ≤ G.length ∧ ∀ b, b < y → cmpP (G.getD x []) (G.getD b []) ∈ G) (fun y => G.length - y) 0 (⟨Nat.zero_le _, fun a h => absurd h (Nat.not_lt_zero _)⟩) (by repeat' first | refine And.intro ?_ ?_ | exact True.intro | (show (_ : Int) = (_ : Int); omega) | omega | exact rfl | (simp only [RO.len]; omega)) ?_
    rintro y ⟨hy, hry⟩
    refine And.intro (fun h4 => ?_) (fun h4 => ?_)
    · have h4 : (y : Int) < (G.length : Int) := h4
      have hyl : y < G.length := by omega
      have hpy := hpm _ (getD_mem (d := []) hyl)
      have hpp := (hpx.2.perm).rng
      have hll : (G.getD x []).length = (G.getD y []).length := by have := hpx.1; have := hpy.1; omega
      have hylen := pbR_len (E := G) x y
      refine And.intro (by omega) ?_
      refine Or.inl (cq (rcomp_fn (G.getD x []) (G.getD y []) hxv.1.2 (fun z hz => by have := hpp z hz; omega)) (And.intro rfl (And.intro rfl trivial)) ?_)
      refine Exists.intro [] <| lp2 (fun (k : Nat) (c : Int) => [(61, .int .i64 k), (14, .int .i64 c)]) (fun _ _ => []) (fun k c => k ≤ G.length ∧ (∀ a, a < k → G.getD a [] = cmpP (G.getD x []) (G.getD y []) → c = (a : Int)) ∧ (c = -1 ∨ ∃ a, a < k ∧ G.getD a [] = cmpP (G.getD x []) (G.getD y []) ∧ c = (a : Int))) (fun k _ => G.length - k) 0 (-1) ⟨Nat.zero_le _, fun a h => absurd h (Nat.not_lt_zero _), .inl rfl⟩ (by repeat' first | refine And.intro ?_ ?_ | exact True.intro | (show (_ : Int) = (_ : Int); omega) | omega | exact rfl | (simp only [RO.len]; omega)) ?_
      rintro k c ⟨hk, hc1, hc2⟩
      refine And.intro (fun h5 => ?_) (fun h5 => ?_)
      · have h5 : (k : Int) < (G.length : Int) := h5
        refine And.intro (by omega) ?_
        refine Or.inl (cq (same_fn (G.getD k []) (cmpP (G.getD x []) (G.getD y []))) (And.intro rfl (And.intro rfl trivial)) ?_)
        refine And.intro (fun h6 => ?_) (fun h6 => ?_)
        · have h6 : G.getD k [] = cmpP (G.getD x []) (G.getD y []) := of_decide_eq_true h6
          refine And.intro (by omega) ?_
          refine nx (k + 1, (k : Int)) ⟨by omega, fun a ha e => ?_, .inr ⟨k, by omega, h6, rfl⟩⟩ (show G.length - (k + 1) < G.length - k by omega) (by repeat' first | refine And.intro ?_ ?_ | exact True.intro | (show (_ : Int) = (_ : Int); omega) | omega | exact rfl | (simp only [RO.len]; omega))
          have := nodup_at hd (show a < G.length by omega) (show k < G.length by omega) (e.trans h6.symm)
          omega
        · have h6 : ¬ G.getD k [] = cmpP (G.getD x []) (G.getD y []) := of_decide_eq_false h6
          refine And.intro (by omega) ?_
          refine nx (k + 1, c) ⟨by omega, fun a ha e => ?_, hc2.imp id fun ⟨a, h7, h8, h9⟩ => ⟨a, by omega, h8, h9⟩⟩ (show G.length - (k + 1) < G.length - k by omega) (by repeat' first | refine And.intro ?_ ?_ | exact True.intro | (show (_ : Int) = (_ : Int); omega) | omega | exact rfl | (simp only [RO.len]; omega))
          by_cases ea : a = k
          · subst ea; exact absurd e h6
          · exact hc1 a (by omega) e
      · have h5 : (G.length : Int) ≤ (k : Int) := h5
        refine And.intro (fun h6 => ?_) (fun h6 => ?_)
        · exact And.intro trivial (And.intro h9 trivial)
        have h6 : 0 ≤ c := h6
        have hin : cmpP (G.getD x []) (G.getD y []) ∈ G := by
          rcases hc2 with h7 | ⟨a, h7, h8, _⟩
          · omega
          · rw [← h8]; exact getD_mem (by omega)
        have hix := idx_get hin
        have hce : c = (pbE G x y : Int) := hc1 (pbE G x y) (by have := hix.1; unfold pbE; omega) hix.2
        have he : pbR G x y ++ [c] = pbR G x (y + 1) := by rw [pbR_succ, hce]
        refine And.intro (show ((pbR G x y ++ [c]).length : Int) ≤ 17592186044416 by rw [List.length_append, List.length_singleton]; omega) ?_
        refine And.intro (by omega) ?_
        exact nx (y + 1) ⟨by omega, fun b hb => if e : b = y then e ▸ hin else hry b (by omega)⟩ (show G.length - (y + 1) < G.length - y by omega) (by repeat' first | refine And.intro ?_ ?_ | exact True.intro | exact congrArg (RO.ints .i64) he | omega | exact rfl)
    · have h4 : (G.length : Int) ≤ (y : Int) := h4
      have hye : y = G.length := by omega
      subst hye
      have he : pbL G x ++ [pbR G x G.length] = pbL G (x + 1) := (pbL_succ x).symm
      refine And.intro (show ((pbL G x ++ [pbR G x G.length]).length : Int) ≤ 2199023255552 by rw [List.length_append, List.length_singleton]; omega) ?_
      refine And.intro (by omega) ?_
      exact nx (x + 1) ⟨by omega, fun a b ha hb => if e : a = x then e ▸ hry b (by omega) else hqx a b (by omega) hb⟩ (show G.length - (x + 1) < G.length - x by omega) (by repeat' first | refine And.intro ?_ ?_ | exact True.intro | exact congrArg (RO.rows .i64) he | omega | exact rfl)
  · have h3 : (G.length : Int) ≤ (x : Int) := h3
    exact absurd (fun a b ha hb => hqx a b (by omega) hb) hC
end Go.Proofs.Ytjlkhjgnfnfmgaa
end
