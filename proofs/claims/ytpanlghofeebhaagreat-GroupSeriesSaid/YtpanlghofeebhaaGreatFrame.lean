import Derived.Test.YtpanlghofeebhaaGreatSort
import Derived.Test.YtpanlghofeebhaaGreatCmp
import Derived.Test.YtpanlghofeebhaaGreatThree
import Derived.Test.YtpanlghofeebhaaGreatSol
import Derived.Test.YtpanlghofeebhaaGreatJhHol
import Derived.Test.YtpanlghofeebhaaGreatCenter
import Derived.Test.YtpanlghofeebhaaGreatEqvLaw
import Derived.Test.YtpanlghofeebhaaGreatRows
import Derived.Deep.Matrix
import Derived.Deep.Fields
import Derived.SizedLaws
import Derived.Carry
import Derived.WideKeyArgs
import Derived.ProofKit
import Derived.OpenShut
section
/- Lists of permutations; group.Generate: contracts. -/
namespace Go.Proofs.YtpanlghofeebhaaGreat
open Go Go.AM
set_option maxRecDepth 100000
def pmsP (l : List (List Int)) (n : Int) : Prop := ∀ f ∈ l, (f.length : Int) = n ∧ prmP f
noncomputable def pmsB (l : List (List Int)) (n : Int) : Bool := @decide (pmsP l n) (Classical.propDecidable _)
theorem pmsB_true {l : List (List Int)} {n : Int} : pmsB l n = true ↔ pmsP l n := by unfold pmsB; exact @decide_eq_true_iff _ (Classical.propDecidable _)
theorem pmsB_false {l : List (List Int)} {n : Int} : pmsB l n = false ↔ ¬ pmsP l n := by unfold pmsB; exact @decide_eq_false_iff_not _ (Classical.propDecidable _)
theorem gpms_k (l : List (List Int)) (n : Int) (hl : l.length ≤ 140737488355328) : fnK TY SP Tryz.f64 [.ro (.rows .i64 l), .int .i64 n] (.bool (.v (pmsB l n))) := by
  have no : ¬ pmsP l n → (BE.lit false).val = (BE.v (pmsB l n)).val := fun h => (pmsB_false.2 h).symm
  refine Exists.intro [] <| lp (X := Nat) (fun i => [(9, .int .i64 i)]) (fun _ => []) (fun i => i ≤ l.length ∧ ∀ j, j < i → ((l.getD j []).length : Int) = n ∧ prmP (l.getD j [])) (fun i => l.length - i) 0 ⟨Nat.zero_le _, fun j h => absurd h (Nat.not_lt_zero _)⟩ (by repeat' first | refine And.intro ?_ ?_ | exact True.intro | (show (_ : Int) = (_ : Int); omega) | omega | exact rfl | (simp only [RO.len]; omega)) ?_
  rintro i ⟨hi, hI⟩
  refine And.intro (fun h1 => ?_) (fun h1 => ?_)
  · have h1 : (i : Int) < (l.length : Int) := h1
    have hm := getD_mem (d := []) (l := l) (i := i) (by omega)
    refine And.intro (by omega) ?_
    refine And.intro (fun h2 => ?_) (fun h2 => ?_)
    · have h2 : ¬ ((l.getD i []).length : Int) = n := h2
      exact And.intro (no fun h => h2 (h _ hm).1) trivial
    have h2 : ((l.getD i []).length : Int) = n := h2
    refine Or.inl (cq (tperm_fn (l.getD i [])) (And.intro rfl trivial) ?_)
    refine And.intro (fun h3 => ?_) (fun h3 => ?_)
    · have h3 : (!prmB (l.getD i [])) = true := h3
      refine And.intro (no fun h => ?_) trivial
      rw [prmB_true.2 (h _ hm).2] at h3; cases h3
    have h3 : (!prmB (l.getD i [])) = false := h3
    refine And.intro (by omega) ?_
    refine nx (i + 1) ⟨by omega, fun j hj => ?_⟩ (show l.length - (i + 1) < l.length - i by omega) (by repeat' first | refine And.intro ?_ ?_ | exact True.intro | (show (_ : Int) = (_ : Int); omega) | omega | exact rfl | (simp only [RO.len]; omega))
    by_cases e : j = i
    · subst e; exact ⟨h2, prmB_true.1 (by simpa using h3)⟩
    · exact hI j (by omega)
  · have h1 : (l.length : Int) ≤ (i : Int) := h1
    refine And.intro ?_ trivial
    refine (pmsB_true.2 fun f hf => ?_).symm
    obtain ⟨j, hj, rfl⟩ := mem_getD [] hf
    exact hI j (by omega)
theorem gpms_fn (l : List (List Int)) (n : Int) : QF 64 [.ro (.rows .i64 l), .int .i64 n] (.bool (.v (pmsB l n))) := mkQ Tryz.func64 (by decide +kernel) rfl (Nat.le_of_ble_eq_true rfl) fun hf => gpms_k l n hf.1.1
noncomputable def mayV (l : List (List Int)) : Int := if l.length = 0 then 1 else if pmsB l (l.getD 0 []).length = true then 0 else 4
theorem may_zero {l : List (List Int)} : mayV l = 0 ↔ 0 < l.length ∧ pmsP l (l.getD 0 []).length := by
  unfold mayV
  split
  · rename_i h; exact ⟨fun h' => (by cases h'), fun h' => (by omega)⟩
  · split
    · rename_i h1 h2; exact ⟨fun _ => ⟨by omega, pmsB_true.1 h2⟩, fun _ => rfl⟩
    · rename_i h1 h2; exact ⟨fun h' => (by cases h'), fun h' => absurd (pmsB_true.2 h'.2) h2⟩
set_option maxHeartbeats 4000000 in
theorem pgen_fn (G : List (List Int)) (n : Nat) (h0 : 0 < G.length) (h8 : G.length ≤ 8) (h1 : 1 ≤ n) (h5 : n ≤ 5) (hG : ∀ f ∈ G, prmP f ∧ f.length = n) : QF 41 [.ro (.rows .i64 G)] (.tup [.new (.rows .i64 (grpL n G)), .int .i64 0]) := mkQ Tryz.func41 (by decide +kernel) rfl (Nat.le_of_ble_eq_true rfl) fun _ => by
  have hP : ∀ f ∈ G, Perm n f := fun f hf => (hG f hf).2 ▸ (hG f hf).1.perm
  have h00 := hG _ (getD_mem (d := []) h0)
  have hbyte : ∀ {f : List Int}, Perm n f → ∀ x ∈ f, 0 ≤ x ∧ x ≤ 255 := fun hf x hx => by have := hf.rng x hx; omega
  refine And.intro (fun h => absurd (show (G.length : Int) = 0 from h) (by omega)) (fun _ => ?_)
  refine And.intro (by omega) ?_
  refine Or.inl (cq (gpms_fn G ((G.getD 0 []).length : Int)) (And.intro rfl (And.intro rfl trivial)) ?_)
  refine And.intro (fun h => ?_) (fun _ => ?_)
  · have h : (!pmsB G ((G.getD 0 []).length : Int)) = true := h
    rw [pmsB_true.2 fun f hf => ⟨by rw [(hG f hf).2, h00.2], (hG f hf).1⟩] at h; cases h
  refine Or.inl (cq (tident_fn (G.getD 0 []).length (by omega) (by omega)) (And.intro rfl trivial) ?_)
  rw [h00.2]
  refine Or.inl (cq (gtext_fn (disI n) (by rw [disI_len]; omega) (hbyte (perm_dis n))) (And.intro rfl trivial) ?_)
  refine Exists.intro [30] <| lp3 (fun (k : Nat) (_ _ : List (List Int)) => [(37, .int .i64 k), (6, .vec 30), (8, .vec 48)]) (fun _ E U => [(30, .vec 0 (.rows .i64 E) []), (31, .map .str none (setO E)), (48, .vec 0 (.rows .i64 U) [])]) (fun k E U => k ≤ G.length ∧ U.length ≤ k ∧ GnI n G U E k) (fun k _ _ => G.length - k) 0 [disI n] [] ⟨Nat.zero_le _, Nat.le_refl _, GnI.start n G⟩ (by repeat' first | refine And.intro ?_ ?_ | exact True.intro | (show (_ : Int) = (_ : Int); omega) | omega | exact rfl | (simp only [RO.len]; omega)) ?_
  rintro k E U ⟨hk, hUk, hI⟩
  refine And.intro (fun h2 => ?_) (fun h2 => ?_)
  · have h2 : (k : Int) < (G.length : Int) := h2
    have hkl : k < G.length := by omega
    have hfk := hG _ (getD_mem (d := []) hkl)
    have hpk := hP _ (getD_mem (d := []) hkl)
    have hU : ∀ g ∈ U ++ [G.getD k []], Perm n g := fun g hg => (List.mem_append.1 hg).elim (fun hg => hP g (hI.us g hg)) fun hg => by rw [List.mem_singleton.1 hg]; exact hpk
    refine And.intro (by omega) ?_
    refine Or.inl (cq (gtext_fn (G.getD k []) (by omega) (hbyte hpk)) (And.intro rfl trivial) ?_)
    refine And.intro (fun h3 => ?_) (fun h3 => ?_)
    · have h3 : ((getM (setO E) (G.getD k [])).getD 0 : Int) ≠ 0 := h3
      have hin : G.getD k [] ∈ E := Classical.byContradiction fun hno => h3 (by rw [getM_setO, if_neg hno]; rfl)
      refine And.intro (by omega) ?_
      exact nx (k + 1, E, U) ⟨by omega, by omega, hI.skip hin⟩ (show G.length - (k + 1) < G.length - k by omega) (by repeat' first | refine And.intro ?_ ?_ | exact True.intro | (show (_ : Int) = (_ : Int); omega) | omega | exact rfl | (simp only [RO.len]; omega))
    have hUl : (U ++ [G.getD k []]).length = U.length + 1 := by simp
    refine And.intro (show ((U ++ [G.getD k []]).length : Int) ≤ 2199023255552 by omega) ?_
    refine Exists.intro [] <| lp2 (fun (i : Nat) (_ : List (List Int)) => [(11, .int .i64 i), (6, .vec 30)]) (fun _ F => [(30, .vec 0 (.rows .i64 F) []), (31, .map .str none (setO F))]) (fun i F => i ≤ F.length ∧ GnJ n (U ++ [G.getD k []]) F i 0 ∧ ∀ p ∈ E, p ∈ F) (fun i _ => 121 - i) 0 E ⟨Nat.zero_le _, hI.open, fun p hp => hp⟩ (by repeat' first | refine And.intro ?_ ?_ | exact True.intro | (show (_ : Int) = (_ : Int); omega) | omega | exact rfl | (simp only [RO.len]; omega)) ?_
    rintro i F ⟨hi, hJ, hEF⟩
    have hF := hJ.few h5 hU
    refine And.intro (fun h4 => ?_) (fun h4 => ?_)
    · have h4 : (i : Int) < (F.length : Int) := h4
      refine Exists.intro [50] <| lp2 (fun (m : Nat) (_ : List (List Int)) => [(57, .int .i64 m), (6, .vec 30)]) (fun _ H => [(30, .vec 0 (.rows .i64 H) []), (31, .map .str none (setO H))]) (fun m H => m ≤ (U ++ [G.getD k []]).length ∧ i < H.length ∧ GnJ n (U ++ [G.getD k []]) H i m ∧ ∀ p ∈ E, p ∈ H) (fun m _ => (U ++ [G.getD k []]).length - m) 0 F ⟨Nat.zero_le _, by omega, hJ, hEF⟩ (by repeat' first | refine And.intro ?_ ?_ | exact True.intro | (show (_ : Int) = (_ : Int); omega) | omega | exact rfl | (simp only [RO.len]; omega)) ?_
      rintro m H ⟨hm, hiH, hK, hEH⟩
      have hH := hK.few h5 hU
      refine And.intro (fun h6 => ?_) (fun h6 => ?_)
      · have h6 : (m : Int) < ((U ++ [G.getD k []]).length : Int) := h6
        have hml : m < (U ++ [G.getD k []]).length := by omega
        have hp1 := (hK.wd _ (getD_mem (d := []) hiH)).perm hU
        have hp2 := hU _ (getD_mem (d := []) hml)
        have hp3 := hp1.cmp hp2
        have hl1 := hp1.len
        have hl2 := hp2.len
        have hl3 := hp3.len
        have hml2 : (H ++ [cmpP (H.getD i []) ((U ++ [G.getD k []]).getD m [])]).length = H.length + 1 := by simp
        refine And.intro (by omega) ?_
        refine And.intro (by omega) ?_
        refine Or.inl (cq (gcomp_fn (H.getD i []) ((U ++ [G.getD k []]).getD m []) (by omega) (fun x hx => by have := hp1.rng x hx; omega)) (And.intro rfl (And.intro rfl trivial)) ?_)
        refine Or.inl (cq (gtext_fn (cmpP (H.getD i []) ((U ++ [G.getD k []]).getD m [])) (by omega) (hbyte hp3)) (And.intro rfl trivial) ?_)
        refine And.intro (fun h7 => ?_) (fun h7 => ?_)
        · have h7 : ((getM (setO H) (cmpP (H.getD i []) ((U ++ [G.getD k []]).getD m []))).getD 0 : Int) = 0 := h7
          have hno : cmpP (H.getD i []) ((U ++ [G.getD k []]).getD m []) ∉ H := fun hin => by rw [getM_setO, if_pos hin] at h7; exact absurd h7 (by decide)
          have hM := setM_setO hno
          have hK2 := hK.add hiH hml hno
          refine And.intro (show ((H ++ [cmpP (H.getD i []) ((U ++ [G.getD k []]).getD m [])]).length : Int) ≤ 2199023255552 by omega) ?_
          refine And.intro (by omega) ?_
          exact nx (m + 1, H ++ [cmpP (H.getD i []) ((U ++ [G.getD k []]).getD m [])]) ⟨by omega, by omega, hK2, fun p hp => List.mem_append_left _ (hEH p hp)⟩ (show (U ++ [G.getD k []]).length - (m + 1) < (U ++ [G.getD k []]).length - m by omega) (by repeat' first | refine And.intro ?_ ?_ | exact True.intro | exact hM | omega | exact rfl)
        · have h7 : ((getM (setO H) (cmpP (H.getD i []) ((U ++ [G.getD k []]).getD m []))).getD 0 : Int) ≠ 0 := h7
          have hin : cmpP (H.getD i []) ((U ++ [G.getD k []]).getD m []) ∈ H := Classical.byContradiction fun hno => h7 (by rw [getM_setO, if_neg hno]; rfl)
          refine And.intro (by omega) ?_
          exact nx (m + 1, H) ⟨by omega, hiH, hK.old hin, hEH⟩ (show (U ++ [G.getD k []]).length - (m + 1) < (U ++ [G.getD k []]).length - m by omega) (by repeat' first | refine And.intro ?_ ?_ | exact True.intro | (show (_ : Int) = (_ : Int); omega) | omega | exact rfl | (simp only [RO.len]; omega))
      · have h6 : ((U ++ [G.getD k []]).length : Int) ≤ (m : Int) := h6
        have hme : m = (U ++ [G.getD k []]).length := by omega
        subst hme
        refine And.intro (fun h7 => ?_) (fun _ => ?_)
        · have h7 : 2000 < (H.length : Int) := h7
          omega
        refine And.intro (by omega) ?_
        exact nx (i + 1, H) ⟨by omega, hK.row (Nat.le_refl _), hEH⟩ (show 121 - (i + 1) < 121 - i by omega) (by repeat' first | refine And.intro ?_ ?_ | exact True.intro | (show (_ : Int) = (_ : Int); omega) | omega | exact rfl | (simp only [RO.len]; omega))
    · have h4 : (F.length : Int) ≤ (i : Int) := h4
      refine And.intro (by omega) ?_
      exact nx (k + 1, F, U ++ [G.getD k []]) ⟨by omega, by omega, hI.shut hkl hP hJ (by omega) hEF⟩ (show G.length - (k + 1) < G.length - k by omega) (by repeat' first | refine And.intro ?_ ?_ | exact True.intro | (show (_ : Int) = (_ : Int); omega) | omega | exact rfl | (simp only [RO.len]; omega))
  · have h2 : (G.length : Int) ≤ (k : Int) := h2
    have hfin := hI.fin (by omega) hP
    have hpos : 0 < E.length := List.length_pos_of_mem hI.one
    have em : Go.Proofs.YtpanlghofeebhaaGreat.srt cmpL E = grpL n G := grp_of hP hI.nd hfin
    refine Or.inr (Or.inl (cm [] [(1000, 30)] (sortRows_m cmpL_tot compareL_fn E hpos) (And.intro (by repeat' first | refine And.intro ?_ ?_ | exact True.intro | (show (_ : Int) = (_ : Int); omega) | omega | exact rfl | (simp only [RO.len]; omega)) ?_)))
    repeat' first | refine And.intro ?_ ?_ | exact True.intro | exact congrArg (RO.rows .i64) em | omega | exact rfl
end Go.Proofs.YtpanlghofeebhaaGreat
end
section
/- Plain: what the table of a list of permutations is, or what is wrong. -/
namespace Go.Proofs.YtpanlghofeebhaaGreat
open Go Go.AM
noncomputable def tabE (G : List (List Int)) : Int := open Classical in if mayV G ≠ 0 then mayV G else if ¬ G.Nodup then 4 else if 400 < G.length then 3 else if ¬ ClsP G then 9 else 0
section
variable {G : List (List Int)}
theorem tabE_may (h : mayV G ≠ 0) : tabE G = mayV G := by unfold tabE; rw [if_pos h]
theorem tabE_dup (h : mayV G = 0) (hd : ¬ G.Nodup) : tabE G = 4 := by unfold tabE; rw [if_neg (by rw [h]; decide), if_pos hd]
theorem tabE_big (h : mayV G = 0) (hd : G.Nodup) (hb : 400 < G.length) : tabE G = 3 := by unfold tabE; rw [if_neg (by rw [h]; decide), if_neg (fun h => h hd), if_pos hb]
theorem tabE_cls (h : mayV G = 0) (hd : G.Nodup) (hb : G.length ≤ 400) (hc : ¬ ClsP G) : tabE G = 9 := by unfold tabE; rw [if_neg (by rw [h]; decide), if_neg (fun h => h hd), if_neg (by omega), if_pos hc]
theorem tabE_ok : tabE G = 0 ↔ mayV G = 0 ∧ G.Nodup ∧ G.length ≤ 400 ∧ ClsP G := by
  constructor
  · intro h
    have h1 : mayV G = 0 := Classical.byContradiction fun hn => hn (by rw [tabE_may hn] at h; exact h)
    have h2 : G.Nodup := Classical.byContradiction fun hn => by rw [tabE_dup h1 hn] at h; cases h
    have h3 : G.length ≤ 400 := Classical.byContradiction fun hn => by rw [tabE_big h1 h2 (by omega)] at h; cases h
    exact ⟨h1, h2, h3, Classical.byContradiction fun hn => by rw [tabE_cls h1 h2 h3 hn] at h; cases h⟩
  · rintro ⟨h1, h2, h3, h4⟩
    unfold tabE; rw [if_neg (by rw [h1]; decide), if_neg (fun h => h h2), if_neg (by omega), if_neg (fun h => h h4)]
structure NuI (G : List (List Int)) (i : Nat) (M : List (List Int × Int)) : Prop where
  yes : (G.take i).Nodup → M = mapOf id 0 (G.take i)
  no : ¬ (G.take i).Nodup → M.length < i
  le : M.length ≤ i
theorem NuI.start (G : List (List Int)) : NuI G 0 [] := ⟨fun _ => rfl, fun h => absurd (by rw [List.take_zero]; exact List.Pairwise.nil) h, Nat.le_refl _⟩
theorem setM_len : ∀ {m : List (List Int × Int)} {k : List Int} {v : Int}, (setM m k v).length ≤ m.length + 1 ∧ (getM m k ≠ none → (setM m k v).length = m.length)
  | [], _, _ => ⟨by simp [setM], fun h => absurd rfl h⟩
  | p :: m, k, v => by
    unfold setM getM
    by_cases h : p.1 = k
    · rw [if_pos h, if_pos h]; exact ⟨by simp, fun _ => by simp⟩
    · rw [if_neg h, if_neg h]
      have ih := setM_len (m := m) (k := k) (v := v)
      exact ⟨by simp only [List.length_cons]; omega, fun hn => by simp only [List.length_cons]; rw [ih.2 hn]⟩
theorem NuI.next {i : Nat} {M : List (List Int × Int)} (h : NuI G i M) (hi : i < G.length) : NuI G (i + 1) (setM M (G.getD i []) (i : Int)) := by
  have ht : G.take (i + 1) = G.take i ++ [G.getD i []] := by rw [List.take_succ_eq_append_getElem hi, ← getD_eq (d := []) hi]
  have hl := setM_len (m := M) (k := G.getD i []) (v := (i : Int))
  have hle := h.le
  by_cases hd : (G.take i).Nodup
  · have hM := h.yes hd
    by_cases hm : G.getD i [] ∈ G.take i
    · have hno : ¬ (G.take (i + 1)).Nodup := fun hn => by
        rw [ht, List.nodup_append] at hn
        exact hn.2.2 _ hm _ (List.mem_singleton.2 rfl) rfl
      have hg : getM M (G.getD i []) ≠ none := by
        have := getM_mapOf (key := (id : List Int → List Int)) (fun _ _ e => e) (x := G.getD i []) (fs := G.take i) (n := 0)
        rw [hM]; rw [show (id (G.getD i [])) = G.getD i [] from rfl] at this
        rw [this, if_pos hm]; exact fun h => by cases h
      exact ⟨fun hn => absurd hn hno, fun _ => by rw [hl.2 hg]; omega, by omega⟩
    · have hyes : (G.take (i + 1)).Nodup := by
        rw [ht, List.nodup_append]
        exact ⟨hd, List.pairwise_singleton _ _, fun a ha b hb e => hm (by rw [List.mem_singleton] at hb; rw [← hb, ← e]; exact ha)⟩
      have hg : getM M (G.getD i []) = none := by
        have := getM_mapOf (key := (id : List Int → List Int)) (fun _ _ e => e) (x := G.getD i []) (fs := G.take i) (n := 0)
        rw [hM]; rw [show (id (G.getD i [])) = G.getD i [] from rfl] at this
        rw [this, if_neg hm]
      refine ⟨fun _ => ?_, fun hn => absurd hyes hn, by omega⟩
      rw [setM_new hg, ht, mapOf_snoc, hM, List.length_take, Nat.min_eq_left (by omega)]; rfl
  · have hno : ¬ (G.take (i + 1)).Nodup := fun hn => hd (by rw [ht, List.nodup_append] at hn; exact hn.1)
    have := h.no hd
    exact ⟨fun hn => absurd hn hno, fun _ => by omega, by omega⟩
theorem NuI.dup {M : List (List Int × Int)} (h : NuI G G.length M) : (M.length : Int) < (G.length : Int) ↔ ¬ G.Nodup := by
  have ht : G.take G.length = G := List.take_length
  constructor
  · intro hl hn
    have := h.yes (by rw [ht]; exact hn)
    rw [this, mapOf_length, ht] at hl; omega
  · intro hn
    have := h.no (by rw [ht]; exact hn)
    omega
theorem NuI.get {M : List (List Int × Int)} (h : NuI G G.length M) (hd : G.Nodup) (x : List Int) : getM M x = if x ∈ G then some ((idxL G x : Nat) : Int) else none := by
  have ht : G.take G.length = G := List.take_length
  rw [h.yes (by rw [ht]; exact hd), ht]
  have := getM_mapOf (key := (id : List Int → List Int)) (fun _ _ e => e) (x := x) (fs := G) (n := 0)
  rw [show id x = x from rfl, Nat.zero_add] at this
  by_cases hx : x ∈ G
  · rw [if_pos hx] at this ⊢; exact this
  · rw [if_neg hx] at this ⊢; exact this
end
end Go.Proofs.YtpanlghofeebhaaGreat
end
section
/- The table of permutations: contracts. -/
namespace Go.Proofs.YtpanlghofeebhaaGreat
open Go Go.AM
set_option maxRecDepth 100000
set_option maxHeartbeats 4000000 in
theorem gtab_ok (G : List (List Int)) (h : tabE G = 0) : QF 42 [.ro (.rows .i64 G)] (.tup [.new (.rows .i64 (pbL G G.length)), .int .i64 0]) := mkQ Tryz.func42 (by decide +kernel) rfl (Nat.le_of_ble_eq_true rfl) fun _ => by
  obtain ⟨hm, hd, h400, hC⟩ := tabE_ok.1 h
  obtain ⟨h0, hpm⟩ := may_zero.1 hm
  have hbyte : ∀ {f : List Int}, f ∈ G → f.length ≤ 32 ∧ ∀ x ∈ f, 0 ≤ x ∧ x ≤ 255 := fun hf => by
    have hv := (hpm _ hf).2.1
    exact ⟨hv.1.2, fun x hx => by have := hv.2 x hx; have := hv.1.2; omega⟩
  refine And.intro (fun h1 => absurd (show (G.length : Int) = 0 from h1) (by omega)) (fun _ => ?_)
  refine And.intro (by omega) ?_
  refine Or.inl (cq (gpms_fn G ((G.getD 0 []).length : Int)) (And.intro rfl (And.intro rfl trivial)) ?_)
  refine And.intro (fun h1 => ?_) (fun _ => ?_)
  · have h1 : (!pmsB G ((G.getD 0 []).length : Int)) = true := h1
    rw [pmsB_true.2 hpm] at h1; cases h1
  refine Exists.intro [] <| lp2 (fun (i : Nat) (_ : List (List Int × Int)) => [(29, .int .i64 i)]) (fun _ M => [(26, .map .str (some .i64) M)]) (fun i M => i ≤ G.length ∧ NuI G i M) (fun i _ => G.length - i) 0 [] ⟨Nat.zero_le _, NuI.start G⟩ (by repeat' first | refine And.intro ?_ ?_ | exact True.intro | (show (_ : Int) = (_ : Int); omega) | omega | exact rfl | (simp only [RO.len]; omega)) ?_
  rintro i M ⟨hi, hI⟩
  refine And.intro (fun h1 => ?_) (fun h1 => ?_)
  · have h1 : (i : Int) < (G.length : Int) := h1
    have hil : i < G.length := by omega
    have hb := hbyte (getD_mem (d := []) hil)
    refine And.intro (by omega) ?_
    refine Or.inl (cq (gtext_fn (G.getD i []) hb.1 hb.2) (And.intro rfl trivial) ?_)
    refine And.intro (by omega) ?_
    exact nx (i + 1, setM M (G.getD i []) (i : Int)) ⟨by omega, hI.next hil⟩ (show G.length - (i + 1) < G.length - i by omega) (by repeat' first | refine And.intro ?_ ?_ | exact True.intro | (show (_ : Int) = (_ : Int); omega) | omega | exact rfl | (simp only [RO.len]; omega))
  have h1 : (G.length : Int) ≤ (i : Int) := h1
  have hie : i = G.length := by omega
  subst hie
  have hle := hI.le
  refine And.intro (by omega) ?_
  refine And.intro (fun h2 => absurd hd (hI.dup.1 h2)) (fun _ => ?_)
  refine And.intro (fun h2 => ?_) (fun _ => ?_)
  · have h2 : 400 < (G.length : Int) := h2
    omega
  refine And.intro (by omega) ?_
  refine And.intro (by omega) ?_
  refine Or.inl ?_
  refine Exists.intro [] <| lp2 (fun (x : Nat) (_ : List (List Int)) => [(52, .int .i64 x)]) (fun _ q => [(49, .vec 0 (.rows .i64 q) [])]) (fun x q => x ≤ G.length ∧ q.length = G.length ∧ ∀ x', x' < x → q.getD x' [] = pbR G x' G.length) (fun x _ => G.length - x) 0 (List.replicate G.length []) ⟨Nat.zero_le _, by simp, fun x h => absurd h (Nat.not_lt_zero _)⟩ (by repeat' first | refine And.intro ?_ ?_ | exact True.intro | (show (_ : Int) = (_ : Int); omega) | omega | exact rfl | (simp only [RO.len]; omega)) ?_
  rintro x q ⟨hx, hq, hqx⟩
  refine And.intro (fun h3 => ?_) (fun h3 => ?_)
  · have h3 : (x : Int) < (G.length : Int) := h3
    have hxl : x < G.length := by omega
    have hpx := hpm _ (getD_mem (d := []) hxl)
    refine And.intro (by omega) ?_
    refine And.intro (by omega) ?_
    refine And.intro (by omega) ?_
    refine And.intro (show 0 ≤ (x : Int) ∧ (x : Int) < (q.length : Int) by omega) ?_
    refine And.intro (by omega) ?_
    refine Exists.intro [] <| lp2 (fun (y : Nat) (_ : List Int) => [(65, .int .i64 y)]) (fun _ r => [(49, .vec 0 (.rows .i64 q) [((x : Int), 61)]), (61, .vec 0 (.ints .i64 r) [])]) (fun y r => y ≤ G.length ∧ r.length = G.length ∧ ∀ y', y' < y → r.getD y' 0 = (pbE G x y' : Int)) (fun y _ => G.length - y) 0 (List.replicate G.length 0) ⟨Nat.zero_le _, by simp, fun x h => absurd h (Nat.not_lt_zero _)⟩ (by repeat' first | refine And.intro ?_ ?_ | exact True.intro | (show (_ : Int) = (_ : Int); omega) | omega | exact rfl | (simp only [RO.len]; omega)) ?_
    rintro y r ⟨hy, hr, hry⟩
    refine And.intro (fun h4 => ?_) (fun h4 => ?_)
    · have h4 : (y : Int) < (G.length : Int) := h4
      have hyl : y < G.length := by omega
      have hpy := hpm _ (getD_mem (d := []) hyl)
      have hin := hC x y hxl hyl
      have hcx := hbyte (getD_mem (d := []) hxl)
      have hcb := hbyte hin
      have hget := hI.get hd (cmpP (G.getD x []) (G.getD y []))
      rw [if_pos hin] at hget
      have hpp := (hpx.2.perm).rng
      have hll : (G.getD x []).length = (G.getD y []).length := by have := hpx.1; have := hpy.1; omega
      refine And.intro (by omega) ?_
      refine Or.inl (cq (gcomp_fn (G.getD x []) (G.getD y []) hcx.1 (fun z hz => by have := hpp z hz; omega)) (And.intro rfl (And.intro rfl trivial)) ?_)
      refine Or.inl (cq (gtext_fn (cmpP (G.getD x []) (G.getD y [])) hcb.1 hcb.2) (And.intro rfl trivial) ?_)
      refine And.intro (fun h5 => ?_) (fun _ => ?_)
      · have h5 : (!(getM M (cmpP (G.getD x []) (G.getD y []))).isSome) = true := h5
        rw [hget] at h5; cases h5
      have hval : (getM M (cmpP (G.getD x []) (G.getD y []))).getD 0 = (pbE G x y : Int) := by rw [hget]; rfl
      refine And.intro (by omega) ?_
      refine And.intro (fun _ => ?_) (fun h6 => absurd rfl h6)
      refine And.intro (by omega) ?_
      refine And.intro (by omega) ?_
      refine And.intro (by omega) ?_
      refine nx (y + 1, r.set y ((getM M (cmpP (G.getD x []) (G.getD y []))).getD 0)) ⟨by omega, by rw [List.length_set]; exact hr, fun y' hy' => ?_⟩ (show G.length - (y + 1) < G.length - y by omega) (by repeat' first | refine And.intro ?_ ?_ | exact True.intro | (show (_ : Int) = (_ : Int); omega) | omega | exact rfl | (simp only [RO.len]; omega))
      by_cases e : y' = y
      · subst e; rw [getD_set_eq (by omega), hval]
      · rw [getD_set_ne (Ne.symm e)]; exact hry y' (by omega)
    · have h4 : (G.length : Int) ≤ (y : Int) := h4
      have hrd : r = pbR G x G.length := ext_getD 0 (by rw [pbR_len]; exact hr) fun z hz => by rw [hry z (by omega), pbR_get (by omega)]
      refine And.intro (by omega) ?_
      refine nx (x + 1, q.set x r) ⟨by omega, by rw [List.length_set]; exact hq, fun x' hx' => ?_⟩ (show G.length - (x + 1) < G.length - x by omega) (by repeat' first | refine And.intro ?_ ?_ | exact True.intro | (show (_ : Int) = (_ : Int); omega) | omega | exact rfl | (simp only [RO.len]; omega))
      by_cases e : x' = x
      · subst e; rw [getD_set_eq (by omega)]; exact hrd
      · rw [getD_set_ne (Ne.symm e)]; exact hqx x' (by omega)
  · have h3 : (G.length : Int) ≤ (x : Int) := h3
    have em : q = pbL G G.length := ext_getD [] (by rw [pbL_len]; exact hq) fun z hz => by rw [hqx z (by omega), pbL_get (by omega)]
    repeat' first | refine And.intro ?_ ?_ | exact True.intro | exact congrArg (RO.rows .i64) em | omega | exact rfl
end Go.Proofs.YtpanlghofeebhaaGreat
end
section
/- The sanity check of chapter 16, by contracts. -/
namespace Go.Proofs.YtpanlghofeebhaaGreat
open Go Go.AM
set_option maxRecDepth 100000
theorem three_k : fnK TY SP Tryz.f13 [] (.ro (.rows .i64 T6)) := by
  have hG : ∀ f ∈ G3, prmP f ∧ f.length = 3 := fun f hf => by
    have hp := g3p f hf
    exact ⟨⟨⟨by rw [hp.len]; omega, fun x hx => by rw [hp.len]; exact hp.rng x hx⟩, hp.nd⟩, hp.len⟩
  have hw : ∀ {p}, p ∈ grpL 3 G3 → Perm 3 p := fun hp => ((mem_grp g3p).1 hp).perm g3p
  have hpos : 0 < (grpL 3 G3).length := by rw [← e6_eq]; decide
  have h6 : (grpL 3 G3).length = 6 := by rw [← e6_eq]; rfl
  have hE : tabE (grpL 3 G3) = 0 := tabE_ok.2 ⟨may_zero.2 ⟨hpos, fun f hf => by
      have p0 := hw (getD_mem (d := []) hpos)
      have p1 := hw hf
      refine ⟨by rw [p1.len, p0.len], ⟨⟨by rw [p1.len]; omega, by rw [p1.len]; omega⟩, fun x hx => ?_⟩, p1.nd⟩
      rw [p1.len]; exact p1.rng x hx⟩, grp_nd, by omega, fun a b ha hb => (mem_grp g3p).2 (((mem_grp g3p).1 (getD_mem ha)).cmp g3p ((mem_grp g3p).1 (getD_mem hb)))⟩
  refine Or.inl (cq (pgen_fn G3 3 (by decide) (by decide) (by decide) (by decide) (fun f hf => ⟨⟨⟨by have := (g3p f hf).len; omega, fun x hx => by have := (g3p f hf).rng x hx; have := (g3p f hf).len; omega⟩, (g3p f hf).nd⟩, (g3p f hf).len⟩)) (And.intro rfl trivial) ?_)
  refine Or.inl (cq (gtab_ok (grpL 3 G3) hE) (And.intro rfl trivial) ?_)
  rw [t6_eq]
  exact And.intro (And.intro trivial rfl) trivial
theorem three_fn : QF 13 [] (.ro (.rows .i64 T6)) := mkQ Tryz.func13 (by decide +kernel) rfl (Nat.le_of_ble_eq_true rfl) fun _ => three_k
theorem awk16_k : fnK TY SP Tryz.f5 [] (.bool (.lit true)) := by
  refine Or.inl (cq three_fn trivial ?_)
  refine Or.inr (Or.inr (ce (gFac_fn T6 t6_grp (by decide)) (And.intro rfl trivial) ?_))
  rintro L ⟨F, hF, hL⟩
  rw [fac6 hF] at hL
  subst hL
  refine And.intro (fun _ => ?_) (fun h1 => absurd rfl h1)
  refine And.intro (by decide) ?_
  refine And.intro (fun _ => ?_) (fun h1 => absurd h1 (by decide))
  refine And.intro (by decide) ?_
  refine And.intro (fun _ => ?_) (fun h1 => absurd h1 (by decide))
  refine Or.inl (cq three_fn trivial ?_)
  refine Or.inl (cq (simple_fn T6) (And.intro rfl trivial) ?_)
  refine And.intro ?_ trivial
  show (!simB T6) = true
  unfold simB
  rw [decide_eq_false sim6, Bool.and_false]; rfl
theorem awk16_fn : QF 5 [] (.bool (.lit true)) := mkQ Tryz.func5 (by decide +kernel) rfl (Nat.le_of_ble_eq_true rfl) fun _ => awk16_k
end Go.Proofs.YtpanlghofeebhaaGreat
end
section
/- The statement GroupSeries: the walk. -/
namespace Go.Proofs.YtpanlghofeebhaaGreat
open Go Go.AM
set_option maxRecDepth 100000
theorem glarge_k (t : List (List Int)) (m : Int) (_ht : t.length ≤ 140737488355328) : fnK TY SP Tryz.f4 [.ro (.rows .i64 t), .int .i64 m] (.bool (.v (decide (m < t.length ∧ shapeV t = 0)))) := by
  refine And.intro (fun h1 => ?_) (fun h1 => ?_)
  · refine Or.inl (cq (rshape_fn t) (And.intro rfl trivial) ?_)
    refine And.intro ?_ trivial
    show decide (shapeV t = 0) = decide (m < t.length ∧ shapeV t = 0)
    simp [h1]
  · refine And.intro ?_ trivial
    show false = decide (m < t.length ∧ shapeV t = 0)
    rw [decide_eq_false (fun h => by omega)]
theorem glarge_fn (t : List (List Int)) (m : Int) : QF 4 [.ro (.rows .i64 t), .int .i64 m] (.bool (.v (decide (m < t.length ∧ shapeV t = 0)))) := mkQ Tryz.func4 (by decide +kernel) rfl (Nat.le_of_ble_eq_true rfl) fun hf => glarge_k t m hf.1.1
theorem fac_same {t : List (List Int)} {F : List (List Int)} {W : List (Int × Bool)} (h : Grp t) (hF : ChkS t F) (hs : W.Pairwise fun a b => cmpF a b ≤ 0) (hp : W.Perm ((facR t.length t).map fI)) : srt cmpF ((facL t F).map fI) = W := by
  refine srt_uniq cmpF_tot hs (hp.trans ?_)
  exact (jordan (elT t.length) _ _ (Nat.le_refl _) _ _ (facR_ser t.length t h (Nat.le_refl _)) hF.ser).map fI
set_option maxHeartbeats 4000000 in
theorem grpSer_k (t : List (List Int)) (S : List (List Int)) (h : Grp t) (hn : t.length ≤ 16) : fnK TY SP Tryz.f3 [.ro (.rows .i64 t), .ro (.rows .i64 S)] (.bool (.lit true)) := by
  have hg : grpB t = true := grpB_true.2 h
  refine Or.inl (cq (glarge_fn t 16) (And.intro rfl (And.intro rfl trivial)) ?_)
  refine And.intro (fun h1 => absurd (of_decide_eq_true (p := (16 : Int) < t.length ∧ shapeV t = 0) h1).1 (by omega)) (fun _ => ?_)
  refine Or.inr (Or.inr (ce (gSer_fn t h) (And.intro rfl trivial) ?_))
  intro F1 hF1
  refine Or.inr (Or.inr (ce (gFac_fn t h hn) (And.intro rfl trivial) ?_))
  rintro L ⟨F, hF, hL⟩
  refine Or.inl (cq (gChk_fn t S) (And.intro rfl (And.intro rfl trivial)) ?_)
  refine Or.inl (cq (rChk_fn t S (fun _ => hn)) (And.intro rfl (And.intro rfl trivial)) ?_)
  refine And.intro (fun h1 => absurd (show (!(chSB t S == chSB t S)) = true from h1) (by simp)) (fun _ => ?_)
  refine Or.inl (cq (rgroup_fn t) (And.intro rfl trivial) ?_)
  refine And.intro (fun h1 => absurd (show (!grpB t) = true from h1) (by rw [hg]; decide)) (fun _ => ?_)
  refine Or.inr (Or.inr (ce (rFac_fn t h hn) (And.intro rfl trivial) ?_))
  rintro W ⟨hW1, hW2⟩
  have hl4 : L.length ≤ 4 := by
    have := few_fac hF hn
    rw [hL, srt_len, List.length_map, facL_len]; omega
  have hLW : L = W := hL.trans (fac_same h hF hW1 hW2)
  have c1 : chSB t F1 = true := chSB_true.2 hF1
  refine Or.inl (cq (rChk_fn t F1 (fun _ => hn)) (And.intro rfl (And.intro rfl trivial)) ?_)
  refine And.intro (fun h1 => absurd (show (!chSB t F1) = true from h1) (by rw [c1]; decide)) (fun _ => ?_)
  refine Or.inl (cq (gChk_fn t F1) (And.intro rfl (And.intro rfl trivial)) ?_)
  refine And.intro (fun h1 => absurd (show (!chSB t F1) = true from h1) (by rw [c1]; decide)) (fun _ => ?_)
  refine And.intro (fun h1 => absurd (show (L.length : Int) = (W.length : Int) by rw [hLW]) h1) (fun _ => ?_)
  refine Exists.intro [] <| lp (X := Nat) (fun k => [(58, .int .i64 k)]) (fun _ => []) (fun k => k ≤ L.length) (fun k => L.length - k) 0 (Nat.zero_le _) (by repeat' first | refine And.intro ?_ ?_ | exact True.intro | (show (_ : Int) = (_ : Int); omega) | omega | exact rfl | (simp only [RO.len]; omega)) ?_
  intro k hk
  refine And.intro (fun h3 => ?_) (fun h3 => ?_)
  · have h3 : (k : Int) < (L.length : Int) := h3
    have hWl : W.length = L.length := by rw [hLW]
    refine Or.inl ?_
    refine Exists.intro (List.replicate 9 false) (And.intro (by decide +kernel) ?_)
    refine And.intro (by omega) ?_
    refine And.intro (by omega) ?_
    refine And.intro (fun h4 => ?_) (fun _ => ?_)
    · have h4 : (!((L.getD k (0, false)).1 == (W.getD k (0, false)).1 && (L.getD k (0, false)).2 == (W.getD k (0, false)).2)) = true := h4
      rw [hLW] at h4
      simp at h4
    · refine And.intro (by omega) ?_
      exact nx (k + 1) (show k + 1 ≤ L.length by omega) (show L.length - (k + 1) < L.length - k by omega) (by repeat' first | refine And.intro ?_ ?_ | exact True.intro | (show (_ : Int) = (_ : Int); omega) | omega | exact rfl | (simp only [RO.len]; omega))
  · refine Or.inl (cq awk16_fn trivial ?_)
    exact And.intro rfl trivial
theorem grpSerN_k (t : List (List Int)) (S : List (List Int)) (h : ¬ Grp t) (hl : ¬ ((16 : Int) < t.length ∧ shapeV t = 0)) : fnK TY SP Tryz.f3 [.ro (.rows .i64 t), .ro (.rows .i64 S)] (.bool (.lit true)) := by
  refine Or.inl (cq (glarge_fn t 16) (And.intro rfl (And.intro rfl trivial)) ?_)
  refine And.intro (fun h1 => absurd (of_decide_eq_true (p := (16 : Int) < t.length ∧ shapeV t = 0) h1) hl) (fun _ => ?_)
  refine Or.inl (cq (gSerN_fn t h) (And.intro rfl trivial) ?_)
  refine Or.inl (cq (gFacN_fn t h) (And.intro rfl trivial) ?_)
  refine Or.inl (cq (gChk_fn t S) (And.intro rfl (And.intro rfl trivial)) ?_)
  refine Or.inl (cq (rChk_fn t S (fun hh => absurd hh h)) (And.intro rfl (And.intro rfl trivial)) ?_)
  refine And.intro (fun h1 => absurd (show (!(chSB t S == chSB t S)) = true from h1) (by simp)) (fun _ => ?_)
  refine Or.inl (cq (rgroup_fn t) (And.intro rfl trivial) ?_)
  rw [grpB_false.2 h]
  refine And.intro (fun _ => ?_) (fun h1 => absurd (show (!false) = false from h1) (by decide))
  refine And.intro (fun _ => ?_) (fun h1 => absurd rfl h1)
  refine And.intro (fun _ => ?_) (fun h1 => absurd rfl h1)
  refine Or.inl (cq awk16_fn trivial ?_)
  exact And.intro rfl trivial
theorem grpSerA_k (t : List (List Int)) (S : List (List Int)) (hl : (16 : Int) < t.length ∧ shapeV t = 0) : fnK TY SP Tryz.f3 [.ro (.rows .i64 t), .ro (.rows .i64 S)] (.bool (.lit true)) := by
  refine Or.inl (cq (glarge_fn t 16) (And.intro rfl (And.intro rfl trivial)) ?_)
  refine And.intro (fun _ => ?_) (fun h1 => absurd hl (of_decide_eq_false (p := (16 : Int) < t.length ∧ shapeV t = 0) h1))
  refine Or.inl (cq awk16_fn trivial ?_)
  exact And.intro rfl trivial
theorem grpSer_fn (t : List (List Int)) (S : List (List Int)) : QF 3 [.ro (.rows .i64 t), .ro (.rows .i64 S)] (.bool (.lit true)) := by
  by_cases hl : (16 : Int) < t.length ∧ shapeV t = 0
  · exact mkQ Tryz.func3 (by decide +kernel) rfl (Nat.le_of_ble_eq_true rfl) fun _ => grpSerA_k t S hl
  · by_cases h : Grp t
    · have hn : t.length ≤ 16 := by
        have := shape_zero.2 h.toSh
        rcases Nat.lt_or_ge 16 t.length with h1 | h1
        · exact absurd ⟨by omega, this⟩ hl
        · exact h1
      exact mkQ Tryz.func3 (by decide +kernel) rfl (Nat.le_of_ble_eq_true rfl) fun _ => grpSer_k t S h hn
    · exact mkQ Tryz.func3 (by decide +kernel) rfl (Nat.le_of_ble_eq_true rfl) fun _ => grpSerN_k t S h hl
end Go.Proofs.YtpanlghofeebhaaGreat
end
section
/- From contracts to the given statements: how the arguments read, before and after. -/
namespace Go.Proofs.YtpanlghofeebhaaGreat
open Go Go.AM
open Go.ChangeShapes Go.WideShapes Go.ChangeAt Go.RowKit Go.Deep
def noM : Msk := fun _ _ => False
section
variable {H : Type} {enc : TypeId × Value → H} {P : Program} {w : World}
theorem wf_in {k : IntKind} {n : Int} (h : (Lit.int k n).wf = true) : inK k n := by
  simp only [Lit.wf, Bool.and_eq_true, decide_eq_true_eq] at h
  exact h
theorem weight_mem {e : TypeId} {d : DataW H} {x : Nat} : ∀ {l : List (DataW H)}, d ∈ l → x ∈ d.weights P e → x ∈ DataW.weightsAll P e l
  | [], h, _ => by cases h
  | c :: l, h, hx => by
    simp only [DataW.weightsAll, List.mem_append]
    rcases List.mem_cons.1 h with rfl | h
    · exact .inl hx
    · exact .inr (weight_mem h hx)
theorem rows_rep {t e q : TypeId} {n : Nat} {v : Value} {y : DataW H × List MemPlace} (ht : P.underlying t = some (.slice e)) (he : P.underlying e = some (.slice q)) (hq : P.underlying q = some (.int .i64)) (ce : P.cellsOf e = 1) (cq : P.cellsOf q = 1)
    (be : 1 ≤ P.bytesOf e) (bq : 1 ≤ P.bytesOf q) (h : DataW.trod enc P w 0 (fun _ => true) true n t [v] = some y) (hw : ∀ x ∈ y.1.weights P t, x ≤ reachBytes) : ∃ l, RepC noEnv w noM (.ro (.rows .i64 l)) v := by
  have hrb : reachBytes = 140737488351232 := rfl
  rcases open_int_rows ht he hq ce cq h with ⟨hv, _⟩ | ⟨a, len, cap, A, L, C, Z, hv, _, hl, hm, hy, hrows⟩
  · obtain rfl : v = .slice none 0 0 := by simpa using hv
    exact ⟨[], Nat.zero_le _, none, 0, rfl, Nat.le_refl _, .inl rfl⟩
  · obtain rfl : v = .slice (some a) len cap := by simpa using hv
    subst hy
    have hlen : len * P.bytesOf e ≤ reachBytes := by
      have := hw ((len + (cap - len)) * P.bytesOf e) (by simp [DataW.weights, ht])
      exact Nat.le_trans (Nat.mul_le_mul_right _ (by omega)) this
    have hlen1 : len ≤ reachBytes := Nat.le_trans (by have := Nat.mul_le_mul_left len be; omega) hlen
    have hL : ∀ r, r < len → L r ≤ reachBytes := fun r hr => by
      obtain ⟨_, h1, h2, h3, _, h4, _⟩ := hrows r (by omega)
      cases hA : A r with
      | none => have := h4 hA; omega
      | some a' =>
        have hx : (L r + ((Z r).length - L r)) * P.bytesOf q ≤ reachBytes := by
          refine hw _ ?_
          simp only [DataW.weights, ht, List.mem_cons, List.mem_append]
          refine .inr (.inl (weight_mem (d := intRow .i64 (A r) (L r) (Z r)) (List.mem_map.2 ⟨r, List.mem_range.2 hr, rfl⟩) ?_))
          rw [hA]
          simp [intRow, DataW.weights, he, lits]
          left
          rw [Nat.min_eq_left (by omega)]
        have h5 : L r * 1 ≤ (L r + ((Z r).length - L r)) * P.bytesOf q := Nat.mul_le_mul (by omega) bq
        omega
    refine ⟨(List.range len).map fun r => (Z r).take (L r), ?_⟩
    have hll : (RO.rows .i64 ((List.range len).map fun r => (Z r).take (L r))).len = len := by simp [RO.len]
    refine ⟨by rw [hll]; exact Nat.le_trans hlen1 (by rw [hrb]; decide), some a, cap, by rw [hll], by rw [hll]; exact hl, ?_⟩
    by_cases h0 : len = 0
    · exact .inl (by rw [RO.cells, hll, h0, Nat.zero_mul])
    have hcell0 := (hrows 0 (by omega)).1
    obtain ⟨b, off, spot⟩ := a
    have hspot : spot = none := by simpa [Addr.add] using World.cell?_spot hcell0
    subst hspot
    refine .inr ⟨b, off, rfl, fun r hr => ?_⟩
    have hr : r < len := by simpa [RO.cells, hll, RO.sz] using hr
    obtain ⟨h1, h2, h3, h4, h5, h6, h7⟩ := hrows r (by omega)
    refine ⟨.slice (A r) (L r) (C r), by rw [← add_plain]; exact h1, fun hh => hh, ?_⟩
    have hget : ((List.range len).map fun r => (Z r).take (L r)).getD r [] = (Z r).take (L r) := by simp [List.getD, hr]
    show SlI w noM .i64 (((List.range len).map fun r => (Z r).take (L r)).getD r []) _
    rw [hget]
    have hzl : ((Z r).take (L r)).length = L r := by rw [List.length_take]; omega
    refine ⟨by rw [hzl]; have := hL r hr; simp only [LB]; omega, A r, C r, by rw [hzl], by rw [hzl]; exact h2, ?_⟩
    by_cases hl0 : L r = 0
    · exact .inl (by rw [hzl, hl0])
    cases hA : A r with
    | none => have := h6 hA; omega
    | some a' =>
      obtain ⟨h8, h9⟩ := h7 a' hA
      obtain ⟨b', off', spot'⟩ := a'
      have hspot : spot' = none := by simpa [Addr.add] using World.cell?_spot (h9 0 (by omega))
      subst hspot
      refine .inr ⟨b', off', rfl, fun c hc => ?_⟩
      rw [hzl] at hc
      have hg2 : ((Z r).take (L r)).getD c 0 = (Z r).getD c 0 := by simp [List.getD, hc]
      refine ⟨.int .i64 ((Z r).getD c 0), by rw [← add_plain]; exact h9 c (by omega), fun hh => hh, by rw [hg2], ?_⟩
      rw [hg2]
      refine wf_in (h5 _ ?_)
      have : c < (Z r).length := by omega
      simp [List.getD, this]
theorem stp_heap {W W' : World} (hs : Stp (fun _ _ => False) W W') {b : Nat} (hb : b < W.heap.size) : W'.heap[b]? = W.heap[b]? := by
  rcases hs.2 b hb with h | ⟨cs, cs', ty, h1, h2, h3, h4⟩ | ⟨_, _, _, _, _, _, h⟩
  · exact h
  · rw [h1, h2]
    have : cs' = cs := Array.ext_getElem? fun i => h4 i (by simp)
    rw [this]
  · exact h.elim
theorem stp_trod {t : TypeId} (hl : laidOutB P = true) (hr : P.readableRec t = true) (hrow : t < P.types.size) {W W' : World} {v : Value} {d : DataW H} {ps : List MemPlace}
    (h : DataW.Trod enc P W 0 (fun _ => true) true t v d ps) (hs : Stp (fun _ _ => False) W W') (hlt : ∀ x ∈ ps, x.block < W.heap.size) (sp : Nat → Bool) (hsp : ∀ x ∈ ps, sp x.block = true) :
    DataW.Trod enc P W' 0 sp true t v d ps :=
  WideElems.Trod_stays hl hr hrow h (fun x hx => by
    have hb := hlt x hx
    cases x with
    | cell b o => exact World.cell?_of_block (w := W) (stp_heap hs hb)
    | map b => exact stp_heap hs hb) hsp
theorem stp_kept {W W' : World} (hs : Stp (fun _ _ => False) W W') (may : MemPlace → Prop) : W.keptBut W' may := by
  refine ⟨hs.3.1.1, hs.3.1.2, fun i hi => ?_⟩
  rw [stp_heap hs hi]
  cases W.heap[i]? with
  | none => exact rfl
  | some o => cases o <;> first | exact ⟨rfl, rfl, rfl, fun _ _ => rfl⟩ | exact .inr ⟨rfl, rfl⟩ | exact rfl
theorem each_mem : ∀ {ts : List TypeId} {ds : List (DataW H)} {j : Nat} {t : TypeId} {d : DataW H} {x : Nat}, ts[j]? = some t → ds[j]? = some d → x ∈ d.weights P t → x ∈ DataW.weightsEach P ts ds
  | [], _, j, _, _, _, h, _, _ => by simp at h
  | _ :: _, [], j, _, _, _, _, h, _ => by simp at h
  | t :: ts, d :: ds, 0, t', d', x, h1, h2, hx => by
    simp at h1 h2
    subst h1; subst h2
    simp [DataW.weightsEach, hx]
  | t :: ts, d :: ds, j + 1, t', d', x, h1, h2, hx => by
    have := each_mem (ts := ts) (ds := ds) (j := j) (by simpa using h1) (by simpa using h2) hx
    simp [DataW.weightsEach, this]
theorem rows_arg {t e q : TypeId} {r : Reach} {b0 : Nat} {v : Value} {d : DataW H} {p : List MemPlace} (ht : P.underlying t = some (.slice e)) (he : P.underlying e = some (.slice q)) (hq : P.underlying q = some (.int .i64)) (ce : P.cellsOf e = 1) (cq : P.cellsOf q = 1)
    (be : 1 ≤ P.bytesOf e) (bq : 1 ≤ P.bytesOf q) (hv : Value.okWide P w r b0 t v) (h : DataW.Trod enc P w 0 (fun _ => true) true t v d p) (hw : ∀ x ∈ d.weights P t, x ≤ reachBytes) : ∃ l, RepT noEnv w noM (.ro (.rows .i64 l)) v := by
  obtain ⟨a, len, cap, rfl⟩ := okWide_slice ht hv
  obtain ⟨fuel, hf⟩ := h
  exact rows_rep ht he hq ce cq be bq (y := (d, p)) hf hw
end
end Go.Proofs.YtpanlghofeebhaaGreat
end
