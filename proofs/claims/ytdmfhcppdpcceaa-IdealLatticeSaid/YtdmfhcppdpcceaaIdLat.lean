/- IdealLattice, the walk: it returns true. -/
import Derived.Test.YtdmfhcppdpcceaaLatLaw
import Derived.Test.YtdmfhcppdpcceaaIdealAwake
import Derived.Test.YtdmfhcppdpcceaaRefIdeal
namespace Go.Proofs.Ytdmfhcppdpcceaa
open Go Go.AM
set_option maxRecDepth 100000
set_option maxHeartbeats 1000000
theorem idLat_k (t : List (List Int)) (l : List Int) (a b : Int) : fnK TY SP Try.f5 [.ro (.rows .i64 t), .ro (.ints .i64 l), .int .i64 a, .int .i64 b] (.bool (.lit true)) := by
  refine Or.inl (cq (small18_fn t 9) (And.intro rfl (And.intro rfl trivial)) ?_)
  refine And.intro (fun h1 => ?_) (fun h1 => ?_)
  · exact Or.inl (cq awake18_fn trivial (And.intro rfl trivial))
  have h1 : (!decide ((t.length : Int) ≤ 9 ∧ validV t = 0)) = false := h1
  have h1 : (t.length : Int) ≤ 9 ∧ validV t = 0 := by simpa using h1
  have hn : t.length ≤ 9 := by omega
  have h := valid_zero.1 h1.2
  have hids := ids_head h
  have hl : (idsL t).length ≤ 512 := ids_le ((idsL_srt t).nodup cmpS_tot) (fun l hl => idsL_mem.1 hl) hn
  refine Or.inl (cq (ideals_fn t h hn) (And.intro rfl trivial) ?_)
  refine Or.inl ?_
  refine Exists.intro [false, false, false, false, false, false, false, false, false, false, false, false, false, false, false] (And.intro (by decide +kernel) ?_)
  refine And.intro (fun h2 => absurd rfl h2) (fun _ => ?_)
  refine And.intro (fun h2 => ?_) (fun _ => ?_)
  · have h2 : ((idsL t).length : Int) < 1 := h2
    omega
  refine And.intro (by omega) ?_
  refine cq (iKernel_fn t h) (And.intro rfl trivial) ?_
  refine cq (same_fn ((idsL t).getD 0 []) (ascV t.length (kerF t))) (And.intro rfl (And.intro rfl trivial)) ?_
  refine And.intro (fun h2 => ?_) (fun _ => ?_)
  · rw [hids.2] at h2; simp at h2
  refine Exists.intro [] <| lp (X := Nat) (fun i => [(49, .int .i64 i), (12, .bool (.v (decide (l ∈ (idsL t).take i))))]) (fun _ => []) (fun i => i ≤ (idsL t).length) (fun i => (idsL t).length - i) 0 (Nat.zero_le _) (by repeat' first | refine And.intro ?_ ?_ | exact True.intro | (show (_ : Int) = (_ : Int); omega) | omega | exact rfl | (simp only [RO.len]; omega)) ?_
  intro i hi
  refine And.intro (fun h2 => ?_) (fun h2 => ?_)
  · have h2 : (i : Int) < ((idsL t).length : Int) := h2
    have hil : i < (idsL t).length := by omega
    have e : decide (l ∈ (idsL t).take (i + 1)) = (decide (l ∈ (idsL t).take i) || decide ((idsL t).getD i [] = l)) := by
      have gen : ∀ (A : List (List Int)) (c : List Int), decide (l ∈ A ++ [c]) = (decide (l ∈ A) || decide (c = l)) := fun A c => by
        rw [Bool.eq_iff_iff, decide_eq_true_iff, Bool.or_eq_true_iff, decide_eq_true_iff, decide_eq_true_iff, List.mem_append, List.mem_singleton, @eq_comm _ c l]
      rw [take_snoc (d := []) hil, gen]
    refine And.intro (by omega) ?_
    refine And.intro (fun h3 => ?_) (fun h3 => ?_)
    · refine And.intro (by omega) ?_
      refine nx (i + 1) (show i + 1 ≤ (idsL t).length by omega) (show (idsL t).length - (i + 1) < (idsL t).length - i by omega) ?_
      have e2 : true = decide (l ∈ (idsL t).take (i + 1)) := by rw [e, h3]; rfl
      repeat' first | refine And.intro ?_ ?_ | exact True.intro | exact e2 | (show (_ : Int) = (_ : Int); omega) | omega | exact rfl
    · refine Or.inl (cq (same_fn ((idsL t).getD i []) l) (And.intro rfl (And.intro rfl trivial)) ?_)
      refine And.intro (by omega) ?_
      refine nx (i + 1) (show i + 1 ≤ (idsL t).length by omega) (show (idsL t).length - (i + 1) < (idsL t).length - i by omega) ?_
      have e2 : decide ((idsL t).getD i [] = l) = decide (l ∈ (idsL t).take (i + 1)) := by rw [e, h3]; rfl
      repeat' first | refine And.intro ?_ ?_ | exact True.intro | exact e2 | (show (_ : Int) = (_ : Int); omega) | omega | exact rfl
  · have h2 : ((idsL t).length : Int) ≤ (i : Int) := h2
    have hfd : decide (l ∈ (idsL t).take i) = idB t l := by
      rw [List.take_of_length_le (by omega)]
      unfold idB
      exact decide_eq_decide.2 idsL_mem
    have hr : (0 : Int) < ((idsL t).length : Int) := by omega
    have ra := tmod_rng (a := a) hr
    have rb := tmod_rng (a := b) hr
    have pa := pickL_rng (idsL t) hids.1 a
    have pb := pickL_rng (idsL t) hids.1 b
    have ia := idsL_mem.1 (pickL_mem hids.1 a)
    have ib := idsL_mem.1 (pickL_mem hids.1 b)
    refine Or.inl ?_
    refine Exists.intro [false, false, false, false, false, false, false, false, false, false, false, false, false, false, false, false, false, false, false, false, false, false, false, false, false, false, false, false] (And.intro (by decide +kernel) ?_)
    refine Or.inr (And.intro hr ?_)
    refine And.intro (by omega) ?_
    refine Or.inl (And.intro (by omega) ?_)
    refine And.intro pa ?_
    refine cq (rset_fn (pickL (idsL t) a) t.length (by omega)) (And.intro rfl (And.intro rfl trivial)) ?_
    refine Or.inr (And.intro hr ?_)
    refine And.intro (by omega) ?_
    refine Or.inl (And.intro (by omega) ?_)
    refine And.intro pb ?_
    refine cq (rset_fn (pickL (idsL t) b) t.length (by omega)) (And.intro rfl (And.intro rfl trivial)) ?_
    refine And.intro (by omega) ?_
    refine Or.inl (cq (rset_fn ((idsL t).getD 0 []) t.length (by omega)) (And.intro rfl (And.intro rfl trivial)) ?_)
    refine Or.inl ?_
    refine Exists.intro [false, false, false, false, false, false, false, false] (And.intro (by decide +kernel) ?_)
    refine And.intro (by omega) ?_
    refine And.intro (by omega) ?_
    refine And.intro (by omega) ?_
    refine And.intro (by omega) ?_
    have la := setB_len t.length (setI (pickL (idsL t) a))
    have lb := setB_len t.length (setI (pickL (idsL t) b))
    have lk : (setB t.length fun x => ((idsL t).getD 0 []).contains (x : Int)).length = t.length := setB_len _ _
    refine Exists.intro [] <| lp (X := Nat) (fun x => [(100, .int .i64 x)]) (fun x => [(94, .vec 0 (.bools (preB t.length (fun y => setI (pickL (idsL t) a) y || setI (pickL (idsL t) b) y) x)) []), (97, .vec 0 (.bools (preB t.length (fun y => setI (pickL (idsL t) a) y && setI (pickL (idsL t) b) y) x)) [])]) (fun x => x ≤ t.length) (fun x => t.length - x) 0 (Nat.zero_le _) (by repeat' first | refine And.intro ?_ ?_ | exact True.intro | (show (_ : Int) = (_ : Int); omega) | omega | exact rfl | exact congrArg RO.bools (preB_zero _ _)) ?_
    intro x hx
    have lj := preB_len t.length (fun y => setI (pickL (idsL t) a) y || setI (pickL (idsL t) b) y) x
    have lm := preB_len t.length (fun y => setI (pickL (idsL t) a) y && setI (pickL (idsL t) b) y) x
    refine And.intro (fun h4 => ?_) (fun h4 => ?_)
    · have hxl : x < t.length := by omega
      refine Or.inl ?_
      refine Exists.intro [false, false, false, false, false, false, false, false, false, false, false, false, false, false, false, false, false, false, false, false, false, false, false, false, false, true, false, true] (And.intro (by decide +kernel) ?_)
      have la' : (setB t.length fun x => (pickL (idsL t) a).contains (x : Int)).length = t.length := setB_len _ _
      have lb' : (setB t.length fun x => (pickL (idsL t) b).contains (x : Int)).length = t.length := setB_len _ _
      have ga : (setB t.length fun x => (pickL (idsL t) a).contains (x : Int)).getD x false = setI (pickL (idsL t) a) x := setB_get (f := setI (pickL (idsL t) a)) hxl
      have gb : (setB t.length fun x => (pickL (idsL t) b).contains (x : Int)).getD x false = setI (pickL (idsL t) b) x := setB_get (f := setI (pickL (idsL t) b)) hxl
      have ker_in : (setB t.length fun x => ((idsL t).getD 0 []).contains (x : Int)).getD x false = true → setI (pickL (idsL t) a) x = true ∧ setI (pickL (idsL t) b) x = true := fun hh => by
        have e := setB_get (n := t.length) (f := setI ((idsL t).getD 0 [])) hxl
        have hh : setI ((idsL t).getD 0 []) x = true := by rw [← e]; exact hh
        rw [hids.2, ascV_set hxl] at hh
        exact ⟨ker_sub h ia hh, ker_sub h ib hh⟩
      refine And.intro (by omega) ?_
      refine And.intro (fun h5 => ?_) (fun h5 => ?_)
      · have h5 : (setB t.length fun x => (pickL (idsL t) a).contains (x : Int)).getD x false = true := h5
        refine And.intro (by omega) ?_
        refine And.intro (fun _ => ?_) (fun h6 => ?_)
        · refine And.intro (by omega) ?_
          refine And.intro (by omega) ?_
          refine And.intro (by omega) ?_
          refine And.intro (by omega) ?_
          refine And.intro (by omega) ?_
          have e1 : (preB t.length (fun y => setI (pickL (idsL t) a) y || setI (pickL (idsL t) b) y) x).set x (true) = preB t.length (fun y => setI (pickL (idsL t) a) y || setI (pickL (idsL t) b) y) (x + 1) := by rw [← preB_set hxl]; exact congrArg _ (by simp only [ga, gb] at *; simp [*])
          have e2 : (preB t.length (fun y => setI (pickL (idsL t) a) y && setI (pickL (idsL t) b) y) x).set x ((setB t.length fun x => (pickL (idsL t) b).contains (x : Int)).getD x false) = preB t.length (fun y => setI (pickL (idsL t) a) y && setI (pickL (idsL t) b) y) (x + 1) := by rw [← preB_set hxl]; exact congrArg _ (by simp only [ga, gb] at *; simp [*])
          refine And.intro (by omega) ?_
          refine And.intro (fun h7 => ?_) (fun _ => ?_)
          · refine And.intro (show (0 : Int) ≤ (x : Int) ∧ (x : Int) < (((preB t.length (fun y => setI (pickL (idsL t) a) y && setI (pickL (idsL t) b) y) x).set x ((setB t.length fun x => (pickL (idsL t) b).contains (x : Int)).getD x false)).length : Int) by rw [e2, preB_len]; omega) ?_
            refine And.intro (fun h8 => ?_) (fun _ => ?_)
            · exfalso
              have h7 : (setB t.length fun x => ((idsL t).getD 0 []).contains (x : Int)).getD x false = true := h7
              have h8 : (!((preB t.length (fun y => setI (pickL (idsL t) a) y && setI (pickL (idsL t) b) y) x).set x ((setB t.length fun x => (pickL (idsL t) b).contains (x : Int)).getD x false)).getD x false) = true := h8
              rw [e2] at h8
              have h9 := ker_in h7
              unfold preB at h8; rw [setB_get hxl] at h8
              simp [h9.1, h9.2] at h8
            refine And.intro (by omega) ?_
            refine nx (x + 1) (show x + 1 ≤ t.length by omega) (show t.length - (x + 1) < t.length - x by omega) ?_
            repeat' first | refine And.intro ?_ ?_ | exact True.intro | exact congrArg RO.bools e1 | exact congrArg RO.bools e2 | (show (_ : Int) = (_ : Int); omega) | omega | exact rfl
          refine And.intro (by omega) ?_
          refine nx (x + 1) (show x + 1 ≤ t.length by omega) (show t.length - (x + 1) < t.length - x by omega) ?_
          repeat' first | refine And.intro ?_ ?_ | exact True.intro | exact congrArg RO.bools e1 | exact congrArg RO.bools e2 | (show (_ : Int) = (_ : Int); omega) | omega | exact rfl
        · have h6 : (setB t.length fun x => (pickL (idsL t) a).contains (x : Int)).getD x false = false := h6
          rw [h5] at h6; cases h6
      · have h5 : (setB t.length fun x => (pickL (idsL t) a).contains (x : Int)).getD x false = false := h5
        refine And.intro (by omega) ?_
        refine And.intro (by omega) ?_
        refine And.intro (fun h6 => ?_) (fun _ => ?_)
        · have h6 : (setB t.length fun x => (pickL (idsL t) a).contains (x : Int)).getD x false = true := h6
          rw [h5] at h6; cases h6
        · skip
          refine And.intro (by omega) ?_
          refine And.intro (by omega) ?_
          refine And.intro (by omega) ?_
          refine And.intro (by omega) ?_
          have e1 : (preB t.length (fun y => setI (pickL (idsL t) a) y || setI (pickL (idsL t) b) y) x).set x ((setB t.length fun x => (pickL (idsL t) b).contains (x : Int)).getD x false) = preB t.length (fun y => setI (pickL (idsL t) a) y || setI (pickL (idsL t) b) y) (x + 1) := by rw [← preB_set hxl]; exact congrArg _ (by simp only [ga, gb] at *; simp [*])
          have e2 : (preB t.length (fun y => setI (pickL (idsL t) a) y && setI (pickL (idsL t) b) y) x).set x (false) = preB t.length (fun y => setI (pickL (idsL t) a) y && setI (pickL (idsL t) b) y) (x + 1) := by rw [← preB_set hxl]; exact congrArg _ (by simp only [ga, gb] at *; simp [*])
          refine And.intro (by omega) ?_
          refine And.intro (fun h7 => ?_) (fun _ => ?_)
          · refine And.intro (show (0 : Int) ≤ (x : Int) ∧ (x : Int) < (((preB t.length (fun y => setI (pickL (idsL t) a) y && setI (pickL (idsL t) b) y) x).set x (false)).length : Int) by rw [e2, preB_len]; omega) ?_
            refine And.intro (fun h8 => ?_) (fun _ => ?_)
            · exfalso
              have h7 : (setB t.length fun x => ((idsL t).getD 0 []).contains (x : Int)).getD x false = true := h7
              have h8 : (!((preB t.length (fun y => setI (pickL (idsL t) a) y && setI (pickL (idsL t) b) y) x).set x (false)).getD x false) = true := h8
              rw [e2] at h8
              have h9 := ker_in h7
              unfold preB at h8; rw [setB_get hxl] at h8
              simp [h9.1, h9.2] at h8
            refine And.intro (by omega) ?_
            refine nx (x + 1) (show x + 1 ≤ t.length by omega) (show t.length - (x + 1) < t.length - x by omega) ?_
            repeat' first | refine And.intro ?_ ?_ | exact True.intro | exact congrArg RO.bools e1 | exact congrArg RO.bools e2 | (show (_ : Int) = (_ : Int); omega) | omega | exact rfl
          refine And.intro (by omega) ?_
          refine nx (x + 1) (show x + 1 ≤ t.length by omega) (show t.length - (x + 1) < t.length - x by omega) ?_
          repeat' first | refine And.intro ?_ ?_ | exact True.intro | exact congrArg RO.bools e1 | exact congrArg RO.bools e2 | (show (_ : Int) = (_ : Int); omega) | omega | exact rfl
    · have h4 : (t.length : Int) ≤ (x : Int) := h4
      have ex : x = t.length := by omega
      have hj : idB t (memV (preB t.length (fun y => setI (pickL (idsL t) a) y || setI (pickL (idsL t) b) y) x)) = true := by rw [ex, preB_all]; exact idB_true.2 (join_id h ia ib)
      have hm : idB t (memV (preB t.length (fun y => setI (pickL (idsL t) a) y && setI (pickL (idsL t) b) y) x)) = true := by rw [ex, preB_all]; exact idB_true.2 (meet_id h ia ib)
      refine Or.inl (cq (iIsIdeal_fn t h l) (And.intro rfl (And.intro rfl trivial)) ?_)
      refine And.intro (fun _ => ?_) (fun h5 => ?_)
      · refine Or.inl (cq (members_fn (preB t.length (fun y => setI (pickL (idsL t) a) y || setI (pickL (idsL t) b) y) x) (by rw [preB_len]; omega)) (And.intro rfl trivial) ?_)
        refine Or.inl (cq (iIsIdeal_fn t h (memV (preB t.length (fun y => setI (pickL (idsL t) a) y || setI (pickL (idsL t) b) y) x))) (And.intro rfl (And.intro rfl trivial)) ?_)
        refine And.intro (fun _ => ?_) (fun h6 => ?_)
        · refine Or.inl (cq (members_fn (preB t.length (fun y => setI (pickL (idsL t) a) y && setI (pickL (idsL t) b) y) x) (by rw [preB_len]; omega)) (And.intro rfl trivial) ?_)
          refine Or.inl (cq (iIsIdeal_fn t h (memV (preB t.length (fun y => setI (pickL (idsL t) a) y && setI (pickL (idsL t) b) y) x))) (And.intro rfl (And.intro rfl trivial)) ?_)
          refine And.intro (fun _ => ?_) (fun h7 => ?_)
          · exact Or.inl (cq awake18_fn trivial (And.intro rfl trivial))
          · exfalso
            have h7 : idB t (memV (preB t.length (fun y => setI (pickL (idsL t) a) y && setI (pickL (idsL t) b) y) x)) = false := h7
            rw [hm] at h7; cases h7
        · exfalso
          have h6 : idB t (memV (preB t.length (fun y => setI (pickL (idsL t) a) y || setI (pickL (idsL t) b) y) x)) = false := h6
          rw [hj] at h6; cases h6
      · exfalso
        have h5 : (decide (l ∈ (idsL t).take i) == idB t l) = false := h5
        rw [hfd] at h5; simp at h5
theorem idLat_fn (t : List (List Int)) (l : List Int) (a b : Int) : QF 5 [.ro (.rows .i64 t), .ro (.ints .i64 l), .int .i64 a, .int .i64 b] (.bool (.lit true)) := mkQ Try.func5 (by decide +kernel) rfl (Nat.le_of_ble_eq_true rfl) fun _ => idLat_k t l a b
end Go.Proofs.Ytdmfhcppdpcceaa
