/- Package partition: Saturates; congr.Syntactic: contracts. -/
import Derived.Test.YteopelpnpdbbcaaCgSyn
import Derived.Test.YteopelpnpdbbcaaRefn
namespace Go.Proofs.Yteopelpnpdbbcaa
open Go Go.AM
set_option maxRecDepth 100000
def Sat (p : List Int) (s : List Bool) : Prop := ∀ i j, i < p.length → j < p.length → p.getD i 0 = p.getD j 0 → s.getD i false = s.getD j false
noncomputable def satB (p : List Int) (s : List Bool) : Bool := @decide (Sat p s) (Classical.propDecidable _)
theorem satB_true {p : List Int} {s : List Bool} : satB p s = true ↔ Sat p s := by unfold satB; exact @decide_eq_true_iff _ (Classical.propDecidable _)
theorem satB_false {p : List Int} {s : List Bool} : satB p s = false ↔ ¬ Sat p s := by unfold satB; exact @decide_eq_false_iff_not _ (Classical.propDecidable _)
theorem psat_k (p : List Int) (q : List Bool) (hp : validP p) (hl : p.length = q.length) : fnK TY SP Try.f43 [.ro (.ints .i64 p), .ro (.bools q)] (.bool (.v (satB p q))) := by
  have hcl : (classes (classN p) p).length = classN p := by simp [classes]
  have hcn : classN p ≤ p.length := firsts_le p
  have hpl := hp.1
  refine And.intro (fun h1 => absurd (show (p.length : Int) = (q.length : Int) by omega) h1) (fun _ => ?_)
  refine Or.inl (cq (pvalid_fn p) (And.intro rfl trivial) ?_)
  refine And.intro (fun h1 => ?_) (fun _ => ?_)
  · have h1 : (!decide (validP p)) = true := h1
    rw [decide_eq_true hp] at h1; cases h1
  refine Or.inl (cq (pclasses_fn p hp) (And.intro rfl trivial) ?_)
  refine Exists.intro [] <| lp (X := Nat) (fun c => [(22, .int .i64 c)]) (fun _ => []) (fun c => c ≤ classN p ∧ ∀ c', c' < c → ∀ x ∈ (classes (classN p) p).getD c' [], q.getD x.toNat false = q.getD (hdN p c') false) (fun c => classN p - c) 0 ⟨Nat.zero_le _, fun c h => absurd h (Nat.not_lt_zero _)⟩ (by repeat' first | refine And.intro ?_ ?_ | exact True.intro | (show (_ : Int) = (_ : Int); omega) | omega | exact rfl | (simp only [RO.len]; omega)) ?_
  intro c ⟨hc, hci⟩
  refine And.intro (fun h1 => ?_) (fun h1 => ?_)
  · have h1 : (c : Int) < ((classes (classN p) p).length : Int) := h1
    have hcl2 : c < classN p := by omega
    have k := hd_at hp.2 hcl2
    have kp := cls_pos hp.2 hcl2
    have hcll : ((classes (classN p) p).getD c []).length ≤ p.length := by
      rw [classes_getD hcl2, List.length_map]
      have := List.length_filter_le (fun i => decide (p.getD i 0 = (c : Int))) (List.range p.length)
      rw [List.length_range] at this; exact this
    refine And.intro (by omega) ?_
    refine Exists.intro [] <| lp (X := Nat) (fun m => [(28, .int .i64 m)]) (fun _ => []) (fun m => m ≤ ((classes (classN p) p).getD c []).length ∧ ∀ m', m' < m → q.getD (((classes (classN p) p).getD c []).getD m' 0).toNat false = q.getD (hdN p c) false) (fun m => ((classes (classN p) p).getD c []).length - m) 0 ⟨Nat.zero_le _, fun m h => absurd h (Nat.not_lt_zero _)⟩ (by repeat' first | refine And.intro ?_ ?_ | exact True.intro | (show (_ : Int) = (_ : Int); omega) | omega | exact rfl | (simp only [RO.len]; omega)) ?_
    intro m ⟨hm, hmi⟩
    refine And.intro (fun h2 => ?_) (fun h2 => ?_)
    · have h2 : (m : Int) < (((classes (classN p) p).getD c []).length : Int) := h2
      have hml : m < ((classes (classN p) p).getD c []).length := by omega
      have hx := (mem_classes (p := p) hcl2).1 (getD_mem (d := 0) hml)
      have th : (((classes (classN p) p).getD c []).getD 0 0).toNat = hdN p c := by rw [k.2.2]; exact Int.toNat_natCast _
      refine And.intro (by omega) ?_
      refine Or.inl ?_
      refine Exists.intro [false, false, false, false, false, false, false, false, false, false, false] (And.intro (by decide +kernel) ?_)
      refine And.intro (show 0 ≤ ((classes (classN p) p).getD c []).getD m 0 ∧ ((classes (classN p) p).getD c []).getD m 0 < (q.length : Int) by omega) ?_
      refine And.intro (by simp only [Int.toNat_natCast]; omega) ?_
      refine And.intro (show 0 ≤ ((classes (classN p) p).getD c []).getD 0 0 ∧ ((classes (classN p) p).getD c []).getD 0 0 < (q.length : Int) by omega) ?_
      refine And.intro (fun h3 => ?_) (fun h3 => ?_)
      · have h3 : (!(q.getD (((classes (classN p) p).getD c []).getD m 0).toNat false == q.getD (((classes (classN p) p).getD c []).getD 0 0).toNat false)) = true := h3
        rw [th, Bool.not_eq_true', beq_eq_false_iff_ne] at h3
        refine And.intro ?_ trivial
        refine (satB_false.2 fun h4 => h3 (h4 _ _ (by omega) (by omega) ?_)).symm
        rw [hx.2.2, k.2.1]
      · have h3 : (!(q.getD (((classes (classN p) p).getD c []).getD m 0).toNat false == q.getD (((classes (classN p) p).getD c []).getD 0 0).toNat false)) = false := h3
        rw [th, Bool.not_eq_false', beq_iff_eq] at h3
        refine And.intro (by omega) ?_
        refine nx (m + 1) ⟨show m + 1 ≤ _ by omega, fun m' hm' => ?_⟩ (show ((classes (classN p) p).getD c []).length - (m + 1) < ((classes (classN p) p).getD c []).length - m by omega) (by repeat' first | refine And.intro ?_ ?_ | exact True.intro | (show (_ : Int) = (_ : Int); omega) | omega | exact rfl | (simp only [RO.len]; omega))
        by_cases e : m' = m
        · subst e; exact h3
        · exact hmi m' (by omega)
    · have h2 : (((classes (classN p) p).getD c []).length : Int) ≤ (m : Int) := h2
      refine And.intro (by omega) ?_
      refine nx (c + 1) ⟨show c + 1 ≤ _ by omega, fun c' hc' x hx => ?_⟩ (show classN p - (c + 1) < classN p - c by omega) (by repeat' first | refine And.intro ?_ ?_ | exact True.intro | (show (_ : Int) = (_ : Int); omega) | omega | exact rfl | (simp only [RO.len]; omega))
      by_cases e : c' = c
      · subst e
        obtain ⟨m', hm', rfl⟩ := mem_getD 0 hx
        exact hmi m' (by omega)
      · exact hci c' (by omega) x hx
  · have h1 : ((classes (classN p) p).length : Int) ≤ (c : Int) := h1
    refine And.intro ?_ trivial
    refine (satB_true.2 fun i j hi hj e => ?_).symm
    have ki := cls_lt hp.2 hi
    have mi := (mem_classes (p := p) ki.2.1 (x := (i : Int))).2 ⟨by omega, by omega, by rw [Int.toNat_natCast]; exact ki.2.2⟩
    have mj := (mem_classes (p := p) ki.2.1 (x := (j : Int))).2 ⟨by omega, by omega, by rw [Int.toNat_natCast, ← e]; exact ki.2.2⟩
    have e1 := hci _ (by omega) _ mi
    have e2 := hci _ (by omega) _ mj
    rw [Int.toNat_natCast] at e1 e2
    rw [e1, e2]
theorem psat_fn (p : List Int) (q : List Bool) (hp : validP p) (hl : p.length = q.length) : QF 43 [.ro (.ints .i64 p), .ro (.bools q)] (.bool (.v (satB p q))) := mkQ Try.func43 (by decide +kernel) rfl (Nat.le_of_ble_eq_true rfl) fun _ => psat_k p q hp hl
/-- A set's labels. -/
def lbL (s : List Bool) : List Int := s.map fun b => match b with | true => 1 | false => 0
theorem lbL_len (s : List Bool) : (lbL s).length = s.length := by simp [lbL]
theorem lbL_get {s : List Bool} {x : Nat} (h : x < s.length) : (lbL s).getD x 0 = match s.getD x false with | true => 1 | false => 0 := by simp [lbL, List.getD, h]
theorem lbL_iff {s : List Bool} {x y : Nat} (hx : x < s.length) (hy : y < s.length) : (lbL s).getD x 0 = (lbL s).getD y 0 ↔ s.getD x false = s.getD y false := by
  rw [lbL_get hx, lbL_get hy]
  cases s.getD x false <;> cases s.getD y false <;> simp
theorem csyn_k (t : List (List Int)) (s : List Bool) (hs : Semi t) (hl : s.length = t.length) : fnK TY SP Try.f17 [.ro (.rows .i64 t), .ro (.bools s)] (.new (.ints .i64 (synP t (lbL s)))) := by
  have hmost := hs.most
  have hS := hs.toSh
  refine And.intro (fun h1 => absurd (show (s.length : Int) = (t.length : Int) by omega) h1) (fun _ => ?_)
  refine Or.inl (cq (valid_fn t) (And.intro rfl trivial) ?_)
  refine And.intro (fun h1 => absurd (valid_zero.2 hs) h1) (fun _ => ?_)
  refine And.intro (by omega) ?_
  refine And.intro (by omega) ?_
  refine Exists.intro [] <| lp2 (fun (x : Nat) (_ : List Int) => [(23, .int .i64 x)]) (fun _ L => [(20, .vec 0 (.ints .i64 L) [])]) (fun x L => x ≤ s.length ∧ L.length = s.length ∧ (∀ y, y < x → L.getD y 0 = (lbL s).getD y 0) ∧ ∀ y, x ≤ y → L.getD y 0 = 0) (fun x _ => s.length - x) 0 (List.replicate t.length 0) ⟨Nat.zero_le _, by simp; omega, fun y h => absurd h (Nat.not_lt_zero _), fun y _ => by simp only [List.getD, List.getElem?_replicate]; split <;> rfl⟩ (by repeat' first | refine And.intro ?_ ?_ | exact True.intro | (show (_ : Int) = (_ : Int); omega) | omega | exact rfl | (simp only [RO.len]; omega)) ?_
  rintro x L ⟨hx, hL, hLy, hL0⟩
  refine And.intro (fun h2 => ?_) (fun h2 => ?_)
  · have h2 : (x : Int) < (s.length : Int) := h2
    have hxl : x < s.length := by omega
    have hg := lbL_get hxl
    refine And.intro (by omega) ?_
    refine And.intro (fun h3 => ?_) (fun h3 => ?_)
    · have h3 : s.getD x false = true := h3
      rw [h3] at hg
      refine And.intro (by omega) ?_
      refine And.intro (by omega) ?_
      refine And.intro (by omega) ?_
      refine nx (x + 1, L.set x 1) ⟨by omega, by rw [List.length_set]; exact hL, fun y hy => ?_, fun y hy => ?_⟩ (show s.length - (x + 1) < s.length - x by omega) (by repeat' first | refine And.intro ?_ ?_ | exact True.intro | (show (_ : Int) = (_ : Int); omega) | omega | exact rfl | (simp only [RO.len]; omega))
      · by_cases e : y = x
        · subst e; rw [getD_set_eq (by omega)]; exact hg.symm
        · rw [getD_set_ne (Ne.symm e)]; exact hLy y (by omega)
      · rw [getD_set_ne (by omega)]; exact hL0 y (by omega)
    · have h3 : s.getD x false = false := h3
      rw [h3] at hg
      refine And.intro (by omega) ?_
      refine nx (x + 1, L) ⟨by omega, hL, fun y hy => ?_, fun y hy => hL0 y (by omega)⟩ (show s.length - (x + 1) < s.length - x by omega) (by repeat' first | refine And.intro ?_ ?_ | exact True.intro | (show (_ : Int) = (_ : Int); omega) | omega | exact rfl | (simp only [RO.len]; omega))
      by_cases e : y = x
      · subst e; rw [hL0 y (Nat.le_refl _)]; exact hg.symm
      · exact hLy y (by omega)
  · have h2 : (s.length : Int) ≤ (x : Int) := h2
    have e : L = lbL s := ext_getD 0 (by rw [lbL_len]; exact hL) fun y hy => hLy y (by omega)
    have ec : (if L.length ≤ 4096 then canon L else []) = canon (lbL s) := by rw [if_pos (by omega), e]
    have hcl : (canon (lbL s)).length = t.length := by rw [canon_length, lbL_len]; exact hl
    have hcv : validP (canon (lbL s)) := ⟨by omega, canon_idem _⟩
    have hsy : synP t (canon (lbL s)) = synP t (lbL s) := synP_congr hS fun a b ha hb => canon_eq_iff (by rw [lbL_len]; omega) (by rw [lbL_len]; omega)
    have hco := ccoa_fn t (canon (lbL s)) hs hcl hcv
    rw [hsy, ← ec] at hco
    refine Or.inl (cq (Canonical_fn L) (And.intro rfl trivial) ?_)
    refine Or.inl (cq hco (And.intro rfl (And.intro rfl trivial)) ?_)
    exact And.intro (And.intro (by omega) rfl) trivial
theorem csyn_fn (t : List (List Int)) (s : List Bool) (hs : Semi t) (hl : s.length = t.length) : QF 17 [.ro (.rows .i64 t), .ro (.bools s)] (.new (.ints .i64 (synP t (lbL s)))) := mkQ Try.func17 (by decide +kernel) rfl (Nat.le_of_ble_eq_true rfl) fun _ => csyn_k t s hs hl
end Go.Proofs.Yteopelpnpdbbcaa
