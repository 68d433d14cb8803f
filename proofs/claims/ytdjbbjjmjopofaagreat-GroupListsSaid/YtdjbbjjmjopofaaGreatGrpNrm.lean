import Derived.Test.YtdjbbjjmjopofaaGreatNrm
import Derived.Test.YtdjbbjjmjopofaaGreatGrp
import Derived.Test.YtdjbbjjmjopofaaGreatGroup
import Derived.Test.YtdjbbjjmjopofaaGreatReesLaw
import Derived.Test.YtdjbbjjmjopofaaGreatAwk16
import Derived.Test.YtdjbbjjmjopofaaGreatSgp4
import Derived.Test.YtdjbbjjmjopofaaGreatRefRees
/- The statements GroupNormals and GroupLists: the walks. -/
namespace Go.Proofs.YtdjbbjjmjopofaaGreat
open Go Go.AM
set_option maxRecDepth 100000
theorem little16_k (t : List (List Int)) (m : Int) : fnK TY SP Tryz.f49 [.ro (.rows .i64 t), .int .i64 m] (.bool (.v (decide ((t.length : Int) ≤ m) && grpB t))) := by
  refine And.intro (fun h1 => ?_) (fun h1 => ?_)
  · refine Or.inl (cq (rgroup_fn t) (And.intro rfl trivial) ?_)
    refine And.intro ?_ trivial
    show grpB t = (decide ((t.length : Int) ≤ m) && grpB t)
    rw [decide_eq_true h1, Bool.true_and]
  · refine And.intro ?_ trivial
    show false = (decide ((t.length : Int) ≤ m) && grpB t)
    rw [decide_eq_false (by omega), Bool.false_and]
theorem little16_fn (t : List (List Int)) (m : Int) : QF 49 [.ro (.rows .i64 t), .int .i64 m] (.bool (.v (decide ((t.length : Int) ≤ m) && grpB t))) := mkQ Tryz.func49 (by decide +kernel) rfl (Nat.le_of_ble_eq_true rfl) fun _ => little16_k t m
variable {t : List (List Int)}
theorem ns_pos (h : Grp t) : ¬ ((nsL t).length : Int) < 1 := fun h3 => by
  have h1 : [(oneN t : Int)] ∈ nsL t := nsL_mem.2 (one_ns h)
  have := List.length_pos_of_mem h1; omega
theorem getI {α : Type} {l : List α} {k : Nat} {d : α} (hk : k < l.length) : l.getD k d ∈ l := by
  rw [List.getD_eq_getElem?_getD, List.getElem?_eq_getElem hk]; exact List.getElem_mem hk
theorem tk_in {l : List (List Int)} {a : List Int} {k : Nat} (hk : k < l.length) : decide (a ∈ l.take (k + 1)) = (decide (a ∈ l.take k) || decide (l.getD k [] = a)) := by
  rw [List.take_add_one, List.getElem?_eq_getElem hk]
  have : l.getD k [] = l[k] := by rw [List.getD_eq_getElem?_getD, List.getElem?_eq_getElem hk]; rfl
  rw [this, ← Bool.decide_or]
  refine decide_eq_decide.2 ?_
  rw [List.mem_append]
  show _ ∨ a ∈ [l[k]] ↔ _
  rw [List.mem_singleton]
  exact or_congr Iff.rfl ⟨Eq.symm, Eq.symm⟩
theorem ns_ord {k : Nat} (hk : k + 1 < (nsL t).length) : cmpS ((nsL t).getD k []) ((nsL t).getD (k + 1) []) < 0 := by
  have := List.pairwise_iff_getElem.1 (nsL_srt t) k (k + 1) (by omega) hk (by omega)
  rw [List.getD_eq_getElem?_getD, List.getD_eq_getElem?_getD, List.getElem?_eq_getElem hk, List.getElem?_eq_getElem (by omega : k < (nsL t).length)]; exact this
theorem lis_nrm (h : Grp t) {l : List Int} : (grpB t && (clB t l && nrmB t (allI t) l)) = decide (l ∈ nsL t) := by
  rw [grpB_true.2 h, Bool.true_and]
  by_cases hl : NS t l
  · rw [decide_eq_true (nsL_mem.2 hl), clB_true.2 hl.cl, nrmB_true.2 hl.nrm]; rfl
  · rw [decide_eq_false fun hh => hl (nsL_mem.1 hh)]
    refine Bool.eq_false_iff.2 fun hh => hl ?_
    rw [Bool.and_eq_true] at hh
    exact ⟨clB_true.1 hh.1, nrmB_true.1 hh.2⟩
theorem grpLis_k (t : List (List Int)) (l : List Int) (h : Grp t) (hn : t.length ≤ 16) : fnK TY SP Tryz.f12 [.ro (.rows .i64 t), .ro (.ints .i64 l)] (.bool (.lit true)) := by
  refine Or.inl (cq (little16_fn t 16) (And.intro rfl (And.intro rfl trivial)) ?_)
  refine And.intro (fun _ => ?_) (fun _ => ?_)
  · exact Or.inl (cq awake16_fn trivial (And.intro rfl trivial))
  refine Or.inl (cq (gNrms_fn t h hn) (And.intro rfl trivial) ?_)
  refine And.intro (fun h2 => absurd rfl h2) (fun _ => ?_)
  refine And.intro (fun h3 => absurd h3 (ns_pos h)) (fun h3 => ?_)
  have hll := ns_le h hn (nsL_srt t) (fun a ha => nsL_mem.1 ha)
  refine Exists.intro [] <| lp (X := Nat × Bool) (fun x => [(28, .int .i64 x.1), (7, .bool (.v x.2))]) (fun _ => []) (fun x => x.1 ≤ (nsL t).length ∧ x.2 = decide (l ∈ (nsL t).take x.1)) (fun x => (nsL t).length - x.1) (0, false) ⟨Nat.zero_le _, by simp⟩ (by repeat' first | refine And.intro ?_ ?_ | exact True.intro | (show (_ : Int) = (_ : Int); omega) | omega | exact rfl | (simp only [RO.len]; omega)) ?_
  intro x ⟨hk, hb⟩
  refine And.intro (fun h1 => ?_) (fun h1 => ?_)
  · have h1 : (x.1 : Int) < ((nsL t).length : Int) := h1
    have hkl : x.1 < (nsL t).length := by omega
    have htk := tk_in (a := l) hkl
    rw [← hb] at htk
    have fin : ∀ {b'}, b' = (x.2 || decide ((nsL t).getD x.1 [] = l)) → (x.1 + 1 ≤ (nsL t).length ∧ b' = decide (l ∈ (nsL t).take (x.1 + 1))) ∧ (nsL t).length - (x.1 + 1) < (nsL t).length - x.1 := fun e => ⟨⟨hkl, e.trans htk.symm⟩, by omega⟩
    refine And.intro (by omega) ?_
    refine Or.inl (cq (gNrm_fn t ((nsL t).getD x.1 [])) (And.intro rfl (And.intro rfl trivial)) ?_)
    refine And.intro (fun h2 => ?_) (fun _ => ?_)
    · have h2 : (!(grpB t && (clB t ((nsL t).getD x.1 []) && nrmB t (allI t) ((nsL t).getD x.1 [])))) = true := h2
      rw [lis_nrm h, decide_eq_true (getI hkl)] at h2; exact absurd h2 (by decide)
    refine And.intro (fun h3 => ?_) (fun h3 => ?_)
    · have h3 : (0 : Int) < (x.1 : Int) := h3
      have ek : ((x.1 : Nat) : Int).toNat = x.1 := by omega
      have ho := ns_ord (t := t) (k := ((x.1 : Int) - 1).toNat) (by omega)
      rw [show ((x.1 : Int) - 1).toNat + 1 = x.1 by omega] at ho
      refine And.intro (by omega) ?_
      refine And.intro (by omega) ?_
      refine And.intro (fun h4 => ?_) (fun h4 => ?_)
      · refine absurd h4 (fun h4 => ?_)
        have h4 : (((nsL t).getD x.1 []).length : Int) < (((nsL t).getD ((x.1 : Int) - 1).toNat []).length : Int) := h4
        unfold cmpS cmpI at ho
        rw [if_pos (by rw [if_neg (by omega), if_pos (by omega)]; decide), if_neg (by omega), if_pos (by omega)] at ho
        exact absurd ho (by decide)
      refine And.intro (by omega) ?_
      refine And.intro (by omega) ?_
      refine And.intro (fun h5 => ?_) (fun h5 => ?_)
      · have h5 : (((nsL t).getD ((x.1 : Int) - 1).toNat []).length : Int) = (((nsL t).getD x.1 []).length : Int) := h5
        have hlt : cmpL ((nsL t).getD ((x.1 : Int) - 1).toNat []) ((nsL t).getD x.1 []) < 0 := by
          unfold cmpS at ho
          rw [if_neg (by rw [h5]; unfold cmpI; simp)] at ho; exact ho
        refine And.intro (by omega) ?_
        refine And.intro (by omega) ?_
        refine Or.inl (cq (rLess_fn ((nsL t).getD ((x.1 : Int) - 1).toNat []) ((nsL t).getD x.1 [])) (And.intro rfl (And.intro rfl trivial)) ?_)
        refine And.intro (fun h6 => ?_) (fun _ => ?_)
        · have h6 : (!(decide (cmpL ((nsL t).getD ((x.1 : Int) - 1).toNat []) ((nsL t).getD x.1 []) < 0))) = true := h6
          rw [decide_eq_true hlt] at h6; exact absurd h6 (by decide)
        refine And.intro (fun h6 => ?_) (fun h6 => ?_)
        · refine And.intro (by omega) ?_
          exact Exists.intro (x.1 + 1, true) (And.intro (fin (by rw [show x.2 = true from h6]; rfl)) (by repeat' first | refine And.intro ?_ ?_ | exact True.intro | (show (_ : Int) = (_ : Int); omega) | omega | exact rfl | (simp only [RO.len]; omega)))
        · refine Or.inl (cq (same_fn ((nsL t).getD x.1 []) l) (And.intro rfl (And.intro rfl trivial)) ?_)
          refine And.intro (by omega) ?_
          exact Exists.intro (x.1 + 1, decide ((nsL t).getD x.1 [] = l)) (And.intro (fin (by rw [show x.2 = false from h6]; rfl)) (by repeat' first | refine And.intro ?_ ?_ | exact True.intro | (show (_ : Int) = (_ : Int); omega) | omega | exact rfl | (simp only [RO.len]; omega)))
      · refine And.intro (fun h6 => ?_) (fun h6 => ?_)
        · refine And.intro (by omega) ?_
          exact Exists.intro (x.1 + 1, true) (And.intro (fin (by rw [show x.2 = true from h6]; rfl)) (by repeat' first | refine And.intro ?_ ?_ | exact True.intro | (show (_ : Int) = (_ : Int); omega) | omega | exact rfl | (simp only [RO.len]; omega)))
        · refine Or.inl (cq (same_fn ((nsL t).getD x.1 []) l) (And.intro rfl (And.intro rfl trivial)) ?_)
          refine And.intro (by omega) ?_
          exact Exists.intro (x.1 + 1, decide ((nsL t).getD x.1 [] = l)) (And.intro (fin (by rw [show x.2 = false from h6]; rfl)) (by repeat' first | refine And.intro ?_ ?_ | exact True.intro | (show (_ : Int) = (_ : Int); omega) | omega | exact rfl | (simp only [RO.len]; omega)))
    · refine And.intro (fun h6 => ?_) (fun h6 => ?_)
      · refine And.intro (by omega) ?_
        exact Exists.intro (x.1 + 1, true) (And.intro (fin (by rw [show x.2 = true from h6]; rfl)) (by repeat' first | refine And.intro ?_ ?_ | exact True.intro | (show (_ : Int) = (_ : Int); omega) | omega | exact rfl | (simp only [RO.len]; omega)))
      · refine Or.inl (cq (same_fn ((nsL t).getD x.1 []) l) (And.intro rfl (And.intro rfl trivial)) ?_)
        refine And.intro (by omega) ?_
        exact Exists.intro (x.1 + 1, decide ((nsL t).getD x.1 [] = l)) (And.intro (fin (by rw [show x.2 = false from h6]; rfl)) (by repeat' first | refine And.intro ?_ ?_ | exact True.intro | (show (_ : Int) = (_ : Int); omega) | omega | exact rfl | (simp only [RO.len]; omega)))
  · refine Or.inl (cq (gNrm_fn t l) (And.intro rfl (And.intro rfl trivial)) ?_)
    have h1 : ((nsL t).length : Int) ≤ (x.1 : Int) := h1
    have hall : x.2 = (grpB t && (clB t l && nrmB t (allI t) l)) := by
      rw [lis_nrm h, hb, List.take_of_length_le (by omega)]
    refine And.intro (fun _ => ?_) (fun h2 => ?_)
    · exact Or.inl (cq awake16_fn trivial (And.intro rfl trivial))
    · have h2 : (x.2 == (grpB t && (clB t l && nrmB t (allI t) l))) = false := h2
      rw [hall] at h2; exact absurd (h2.symm.trans (beq_self_eq_true _)) (by decide)
theorem grpLisN_k (t : List (List Int)) (l : List Int) (h : ¬ (t.length ≤ 16 ∧ Grp t)) : fnK TY SP Tryz.f12 [.ro (.rows .i64 t), .ro (.ints .i64 l)] (.bool (.lit true)) := by
  refine Or.inl (cq (little16_fn t 16) (And.intro rfl (And.intro rfl trivial)) ?_)
  refine And.intro (fun _ => ?_) (fun h1 => ?_)
  · exact Or.inl (cq awake16_fn trivial (And.intro rfl trivial))
  · have h1 : (!(decide ((t.length : Int) ≤ 16) && grpB t)) = false := h1
    rw [Bool.not_eq_false', Bool.and_eq_true] at h1
    exact absurd ⟨by have := of_decide_eq_true h1.1; omega, grpB_true.1 h1.2⟩ h
theorem grpLis_fn (t : List (List Int)) (l : List Int) : QF 12 [.ro (.rows .i64 t), .ro (.ints .i64 l)] (.bool (.lit true)) := by
  by_cases h : t.length ≤ 16 ∧ Grp t
  · exact mkQ Tryz.func12 (by decide +kernel) rfl (Nat.le_of_ble_eq_true rfl) fun _ => grpLis_k t l h.2 h.1
  · exact mkQ Tryz.func12 (by decide +kernel) rfl (Nat.le_of_ble_eq_true rfl) fun _ => grpLisN_k t l h
end Go.Proofs.YtdjbbjjmjopofaaGreat
