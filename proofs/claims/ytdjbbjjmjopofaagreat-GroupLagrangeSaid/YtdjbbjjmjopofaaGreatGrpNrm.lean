import Derived.Test.YtdjbbjjmjopofaaGreatSolLaw
import Derived.Test.YtdjbbjjmjopofaaGreatBase
import Derived.Test.YtdjbbjjmjopofaaGreatSgp4
import Derived.Test.YtdjbbjjmjopofaaGreatRefNrm
import Derived.Test.YtdjbbjjmjopofaaGreatIdeals
import Derived.Test.YtdjbbjjmjopofaaGreatSort
import Derived.Test.YtdjbbjjmjopofaaGreatGrp
import Derived.Test.YtdjbbjjmjopofaaGreatIn
import Derived.Test.YtdjbbjjmjopofaaGreatAwk16
import Derived.Test.YtdjbbjjmjopofaaGreatRefRees
section
/- Package group: all normal subgroups: contracts. -/
namespace Go.Proofs.YtdjbbjjmjopofaaGreat
open Go Go.AM
set_option maxRecDepth 100000
/-- What is found, with a set more, unless it is there. -/
def addF (F : List (List Int)) (u : List Int) : List (List Int) := if u ∈ F then F else F ++ [u]
/-- The closures of the first k elements, each once. -/
noncomputable def bsN (t : List (List Int)) : Nat → List (List Int) | 0 => [] | k + 1 => addF (bsN t k) (cloL t [(k : Int)])
theorem addF_mem {F : List (List Int)} {u s : List Int} : s ∈ addF F u ↔ s ∈ F ∨ s = u := by
  unfold addF
  split
  · rename_i hu; exact ⟨.inl, fun hh => hh.elim id fun e => e ▸ hu⟩
  · rw [List.mem_append, List.mem_singleton]
theorem addF_nodup {F : List (List Int)} {u : List Int} (hF : F.Nodup) : (addF F u).Nodup := by
  unfold addF
  split
  · exact hF
  · rename_i hu
    rw [List.nodup_append]
    exact ⟨hF, by simp, fun a ha b hb e => hu (by rw [List.mem_singleton] at hb; rw [← hb, ← e]; exact ha)⟩
theorem bsN_mem {t : List (List Int)} : ∀ {k : Nat} {s : List Int}, s ∈ bsN t k ↔ ∃ x, x < k ∧ s = cloL t [(x : Int)]
  | 0, s => ⟨fun h => (by cases h), fun ⟨x, hx, _⟩ => absurd hx (Nat.not_lt_zero _)⟩
  | k + 1, s => by
    show s ∈ addF (bsN t k) _ ↔ _
    rw [addF_mem, bsN_mem]
    constructor
    · rintro (⟨x, hx, rfl⟩ | rfl)
      · exact ⟨x, by omega, rfl⟩
      · exact ⟨k, by omega, rfl⟩
    · rintro ⟨x, hx, rfl⟩
      by_cases e : x = k
      · rw [e]; exact .inr rfl
      · exact .inl ⟨x, by omega, rfl⟩
theorem bsN_ns {t : List (List Int)} (h : Grp t) {k : Nat} (hk : k ≤ t.length) : ∀ s ∈ bsN t k, NS t s := fun s hs => by
  obtain ⟨x, hx, rfl⟩ := bsN_mem.1 hs
  exact clo_ns h (one_in (by omega))
/-- What is found: the joins of those before (i, m) with the closures of elements are there. -/
structure NrI (t : List (List Int)) (i m : Nat) (F : List (List Int)) : Prop where
  nd : F.Nodup
  ns : ∀ a ∈ F, NS t a
  one : [(oneN t : Int)] ∈ F
  jn : ∀ a b, (a < i ∨ (a = i ∧ b < m)) → a < F.length → b < (bsN t t.length).length → jnL t (F.getD a []) ((bsN t t.length).getD b []) ∈ F
section
variable {t : List (List Int)} {i m : Nat} {F : List (List Int)}
theorem NrI.len (h : Grp t) (hn : t.length ≤ 16) (H : NrI t i m F) : F.length ≤ 1941 := few_subs h hn (fun a ha => (H.ns a ha).cl) H.nd
theorem NrI.self (H : NrI t i m F) : ∀ s ∈ F, ascV t.length (setI s) = s := fun s hs => (H.ns s hs).cl.self
theorem NrI.next (h : Grp t) (H : NrI t i m F) (hi : i < F.length) (hm : m < (bsN t t.length).length) : NrI t i (m + 1) (addF F (ascV t.length (setI (jnL t (F.getD i []) ((bsN t t.length).getD m []))))) := by
  have hns := jn_ns h (H.ns _ (getD_mem (d := []) hi)) (bsN_ns h (Nat.le_refl _) _ (getD_mem (d := []) hm))
  rw [hns.cl.self]
  have hget : ∀ a, a < F.length → (addF F (jnL t (F.getD i []) ((bsN t t.length).getD m []))).getD a [] = F.getD a [] := fun a ha => by
    unfold addF
    split
    · rfl
    · simp [List.getD, List.getElem?_append_left ha]
  have hlen : F.length ≤ (addF F (jnL t (F.getD i []) ((bsN t t.length).getD m []))).length := by
    unfold addF
    split
    · exact Nat.le_refl _
    · simp
  refine ⟨addF_nodup H.nd, fun a ha => ?_, addF_mem.2 (.inl H.one), fun a b hab ha hb => ?_⟩
  · rcases addF_mem.1 ha with ha | rfl
    · exact H.ns a ha
    · exact hns
  · have ha' : a < F.length := by omega
    rw [hget a ha']
    by_cases e : a = i ∧ b = m
    · rw [e.1, e.2]; exact addF_mem.2 (.inr rfl)
    · exact addF_mem.2 (.inl (H.jn a b (by omega) ha' hb))
theorem NrI.row (H : NrI t i m F) (hm : (bsN t t.length).length ≤ m) : NrI t (i + 1) 0 F := ⟨H.nd, H.ns, H.one, fun a b hab ha hb => H.jn a b (by omega) ha hb⟩
theorem NrI.done (h : Grp t) (H : NrI t i m F) (hi : F.length ≤ i) : ∀ l, l ∈ F ↔ NS t l := fun l => ⟨H.ns l, ns_all h H.ns H.one (fun a ha x hx => by
  obtain ⟨p, hp, rfl⟩ := mem_getD [] ha
  obtain ⟨q, hq, hv⟩ := mem_getD [] (bsN_mem.2 ⟨x, hx, rfl⟩)
  rw [← hv]
  exact H.jn p q (by omega) hp hq) l⟩
end

end Go.Proofs.YtdjbbjjmjopofaaGreat
end
section
/- The statements GroupNormals and GroupLists: the walks. -/
namespace Go.Proofs.YtdjbbjjmjopofaaGreat
open Go Go.AM
set_option maxRecDepth 100000
theorem little16_k (t : List (List Int)) (m : Int) : fnK TY SP Tryz.f49 [.ro (.rows .i64 t), .int .i64 m] (.bool (.v (decide ((t.length : Int) ≤ m) && grpB t))) := by
  refine And.intro (fun h1 => ?_) (fun h1 => ?_)
  · refine Or.inl (cq (rgroup_fn t) (And.intro rfl trivial) ?_)
    refine And.intro ?_ trivial
    show grpB t = (decide ((t.length : Int) ≤ m) && grpB t)
    rw [decide_eq_true h1, Bool.true_and]
  · refine And.intro ?_ trivial
    show false = (decide ((t.length : Int) ≤ m) && grpB t)
    rw [decide_eq_false (by omega), Bool.false_and]
theorem little16_fn (t : List (List Int)) (m : Int) : QF 49 [.ro (.rows .i64 t), .int .i64 m] (.bool (.v (decide ((t.length : Int) ≤ m) && grpB t))) := mkQ Tryz.func49 (by decide +kernel) rfl (Nat.le_of_ble_eq_true rfl) fun _ => little16_k t m
variable {t : List (List Int)}
end Go.Proofs.YtdjbbjjmjopofaaGreat
end
