/- Partitions as lists: the canonical numbering, its laws. Plain; no program. -/
import Derived.Test.YtdjbbjjmjopofaaGreatBase
namespace Go.Proofs.YtdjbbjjmjopofaaGreat
open Go Go.AM

section
variable {α β : Type} [DecidableEq α] [DecidableEq β]

def addNew (acc : List α) (x : α) : List α := if x ∈ acc then acc else acc ++ [x]
/-- The different members, in the order in which they come. -/
def firsts (l : List α) : List α := l.foldl addNew []
/-- Each member's number: equal ones have equal numbers, in the order in which they come. -/
def canon (l : List α) : List Int := l.map fun x => (((firsts l).idxOf x : Nat) : Int)

theorem foldNew_mem {l : List α} : ∀ {acc : List α} {x : α}, x ∈ l.foldl addNew acc ↔ x ∈ acc ∨ x ∈ l := by
  induction l with
  | nil => simp
  | cons a l ih =>
    intro acc x
    rw [List.foldl_cons, ih, addNew]
    split
    · rename_i h
      constructor
      · rintro (h' | h')
        · exact .inl h'
        · exact .inr (List.mem_cons_of_mem _ h')
      · rintro (h' | h')
        · exact .inl h'
        · rcases List.mem_cons.1 h' with rfl | h'
          · exact .inl h
          · exact .inr h'
    · simp only [List.mem_append, List.mem_cons, or_assoc, List.not_mem_nil, false_or]
theorem mem_firsts {l : List α} {x : α} : x ∈ firsts l ↔ x ∈ l := by simp [firsts, foldNew_mem]

theorem foldNew_nodup {l : List α} : ∀ {acc : List α}, acc.Nodup → (l.foldl addNew acc).Nodup := by
  induction l with
  | nil => exact fun h => h
  | cons a l ih =>
    intro acc h
    rw [List.foldl_cons]
    refine ih ?_
    unfold addNew
    split
    · exact h
    · rename_i hn
      rw [List.nodup_append]
      refine ⟨h, by simp, fun x hx y hy e => ?_⟩
      simp at hy
      subst hy; subst e
      exact hn hx
theorem firsts_nodup (l : List α) : (firsts l).Nodup := foldNew_nodup (by simp)

theorem canon_length (l : List α) : (canon l).length = l.length := by simp [canon]

omit [DecidableEq α] in
theorem take_get {l : List α} {i : Nat} {d : α} (h : i < l.length) : l.take (i + 1) = l.take i ++ [l.getD i d] := by
  rw [List.take_add_one]; simp [List.getD, h]

end

/-! ### Valid numberings -/

/-- Is it a canonical numbering of no more than 4096 points? -/
def validP (p : List Int) : Prop := p.length ≤ 4096 ∧ canon p = p
instance (p : List Int) : Decidable (validP p) := by unfold validP; infer_instance

/-- How many numbers there are. -/
def classN (p : List Int) : Nat := (firsts p).length

/-! ### What a map from members to numbers has -/

section
variable {α : Type} [DecidableEq α]
def mapOf (key : α → List Int) (n : Nat) (fs : List α) : List (List Int × Int) := (fs.zipIdx n).map fun e => (key e.1, ((e.2 : Nat) : Int))

end
end Go.Proofs.YtdjbbjjmjopofaaGreat
