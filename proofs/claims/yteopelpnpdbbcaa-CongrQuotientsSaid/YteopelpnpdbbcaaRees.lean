/- Package rees: its contracts. -/
import Derived.Test.YteopelpnpdbbcaaGroup
import Derived.Test.YteopelpnpdbbcaaReesLaw
namespace Go.Proofs.Yteopelpnpdbbcaa
open Go Go.AM
set_option maxRecDepth 100000

/-- A Rees matrix semigroup, as the machine holds it. -/
abbrev rav (G : List (List Int)) (R C : Int) (P : List (List Int)) (z : Bool) : AV := .agg [.ro (.rows .i64 G), .int .i64 R, .int .i64 C, .ro (.rows .i64 P), .bool (.v z)]

theorem sh_no {G : List (List Int)} {R C : Int} {P : List (List Int)} {z : Bool} (h : ¬ Shaped G R C P z) : false = shapedB G R C P z := (shapedB_false.2 h).symm

/-- The entries of a row, up to a place. -/
def entOk (n : Nat) (z : Bool) (g : Int) : Prop := -1 ≤ g ∧ g < n ∧ (g < 0 → z = true)

theorem sh_ent {G : List (List Int)} {R C : Int} {P : List (List Int)} {z : Bool} {k i : Nat} (hk : k < P.length) (hi : i < (P.getD k []).length) (h : ¬ entOk G.length z ((P.getD k []).getD i 0)) : false = shapedB G R C P z :=
  sh_no fun hs => h ((hs.rows _ (getD_mem hk)).2 _ (getD_mem hi))

theorem numI_true (n C i g l : Int) : (i * n + g) * C + l + 1 = numI n C true i g l := by simp [numI, zI]
theorem numI_false (n C i g l : Int) : (i * n + g) * C + l = numI n C false i g l := by simp [numI, zI]

theorem rees_no {G : List (List Int)} {R C : Int} {P : List (List Int)} {z : Bool} (h : ¬ (Grp G ∧ Shaped G R C P z)) : 4 = reesV G R C P z := by
  unfold reesV; rw [if_neg h]

theorem size_pos {n R C : Int} {z : Bool} (hn : 1 ≤ n) (hR : 1 ≤ R) (hC : 1 ≤ C) : 1 ≤ sizeI n R C z := by
  have := Int.mul_pos (Int.mul_pos (show 0 < n by omega) (show 0 < R by omega)) (show 0 < C by omega)
  have hz := z_cases z
  unfold sizeI; omega

/-- What the marks say of the columns, up to a row and a place in it. -/
def Met (P : List (List Int)) (k i : Nat) (met : List Bool) : Prop := ∀ q, q < met.length → (met.getD q false = true ↔ ∃ j, (j < k ∨ (j = k ∧ q < i)) ∧ 0 ≤ (P.getD j []).getD q 0)

theorem met_start (P : List (List Int)) (n : Nat) : Met P 0 0 (List.replicate n false) := fun q hq => by
  have : (List.replicate n false).getD q false = false := by simp [List.getD, List.getElem?_replicate]; split <;> rfl
  rw [this]
  exact ⟨fun h => (by cases h), fun ⟨j, h, _⟩ => by omega⟩
theorem met_row {P : List (List Int)} {k i : Nat} {met : List Bool} (h : Met P k i met) (hi : met.length ≤ i) : Met P (k + 1) 0 met := fun q hq => by
  rw [h q hq]
  exact ⟨fun ⟨j, h1, h2⟩ => ⟨j, by omega, h2⟩, fun ⟨j, h1, h2⟩ => ⟨j, by omega, h2⟩⟩
theorem met_yes {P : List (List Int)} {k i : Nat} {met : List Bool} (h : Met P k i met) (hi : i < met.length) (hp : 0 ≤ (P.getD k []).getD i 0) : Met P k (i + 1) (met.set i true) := fun q hq => by
  rw [List.length_set] at hq
  by_cases hqi : q = i
  · subst hqi
    rw [getD_set_eq hi]
    exact ⟨fun _ => ⟨k, .inr ⟨rfl, by omega⟩, hp⟩, fun _ => rfl⟩
  · rw [getD_set_ne (Ne.symm hqi), h q hq]
    exact ⟨fun ⟨j, h1, h2⟩ => ⟨j, by omega, h2⟩, fun ⟨j, h1, h2⟩ => ⟨j, by omega, h2⟩⟩
theorem met_no {P : List (List Int)} {k i : Nat} {met : List Bool} (h : Met P k i met) (hp : (P.getD k []).getD i 0 < 0) : Met P k (i + 1) met := fun q hq => by
  rw [h q hq]
  refine ⟨fun ⟨j, h1, h2⟩ => ⟨j, by omega, h2⟩, fun ⟨j, h1, h2⟩ => ⟨j, ?_, h2⟩⟩
  rcases h1 with h1 | ⟨h1, h3⟩
  · exact .inl h1
  · by_cases hq : q = i
    · subst hq; subst h1; omega
    · exact .inr ⟨h1, by omega⟩

theorem any_no {P : List (List Int)} {k i : Nat} {any : Bool} (h : any = true ↔ ∃ i' : Nat, i' < i ∧ 0 ≤ (P.getD k []).getD i' 0) (hp : (P.getD k []).getD i 0 < 0) : any = true ↔ ∃ i' : Nat, i' < i + 1 ∧ 0 ≤ (P.getD k []).getD i' 0 := by
  rw [h]
  refine ⟨fun ⟨i', h1, h2⟩ => ⟨i', by omega, h2⟩, fun ⟨i', h1, h2⟩ => ⟨i', ?_, h2⟩⟩
  by_cases hii : i' = i
  · subst hii; omega
  · omega

end Go.Proofs.Yteopelpnpdbbcaa
