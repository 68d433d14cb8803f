import Derived.Test.YteopelpnpdbbcaaRefCg
import Derived.Test.YteopelpnpdbbcaaReesLaw
/- Plain: the quotient of a table by a congruence. -/
namespace Go.Proofs.Yteopelpnpdbbcaa
open Go Go.AM

/-- The first member of a class. -/
def hdN (p : List Int) (c : Nat) : Nat := (((classes (classN p) p).getD c []).getD 0 0).toNat
def quoR (t : List (List Int)) (p : List Int) (c : Nat) : List Int := (List.range (classN p)).map fun d => p.getD (en t (hdN p c) (hdN p d)) 0
/-- The table of the classes. -/
def quoL (t : List (List Int)) (p : List Int) : List (List Int) := (List.range (classN p)).map fun c => quoR t p c

section
variable {t : List (List Int)} {p : List Int}
theorem cls_pos (hp : canon p = p) {c : Nat} (hc : c < classN p) : 0 < ((classes (classN p) p).getD c []).length := by
  have hm := (valid_range hp (c : Int)).1 ⟨by omega, by omega⟩
  obtain ⟨i, hi, he⟩ := mem_getD 0 hm
  have := (mem_classes (p := p) hc (x := (i : Int))).2 ⟨by omega, by omega, by rw [Int.toNat_natCast]; exact he⟩
  exact List.length_pos_of_mem this
theorem hd_at (hp : canon p = p) {c : Nat} (hc : c < classN p) : hdN p c < p.length ∧ p.getD (hdN p c) 0 = (c : Int) ∧ ((classes (classN p) p).getD c []).getD 0 0 = (hdN p c : Int) := by
  have hm := (mem_classes hc).1 (getD_mem (d := 0) (cls_pos hp hc))
  unfold hdN
  exact ⟨by omega, hm.2.2, by omega⟩
theorem cls_lt (hp : canon p = p) {x : Nat} (hx : x < p.length) : 0 ≤ p.getD x 0 ∧ (p.getD x 0).toNat < classN p ∧ p.getD x 0 = ((p.getD x 0).toNat : Int) := by
  have := (valid_range hp (p.getD x 0)).2 (getD_mem hx)
  omega
theorem quoR_len {c : Nat} : (quoR t p c).length = classN p := by simp [quoR]
theorem quoR_get {c d : Nat} (hd : d < classN p) : (quoR t p c).getD d 0 = p.getD (en t (hdN p c) (hdN p d)) 0 := by simp [quoR, List.getD, hd]
theorem quoL_len : (quoL t p).length = classN p := by simp [quoL]
theorem quoL_get {c : Nat} (hc : c < classN p) : (quoL t p).getD c [] = quoR t p c := by simp [quoL, List.getD, hc]
/-- Products of members of two classes lie in one class. -/
theorem cg_both (hs : Sh t) (hl : p.length = t.length) (hg : Cg t p 0) {x y x' y' : Nat} (hx : x < t.length) (hy : y < t.length) (hx' : x' < t.length) (hy' : y' < t.length) (h1 : p.getD x 0 = p.getD x' 0) (h2 : p.getD y 0 = p.getD y' 0) :
    p.getD (en t x y) 0 = p.getD (en t x' y') 0 :=
  ((hg x x' y hx hx' hy h1).2 (by decide)).trans ((hg y y' x' hy hy' hx' h2).1 (by decide))
/-! ### How the rows are filled -/

/-- The rows of the classes that were met below i; the others are empty. -/
def QuoIn (t : List (List Int)) (p : List Int) (i : Nat) (l : List (List Int)) : Prop :=
  l.length = classN p ∧ ∀ c, c < classN p → ((∃ x, x < i ∧ p.getD x 0 = (c : Int)) → l.getD c [] = quoR t p c) ∧ ((∀ x, x < i → p.getD x 0 ≠ (c : Int)) → l.getD c [] = [])
theorem QuoIn.start : QuoIn t p 0 (List.replicate (classN p) []) := ⟨by simp, fun c hc => ⟨fun ⟨x, hx, _⟩ => absurd hx (Nat.not_lt_zero _), fun _ => by simp [List.getD, hc]⟩⟩
theorem QuoIn.old (hp : canon p = p) {i : Nat} {l : List (List Int)} (h : QuoIn t p i l) (hi : i < p.length) (hn : l.getD (p.getD i 0).toNat [] ≠ []) : QuoIn t p (i + 1) l := by
  have hc := cls_lt hp hi
  have hsome : ∃ x, x < i ∧ p.getD x 0 = p.getD i 0 := Classical.byContradiction fun hne => hn ((h.2 _ hc.2.1).2 fun x hx e => hne ⟨x, hx, by rw [e]; exact hc.2.2.symm⟩)
  refine ⟨h.1, fun c hcc => ⟨fun ⟨x, hx, he⟩ => (h.2 c hcc).1 ?_, fun hno => (h.2 c hcc).2 fun x hx => hno x (by omega)⟩⟩
  by_cases hxi : x < i
  · exact ⟨x, hxi, he⟩
  · have : x = i := by omega
    subst this
    obtain ⟨y, hy, hye⟩ := hsome
    exact ⟨y, hy, hye.trans he⟩
theorem QuoIn.new (hp : canon p = p) {i : Nat} {l : List (List Int)} (h : QuoIn t p i l) (hi : i < p.length) {r : List Int} (hr : r = quoR t p (p.getD i 0).toNat) : QuoIn t p (i + 1) (l.set (p.getD i 0).toNat r) := by
  have hc := cls_lt hp hi
  have hlt : (p.getD i 0).toNat < l.length := by rw [h.1]; exact hc.2.1
  refine ⟨by rw [List.length_set]; exact h.1, fun c hcc => ?_⟩
  rw [getD_set _ _ _ _ _ hlt]
  by_cases e : c = (p.getD i 0).toNat
  · subst e
    rw [if_pos rfl]
    exact ⟨fun _ => hr, fun hno => absurd hc.2.2 (hno i (by omega))⟩
  · rw [if_neg e]
    refine ⟨fun ⟨x, hx, he⟩ => (h.2 c hcc).1 ⟨x, ?_, he⟩, fun hno => (h.2 c hcc).2 fun x hx => hno x (by omega)⟩
    rcases Nat.lt_or_ge x i with hxi | hxi
    · exact hxi
    · have : x = i := by omega
      subst this
      omega
theorem QuoIn.done (hp : canon p = p) {l : List (List Int)} {i : Nat} (h : QuoIn t p i l) (hi : p.length ≤ i) : l = quoL t p := by
  refine ext_getD [] (by rw [h.1, quoL_len]) fun c hc => ?_
  rw [h.1] at hc
  rw [quoL_get hc]
  have k := hd_at hp hc
  exact (h.2 c hc).1 ⟨hdN p c, by omega, k.2.1⟩
/-- A row in the making. -/
def RowIn (t : List (List Int)) (p : List Int) (i j : Nat) (r : List Int) : Prop :=
  r.length = classN p ∧ ∀ d, d < classN p → (∃ y, y < j ∧ p.getD y 0 = (d : Int)) → r.getD d 0 = p.getD (en t i (hdN p d)) 0
theorem RowIn.start {i : Nat} : RowIn t p i 0 (List.replicate (classN p) 0) := ⟨by simp, fun d _ ⟨y, hy, _⟩ => absurd hy (Nat.not_lt_zero _)⟩
theorem RowIn.next (hs : Sh t) (hl : p.length = t.length) (hp : canon p = p) (hg : Cg t p 0) {i j : Nat} {r : List Int} (h : RowIn t p i j r) (hi : i < t.length) (hj : j < p.length) : RowIn t p i (j + 1) (r.set (p.getD j 0).toNat (p.getD (en t i j) 0)) := by
  have hc := cls_lt hp hj
  have hlt : (p.getD j 0).toNat < r.length := by rw [h.1]; exact hc.2.1
  refine ⟨by rw [List.length_set]; exact h.1, fun d hd ⟨y, hy, he⟩ => ?_⟩
  rw [getD_set _ _ _ _ _ hlt]
  by_cases e : d = (p.getD j 0).toNat
  · subst e
    rw [if_pos rfl]
    have k := hd_at hp hd
    exact cg_both hs hl hg hi (by omega) hi (by omega) rfl (by rw [k.2.1]; exact hc.2.2)
  · rw [if_neg e]
    refine h.2 d hd ⟨y, ?_, he⟩
    rcases Nat.lt_or_ge y j with hyj | hyj
    · exact hyj
    · have : y = j := by omega
      subst this
      omega
theorem RowIn.done (hs : Sh t) (hl : p.length = t.length) (hp : canon p = p) (hg : Cg t p 0) {i j : Nat} {r : List Int} (h : RowIn t p i j r) (hi : i < t.length) (hj : p.length ≤ j) : r = quoR t p (p.getD i 0).toNat := by
  have hc := cls_lt hp (x := i) (by omega)
  refine ext_getD 0 (by rw [h.1, quoR_len]) fun d hd => ?_
  rw [h.1] at hd
  have k := hd_at hp hd
  have k2 := hd_at hp hc.2.1
  rw [h.2 d hd ⟨hdN p d, by omega, k.2.1⟩, quoR_get hd]
  exact cg_both hs hl hg hi (by omega) (by omega) (by omega) (by rw [k2.2.1]; exact hc.2.2) rfl
end
end Go.Proofs.Yteopelpnpdbbcaa
