import Derived.Test.YteopelpnpdbbcaaCgSyn
import Derived.Test.YteopelpnpdbbcaaQuoLaw
import Derived.Test.YteopelpnpdbbcaaCgrLaw
import Derived.Test.YteopelpnpdbbcaaGroup
import Derived.Test.YteopelpnpdbbcaaPart
import Derived.Test.YteopelpnpdbbcaaIdealLaw
import Derived.Test.YteopelpnpdbbcaaBase
import Derived.Test.YteopelpnpdbbcaaLatLaw
import Derived.Test.YteopelpnpdbbcaaMult
/- Package partition: Saturates; congr.Syntactic: contracts. -/
namespace Go.Proofs.Yteopelpnpdbbcaa
open Go Go.AM
set_option maxRecDepth 100000
/-- A set's labels. -/
def lbL (s : List Bool) : List Int := s.map fun b => match b with | true => 1 | false => 0
theorem lbL_len (s : List Bool) : (lbL s).length = s.length := by simp [lbL]
theorem lbL_get {s : List Bool} {x : Nat} (h : x < s.length) : (lbL s).getD x 0 = match s.getD x false with | true => 1 | false => 0 := by simp [lbL, List.getD, h]
theorem lbL_iff {s : List Bool} {x y : Nat} (hx : x < s.length) (hy : y < s.length) : (lbL s).getD x 0 = (lbL s).getD y 0 ↔ s.getD x false = s.getD y false := by
  rw [lbL_get hx, lbL_get hy]
  cases s.getD x false <;> cases s.getD y false <;> simp
theorem csyn_k (t : List (List Int)) (s : List Bool) (hs : Semi t) (hl : s.length = t.length) : fnK TY SP Try.f17 [.ro (.rows .i64 t), .ro (.bools s)] (.new (.ints .i64 (synP t (lbL s)))) := by
  have hmost := hs.most
  have hS := hs.toSh
  refine And.intro (fun h1 => absurd (show (s.length : Int) = (t.length : Int) by omega) h1) (fun _ => ?_)
  refine Or.inl (cq (valid_fn t) (And.intro rfl trivial) ?_)
  refine And.intro (fun h1 => absurd (valid_zero.2 hs) h1) (fun _ => ?_)
  refine And.intro (by omega) ?_
  refine And.intro (by omega) ?_
  refine Exists.intro [] <| lp2 (fun (x : Nat) (_ : List Int) => [(23, .int .i64 x)]) (fun _ L => [(20, .vec 0 (.ints .i64 L) [])]) (fun x L => x ≤ s.length ∧ L.length = s.length ∧ (∀ y, y < x → L.getD y 0 = (lbL s).getD y 0) ∧ ∀ y, x ≤ y → L.getD y 0 = 0) (fun x _ => s.length - x) 0 (List.replicate t.length 0) ⟨Nat.zero_le _, by simp; omega, fun y h => absurd h (Nat.not_lt_zero _), fun y _ => by simp only [List.getD, List.getElem?_replicate]; split <;> rfl⟩ (by repeat' first | refine And.intro ?_ ?_ | exact True.intro | (show (_ : Int) = (_ : Int); omega) | omega | exact rfl | (simp only [RO.len]; omega)) ?_
  rintro x L ⟨hx, hL, hLy, hL0⟩
  refine And.intro (fun h2 => ?_) (fun h2 => ?_)
  · have h2 : (x : Int) < (s.length : Int) := h2
    have hxl : x < s.length := by omega
    have hg := lbL_get hxl
    refine And.intro (by omega) ?_
    refine And.intro (fun h3 => ?_) (fun h3 => ?_)
    · have h3 : s.getD x false = true := h3
      rw [h3] at hg
      refine And.intro (by omega) ?_
      refine And.intro (by omega) ?_
      refine And.intro (by omega) ?_
      refine nx (x + 1, L.set x 1) ⟨by omega, by rw [List.length_set]; exact hL, fun y hy => ?_, fun y hy => ?_⟩ (show s.length - (x + 1) < s.length - x by omega) (by repeat' first | refine And.intro ?_ ?_ | exact True.intro | (show (_ : Int) = (_ : Int); omega) | omega | exact rfl | (simp only [RO.len]; omega))
      · by_cases e : y = x
        · subst e; rw [getD_set_eq (by omega)]; exact hg.symm
        · rw [getD_set_ne (Ne.symm e)]; exact hLy y (by omega)
      · rw [getD_set_ne (by omega)]; exact hL0 y (by omega)
    · have h3 : s.getD x false = false := h3
      rw [h3] at hg
      refine And.intro (by omega) ?_
      refine nx (x + 1, L) ⟨by omega, hL, fun y hy => ?_, fun y hy => hL0 y (by omega)⟩ (show s.length - (x + 1) < s.length - x by omega) (by repeat' first | refine And.intro ?_ ?_ | exact True.intro | (show (_ : Int) = (_ : Int); omega) | omega | exact rfl | (simp only [RO.len]; omega))
      by_cases e : y = x
      · subst e; rw [hL0 y (Nat.le_refl _)]; exact hg.symm
      · exact hLy y (by omega)
  · have h2 : (s.length : Int) ≤ (x : Int) := h2
    have e : L = lbL s := ext_getD 0 (by rw [lbL_len]; exact hL) fun y hy => hLy y (by omega)
    have ec : (if L.length ≤ 4096 then canon L else []) = canon (lbL s) := by rw [if_pos (by omega), e]
    have hcl : (canon (lbL s)).length = t.length := by rw [canon_length, lbL_len]; exact hl
    have hcv : validP (canon (lbL s)) := ⟨by omega, canon_idem _⟩
    have hsy : synP t (canon (lbL s)) = synP t (lbL s) := synP_congr hS fun a b ha hb => canon_eq_iff (by rw [lbL_len]; omega) (by rw [lbL_len]; omega)
    have hco := ccoa_fn t (canon (lbL s)) hs hcl hcv
    rw [hsy, ← ec] at hco
    refine Or.inl (cq (Canonical_fn L) (And.intro rfl trivial) ?_)
    refine Or.inl (cq hco (And.intro rfl (And.intro rfl trivial)) ?_)
    exact And.intro (And.intro (by omega) rfl) trivial
theorem csyn_fn (t : List (List Int)) (s : List Bool) (hs : Semi t) (hl : s.length = t.length) : QF 17 [.ro (.rows .i64 t), .ro (.bools s)] (.new (.ints .i64 (synP t (lbL s)))) := mkQ Try.func17 (by decide +kernel) rfl (Nat.le_of_ble_eq_true rfl) fun _ => csyn_k t s hs hl
theorem csynN_k (t : List (List Int)) (s : List Bool) (h : ¬ (Semi t ∧ s.length = t.length)) : fnK TY SP Try.f17 [.ro (.rows .i64 t), .ro (.bools s)] .nils := by
  refine And.intro (fun _ => And.intro trivial trivial) (fun h1 => ?_)
  have h1 : (s.length : Int) = (t.length : Int) := h1
  refine Or.inl (cq (valid_fn t) (And.intro rfl trivial) ?_)
  exact And.intro (fun _ => And.intro trivial trivial) (fun h2 => absurd ⟨valid_zero.1 h2, by omega⟩ h)
theorem csynN_fn (t : List (List Int)) (s : List Bool) (h : ¬ (Semi t ∧ s.length = t.length)) : QF 17 [.ro (.rows .i64 t), .ro (.bools s)] .nils := mkQ Try.func17 (by decide +kernel) rfl (Nat.le_of_ble_eq_true rfl) fun _ => csynN_k t s h
end Go.Proofs.Yteopelpnpdbbcaa
