/- The law's check of an injective homomorphism: contract. -/
import Derived.Test.YtfoemneboalddaaTheoLaw
import Derived.Test.YtfoemneboalddaaIn
namespace Go.Proofs.Ytfoemneboalddaa
open Go Go.AM
set_option maxRecDepth 100000
set_option maxHeartbeats 1000000
/-- What is used after some elements. -/
structure UsedI (f : List Int) (n k : Nat) (q : List Bool) : Prop where
  len : q.length = n
  iff : ∀ v : Nat, v < n → (q.getD v false = true ↔ ∃ x, x < k ∧ f.getD x 0 = (v : Int))
theorem UsedI.start (f : List Int) (n : Nat) : UsedI f n 0 (List.replicate n false) := ⟨by simp, fun v hv => by
  have : (List.replicate n false).getD v false = false := by simp [List.getD, hv]
  rw [this]; exact ⟨fun h => Bool.noConfusion h, fun ⟨x, hx, _⟩ => absurd hx (Nat.not_lt_zero _)⟩⟩
theorem UsedI.put {f : List Int} {n k : Nat} {q : List Bool} (h : UsedI f n k q) (h0 : 0 ≤ f.getD k 0) (h1 : f.getD k 0 < (n : Int)) : UsedI f n (k + 1) (q.set (f.getD k 0).toNat true) := ⟨by rw [List.length_set]; exact h.len, fun v hv => by
  by_cases e : (f.getD k 0).toNat = v
  · rw [e, getD_set_eq (by rw [h.len]; exact hv)]
    exact ⟨fun _ => ⟨k, by omega, by omega⟩, fun _ => rfl⟩
  · rw [getD_set_ne e, h.iff v hv]
    constructor
    · rintro ⟨x, hx, hh⟩; exact ⟨x, by omega, hh⟩
    · rintro ⟨x, hx, hh⟩
      refine ⟨x, ?_, hh⟩
      have : x ≠ k := fun he => by subst he; omega
      omega⟩
theorem UsedI.no {p u : List (List Int)} {f : List Int} (m : Mor p u f) {k : Nat} {q : List Bool} (h : UsedI f u.length k q) (hk : k < p.length) : q.getD (f.getD k 0).toNat false = false := by
  have r := m.rng k hk
  have := h.iff (f.getD k 0).toNat (by omega)
  rw [← Bool.not_eq_true, this]
  rintro ⟨x, hx, hh⟩
  exact m.inj x k hx hk (by omega)
theorem morph_k (p u : List (List Int)) (f : List Int) (hp : Sh p) (hu : Sh u) (m : Mor p u f) : fnK TY SP Try.f20 [.ro (.rows .i64 p), .ro (.rows .i64 u), .ro (.ints .i64 f)] (.bool (.lit true)) := by
  have hpl := hp.most
  have hul := hu.most
  have hfl := m.len
  have hin : ∀ v ∈ f, 0 ≤ v ∧ v < (u.length : Int) := fun v hv => by
    obtain ⟨i, hi, e⟩ := mem_getD 0 hv
    rw [← e]; exact m.rng i (by omega)
  refine And.intro (fun h => absurd (show (f.length : Int) = (p.length : Int) by omega) h) (fun _ => ?_)
  refine Or.inl (cq (rin_fn u f) (And.intro rfl (And.intro rfl trivial)) ?_)
  refine And.intro (fun h7 => absurd h7 (by rw [decide_eq_true hin]; simp)) (fun _ => ?_)
  have hst := UsedI.start f u.length
  refine And.intro (by omega) ?_
  refine And.intro (by omega) ?_
  refine Exists.intro [] <| lp2 (fun (x : Nat) (_ : List Bool) => [(26, .int .i64 x)]) (fun _ q => [(23, .vec 0 (.bools q) [])]) (fun x q => x ≤ p.length ∧ UsedI f u.length x q) (fun x _ => p.length - x) 0 (List.replicate u.length false) ⟨Nat.zero_le _, hst⟩ (by repeat' first | refine And.intro ?_ ?_ | exact True.intro | (show (_ : Int) = (_ : Int); omega) | omega | exact rfl | (simp only [RO.len]; omega)) ?_
  rintro x q ⟨hxn, hq⟩
  refine And.intro (fun h2 => ?_) (fun h2 => ?_)
  · have hx : x < p.length := by omega
    have rx := m.rng x hx
    have hql := hq.len
    have hno := hq.no m hx
    have hput := hq.put rx.1 rx.2
    have hpr := hp.len hx
    refine And.intro (by omega) ?_
    refine And.intro (by simp only [Int.toNat_natCast]; omega) ?_
    refine And.intro (fun h3 => absurd (hno.symm.trans h3) (by simp)) (fun _ => ?_)
    refine And.intro (by omega) ?_
    refine And.intro (by simp only [Int.toNat_natCast]; omega) ?_
    refine And.intro (by simp only [Int.toNat_natCast]; omega) ?_
    refine Exists.intro [] <| lp (X := Nat) (fun y => [(44, .int .i64 y)]) (fun _ => []) (fun y => y ≤ p.length) (fun y => p.length - y) 0 (Nat.zero_le _) (by repeat' first | refine And.intro ?_ ?_ | exact True.intro | (show (_ : Int) = (_ : Int); omega) | omega | exact rfl | (simp only [RO.len]; omega)) ?_
    intro y hyn
    refine And.intro (fun h4 => ?_) (fun h4 => ?_)
    · have hy : y < p.length := by omega
      have ry := m.rng y hy
      have e := hp.ent hx hy
      have re := m.rng _ e.2
      have hur := hu.len (show (f.getD x 0).toNat < u.length by omega)
      have hh := m.hom x y hx hy
      refine Or.inl ?_
      refine Exists.intro [false, false, false, false, false, false, false, false, false, false, false, false, false, false, false, false, false, false, false, false, false, false, false, false] (And.intro (by decide +kernel) ?_)
      refine And.intro (by omega) ?_
      refine And.intro (by simp only [Int.toNat_natCast]; omega) ?_
      refine And.intro (by simp only [Int.toNat_natCast]; omega) ?_
      refine And.intro (by omega) ?_
      refine And.intro (by simp only [Int.toNat_natCast]; omega) ?_
      refine And.intro (by omega) ?_
      refine And.intro (by simp only [Int.toNat_natCast]; omega) ?_
      refine And.intro (fun h5 => absurd hh h5) (fun _ => ?_)
      refine And.intro (by omega) ?_
      exact nx (y + 1) (show y + 1 ≤ p.length by omega) (show p.length - (y + 1) < p.length - y by omega) (by repeat' first | refine And.intro ?_ ?_ | exact True.intro | (show (_ : Int) = (_ : Int); omega) | omega | exact rfl | (simp only [RO.len]; omega))
    · refine And.intro (by omega) ?_
      exact nx (x + 1, q.set (f.getD x 0).toNat true) ⟨show x + 1 ≤ p.length by omega, hput⟩ (show p.length - (x + 1) < p.length - x by omega) (by repeat' first | refine And.intro ?_ ?_ | exact True.intro | (show (_ : Int) = (_ : Int); omega) | omega | exact rfl | (simp only [RO.len]; omega))
  · exact And.intro rfl trivial
theorem morph_fn (p u : List (List Int)) (f : List Int) (hp : Sh p) (hu : Sh u) (m : Mor p u f) : QF 20 [.ro (.rows .i64 p), .ro (.rows .i64 u), .ro (.ints .i64 f)] (.bool (.lit true)) := mkQ Try.func20 (by decide +kernel) rfl (Nat.le_of_ble_eq_true rfl) fun _ => morph_k p u f hp hu m
end Go.Proofs.Ytfoemneboalddaa
