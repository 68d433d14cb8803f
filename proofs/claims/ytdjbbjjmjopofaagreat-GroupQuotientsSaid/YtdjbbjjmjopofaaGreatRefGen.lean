/- The reference: what elements generate: contract. -/
import Derived.Test.YtdjbbjjmjopofaaGreatSgpLaw
import Derived.Test.YtdjbbjjmjopofaaGreatRefPart
import Derived.Test.YtdjbbjjmjopofaaGreatRefIdeal
namespace Go.Proofs.YtdjbbjjmjopofaaGreat
open Go Go.AM
set_option maxRecDepth 100000
theorem rgen_k (t : List (List Int)) (l : List Int) (hs : Sh t) (hl : inT t l) : fnK TY SP Tryz.f77 [.ro (.rows .i64 t), .ro (.ints .i64 l)] (.new (.ints .i64 (genL t l))) := by
  have hm := hs.most
  refine Or.inl (cq (rset_fn l t.length hs.most) (And.intro rfl (And.intro rfl trivial)) ?_)
  have h0 : GnP t l (setB t.length fun x => l.contains (x : Int)) := ⟨setB_len _ _, fun y hy hh => by
      rw [setB_get hy] at hh
      have := Mk.gen (t := t) (List.contains_iff_mem.1 hh)
      rwa [Int.toNat_natCast] at this, fun g hg => by
      have := hl g hg
      rw [setB_get (by omega), List.contains_iff_mem, Int.toNat_of_nonneg this.1]; exact hg⟩
  refine Exists.intro [] <| lp2 (fun (_ : List Bool) (ch : Bool) => [(6, .bool (.v ch))]) (fun I _ => [(12, .vec 0 (.bools I) [])])
    (fun I ch => GnP t l I ∧ (ch = false → ∀ a b, a < t.length → b < t.length → I.getD a false = true → I.getD b false = true → I.getD (en t a b) false = true)) (fun I ch => 2 * (t.length - I.countP id) + ch.toNat) (setB t.length fun x => l.contains (x : Int)) true ⟨h0, fun h => by cases h⟩ (by repeat' first | refine And.intro ?_ ?_ | exact True.intro | (show (_ : Int) = (_ : Int); omega) | omega | exact rfl | (simp only [RO.len]; omega)) ?_
  rintro I ch ⟨hI, hcl⟩
  have hil := hI.len
  refine And.intro (fun h1 => ?_) (fun h1 => ?_)
  · have h1 : ch = true := h1
    refine Exists.intro [] <| lp3 (fun (x : Nat) (_ : List Bool) (ch : Bool) => [(16, .int .i64 x), (6, .bool (.v ch))]) (fun _ I _ => [(12, .vec 0 (.bools I) [])])
      (fun x J ch => x ≤ t.length ∧ GnQ t l I x 0 J ch) (fun x _ _ => t.length - x) 0 I false ⟨Nat.zero_le _, .start hI⟩ (by repeat' first | refine And.intro ?_ ?_ | exact True.intro | (show (_ : Int) = (_ : Int); omega) | omega | exact rfl | (simp only [RO.len]; omega)) ?_
    rintro x J ch' ⟨hx, hJ⟩
    refine And.intro (fun h2 => ?_) (fun h2 => ?_)
    · have h2 : (x : Int) < (t.length : Int) := h2
      have hxl : x < t.length := by omega
      have rx := hs.len hxl
      refine Exists.intro [] <| lp3 (fun (y : Nat) (_ : List Bool) (ch : Bool) => [(21, .int .i64 y), (6, .bool (.v ch))]) (fun _ I _ => [(12, .vec 0 (.bools I) [])])
        (fun y J ch => y ≤ t.length ∧ GnQ t l I x y J ch) (fun y _ _ => t.length - y) 0 J ch' ⟨Nat.zero_le _, hJ⟩ (by repeat' first | refine And.intro ?_ ?_ | exact True.intro | (show (_ : Int) = (_ : Int); omega) | omega | exact rfl | (simp only [RO.len]; omega)) ?_
      rintro y J ch' ⟨hy, hJ⟩
      have hjl := hJ.ok.len
      refine And.intro (fun h3 => ?_) (fun h3 => ?_)
      · have h3 : (y : Int) < (t.length : Int) := h3
        have hyl : y < t.length := by omega
        have e1 := hs.ent hxl hyl
        refine And.intro (show 0 ≤ (x : Int) ∧ (x : Int) < (J.length : Int) by omega) ?_
        refine And.intro (fun h4 => ?_) (fun h4 => ?_)
        · have h4 : J.getD x false = true := h4
          refine And.intro (show 0 ≤ (y : Int) ∧ (y : Int) < (J.length : Int) by omega) ?_
          refine And.intro (fun h5 => ?_) (fun h5 => ?_)
          · have h5 : J.getD y false = true := h5
            have i2 : 0 ≤ (y : Int) ∧ (y : Int) < ((t.getD x []).length : Int) := by omega
            have i3 : 0 ≤ (t.getD x []).getD y 0 ∧ (t.getD x []).getD y 0 < (J.length : Int) := by omega
            refine And.intro (by omega) ?_
            refine And.intro i2 ?_
            refine And.intro i3 ?_
            refine And.intro (fun h6 => ?_) (fun h6 => ?_)
            · have h6 : (!J.getD (en t x y) false) = true := h6
              refine And.intro (by omega) ?_
              refine And.intro i2 ?_
              refine And.intro i3 ?_
              refine And.intro i3.1 ?_
              refine And.intro (by omega) ?_
              exact nx (y + 1, J.set ((t.getD x []).getD y 0).toNat true, true) ⟨by omega, hJ.push hs hxl hyl h4 h5 (by simpa using h6)⟩ (show t.length - (y + 1) < t.length - y by omega) (by repeat' first | refine And.intro ?_ ?_ | exact True.intro | (show (_ : Int) = (_ : Int); omega) | omega | exact rfl | (simp only [RO.len]; omega))
            · have h6 : (!J.getD (en t x y) false) = false := h6
              refine And.intro (by omega) ?_
              exact nx (y + 1, J, ch') ⟨by omega, hJ.old fun _ _ => by simpa using h6⟩ (show t.length - (y + 1) < t.length - y by omega) (by repeat' first | refine And.intro ?_ ?_ | exact True.intro | (show (_ : Int) = (_ : Int); omega) | omega | exact rfl | (simp only [RO.len]; omega))
          · have h5 : J.getD y false = false := h5
            refine And.intro (by omega) ?_
            exact nx (y + 1, J, ch') ⟨by omega, hJ.old fun _ hh => by rw [h5] at hh; cases hh⟩ (show t.length - (y + 1) < t.length - y by omega) (by repeat' first | refine And.intro ?_ ?_ | exact True.intro | (show (_ : Int) = (_ : Int); omega) | omega | exact rfl | (simp only [RO.len]; omega))
        · have h4 : J.getD x false = false := h4
          refine And.intro (by omega) ?_
          exact nx (y + 1, J, ch') ⟨by omega, hJ.old fun hh _ => by rw [h4] at hh; cases hh⟩ (show t.length - (y + 1) < t.length - y by omega) (by repeat' first | refine And.intro ?_ ?_ | exact True.intro | (show (_ : Int) = (_ : Int); omega) | omega | exact rfl | (simp only [RO.len]; omega))
      · have h3 : (t.length : Int) ≤ (y : Int) := h3
        refine And.intro (by omega) ?_
        exact nx (x + 1, J, ch') ⟨by omega, hJ.row (by omega)⟩ (show t.length - (x + 1) < t.length - x by omega) (by repeat' first | refine And.intro ?_ ?_ | exact True.intro | (show (_ : Int) = (_ : Int); omega) | omega | exact rfl | (simp only [RO.len]; omega))
    · have h2 : (t.length : Int) ≤ (x : Int) := h2
      refine nx (J, ch') ⟨hJ.ok, fun hh a b ha hb => (hJ.no hh).2 a b (by omega) hb⟩ ?_ (by repeat' first | refine And.intro ?_ ?_ | exact True.intro | (show (_ : Int) = (_ : Int); omega) | omega | exact rfl | (simp only [RO.len]; omega))
      show 2 * (t.length - J.countP id) + ch'.toNat < 2 * (t.length - I.countP id) + ch.toNat
      have l1 : I.countP id ≤ t.length := by rw [← hil]; exact List.countP_le_length
      have l2 : J.countP id ≤ t.length := by rw [← hJ.ok.len]; exact List.countP_le_length
      rw [h1]
      cases ch' with
      | false => rw [(hJ.no rfl).1]; simp
      | true => have := hJ.yes rfl; simp; omega
  · have h1 : ch = false := h1
    refine Or.inl (cq (members_fn I (by omega)) (And.intro rfl trivial) ?_)
    refine And.intro (And.intro rfl ?_) trivial
    rw [hI.done hs hl (hcl h1)]; rfl
theorem rgen_fn (t : List (List Int)) (l : List Int) (hs : Sh t) (hl : inT t l) : QF 77 [.ro (.rows .i64 t), .ro (.ints .i64 l)] (.new (.ints .i64 (genL t l))) := mkQ Tryz.func77 (by decide +kernel) rfl (Nat.le_of_ble_eq_true rfl) fun _ => rgen_k t l hs hl
end Go.Proofs.YtdjbbjjmjopofaaGreat
