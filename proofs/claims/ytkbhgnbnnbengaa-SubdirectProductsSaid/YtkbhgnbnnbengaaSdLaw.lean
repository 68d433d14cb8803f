import Derived.Test.YtkbhgnbnnbengaaSgpLaw
import Derived.Test.YtkbhgnbnnbengaaCgMin
import Derived.Test.YtkbhgnbnnbengaaQuoLaw
import Derived.Test.YtkbhgnbnnbengaaCgrLaw
import Derived.Test.YtkbhgnbnnbengaaZero
import Derived.Test.YtkbhgnbnnbengaaRefPart
import Derived.Test.YtkbhgnbnnbengaaMinsLaw
section
/- Package subdirect: Irreducible, Check: contracts. -/
namespace Go.Proofs.Ytkbhgnbnnbengaa
open Go Go.AM
set_option maxRecDepth 100000
def Irr (t : List (List Int)) : Prop := Semi t ∧ (minsL t).length = 1
theorem AtomsOk.one {t : List (List Int)} {L : List (List (Int × Int))} (h : AtomsOk t L) (h1 : L.length = 1) : (minsL t).getD 0 [] = eqP t.length (relP (L.getD 0 [])) := by
  have hm := getD_mem (d := []) (l := minsL t) (i := 0) (by rw [h.num]; omega)
  generalize (minsL t).getD 0 [] = x at hm ⊢
  rw [h.mins, srt_mem] at hm
  match L, h1 with
  | [l], _ => simpa using hm
theorem sirr1_fn (t : List (List Int)) (h : Irr t) (ht : t.length ≤ 60) : QF 12 [.ro (.rows .i64 t)] (.tup [.new (.ints .i64 ((minsL t).getD 0 [])), .bool (.lit true)]) := mkQ Try.func12 (by decide +kernel) rfl (Nat.le_of_ble_eq_true rfl) fun _ => by
  obtain ⟨hs, h1⟩ := h
  refine Or.inl (cq (valid_fn t) (And.intro rfl trivial) ?_)
  refine And.intro (fun h2 => absurd (valid_zero.2 hs) h2) (fun _ => ?_)
  refine Or.inr (Or.inr (ce (atoms_fn t hs ht) (And.intro rfl trivial) ?_))
  intro L hL
  have hL : AtomsOk t L := hL
  have hn := hL.num
  refine And.intro (fun h2 => ?_) (fun _ => ?_)
  · have h2 : ¬ (L.length : Int) = 1 := h2
    omega
  have hL0 : L.getD 0 [] ∈ L := getD_mem (d := []) (by omega)
  have hin := hL.inw _ hL0
  refine And.intro (show 0 ≤ (0 : Int) ∧ (0 : Int) < (L.length : Int) by omega) ?_
  refine Or.inl (cq (fpairs_fn t.length (by omega) (L.getD 0 []) fun x hx => ⟨(hin x hx).1.1, (hin x hx).1.2, (hin x hx).2.1, (hin x hx).2.2⟩) (And.intro rfl (And.intro rfl trivial)) ?_)
  have e : canon (rtL t.length (prR id (L.getD 0 []))) = (minsL t).getD 0 [] := by rw [pairs_eqP hin, hL.one (by omega)]
  refine And.intro (And.intro ?_ (congrArg (RO.ints .i64) e)) (And.intro rfl trivial)
  rfl
theorem sirr0_fn (t : List (List Int)) (h : ¬ Irr t) (ht : Semi t → t.length ≤ 60) : QF 12 [.ro (.rows .i64 t)] (.tup [.nils, .bool (.lit false)]) := mkQ Try.func12 (by decide +kernel) rfl (Nat.le_of_ble_eq_true rfl) fun _ => by
  refine Or.inl (cq (valid_fn t) (And.intro rfl trivial) ?_)
  refine And.intro (fun _ => ?_) (fun h2 => ?_)
  · exact And.intro trivial (And.intro rfl trivial)
  have hs := valid_zero.1 h2
  refine Or.inr (Or.inr (ce (atoms_fn t hs (ht hs)) (And.intro rfl trivial) ?_))
  intro L hL
  have hL : AtomsOk t L := hL
  have hn := hL.num
  refine And.intro (fun _ => ?_) (fun h3 => ?_)
  · exact And.intro trivial (And.intro rfl trivial)
  · have h3 : (L.length : Int) = 1 := h3
    exact absurd ⟨hs, by omega⟩ h
structure Chk (t : List (List Int)) (l : List (List Int)) : Prop where
  semi : Semi t
  few : l.length < t.length
  cg : ∀ p ∈ l, IsCg t p 0
  meet : classN (mtL t.length l) = t.length
  red : (redL t.length (List.replicate t.length 0) l).length = l.length
  irr : ∀ p ∈ l, (minsL (quoL t p)).length = 1
noncomputable def chkB (t : List (List Int)) (l : List (List Int)) : Bool := @decide (Chk t l) (Classical.propDecidable _)
theorem chkB_true {t l : List (List Int)} : chkB t l = true ↔ Chk t l := by unfold chkB; exact @decide_eq_true_iff _ (Classical.propDecidable _)
theorem chkB_false {t l : List (List Int)} : chkB t l = false ↔ ¬ Chk t l := by rw [← chkB_true, Bool.not_eq_true]
theorem IsCg.pt {t : List (List Int)} {p : List Int} (h : IsCg t p 0) : Pt t.length p := ⟨h.len, h.val⟩
theorem IsCg.quo {t : List (List Int)} {p : List Int} (h : IsCg t p 0) : Semi (quoL t p) := quo_semi h.semi h.len h.val.2 h.cg
theorem IsCg.quo_le {t : List (List Int)} {p : List Int} (h : IsCg t p 0) : (quoL t p).length ≤ t.length := by rw [quoL_len, ← h.len]; exact firsts_le _
set_option maxHeartbeats 1000000 in
theorem schk_fn (t l : List (List Int)) (ht : Semi t → t.length ≤ 60) : QF 15 [.ro (.rows .i64 t), .ro (.rows .i64 l)] (.bool (.v (chkB t l))) := mkQ Try.func15 (by decide +kernel) rfl (Nat.le_of_ble_eq_true rfl) fun _ => by
  have no : ¬ Chk t l → (BE.lit false).val = (BE.v (chkB t l)).val := fun h => (chkB_false.2 h).symm
  refine Or.inl (cq (valid_fn t) (And.intro rfl trivial) ?_)
  refine And.intro (fun h1 => ?_) (fun h1 => ?_)
  · exact And.intro (no fun h => h1 (valid_zero.2 h.semi)) trivial
  have hs := valid_zero.1 h1
  have hn := ht hs
  refine And.intro (fun h2 => ?_) (fun h2 => ?_)
  · have h2 : (t.length : Int) ≤ (l.length : Int) := h2
    exact And.intro (no fun h => by have := h.few; omega) trivial
  have h2 : (l.length : Int) < (t.length : Int) := h2
  refine Exists.intro [] <| lp (X := Nat) (fun i => [(21, .int .i64 i)]) (fun _ => []) (fun i => i ≤ l.length ∧ ∀ j, j < i → IsCg t (l.getD j []) 0) (fun i => l.length - i) 0 ⟨Nat.zero_le _, fun j hj => absurd hj (Nat.not_lt_zero _)⟩ (by repeat' first | refine And.intro ?_ ?_ | exact True.intro | (show (_ : Int) = (_ : Int); omega) | omega | exact rfl | (simp only [RO.len]; omega)) ?_
  rintro i ⟨hi, hc⟩
  refine And.intro (fun h3 => ?_) (fun h3 => ?_)
  · have h3 : (i : Int) < (l.length : Int) := h3
    refine And.intro (by omega) ?_
    refine Or.inl (cq (sdcg_fn t (l.getD i []) hs) (And.intro rfl (And.intro rfl trivial)) ?_)
    refine And.intro (fun h4 => ?_) (fun h4 => ?_)
    · have h4 : (!cgB t (l.getD i []) 0) = true := h4
      refine And.intro (no fun h => ?_) trivial
      rw [cgB_true.2 (h.cg _ (getD_mem (d := []) (by omega)))] at h4; cases h4
    · have h4 : (!cgB t (l.getD i []) 0) = false := h4
      refine And.intro (by omega) ?_
      refine nx (i + 1) ⟨by omega, fun j hj => ?_⟩ (show l.length - (i + 1) < l.length - i by omega) (by repeat' first | refine And.intro ?_ ?_ | exact True.intro | (show (_ : Int) = (_ : Int); omega) | omega | exact rfl | (simp only [RO.len]; omega))
      by_cases e : j = i
      · subst e; exact cgB_true.1 (by simpa using h4)
      · exact hc j (by omega)
  · have h3 : (l.length : Int) ≤ (i : Int) := h3
    have hcg : ∀ p ∈ l, IsCg t p 0 := fun p hp => by
      obtain ⟨j, hj, rfl⟩ := mem_getD [] hp
      exact hc j (by omega)
    have hpt : ∀ p ∈ l, Pt t.length p := fun p hp => (hcg p hp).pt
    have h0 : 0 < t.length := by omega
    have hsl := sfx_len t.length l
    have hs0 : (sfxL t.length l).getD 0 [] = mtL t.length l := by rw [sfx_get _ _ (Nat.zero_le _), List.drop_zero]
    have hpm : Pt t.length (mtL t.length l) := Pt.mtL (by omega) hpt
    refine Or.inl (cq (ssfx_fn t.length l h0 (by omega) (by omega) hpt) (And.intro rfl (And.intro rfl trivial)) ?_)
    refine And.intro (show 0 ≤ (0 : Int) ∧ (0 : Int) < ((sfxL t.length l).length : Int) by omega) ?_
    refine Or.inl (cq (scnt_fn ((sfxL t.length l).getD 0 []) (by rw [hs0]; exact hpm.2)) (And.intro rfl trivial) ?_)
    refine And.intro (fun h4 => ?_) (fun h4 => ?_)
    · have h4 : ¬ ((classN ((sfxL t.length l).getD 0 []) : Nat) : Int) = (t.length : Int) := h4
      rw [hs0] at h4
      exact And.intro (no fun h => by have := h.meet; omega) trivial
    have h4 : ((classN ((sfxL t.length l).getD 0 []) : Nat) : Int) = (t.length : Int) := h4
    rw [hs0] at h4
    refine Or.inl (cq (sred_fn t.length l h0 (by omega) (by omega) hpt) (And.intro rfl (And.intro rfl trivial)) ?_)
    refine And.intro (fun h5 => ?_) (fun h5 => ?_)
    · have h5 : ¬ ((redL t.length (List.replicate t.length 0) l).length : Int) = (l.length : Int) := h5
      exact And.intro (no fun h => by have := h.red; omega) trivial
    have h5 : ((redL t.length (List.replicate t.length 0) l).length : Int) = (l.length : Int) := h5
    refine Exists.intro [] <| lp (X := Nat) (fun i => [(52, .int .i64 i)]) (fun _ => []) (fun i => i ≤ l.length ∧ ∀ j, j < i → (minsL (quoL t (l.getD j []))).length = 1) (fun i => l.length - i) 0 ⟨Nat.zero_le _, fun j hj => absurd hj (Nat.not_lt_zero _)⟩ (by repeat' first | refine And.intro ?_ ?_ | exact True.intro | (show (_ : Int) = (_ : Int); omega) | omega | exact rfl | (simp only [RO.len]; omega)) ?_
    rintro k ⟨hk, hm⟩
    refine And.intro (fun h6 => ?_) (fun h6 => ?_)
    · have h6 : (k : Int) < (l.length : Int) := h6
      have hck := hcg _ (getD_mem (d := []) (show k < l.length by omega))
      have hql := hck.quo_le
      refine And.intro (by omega) ?_
      refine Or.inl (cq (sdquo_fn t (l.getD k []) hck) (And.intro rfl (And.intro rfl trivial)) ?_)
      refine Or.inr (Or.inr (ce (atoms_fn (quoL t (l.getD k [])) hck.quo (by omega)) (And.intro rfl trivial) ?_))
      intro L hL
      have hL : AtomsOk (quoL t (l.getD k [])) L := hL
      have hLn := hL.num
      refine And.intro (fun h7 => ?_) (fun h7 => ?_)
      · have h7 : ¬ (L.length : Int) = 1 := h7
        exact And.intro (no fun h => by have := h.irr _ (getD_mem (d := []) (show k < l.length by omega)); omega) trivial
      · have h7 : (L.length : Int) = 1 := h7
        refine And.intro (by omega) ?_
        refine nx (k + 1) ⟨by omega, fun j hj => ?_⟩ (show l.length - (k + 1) < l.length - k by omega) (by repeat' first | refine And.intro ?_ ?_ | exact True.intro | (show (_ : Int) = (_ : Int); omega) | omega | exact rfl | (simp only [RO.len]; omega))
        by_cases e : j = k
        · subst e; omega
        · exact hm j (by omega)
    · have h6 : (l.length : Int) ≤ (k : Int) := h6
      refine And.intro ?_ trivial
      refine (chkB_true.2 ⟨hs, by omega, hcg, by omega, by omega, fun p hp => ?_⟩).symm
      obtain ⟨j, hj, rfl⟩ := mem_getD [] hp
      exact hm j (by omega)
end Go.Proofs.Ytkbhgnbnnbengaa
end
section
/- Statements about subdirect decompositions: the sanity check. -/
namespace Go.Proofs.Ytkbhgnbnnbengaa
open Go Go.AM
set_option maxRecDepth 100000
def klL : List (List Int) := [[0, 1, 2, 3], [1, 0, 3, 2], [2, 3, 0, 1], [3, 2, 1, 0]]
def klP : List (List Int) := [[0, 0, 1, 1], [0, 1, 0, 1]]
def c2L : List (List Int) := [[0, 1], [1, 0]]
theorem semi_dec {t : List (List Int)} (h0 : 0 < t.length ∧ t.length ≤ 400) (h1 : ∀ r ∈ t, r.length = t.length ∧ ∀ x ∈ r, 0 ≤ x ∧ x < (t.length : Int)) (h2 : ∀ x, x < t.length → ∀ y, y < t.length → ∀ z, z < t.length → en t (en t x y) z = en t x (en t y z)) : Semi t :=
  ⟨⟨h0.1, h0.2, h1⟩, fun g hg x y hx hy => h2 x hx g hg y hy⟩
theorem semi_kl : Semi klL := semi_dec (by decide) (by decide +kernel) (by decide +kernel)
theorem semi_c2 : Semi c2L := semi_dec (by decide) (by decide +kernel) (by decide +kernel)
theorem cg_dec {t : List (List Int)} {p : List Int} (h : ∀ x, x < t.length → ∀ y, y < t.length → ∀ s, s < t.length → p.getD x 0 = p.getD y 0 → p.getD (en t s x) 0 = p.getD (en t s y) 0 ∧ p.getD (en t x s) 0 = p.getD (en t y s) 0) : Cg t p 0 :=
  fun x y s hx hy hs e => ⟨fun _ => (h x hx y hy s hs e).1, fun _ => (h x hx y hy s hs e).2⟩
theorem cg_kl {p : List Int} (hp : p ∈ klP) : IsCg klL p 0 := by
  have h : p = [0, 0, 1, 1] ∨ p = [0, 1, 0, 1] := by simpa [klP] using hp
  rcases h with rfl | rfl
  · exact ⟨semi_kl, rfl, ⟨by decide, by decide +kernel⟩, by decide, cg_dec (by decide +kernel)⟩
  · exact ⟨semi_kl, rfl, ⟨by decide, by decide +kernel⟩, by decide, cg_dec (by decide +kernel)⟩
theorem min_kl {p : List Int} (hp : p ∈ klP) : MinC klL p := by
  have hc := cg_kl hp
  have h : p = [0, 0, 1, 1] ∨ p = [0, 1, 0, 1] := by simpa [klP] using hp
  refine ⟨hc, ?_, fun q hq hj hs => ?_⟩
  · rcases h with rfl | rfl
    · exact ⟨0, 1, by decide, by decide, by decide, by decide⟩
    · exact ⟨0, 2, by decide, by decide, by decide, by decide⟩
  · obtain ⟨x, y, hx, hy, hne, e⟩ := hj
    have ep := hs x y hx hy e
    have g := hq.cg
    have hx : x < 4 := hx
    have hy : y < 4 := hy
    have k := fun s (h : s < 4) => (g x y s hx hy h e).1 (by decide)
    have k0 := k x hx
    have l := fun a b s (ha : a < 4) (hb : b < 4) (hs : s < 4) (h : q.getD a 0 = q.getD b 0) => (g a b s ha hb hs h).1 (by decide)
    rcases h with rfl | rfl
    · have e01 : q.getD 0 0 = q.getD 1 0 := by
        rcases x with _ | _ | _ | _ | x <;> rcases y with _ | _ | _ | _ | y <;> first | exact absurd ep (by decide) | exact absurd rfl hne | omega | exact k0
      have e23 : q.getD 2 0 = q.getD 3 0 := l 0 1 2 (by decide) (by decide) (by decide) e01
      intro a b ha hb e2
      have ha : a < 4 := ha
      have hb : b < 4 := hb
      rcases a with _ | _ | _ | _ | a <;> rcases b with _ | _ | _ | _ | b <;> first | exact absurd e2 (by decide) | rfl | exact e01 | exact e01.symm | exact e23 | exact e23.symm | omega
    · have e02 : q.getD 0 0 = q.getD 2 0 := by
        rcases x with _ | _ | _ | _ | x <;> rcases y with _ | _ | _ | _ | y <;> first | exact absurd ep (by decide) | exact absurd rfl hne | omega | exact k0
      have e13 : q.getD 1 0 = q.getD 3 0 := l 0 2 1 (by decide) (by decide) (by decide) e02
      intro a b ha hb e2
      have ha : a < 4 := ha
      have hb : b < 4 := hb
      rcases a with _ | _ | _ | _ | a <;> rcases b with _ | _ | _ | _ | b <;> first | exact absurd e2 (by decide) | rfl | exact e02 | exact e02.symm | exact e13 | exact e13.symm | omega
theorem irr_kl : ¬ Irr klL := fun ⟨_, h⟩ => by
  by_cases hM : ∃ M, Srt cmpL M ∧ ∀ p, p ∈ M ↔ MinC klL p
  · obtain ⟨M, hS, hm⟩ := hM
    rw [mins_of hS hm] at h
    match M, h with
    | [m], _ =>
      have a := (hm _).2 (min_kl (p := [0, 0, 1, 1]) (by decide))
      have b := (hm _).2 (min_kl (p := [0, 1, 0, 1]) (by decide))
      rw [List.mem_singleton] at a b
      rw [← b] at a
      exact absurd a (by decide)
  · unfold minsL at h
    rw [dif_neg hM] at h
    cases h
theorem min_c2 (p : List Int) : MinC c2L p ↔ p = [0, 0] := by
  have ht : IsCg c2L [0, 0] 0 := triv_cg semi_c2
  have key : ∀ q, Joins 2 q → q.getD 0 0 = q.getD 1 0 := fun q ⟨x, y, hx, hy, hne, e⟩ => by
    rcases x with _ | _ | x <;> rcases y with _ | _ | y <;> first | exact absurd rfl hne | omega | exact e | exact e.symm
  have sub : ∀ q r, Joins 2 q → Sub 2 r q := fun q r hj x y hx hy _ => by
    have := key q hj
    rcases x with _ | _ | x <;> rcases y with _ | _ | y <;> first | rfl | omega | exact this | exact this.symm
  constructor
  · intro h
    exact sub_eq h.cg.len ht.len h.cg.val.2 ht.val.2 (sub _ _ ⟨0, 1, by decide, by decide, by decide, by decide⟩) (sub _ _ h.jo)
  · rintro rfl
    exact ⟨ht, ⟨0, 1, by decide, by decide, by decide, by decide⟩, fun q _ hj _ => sub _ _ hj⟩
theorem mins_c2 : minsL c2L = [[0, 0]] := mins_of (List.pairwise_singleton _ _) fun p => by rw [min_c2, List.mem_singleton]
theorem irr_c2 : Irr c2L := ⟨semi_c2, by rw [mins_c2]; rfl⟩
theorem chk_kl : Chk klL klP := ⟨semi_kl, by decide, fun _ h => cg_kl h, by decide +kernel, by decide +kernel, fun p hp => by
  have h : p = [0, 0, 1, 1] ∨ p = [0, 1, 0, 1] := by simpa [klP] using hp
  have e : quoL klL p = c2L := by rcases h with rfl | rfl <;> decide +kernel
  rw [e]; exact irr_c2.2⟩
theorem klein_fn : QF 37 [] (.ro (.rows .i64 klL)) := mkQ Try.func37 (by decide +kernel) rfl (Nat.le_of_ble_eq_true rfl) fun _ => by
  exact And.intro (And.intro trivial rfl) trivial
theorem awake22_fn : QF 11 [] (.bool (.lit true)) := mkQ Try.func11 (by decide +kernel) rfl (Nat.le_of_ble_eq_true rfl) fun _ => by
  refine Or.inl (cq klein_fn trivial ?_)
  refine Or.inl (cq (sirr0_fn klL irr_kl fun _ => by decide) (And.intro rfl trivial) ?_)
  refine Or.inl (cq (sirr1_fn c2L irr_c2 (by decide)) (And.intro rfl trivial) ?_)
  refine Or.inl (cq klein_fn trivial ?_)
  refine Or.inl (cq (schk_fn klL klP fun _ => by decide) (And.intro rfl (And.intro rfl trivial)) ?_)
  exact And.intro (chkB_true.2 chk_kl) trivial
end Go.Proofs.Ytkbhgnbnnbengaa
end
section
/- Package partition: Refines; mult.Opposite: contracts. -/
namespace Go.Proofs.Ytkbhgnbnnbengaa
open Go Go.AM
set_option maxRecDepth 100000
def Rf (p q : List Int) : Prop := ∀ i j, i < p.length → j < p.length → p.getD i 0 = p.getD j 0 → q.getD i 0 = q.getD j 0
noncomputable def rfB (p q : List Int) : Bool := @decide (Rf p q) (Classical.propDecidable _)
theorem rfB_true {p q : List Int} : rfB p q = true ↔ Rf p q := by unfold rfB; exact @decide_eq_true_iff _ (Classical.propDecidable _)
/-! ### The opposite semigroup -/
end Go.Proofs.Ytkbhgnbnnbengaa
end
section
/- The reference's principal and minimal congruences: contracts. -/
namespace Go.Proofs.Ytkbhgnbnnbengaa
open Go Go.AM
set_option maxRecDepth 100000
noncomputable def prnG (t : List (List Int)) (x y : Nat) : List Int := genP t 0 (relP [((x : Int), (y : Int))])
noncomputable def prnL (t : List (List Int)) : List (List Int) := srt cmpL (firsts ((List.range t.length).flatMap fun x => (List.range x).map fun y => prnG t x y))
theorem prnL_srt (t : List (List Int)) : Srt cmpL (prnL t) := srt_srt cmpL_tot (firsts_nodup _)
theorem mem_prnL {t : List (List Int)} {p : List Int} : p ∈ prnL t ↔ ∃ x y, y < x ∧ x < t.length ∧ p = prnG t x y := by
  unfold prnL
  rw [srt_mem, mem_firsts, List.mem_flatMap]
  constructor
  · rintro ⟨x, hx, h⟩
    obtain ⟨y, hy, rfl⟩ := List.mem_map.1 h
    exact ⟨x, y, List.mem_range.1 hy, List.mem_range.1 hx, rfl⟩
  · rintro ⟨x, y, h1, h2, rfl⟩
    exact ⟨x, List.mem_range.2 h2, List.mem_map.2 ⟨y, List.mem_range.2 h1, rfl⟩⟩
noncomputable def mcB (l : List (List Int)) (p : List Int) : Bool := l.all fun q => decide (p = q) || !rfB q p
noncomputable def mcL (l : List (List Int)) : List (List Int) := l.filter (mcB l)
theorem mcB_true {l : List (List Int)} {p : List Int} : mcB l p = true ↔ ∀ q ∈ l, rfB q p = true → p = q := by
  unfold mcB
  rw [List.all_eq_true]
  refine forall_congr' fun q => forall_congr' fun _ => ?_
  rw [Bool.or_eq_true, decide_eq_true_iff, Bool.not_eq_true']
  cases rfB q p <;> simp
theorem prnG_is {t : List (List Int)} (h : Semi t) (x y : Nat) : IsCg t (prnG t x y) 0 := genP_is h (by decide)
theorem prnG_eq {t : List (List Int)} {x y : Nat} (hx : x < t.length) (hy : y < t.length) : (prnG t x y).getD x 0 = (prnG t x y).getD y 0 :=
  (genP_iff hx hy).2 (.rel (List.mem_singleton.2 rfl))
theorem prnG_sub {t : List (List Int)} {x y : Nat} {q : List Int} (hq : IsCg t q 0) (e : q.getD x 0 = q.getD y 0) : Sub t.length (prnG t x y) q := fun a b ha hb h => by
  refine Cgr.sub (fun c d hcd => ?_) hq.cg ((genP_iff ha hb).1 h)
  have := List.mem_singleton.1 hcd
  injection this with h1 h2
  have h1 : c = x := by omega
  have h2 : d = y := by omega
  rw [h1, h2]; exact e
theorem rf_sub2 {p q : List Int} {n : Nat} (hp : p.length = n) : rfB p q = true ↔ Sub n p q := by
  rw [rfB_true, ← hp]; exact Iff.rfl
theorem Joins.gen {t : List (List Int)} {q : List Int} (hj : Joins t.length q) : ∃ x y, y < x ∧ x < t.length ∧ q.getD x 0 = q.getD y 0 := by
  obtain ⟨a, b, ha, hb, hne, e⟩ := hj
  by_cases h : b < a
  · exact ⟨a, b, h, ha, e⟩
  · exact ⟨b, a, by omega, hb, e.symm⟩
theorem mc_min {t : List (List Int)} (h : Semi t) (p : List Int) : p ∈ mcL (prnL t) ↔ MinC t p := by
  unfold mcL
  rw [List.mem_filter, mcB_true]
  constructor
  · rintro ⟨hp, hm⟩
    obtain ⟨x, y, hy, hx, rfl⟩ := mem_prnL.1 hp
    refine ⟨prnG_is h x y, ⟨x, y, hx, by omega, by omega, prnG_eq hx (by omega)⟩, fun q hq hj hs => ?_⟩
    obtain ⟨a, b, hb, ha, e⟩ := hj.gen
    have h1 := prnG_sub (x := a) (y := b) hq e
    have h2 := hm (prnG t a b) (mem_prnL.2 ⟨a, b, hb, ha, rfl⟩) ((rf_sub2 (prnG_is h a b).len).2 fun c d hc hd e2 => hs c d hc hd (h1 c d hc hd e2))
    rw [h2]; exact h1
  · intro hm
    obtain ⟨a, b, hb, ha, e⟩ := hm.jo.gen
    have h1 := prnG_sub (x := a) (y := b) hm.cg e
    have hj : Joins t.length (prnG t a b) := ⟨a, b, ha, by omega, by omega, prnG_eq ha (by omega)⟩
    have h2 := sub_eq hm.cg.len (prnG_is h a b).len hm.cg.val.2 (prnG_is h a b).val.2 (hm.mi _ (prnG_is h a b) hj h1) h1
    refine ⟨mem_prnL.2 ⟨a, b, hb, ha, h2⟩, fun q hq hr => ?_⟩
    obtain ⟨c, d, hd, hc, rfl⟩ := mem_prnL.1 hq
    have h3 := (rf_sub2 (prnG_is h c d).len).1 hr
    exact sub_eq hm.cg.len (prnG_is h c d).len hm.cg.val.2 (prnG_is h c d).val.2 (hm.mi _ (prnG_is h c d) ⟨c, d, hc, by omega, by omega, prnG_eq hc (by omega)⟩ h3) h3
theorem mc_mins {t : List (List Int)} (h : Semi t) : minsL t = mcL (prnL t) := mins_of ((prnL_srt t).filter _) (mc_min h)
theorem mins_mem {t : List (List Int)} (h : Semi t) (p : List Int) : p ∈ minsL t ↔ MinC t p := by rw [mc_mins h]; exact mc_min h p
end Go.Proofs.Ytkbhgnbnnbengaa
end
section
/- The law's guards; the reference's Irreducible: contracts. -/
namespace Go.Proofs.Ytkbhgnbnnbengaa
open Go Go.AM
set_option maxRecDepth 100000
theorem small22_fn (t : List (List Int)) (m : Int) : QF 19 [.ro (.rows .i64 t), .int .i64 m] (.bool (.v (decide ((t.length : Int) ≤ m ∧ validV t = 0)))) := mkQ Try.func19 (by decide +kernel) rfl (Nat.le_of_ble_eq_true rfl) fun _ => by
  refine And.intro (fun h1 => ?_) (fun h1 => ?_)
  · refine Or.inl (cq (rvalid_fn t) (And.intro rfl trivial) ?_)
    refine And.intro ?_ trivial
    show decide (validV t = 0) = decide ((t.length : Int) ≤ m ∧ validV t = 0)
    have h1 : (t.length : Int) ≤ m := h1
    simp [h1]
  · refine And.intro ?_ trivial
    show false = decide ((t.length : Int) ≤ m ∧ validV t = 0)
    have h1 : m < (t.length : Int) := h1
    have : ¬ (t.length : Int) ≤ m := by omega
    simp [this]
end Go.Proofs.Ytkbhgnbnnbengaa
end
section
/- Subdirect decompositions, in plain words: when a list holds nothing superfluous. -/
namespace Go.Proofs.Ytkbhgnbnnbengaa
open Go Go.AM
def Disc (n : Nat) (R : Nat → Nat → Prop) : Prop := ∀ x y, x < n → y < n → R x y → x = y
def kerP (p : List Int) (x y : Nat) : Prop := p.getD x 0 = p.getD y 0
theorem mtP_ker {n : Nat} {p q : List Int} (hp : Pt n p) (hq : Pt n q) {x y : Nat} (hx : x < n) (hy : y < n) : kerP (mtP p q) x y ↔ kerP p x y ∧ kerP q x y := by
  have hz : (p.zip q).length = n := by simp [hp.1, hq.1]
  have zg : ∀ i, i < n → (p.zip q).getD i (0, 0) = (p.getD i 0, q.getD i 0) := fun i hi => by
    have := hp.1
    have := hq.1
    rw [getD_eq (by omega), getD_eq (by omega), getD_eq (by omega)]; simp
  unfold kerP mtP
  rw [canon_eq_iff (d := (0, 0)) (by omega) (by omega), zg x hx, zg y hy]
  constructor
  · intro h
    injection h with h1 h2
    exact ⟨h1, h2⟩
  · rintro ⟨h1, h2⟩; rw [h1, h2]
theorem triv_ker (n x y : Nat) : kerP (List.replicate n 0) x y := by unfold kerP; rw [triv_get, triv_get]
theorem mtL_ker {n : Nat} (hn : n ≤ 4096) {x y : Nat} (hx : x < n) (hy : y < n) : ∀ {l : List (List Int)}, (∀ p ∈ l, Pt n p) → (kerP (mtL n l) x y ↔ ∀ p ∈ l, kerP p x y)
  | [], _ => ⟨fun _ _ h => absurd h List.not_mem_nil, fun _ => triv_ker n x y⟩
  | q :: l, h => by
    have ih := mtL_ker hn hx hy (l := l) fun p hp => h p (List.mem_cons_of_mem _ hp)
    have e := mtP_ker (h q (List.mem_cons_self ..)) (Pt.mtL hn fun p hp => h p (List.mem_cons_of_mem _ hp)) hx hy (q := mtL n l)
    show kerP (mtP q (mtL n l)) x y ↔ _
    rw [e, ih]
    exact ⟨fun ⟨h1, h2⟩ p hp => (List.mem_cons.1 hp).elim (fun e => e ▸ h1) (h2 p), fun h => ⟨h q (List.mem_cons_self ..), fun p hp => h p (List.mem_cons_of_mem _ hp)⟩⟩
theorem cls_disc {n : Nat} {p : List Int} (hp : Pt n p) : classN p = n ↔ Disc n (kerP p) := by
  constructor
  · intro hc a b ha hb e
    refine Classical.byContradiction fun hne => ?_
    have h1 := cnt_del (P := fun _ => true) (M := b) (n := n) hb rfl
    have h2 := nodup_sub (firsts_nodup p) (B := ((List.range n).filter fun i => true && decide (i ≠ b)).map fun i => p.getD i 0) fun x hx => by
      obtain ⟨j, hj, rfl⟩ := mem_getD 0 (mem_firsts.1 hx)
      have hj : j < n := by rw [← hp.1]; exact hj
      by_cases e1 : j = b
      · exact List.mem_map.2 ⟨a, List.mem_filter.2 ⟨List.mem_range.2 ha, by simp [hne]⟩, by rw [e1]; exact e⟩
      · exact List.mem_map.2 ⟨j, List.mem_filter.2 ⟨List.mem_range.2 hj, by simp [e1]⟩, rfl⟩
    rw [List.length_map] at h2
    have h3 : ((List.range n).filter fun _ => true).length = n := by rw [List.filter_eq_self.2 (fun _ _ => rfl), List.length_range]
    unfold classN at hc
    omega
  · intro h
    have hd : p.Nodup := List.nodup_iff_pairwise_ne.2 (List.pairwise_iff_getElem.2 fun i j hi hj hij e => by
      have := h i j (by rw [← hp.1]; exact hi) (by rw [← hp.1]; exact hj) (by unfold kerP; rw [getD_eq hi, getD_eq hj]; exact e)
      omega)
    have h1 := nodup_sub hd (B := firsts p) fun x hx => mem_firsts.2 hx
    have h2 : classN p ≤ p.length := firsts_le p
    have h3 := hp.1
    unfold classN at *
    omega
def rmt (n : Nat) (l : List (List Int)) (but : Int) : Nat → List Int
  | 0 => List.replicate n 0
  | k + 1 => if (k : Int) ≠ but then mtP (rmt n l but k) (l.getD k []) else rmt n l but k
theorem rmt_pt {n : Nat} {l : List (List Int)} {but : Int} (hn : n ≤ 4096) (hp : ∀ p ∈ l, Pt n p) : ∀ {k : Nat}, k ≤ l.length → Pt n (rmt n l but k)
  | 0, _ => Pt.triv hn
  | k + 1, h => by
    unfold rmt
    split
    · exact (rmt_pt hn hp (by omega)).mt (hp _ (getD_mem (d := []) (by omega)))
    · exact rmt_pt hn hp (by omega)
theorem rmt_ker {n : Nat} {l : List (List Int)} {but : Int} (hn : n ≤ 4096) (hp : ∀ p ∈ l, Pt n p) {x y : Nat} (hx : x < n) (hy : y < n) : ∀ {k : Nat}, k ≤ l.length → (kerP (rmt n l but k) x y ↔ ∀ j, j < k → (j : Int) ≠ but → kerP (l.getD j []) x y)
  | 0, _ => ⟨fun _ j h => absurd h (Nat.not_lt_zero _), fun _ => triv_ker n x y⟩
  | k + 1, h => by
    have ih := rmt_ker (but := but) hn hp hx hy (k := k) (by omega)
    unfold rmt
    split
    · rename_i hb
      rw [mtP_ker (rmt_pt hn hp (by omega)) (hp _ (getD_mem (d := []) (by omega))) hx hy, ih]
      refine ⟨fun ⟨h1, h2⟩ j hj hjb => ?_, fun h => ⟨fun j hj => h j (by omega), h k (by omega) hb⟩⟩
      by_cases e : j = k
      · subst e; exact h2
      · exact h1 j (by omega) hjb
    · rename_i hb
      rw [ih]
      refine ⟨fun h j hj hjb => ?_, fun h j hj => h j (by omega)⟩
      by_cases e : j = k
      · subst e; exact absurd hjb hb
      · exact h j (by omega) hjb
theorem redL_le (n : Nat) : ∀ (l : List (List Int)) (b : List Int), (redL n b l).length ≤ l.length
  | [], _ => Nat.le_refl _
  | p :: l, b => by
    unfold redL
    split
    · exact Nat.le_trans (redL_le n l b) (by simp)
    · simp only [List.length_cons]; exact Nat.succ_le_succ (redL_le n l _)
theorem redL_all (n : Nat) : ∀ (l : List (List Int)) (b : List Int), (redL n b l).length = l.length ↔ ∀ i, i < l.length → classN (mtP ((l.take i).foldl mtP b) (mtL n (l.drop (i + 1)))) ≠ n
  | [], _ => ⟨fun _ i h => absurd h (Nat.not_lt_zero _), fun _ => rfl⟩
  | p :: l, b => by
    unfold redL
    split
    · rename_i h
      constructor
      · intro e
        have := redL_le n l b
        simp only [List.length_cons] at e
        omega
      · intro e
        exact absurd h (e 0 (by simp))
    · rename_i h
      have ih := redL_all n l (mtP b p)
      simp only [List.length_cons]
      constructor
      · intro e i hi
        cases i with
        | zero => exact h
        | succ i => exact ih.1 (by omega) i (by omega)
      · intro e
        rw [ih.2 fun i hi => e (i + 1) (by omega)]
theorem fold_pt {n : Nat} : ∀ {l : List (List Int)} {b : List Int}, (∀ p ∈ l, Pt n p) → Pt n b → Pt n (l.foldl mtP b)
  | [], _, _, hb => hb
  | p :: l, b, h, hb => fold_pt (l := l) (b := mtP b p) (fun q hq => h q (List.mem_cons_of_mem _ hq)) (hb.mt (h p (List.mem_cons_self ..)))
theorem fold_ker {n : Nat} {x y : Nat} (hx : x < n) (hy : y < n) : ∀ {l : List (List Int)} {b : List Int}, (∀ p ∈ l, Pt n p) → Pt n b → (kerP (l.foldl mtP b) x y ↔ kerP b x y ∧ ∀ p ∈ l, kerP p x y)
  | [], _, _, _ => ⟨fun h => ⟨h, fun _ h => absurd h List.not_mem_nil⟩, fun h => h.1⟩
  | p :: l, b, h, hb => by
    have h1 := h p (List.mem_cons_self ..)
    have ih := fold_ker hx hy (l := l) (b := mtP b p) (fun q hq => h q (List.mem_cons_of_mem _ hq)) (hb.mt h1)
    rw [List.foldl_cons, ih, mtP_ker hb h1 hx hy]
    exact ⟨fun ⟨⟨h1, h2⟩, h3⟩ => ⟨h1, fun q hq => (List.mem_cons.1 hq).elim (fun e => e ▸ h2) (h3 q)⟩, fun ⟨h1, h2⟩ => ⟨⟨h1, h2 p (List.mem_cons_self ..)⟩, fun q hq => h2 q (List.mem_cons_of_mem _ hq)⟩⟩
theorem mem_but {l : List (List Int)} {i : Nat} (hi : i < l.length) {P : List Int → Prop} : ((∀ p ∈ l.take i, P p) ∧ ∀ p ∈ l.drop (i + 1), P p) ↔ ∀ j, j < l.length → (j : Int) ≠ (i : Int) → P (l.getD j []) := by
  constructor
  · rintro ⟨h1, h2⟩ j hj hne
    by_cases e : j < i
    · refine h1 _ ?_
      rw [getD_eq hj]
      exact List.mem_take_iff_getElem.2 ⟨j, by omega, rfl⟩
    · refine h2 _ ?_
      rw [getD_eq hj]
      exact List.mem_drop_iff_getElem.2 ⟨j - (i + 1), by omega, by congr 1; omega⟩
  · intro h
    refine ⟨fun p hp => ?_, fun p hp => ?_⟩
    · obtain ⟨j, hj, rfl⟩ := List.mem_take_iff_getElem.1 hp
      rw [← getD_eq (d := []) (by omega)]
      exact h j (by omega) (by omega)
    · obtain ⟨j, hj, rfl⟩ := List.mem_drop_iff_getElem.1 hp
      rw [← getD_eq (d := []) (by omega)]
      exact h _ (by omega) (by omega)
theorem red_iff {n : Nat} {l : List (List Int)} (hn : n ≤ 4096) (hp : ∀ p ∈ l, Pt n p) : (redL n (List.replicate n 0) l).length = l.length ↔ ∀ i, i < l.length → classN (rmt n l i l.length) ≠ n := by
  rw [redL_all]
  refine forall_congr' fun i => forall_congr' fun hi => not_congr ?_
  have ht : ∀ p ∈ l.take i, Pt n p := fun p h => hp p (List.mem_of_mem_take h)
  have hd : ∀ p ∈ l.drop (i + 1), Pt n p := fun p h => hp p (List.mem_of_mem_drop h)
  have hf := fold_pt ht (Pt.triv hn)
  rw [cls_disc (hf.mt (Pt.mtL hn hd)), cls_disc (rmt_pt hn hp (Nat.le_refl _))]
  refine forall_congr' fun x => forall_congr' fun y => forall_congr' fun hx => forall_congr' fun hy => ?_
  rw [mtP_ker hf (Pt.mtL hn hd) hx hy, fold_ker hx hy ht (Pt.triv hn), mtL_ker hn hx hy hd, rmt_ker hn hp hx hy (Nat.le_refl _), ← mem_but hi (P := fun p => kerP p x y)]
  exact ⟨fun h a => h ⟨⟨triv_ker n x y, a.1⟩, a.2⟩, fun h a => h ⟨a.1.2, a.2⟩⟩
theorem meet_iff {n : Nat} {l : List (List Int)} (hn : n ≤ 4096) (hp : ∀ p ∈ l, Pt n p) : classN (mtL n l) = n ↔ classN (rmt n l (-1) l.length) = n := by
  rw [cls_disc (Pt.mtL hn hp), cls_disc (rmt_pt hn hp (Nat.le_refl _))]
  refine forall_congr' fun x => forall_congr' fun y => forall_congr' fun hx => forall_congr' fun hy => ?_
  rw [mtL_ker hn hx hy hp, rmt_ker hn hp hx hy (Nat.le_refl _)]
  refine ⟨fun h a => h fun p hp => ?_, fun h a => h fun j hj _ => a _ (getD_mem (d := []) hj)⟩
  obtain ⟨j, hj, rfl⟩ := mem_getD [] hp
  exact a j hj (by omega)
theorem few_of {n : Nat} {l : List (List Int)} (h0 : 0 < n) (hn : n ≤ 4096) (hp : ∀ p ∈ l, Pt n p) (hm : classN (rmt n l (-1) l.length) = n) (hr : ∀ i, i < l.length → classN (rmt n l i l.length) ≠ n) : l.length < n := by
  have key : ∀ k, k ≤ l.length → k + 1 ≤ classN (rmt n l (-1) k) := fun k => by
    induction k with
    | zero =>
      intro _
      show 1 ≤ classN (List.replicate n (0 : Int))
      have : (0 : Int) ∈ firsts (List.replicate n (0 : Int)) := mem_firsts.2 (by simp; omega)
      exact List.length_pos_of_mem this
    | succ k ih =>
      intro hk
      have ih := ih (by omega)
      have hP := rmt_pt (but := -1) hn hp (k := k) (by omega)
      have hP2 := rmt_pt (but := -1) hn hp (k := k + 1) hk
      have hs := same_count hP.2.2 hP2.2.2 (by rw [hP.1, hP2.1]) fun x y hx hy e => by
        have hx : x < n := by rw [← hP.1]; exact hx
        have hy : y < n := by rw [← hP.1]; exact hy
        exact (rmt_ker hn hp hx hy (by omega)).2 fun j hj hb => (rmt_ker hn hp hx hy hk).1 e j (by omega) hb
      have hne : classN (rmt n l (-1) k) ≠ classN (rmt n l (-1) (k + 1)) := fun e => by
        have e2 := hs.2 e
        refine hr k (by omega) ((cls_disc (rmt_pt hn hp (Nat.le_refl _))).2 fun x y hx hy h => (cls_disc (rmt_pt hn hp (Nat.le_refl _))).1 hm x y hx hy ?_)
        have h := (rmt_ker hn hp hx hy (Nat.le_refl _)).1 h
        refine (rmt_ker hn hp hx hy (Nat.le_refl _)).2 fun j hj hb => ?_
        by_cases ej : j = k
        · subst ej
          have h3 : kerP (rmt n l (-1) j) x y := (rmt_ker hn hp hx hy (by omega)).2 fun i hi _ => h i (by omega) (by omega)
          rw [← e2] at h3
          exact (rmt_ker hn hp hx hy hk).1 h3 j (by omega) hb
        · exact h j hj (by omega)
      omega
  have := key l.length (Nat.le_refl _)
  omega
structure RChk (t : List (List Int)) (l : List (List Int)) : Prop where
  semi : Semi t
  cg : ∀ p ∈ l, IsCg t p 0
  irr : ∀ p ∈ l, Irr (quoL t p)
  meet : classN (rmt t.length l (-1) l.length) = t.length
  red : ∀ i, i < l.length → classN (rmt t.length l i l.length) ≠ t.length
theorem chk_iff {t l : List (List Int)} : Chk t l ↔ RChk t l := by
  constructor
  · intro h
    have hn := h.semi.most
    have hp : ∀ p ∈ l, Pt t.length p := fun p hp => (h.cg p hp).pt
    exact ⟨h.semi, h.cg, fun p hp => ⟨(h.cg p hp).quo, h.irr p hp⟩, (meet_iff (by omega) hp).1 h.meet, (red_iff (by omega) hp).1 h.red⟩
  · intro h
    have hn := h.semi.most
    have h0 := h.semi.pos
    have hp : ∀ p ∈ l, Pt t.length p := fun p hp => (h.cg p hp).pt
    exact ⟨h.semi, few_of h0 (by omega) hp h.meet h.red, h.cg, (meet_iff (by omega) hp).2 h.meet, (red_iff (by omega) hp).2 h.red, fun p hp => (h.irr p hp).2⟩
end Go.Proofs.Ytkbhgnbnnbengaa
end
