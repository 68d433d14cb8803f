import Derived.Test.YtkbhgnbnnbengaaIdealLaw
import Derived.Test.YtkbhgnbnnbengaaCgMin
import Derived.Test.YtkbhgnbnnbengaaForLaw
import Derived.Test.YtkbhgnbnnbengaaRefPart
import Derived.Test.YtkbhgnbnnbengaaClone
import Derived.Test.YtkbhgnbnnbengaaGroup
import Derived.Test.YtkbhgnbnnbengaaReesLaw
import Derived.Test.YtkbhgnbnnbengaaMinsLaw
import Derived.Test.YtkbhgnbnnbengaaSort
section
/- Package subdirect: Irreducible, Check: contracts. -/
namespace Go.Proofs.Ytkbhgnbnnbengaa
open Go Go.AM
set_option maxRecDepth 100000
def Irr (t : List (List Int)) : Prop := Semi t ∧ (minsL t).length = 1
theorem AtomsOk.one {t : List (List Int)} {L : List (List (Int × Int))} (h : AtomsOk t L) (h1 : L.length = 1) : (minsL t).getD 0 [] = eqP t.length (relP (L.getD 0 [])) := by
  have hm := getD_mem (d := []) (l := minsL t) (i := 0) (by rw [h.num]; omega)
  generalize (minsL t).getD 0 [] = x at hm ⊢
  rw [h.mins, srt_mem] at hm
  match L, h1 with
  | [l], _ => simpa using hm
theorem sirr1_fn (t : List (List Int)) (h : Irr t) (ht : t.length ≤ 60) : QF 12 [.ro (.rows .i64 t)] (.tup [.new (.ints .i64 ((minsL t).getD 0 [])), .bool (.lit true)]) := mkQ Try.func12 (by decide +kernel) rfl (Nat.le_of_ble_eq_true rfl) fun _ => by
  obtain ⟨hs, h1⟩ := h
  refine Or.inl (cq (valid_fn t) (And.intro rfl trivial) ?_)
  refine And.intro (fun h2 => absurd (valid_zero.2 hs) h2) (fun _ => ?_)
  refine Or.inr (Or.inr (ce (atoms_fn t hs ht) (And.intro rfl trivial) ?_))
  intro L hL
  have hL : AtomsOk t L := hL
  have hn := hL.num
  refine And.intro (fun h2 => ?_) (fun _ => ?_)
  · have h2 : ¬ (L.length : Int) = 1 := h2
    omega
  have hL0 : L.getD 0 [] ∈ L := getD_mem (d := []) (by omega)
  have hin := hL.inw _ hL0
  refine And.intro (show 0 ≤ (0 : Int) ∧ (0 : Int) < (L.length : Int) by omega) ?_
  refine Or.inl (cq (fpairs_fn t.length (by omega) (L.getD 0 []) fun x hx => ⟨(hin x hx).1.1, (hin x hx).1.2, (hin x hx).2.1, (hin x hx).2.2⟩) (And.intro rfl (And.intro rfl trivial)) ?_)
  have e : canon (rtL t.length (prR id (L.getD 0 []))) = (minsL t).getD 0 [] := by rw [pairs_eqP hin, hL.one (by omega)]
  refine And.intro (And.intro ?_ (congrArg (RO.ints .i64) e)) (And.intro rfl trivial)
  rfl
theorem sirr0_fn (t : List (List Int)) (h : ¬ Irr t) (ht : Semi t → t.length ≤ 60) : QF 12 [.ro (.rows .i64 t)] (.tup [.nils, .bool (.lit false)]) := mkQ Try.func12 (by decide +kernel) rfl (Nat.le_of_ble_eq_true rfl) fun _ => by
  refine Or.inl (cq (valid_fn t) (And.intro rfl trivial) ?_)
  refine And.intro (fun _ => ?_) (fun h2 => ?_)
  · exact And.intro trivial (And.intro rfl trivial)
  have hs := valid_zero.1 h2
  refine Or.inr (Or.inr (ce (atoms_fn t hs (ht hs)) (And.intro rfl trivial) ?_))
  intro L hL
  have hL : AtomsOk t L := hL
  have hn := hL.num
  refine And.intro (fun _ => ?_) (fun h3 => ?_)
  · exact And.intro trivial (And.intro rfl trivial)
  · have h3 : (L.length : Int) = 1 := h3
    exact absurd ⟨hs, by omega⟩ h
structure Chk (t : List (List Int)) (l : List (List Int)) : Prop where
  semi : Semi t
  few : l.length < t.length
  cg : ∀ p ∈ l, IsCg t p 0
  meet : classN (mtL t.length l) = t.length
  red : (redL t.length (List.replicate t.length 0) l).length = l.length
  irr : ∀ p ∈ l, (minsL (quoL t p)).length = 1
noncomputable def chkB (t : List (List Int)) (l : List (List Int)) : Bool := @decide (Chk t l) (Classical.propDecidable _)
theorem chkB_true {t l : List (List Int)} : chkB t l = true ↔ Chk t l := by unfold chkB; exact @decide_eq_true_iff _ (Classical.propDecidable _)
theorem chkB_false {t l : List (List Int)} : chkB t l = false ↔ ¬ Chk t l := by rw [← chkB_true, Bool.not_eq_true]
theorem IsCg.pt {t : List (List Int)} {p : List Int} (h : IsCg t p 0) : Pt t.length p := ⟨h.len, h.val⟩
theorem IsCg.quo {t : List (List Int)} {p : List Int} (h : IsCg t p 0) : Semi (quoL t p) := quo_semi h.semi h.len h.val.2 h.cg
theorem IsCg.quo_le {t : List (List Int)} {p : List Int} (h : IsCg t p 0) : (quoL t p).length ≤ t.length := by rw [quoL_len, ← h.len]; exact firsts_le _
set_option maxHeartbeats 1000000 in
theorem schk_fn (t l : List (List Int)) (ht : Semi t → t.length ≤ 60) : QF 15 [.ro (.rows .i64 t), .ro (.rows .i64 l)] (.bool (.v (chkB t l))) := mkQ Try.func15 (by decide +kernel) rfl (Nat.le_of_ble_eq_true rfl) fun _ => by
  have no : ¬ Chk t l → (BE.lit false).val = (BE.v (chkB t l)).val := fun h => (chkB_false.2 h).symm
  refine Or.inl (cq (valid_fn t) (And.intro rfl trivial) ?_)
  refine And.intro (fun h1 => ?_) (fun h1 => ?_)
  · exact And.intro (no fun h => h1 (valid_zero.2 h.semi)) trivial
  have hs := valid_zero.1 h1
  have hn := ht hs
  refine And.intro (fun h2 => ?_) (fun h2 => ?_)
  · have h2 : (t.length : Int) ≤ (l.length : Int) := h2
    exact And.intro (no fun h => by have := h.few; omega) trivial
  have h2 : (l.length : Int) < (t.length : Int) := h2
  refine Exists.intro [] <| lp (X := Nat) (fun i => [(21, .int .i64 i)]) (fun _ => []) (fun i => i ≤ l.length ∧ ∀ j, j < i → IsCg t (l.getD j []) 0) (fun i => l.length - i) 0 ⟨Nat.zero_le _, fun j hj => absurd hj (Nat.not_lt_zero _)⟩ (by repeat' first | refine And.intro ?_ ?_ | exact True.intro | (show (_ : Int) = (_ : Int); omega) | omega | exact rfl | (simp only [RO.len]; omega)) ?_
  rintro i ⟨hi, hc⟩
  refine And.intro (fun h3 => ?_) (fun h3 => ?_)
  · have h3 : (i : Int) < (l.length : Int) := h3
    refine And.intro (by omega) ?_
    refine Or.inl (cq (sdcg_fn t (l.getD i []) hs) (And.intro rfl (And.intro rfl trivial)) ?_)
    refine And.intro (fun h4 => ?_) (fun h4 => ?_)
    · have h4 : (!cgB t (l.getD i []) 0) = true := h4
      refine And.intro (no fun h => ?_) trivial
      rw [cgB_true.2 (h.cg _ (getD_mem (d := []) (by omega)))] at h4; cases h4
    · have h4 : (!cgB t (l.getD i []) 0) = false := h4
      refine And.intro (by omega) ?_
      refine nx (i + 1) ⟨by omega, fun j hj => ?_⟩ (show l.length - (i + 1) < l.length - i by omega) (by repeat' first | refine And.intro ?_ ?_ | exact True.intro | (show (_ : Int) = (_ : Int); omega) | omega | exact rfl | (simp only [RO.len]; omega))
      by_cases e : j = i
      · subst e; exact cgB_true.1 (by simpa using h4)
      · exact hc j (by omega)
  · have h3 : (l.length : Int) ≤ (i : Int) := h3
    have hcg : ∀ p ∈ l, IsCg t p 0 := fun p hp => by
      obtain ⟨j, hj, rfl⟩ := mem_getD [] hp
      exact hc j (by omega)
    have hpt : ∀ p ∈ l, Pt t.length p := fun p hp => (hcg p hp).pt
    have h0 : 0 < t.length := by omega
    have hsl := sfx_len t.length l
    have hs0 : (sfxL t.length l).getD 0 [] = mtL t.length l := by rw [sfx_get _ _ (Nat.zero_le _), List.drop_zero]
    have hpm : Pt t.length (mtL t.length l) := Pt.mtL (by omega) hpt
    refine Or.inl (cq (ssfx_fn t.length l h0 (by omega) (by omega) hpt) (And.intro rfl (And.intro rfl trivial)) ?_)
    refine And.intro (show 0 ≤ (0 : Int) ∧ (0 : Int) < ((sfxL t.length l).length : Int) by omega) ?_
    refine Or.inl (cq (scnt_fn ((sfxL t.length l).getD 0 []) (by rw [hs0]; exact hpm.2)) (And.intro rfl trivial) ?_)
    refine And.intro (fun h4 => ?_) (fun h4 => ?_)
    · have h4 : ¬ ((classN ((sfxL t.length l).getD 0 []) : Nat) : Int) = (t.length : Int) := h4
      rw [hs0] at h4
      exact And.intro (no fun h => by have := h.meet; omega) trivial
    have h4 : ((classN ((sfxL t.length l).getD 0 []) : Nat) : Int) = (t.length : Int) := h4
    rw [hs0] at h4
    refine Or.inl (cq (sred_fn t.length l h0 (by omega) (by omega) hpt) (And.intro rfl (And.intro rfl trivial)) ?_)
    refine And.intro (fun h5 => ?_) (fun h5 => ?_)
    · have h5 : ¬ ((redL t.length (List.replicate t.length 0) l).length : Int) = (l.length : Int) := h5
      exact And.intro (no fun h => by have := h.red; omega) trivial
    have h5 : ((redL t.length (List.replicate t.length 0) l).length : Int) = (l.length : Int) := h5
    refine Exists.intro [] <| lp (X := Nat) (fun i => [(52, .int .i64 i)]) (fun _ => []) (fun i => i ≤ l.length ∧ ∀ j, j < i → (minsL (quoL t (l.getD j []))).length = 1) (fun i => l.length - i) 0 ⟨Nat.zero_le _, fun j hj => absurd hj (Nat.not_lt_zero _)⟩ (by repeat' first | refine And.intro ?_ ?_ | exact True.intro | (show (_ : Int) = (_ : Int); omega) | omega | exact rfl | (simp only [RO.len]; omega)) ?_
    rintro k ⟨hk, hm⟩
    refine And.intro (fun h6 => ?_) (fun h6 => ?_)
    · have h6 : (k : Int) < (l.length : Int) := h6
      have hck := hcg _ (getD_mem (d := []) (show k < l.length by omega))
      have hql := hck.quo_le
      refine And.intro (by omega) ?_
      refine Or.inl (cq (sdquo_fn t (l.getD k []) hck) (And.intro rfl (And.intro rfl trivial)) ?_)
      refine Or.inr (Or.inr (ce (atoms_fn (quoL t (l.getD k [])) hck.quo (by omega)) (And.intro rfl trivial) ?_))
      intro L hL
      have hL : AtomsOk (quoL t (l.getD k [])) L := hL
      have hLn := hL.num
      refine And.intro (fun h7 => ?_) (fun h7 => ?_)
      · have h7 : ¬ (L.length : Int) = 1 := h7
        exact And.intro (no fun h => by have := h.irr _ (getD_mem (d := []) (show k < l.length by omega)); omega) trivial
      · have h7 : (L.length : Int) = 1 := h7
        refine And.intro (by omega) ?_
        refine nx (k + 1) ⟨by omega, fun j hj => ?_⟩ (show l.length - (k + 1) < l.length - k by omega) (by repeat' first | refine And.intro ?_ ?_ | exact True.intro | (show (_ : Int) = (_ : Int); omega) | omega | exact rfl | (simp only [RO.len]; omega))
        by_cases e : j = k
        · subst e; omega
        · exact hm j (by omega)
    · have h6 : (l.length : Int) ≤ (k : Int) := h6
      refine And.intro ?_ trivial
      refine (chkB_true.2 ⟨hs, by omega, hcg, by omega, by omega, fun p hp => ?_⟩).symm
      obtain ⟨j, hj, rfl⟩ := mem_getD [] hp
      exact hm j (by omega)
end Go.Proofs.Ytkbhgnbnnbengaa
end
section
/- Statements about subdirect decompositions: the sanity check. -/
namespace Go.Proofs.Ytkbhgnbnnbengaa
open Go Go.AM
set_option maxRecDepth 100000
def klL : List (List Int) := [[0, 1, 2, 3], [1, 0, 3, 2], [2, 3, 0, 1], [3, 2, 1, 0]]
def klP : List (List Int) := [[0, 0, 1, 1], [0, 1, 0, 1]]
def c2L : List (List Int) := [[0, 1], [1, 0]]
theorem semi_dec {t : List (List Int)} (h0 : 0 < t.length ∧ t.length ≤ 400) (h1 : ∀ r ∈ t, r.length = t.length ∧ ∀ x ∈ r, 0 ≤ x ∧ x < (t.length : Int)) (h2 : ∀ x, x < t.length → ∀ y, y < t.length → ∀ z, z < t.length → en t (en t x y) z = en t x (en t y z)) : Semi t :=
  ⟨⟨h0.1, h0.2, h1⟩, fun g hg x y hx hy => h2 x hx g hg y hy⟩
theorem semi_kl : Semi klL := semi_dec (by decide) (by decide +kernel) (by decide +kernel)
theorem semi_c2 : Semi c2L := semi_dec (by decide) (by decide +kernel) (by decide +kernel)
theorem cg_dec {t : List (List Int)} {p : List Int} (h : ∀ x, x < t.length → ∀ y, y < t.length → ∀ s, s < t.length → p.getD x 0 = p.getD y 0 → p.getD (en t s x) 0 = p.getD (en t s y) 0 ∧ p.getD (en t x s) 0 = p.getD (en t y s) 0) : Cg t p 0 :=
  fun x y s hx hy hs e => ⟨fun _ => (h x hx y hy s hs e).1, fun _ => (h x hx y hy s hs e).2⟩
theorem cg_kl {p : List Int} (hp : p ∈ klP) : IsCg klL p 0 := by
  have h : p = [0, 0, 1, 1] ∨ p = [0, 1, 0, 1] := by simpa [klP] using hp
  rcases h with rfl | rfl
  · exact ⟨semi_kl, rfl, ⟨by decide, by decide +kernel⟩, by decide, cg_dec (by decide +kernel)⟩
  · exact ⟨semi_kl, rfl, ⟨by decide, by decide +kernel⟩, by decide, cg_dec (by decide +kernel)⟩
theorem min_kl {p : List Int} (hp : p ∈ klP) : MinC klL p := by
  have hc := cg_kl hp
  have h : p = [0, 0, 1, 1] ∨ p = [0, 1, 0, 1] := by simpa [klP] using hp
  refine ⟨hc, ?_, fun q hq hj hs => ?_⟩
  · rcases h with rfl | rfl
    · exact ⟨0, 1, by decide, by decide, by decide, by decide⟩
    · exact ⟨0, 2, by decide, by decide, by decide, by decide⟩
  · obtain ⟨x, y, hx, hy, hne, e⟩ := hj
    have ep := hs x y hx hy e
    have g := hq.cg
    have hx : x < 4 := hx
    have hy : y < 4 := hy
    have k := fun s (h : s < 4) => (g x y s hx hy h e).1 (by decide)
    have k0 := k x hx
    have l := fun a b s (ha : a < 4) (hb : b < 4) (hs : s < 4) (h : q.getD a 0 = q.getD b 0) => (g a b s ha hb hs h).1 (by decide)
    rcases h with rfl | rfl
    · have e01 : q.getD 0 0 = q.getD 1 0 := by
        rcases x with _ | _ | _ | _ | x <;> rcases y with _ | _ | _ | _ | y <;> first | exact absurd ep (by decide) | exact absurd rfl hne | omega | exact k0
      have e23 : q.getD 2 0 = q.getD 3 0 := l 0 1 2 (by decide) (by decide) (by decide) e01
      intro a b ha hb e2
      have ha : a < 4 := ha
      have hb : b < 4 := hb
      rcases a with _ | _ | _ | _ | a <;> rcases b with _ | _ | _ | _ | b <;> first | exact absurd e2 (by decide) | rfl | exact e01 | exact e01.symm | exact e23 | exact e23.symm | omega
    · have e02 : q.getD 0 0 = q.getD 2 0 := by
        rcases x with _ | _ | _ | _ | x <;> rcases y with _ | _ | _ | _ | y <;> first | exact absurd ep (by decide) | exact absurd rfl hne | omega | exact k0
      have e13 : q.getD 1 0 = q.getD 3 0 := l 0 2 1 (by decide) (by decide) (by decide) e02
      intro a b ha hb e2
      have ha : a < 4 := ha
      have hb : b < 4 := hb
      rcases a with _ | _ | _ | _ | a <;> rcases b with _ | _ | _ | _ | b <;> first | exact absurd e2 (by decide) | rfl | exact e02 | exact e02.symm | exact e13 | exact e13.symm | omega
theorem irr_kl : ¬ Irr klL := fun ⟨_, h⟩ => by
  by_cases hM : ∃ M, Srt cmpL M ∧ ∀ p, p ∈ M ↔ MinC klL p
  · obtain ⟨M, hS, hm⟩ := hM
    rw [mins_of hS hm] at h
    match M, h with
    | [m], _ =>
      have a := (hm _).2 (min_kl (p := [0, 0, 1, 1]) (by decide))
      have b := (hm _).2 (min_kl (p := [0, 1, 0, 1]) (by decide))
      rw [List.mem_singleton] at a b
      rw [← b] at a
      exact absurd a (by decide)
  · unfold minsL at h
    rw [dif_neg hM] at h
    cases h
theorem min_c2 (p : List Int) : MinC c2L p ↔ p = [0, 0] := by
  have ht : IsCg c2L [0, 0] 0 := triv_cg semi_c2
  have key : ∀ q, Joins 2 q → q.getD 0 0 = q.getD 1 0 := fun q ⟨x, y, hx, hy, hne, e⟩ => by
    rcases x with _ | _ | x <;> rcases y with _ | _ | y <;> first | exact absurd rfl hne | omega | exact e | exact e.symm
  have sub : ∀ q r, Joins 2 q → Sub 2 r q := fun q r hj x y hx hy _ => by
    have := key q hj
    rcases x with _ | _ | x <;> rcases y with _ | _ | y <;> first | rfl | omega | exact this | exact this.symm
  constructor
  · intro h
    exact sub_eq h.cg.len ht.len h.cg.val.2 ht.val.2 (sub _ _ ⟨0, 1, by decide, by decide, by decide, by decide⟩) (sub _ _ h.jo)
  · rintro rfl
    exact ⟨ht, ⟨0, 1, by decide, by decide, by decide, by decide⟩, fun q _ hj _ => sub _ _ hj⟩
theorem mins_c2 : minsL c2L = [[0, 0]] := mins_of (List.pairwise_singleton _ _) fun p => by rw [min_c2, List.mem_singleton]
theorem irr_c2 : Irr c2L := ⟨semi_c2, by rw [mins_c2]; rfl⟩
theorem chk_kl : Chk klL klP := ⟨semi_kl, by decide, fun _ h => cg_kl h, by decide +kernel, by decide +kernel, fun p hp => by
  have h : p = [0, 0, 1, 1] ∨ p = [0, 1, 0, 1] := by simpa [klP] using hp
  have e : quoL klL p = c2L := by rcases h with rfl | rfl <;> decide +kernel
  rw [e]; exact irr_c2.2⟩
theorem klein_fn : QF 37 [] (.ro (.rows .i64 klL)) := mkQ Try.func37 (by decide +kernel) rfl (Nat.le_of_ble_eq_true rfl) fun _ => by
  exact And.intro (And.intro trivial rfl) trivial
theorem awake22_fn : QF 11 [] (.bool (.lit true)) := mkQ Try.func11 (by decide +kernel) rfl (Nat.le_of_ble_eq_true rfl) fun _ => by
  refine Or.inl (cq klein_fn trivial ?_)
  refine Or.inl (cq (sirr0_fn klL irr_kl fun _ => by decide) (And.intro rfl trivial) ?_)
  refine Or.inl (cq (sirr1_fn c2L irr_c2 (by decide)) (And.intro rfl trivial) ?_)
  refine Or.inl (cq klein_fn trivial ?_)
  refine Or.inl (cq (schk_fn klL klP fun _ => by decide) (And.intro rfl (And.intro rfl trivial)) ?_)
  exact And.intro (chkB_true.2 chk_kl) trivial
end Go.Proofs.Ytkbhgnbnnbengaa
end
section
/- The reference's generated congruence: contract. -/
namespace Go.Proofs.Ytkbhgnbnnbengaa
open Go Go.AM
set_option maxRecDepth 100000
def b1 (b : Bool) : Nat := match b with | true => 1 | false => 0
end Go.Proofs.Ytkbhgnbnnbengaa
end
section
/- Package partition: Refines; mult.Opposite: contracts. -/
namespace Go.Proofs.Ytkbhgnbnnbengaa
open Go Go.AM
set_option maxRecDepth 100000
def Rf (p q : List Int) : Prop := ∀ i j, i < p.length → j < p.length → p.getD i 0 = p.getD j 0 → q.getD i 0 = q.getD j 0
noncomputable def rfB (p q : List Int) : Bool := @decide (Rf p q) (Classical.propDecidable _)
theorem rfB_true {p q : List Int} : rfB p q = true ↔ Rf p q := by unfold rfB; exact @decide_eq_true_iff _ (Classical.propDecidable _)
theorem rfB_false {p q : List Int} : rfB p q = false ↔ ¬ Rf p q := by unfold rfB; exact @decide_eq_false_iff_not _ (Classical.propDecidable _)
theorem prefn_fn (p q : List Int) (hp : validP p) (hq : validP q) (hl : p.length = q.length) : QF 35 [.ro (.ints .i64 p), .ro (.ints .i64 q)] (.bool (.v (rfB p q))) := mkQ Try.func35 (by decide +kernel) rfl (Nat.le_of_ble_eq_true rfl) fun _ => by
  have hm : matchP p q := ⟨hl, hp, hq⟩
  have hcl : (classes (classN p) p).length = classN p := by simp [classes]
  have hcn : classN p ≤ p.length := firsts_le p
  have hpl := hp.1
  refine Or.inl (cq (pmatch_fn p q) (And.intro rfl (And.intro rfl trivial)) ?_)
  refine And.intro (fun h1 => ?_) (fun _ => ?_)
  · have h1 : (!decide (matchP p q)) = true := h1
    rw [decide_eq_true hm] at h1; cases h1
  refine Or.inl (cq (pclasses_fn p hp) (And.intro rfl trivial) ?_)
  refine Exists.intro [] <| lp (X := Nat) (fun c => [(16, .int .i64 c)]) (fun _ => []) (fun c => c ≤ classN p ∧ ∀ c', c' < c → ∀ x ∈ (classes (classN p) p).getD c' [], q.getD x.toNat 0 = q.getD (hdN p c') 0) (fun c => classN p - c) 0 ⟨Nat.zero_le _, fun c h => absurd h (Nat.not_lt_zero _)⟩ (by repeat' first | refine And.intro ?_ ?_ | exact True.intro | (show (_ : Int) = (_ : Int); omega) | omega | exact rfl | (simp only [RO.len]; omega)) ?_
  intro c ⟨hc, hci⟩
  refine And.intro (fun h1 => ?_) (fun h1 => ?_)
  · have h1 : (c : Int) < ((classes (classN p) p).length : Int) := h1
    have hcl2 : c < classN p := by omega
    have k := hd_at hp.2 hcl2
    have kp := cls_pos hp.2 hcl2
    have hcll : ((classes (classN p) p).getD c []).length ≤ p.length := by
      rw [classes_getD hcl2, List.length_map]
      have := List.length_filter_le (fun i => decide (p.getD i 0 = (c : Int))) (List.range p.length)
      rw [List.length_range] at this; exact this
    refine And.intro (by omega) ?_
    refine Exists.intro [] <| lp (X := Nat) (fun m => [(22, .int .i64 m)]) (fun _ => []) (fun m => m ≤ ((classes (classN p) p).getD c []).length ∧ ∀ m', m' < m → q.getD (((classes (classN p) p).getD c []).getD m' 0).toNat 0 = q.getD (hdN p c) 0) (fun m => ((classes (classN p) p).getD c []).length - m) 0 ⟨Nat.zero_le _, fun m h => absurd h (Nat.not_lt_zero _)⟩ (by repeat' first | refine And.intro ?_ ?_ | exact True.intro | (show (_ : Int) = (_ : Int); omega) | omega | exact rfl | (simp only [RO.len]; omega)) ?_
    intro m ⟨hm, hmi⟩
    refine And.intro (fun h2 => ?_) (fun h2 => ?_)
    · have h2 : (m : Int) < (((classes (classN p) p).getD c []).length : Int) := h2
      have hml : m < ((classes (classN p) p).getD c []).length := by omega
      have hx := (mem_classes (p := p) hcl2).1 (getD_mem (d := 0) hml)
      have th : (((classes (classN p) p).getD c []).getD 0 0).toNat = hdN p c := by rw [k.2.2]; exact Int.toNat_natCast _
      refine And.intro (by omega) ?_
      refine Or.inl ?_
      refine Exists.intro [false, false, false, false, false, false, false, false, false, false, false] (And.intro (by decide +kernel) ?_)
      refine And.intro (show 0 ≤ ((classes (classN p) p).getD c []).getD m 0 ∧ ((classes (classN p) p).getD c []).getD m 0 < (q.length : Int) by omega) ?_
      refine And.intro (by simp only [Int.toNat_natCast]; omega) ?_
      refine And.intro (show 0 ≤ ((classes (classN p) p).getD c []).getD 0 0 ∧ ((classes (classN p) p).getD c []).getD 0 0 < (q.length : Int) by omega) ?_
      refine And.intro (fun h3 => ?_) (fun h3 => ?_)
      · have h3 : q.getD (((classes (classN p) p).getD c []).getD m 0).toNat 0 ≠ q.getD (((classes (classN p) p).getD c []).getD 0 0).toNat 0 := h3
        rw [th] at h3
        refine And.intro ?_ trivial
        refine (rfB_false.2 fun h4 => h3 (h4 _ _ (by omega) (by omega) ?_)).symm
        rw [hx.2.2, k.2.1]
      · have h3 : q.getD (((classes (classN p) p).getD c []).getD m 0).toNat 0 = q.getD (((classes (classN p) p).getD c []).getD 0 0).toNat 0 := h3
        rw [th] at h3
        refine And.intro (by omega) ?_
        refine nx (m + 1) ⟨show m + 1 ≤ _ by omega, fun m' hm' => ?_⟩ (show ((classes (classN p) p).getD c []).length - (m + 1) < ((classes (classN p) p).getD c []).length - m by omega) (by repeat' first | refine And.intro ?_ ?_ | exact True.intro | (show (_ : Int) = (_ : Int); omega) | omega | exact rfl | (simp only [RO.len]; omega))
        by_cases e : m' = m
        · subst e; exact h3
        · exact hmi m' (by omega)
    · have h2 : (((classes (classN p) p).getD c []).length : Int) ≤ (m : Int) := h2
      refine And.intro (by omega) ?_
      refine nx (c + 1) ⟨show c + 1 ≤ _ by omega, fun c' hc' x hx => ?_⟩ (show classN p - (c + 1) < classN p - c by omega) (by repeat' first | refine And.intro ?_ ?_ | exact True.intro | (show (_ : Int) = (_ : Int); omega) | omega | exact rfl | (simp only [RO.len]; omega))
      by_cases e : c' = c
      · subst e
        obtain ⟨m', hm', rfl⟩ := mem_getD 0 hx
        exact hmi m' (by omega)
      · exact hci c' (by omega) x hx
  · have h1 : ((classes (classN p) p).length : Int) ≤ (c : Int) := h1
    refine And.intro ?_ trivial
    refine (rfB_true.2 fun i j hi hj e => ?_).symm
    have ki := cls_lt hp.2 hi
    have mi := (mem_classes (p := p) ki.2.1 (x := (i : Int))).2 ⟨by omega, by omega, by rw [Int.toNat_natCast]; exact ki.2.2⟩
    have mj := (mem_classes (p := p) ki.2.1 (x := (j : Int))).2 ⟨by omega, by omega, by rw [Int.toNat_natCast, ← e]; exact ki.2.2⟩
    have e1 := hci _ (by omega) _ mi
    have e2 := hci _ (by omega) _ mj
    rw [Int.toNat_natCast] at e1 e2
    rw [e1, e2]
/-! ### The opposite semigroup -/
end Go.Proofs.Ytkbhgnbnnbengaa
end
section
/- The reference's principal and minimal congruences: contracts. -/
namespace Go.Proofs.Ytkbhgnbnnbengaa
open Go Go.AM
set_option maxRecDepth 100000
theorem rf_sub2 {p q : List Int} {n : Nat} (hp : p.length = n) : rfB p q = true ↔ Sub n p q := by
  rw [rfB_true, ← hp]; exact Iff.rfl
end Go.Proofs.Ytkbhgnbnnbengaa
end
section
/- The law's guards; the reference's Irreducible: contracts. -/
namespace Go.Proofs.Ytkbhgnbnnbengaa
open Go Go.AM
set_option maxRecDepth 100000
theorem small22_fn (t : List (List Int)) (m : Int) : QF 19 [.ro (.rows .i64 t), .int .i64 m] (.bool (.v (decide ((t.length : Int) ≤ m ∧ validV t = 0)))) := mkQ Try.func19 (by decide +kernel) rfl (Nat.le_of_ble_eq_true rfl) fun _ => by
  refine And.intro (fun h1 => ?_) (fun h1 => ?_)
  · refine Or.inl (cq (rvalid_fn t) (And.intro rfl trivial) ?_)
    refine And.intro ?_ trivial
    show decide (validV t = 0) = decide ((t.length : Int) ≤ m ∧ validV t = 0)
    have h1 : (t.length : Int) ≤ m := h1
    simp [h1]
  · refine And.intro ?_ trivial
    show false = decide ((t.length : Int) ≤ m ∧ validV t = 0)
    have h1 : m < (t.length : Int) := h1
    have : ¬ (t.length : Int) ≤ m := by omega
    simp [this]
end Go.Proofs.Ytkbhgnbnnbengaa
end
section
/- Subdirect decompositions, in plain words: when a list holds nothing superfluous. -/
namespace Go.Proofs.Ytkbhgnbnnbengaa
open Go Go.AM
def Disc (n : Nat) (R : Nat → Nat → Prop) : Prop := ∀ x y, x < n → y < n → R x y → x = y
def kerP (p : List Int) (x y : Nat) : Prop := p.getD x 0 = p.getD y 0
theorem mtP_ker {n : Nat} {p q : List Int} (hp : Pt n p) (hq : Pt n q) {x y : Nat} (hx : x < n) (hy : y < n) : kerP (mtP p q) x y ↔ kerP p x y ∧ kerP q x y := by
  have hz : (p.zip q).length = n := by simp [hp.1, hq.1]
  have zg : ∀ i, i < n → (p.zip q).getD i (0, 0) = (p.getD i 0, q.getD i 0) := fun i hi => by
    have := hp.1
    have := hq.1
    rw [getD_eq (by omega), getD_eq (by omega), getD_eq (by omega)]; simp
  unfold kerP mtP
  rw [canon_eq_iff (d := (0, 0)) (by omega) (by omega), zg x hx, zg y hy]
  constructor
  · intro h
    injection h with h1 h2
    exact ⟨h1, h2⟩
  · rintro ⟨h1, h2⟩; rw [h1, h2]
theorem cls_disc {n : Nat} {p : List Int} (hp : Pt n p) : classN p = n ↔ Disc n (kerP p) := by
  constructor
  · intro hc a b ha hb e
    refine Classical.byContradiction fun hne => ?_
    have h1 := cnt_del (P := fun _ => true) (M := b) (n := n) hb rfl
    have h2 := nodup_sub (firsts_nodup p) (B := ((List.range n).filter fun i => true && decide (i ≠ b)).map fun i => p.getD i 0) fun x hx => by
      obtain ⟨j, hj, rfl⟩ := mem_getD 0 (mem_firsts.1 hx)
      have hj : j < n := by rw [← hp.1]; exact hj
      by_cases e1 : j = b
      · exact List.mem_map.2 ⟨a, List.mem_filter.2 ⟨List.mem_range.2 ha, by simp [hne]⟩, by rw [e1]; exact e⟩
      · exact List.mem_map.2 ⟨j, List.mem_filter.2 ⟨List.mem_range.2 hj, by simp [e1]⟩, rfl⟩
    rw [List.length_map] at h2
    have h3 : ((List.range n).filter fun _ => true).length = n := by rw [List.filter_eq_self.2 (fun _ _ => rfl), List.length_range]
    unfold classN at hc
    omega
  · intro h
    have hd : p.Nodup := List.nodup_iff_pairwise_ne.2 (List.pairwise_iff_getElem.2 fun i j hi hj hij e => by
      have := h i j (by rw [← hp.1]; exact hi) (by rw [← hp.1]; exact hj) (by unfold kerP; rw [getD_eq hi, getD_eq hj]; exact e)
      omega)
    have h1 := nodup_sub hd (B := firsts p) fun x hx => mem_firsts.2 hx
    have h2 : classN p ≤ p.length := firsts_le p
    have h3 := hp.1
    unfold classN at *
    omega
end Go.Proofs.Ytkbhgnbnnbengaa
end
section
/- Are all numbers elements? The reference. -/
namespace Go.Proofs.Ytkbhgnbnnbengaa
open Go Go.AM
set_option maxRecDepth 100000
theorem rin_k (t : List (List Int)) (l : List Int) (hl : l.length ≤ 140737488355328) : fnK TY SP Try.f32 [.ro (.rows .i64 t), .ro (.ints .i64 l)] (.bool (.v (decide (∀ x ∈ l, 0 ≤ x ∧ x < t.length)))) := by
  refine Exists.intro [] <| lp (X := Nat) (fun i => [(9, .int .i64 i)]) (fun _ => []) (fun i => i ≤ l.length ∧ ∀ k, k < i → 0 ≤ l.getD k 0 ∧ l.getD k 0 < t.length) (fun i => l.length - i) 0 ⟨Nat.zero_le _, fun k hk => absurd hk (Nat.not_lt_zero _)⟩ (by repeat' first | refine And.intro ?_ ?_ | exact True.intro | (show (_ : Int) = (_ : Int); omega) | omega | exact rfl | (simp only [RO.len]; omega)) ?_
  rintro i ⟨hi, hs⟩
  have no : ∀ {i : Nat}, i < l.length → ¬ (0 ≤ l.getD i 0 ∧ l.getD i 0 < t.length) → false = decide (∀ x ∈ l, 0 ≤ x ∧ x < t.length) := fun hi hn => by
    symm
    rw [decide_eq_false_iff_not]
    exact fun hh => hn (hh _ (getD_mem hi))
  refine And.intro (fun h1 => ?_) (fun h1 => ?_)
  · have hil : i < l.length := by omega
    refine And.intro (by omega) ?_
    refine And.intro (fun h2 => ?_) (fun h2 => ?_)
    · have h2 : l.getD i 0 < 0 := h2
      exact And.intro (no hil (by omega)) trivial
    have h2 : 0 ≤ l.getD i 0 := h2
    refine And.intro (fun h3 => ?_) (fun h3 => ?_)
    · have h3 : (t.length : Int) ≤ l.getD i 0 := h3
      exact And.intro (no hil (by omega)) trivial
    have h3 : l.getD i 0 < (t.length : Int) := h3
    refine And.intro (by omega) ?_
    refine nx (i + 1) ⟨by omega, fun k hk => ?_⟩ (show l.length - (i + 1) < l.length - i by omega) (by repeat' first | refine And.intro ?_ ?_ | exact True.intro | (show (_ : Int) = (_ : Int); omega) | omega | exact rfl | (simp only [RO.len]; omega))
    by_cases hki : k = i
    · rw [hki]; exact ⟨h2, h3⟩
    · exact hs k (by omega)
  · refine And.intro ?_ trivial
    show true = decide (∀ x ∈ l, 0 ≤ x ∧ x < (t.length : Int))
    symm
    rw [decide_eq_true_eq]
    intro x hx
    obtain ⟨k, hk, rfl⟩ := mem_getD 0 hx
    exact hs k (by omega)
theorem rin_fn (t : List (List Int)) (l : List Int) : QF 32 [.ro (.rows .i64 t), .ro (.ints .i64 l)] (.bool (.v (decide (∀ x ∈ l, 0 ≤ x ∧ x < t.length)))) := mkQ Try.func32 (by decide +kernel) rfl (Nat.le_of_ble_eq_true rfl) fun hf => rin_k t l hf.2.1.1
end Go.Proofs.Ytkbhgnbnnbengaa
end
section
/- Plain: congr.Generated makes the generated congruence. -/
namespace Go.Proofs.Ytkbhgnbnnbengaa
open Go Go.AM
structure GrI (t : List (List Int)) (gens : List Int) (side : Int) (l : List (Int × Int)) (i : Nat) (p : List Int) (r : Nat → Nat) : Prop where
  fo : Fo t.length p r
  ex : ∃ J : Nat → Nat → Prop, KerR t.length r J ∧ (∀ a b, J a b → a < t.length ∧ b < t.length ∧ Cgr t side (relP l) a b) ∧
    (∀ a b, J a b → ∀ g ∈ gens, (side ≠ 2 → Eg J (en t g.toNat a) (en t g.toNat b)) ∧ (side ≠ 1 → Eg J (en t a g.toNat) (en t b g.toNat))) ∧ ∀ q ∈ l.take i, Eg J q.1.toNat q.2.toNat
section
variable {t : List (List Int)} {gens : List Int} {side : Int} {l : List (Int × Int)} {i : Nat} {p : List Int} {r : Nat → Nat}
theorem GrI.start (t : List (List Int)) (gens : List Int) (side : Int) (l : List (Int × Int)) : GrI t gens side l 0 (disI t.length) id :=
  ⟨Fo.dis _, fun _ _ => False, KerR.dis _, fun _ _ h => h.elim, fun _ _ h => h.elim, fun q hq => by simp at hq⟩
theorem GrI.next (hs : Sh t) (hg : ∀ g ∈ gens, 0 ≤ g ∧ g < (t.length : Int)) (hl : inW t.length l) (h : GrI t gens side l i p r) (hi : i < l.length) {q : List Int} {u : Nat → Nat} {k : Nat} (hsp : Sp t gens side q u k p r [l.getD i (0, 0)]) : GrI t gens side l (i + 1) q u := by
  obtain ⟨J, h1, h2, h3, h4⟩ := h.ex
  have hm : l.getD i (0, 0) ∈ l := getD_mem hi
  have hq := hl _ hm
  have hrel : relP l (l.getD i (0, 0)).1.toNat (l.getD i (0, 0)).2.toNat := by
    show (_, _) ∈ l
    rw [Int.toNat_of_nonneg hq.1.1, Int.toNat_of_nonneg hq.2.1]; exact hm
  have up : ∀ {a b : Nat}, Eg J a b → Eg (fun a b => J a b ∨ ((a : Int), (b : Int)) ∈ [l.getD i (0, 0)]) a b := fun e => e.mono fun a b h => .rel (.inl h)
  obtain ⟨hfo, J', k1, k2, k3, k4, k5⟩ := hsp.law (Q := relP l) hs hg J h.fo (fun z hz => by rw [List.mem_singleton] at hz; subst hz; exact hq) h1 h2 (fun w hw => by rw [List.mem_singleton] at hw; subst hw; exact .rel hrel)
    fun a b hJ g hgm => ⟨fun h0 => up ((h3 a b hJ g hgm).1 h0), fun h0 => up ((h3 a b hJ g hgm).2 h0)⟩
  refine ⟨hfo, J', k1, k4, k5, fun z hz => ?_⟩
  rw [take_get (d := (0, 0)) hi] at hz
  rcases List.mem_append.1 hz with hz | hz
  · exact (h4 z hz).mono fun a b h => .rel (k2 a b h)
  · rw [List.mem_singleton] at hz
    subst hz
    exact k3 _ _ (by rw [Int.toNat_of_nonneg hq.1.1, Int.toNat_of_nonneg hq.2.1]; simp)
theorem GrI.done (hs : Semi t) (hg : Spans t gens) (hl : inW t.length l) (h : GrI t gens side l i p r) (hi : l.length ≤ i) : canon (rtL t.length r) = genP t side (relP l) := by
  obtain ⟨J, h1, h2, h3, h4⟩ := h.ex
  have hS := hs.toSh
  have key : ∀ a b, a < t.length → b < t.length → ((rtL t.length r).getD a 0 = (rtL t.length r).getD b 0 ↔ Eg J a b) := h1.ker.2
  refine genP_of (rtL_len _ _) (fun a b ha hb e => ?_) (fun a b hR => ?_) fun x y s hx hy hsl e => ?_
  · exact ((key a b ha hb).1 e).least .refl (fun _ _ => .symm) (fun _ _ _ => .trans) fun a b h => (h2 a b h).2.2
  · have hlt := relP_lt hl hR
    refine (key a b hlt.1 hlt.2).2 ?_
    have := h4 _ (by rw [List.take_of_length_le hi]; exact hR)
    simpa using this
  · have e := (key x y hx hy).1 e
    have hc := eg_gens hs (fun a b h => ⟨(h2 a b h).1, (h2 a b h).2.1⟩) hg.el h3 (hg.all s hsl) x y hx hy e
    exact ⟨fun h0 => (key _ _ (hS.ent hsl hx).2 (hS.ent hsl hy).2).2 (hc.1 h0), fun h0 => (key _ _ (hS.ent hx hsl).2 (hS.ent hy hsl).2).2 (hc.2 h0)⟩
end
end Go.Proofs.Ytkbhgnbnnbengaa
end
