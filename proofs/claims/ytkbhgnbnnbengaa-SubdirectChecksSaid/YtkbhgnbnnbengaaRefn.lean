import Derived.Test.YtkbhgnbnnbengaaRefCgL
import Derived.Test.YtkbhgnbnnbengaaCgMin
import Derived.Test.YtkbhgnbnnbengaaMerge
import Derived.Test.YtkbhgnbnnbengaaRefRees
import Derived.Test.YtkbhgnbnnbengaaQuoLaw
import Derived.Test.YtkbhgnbnnbengaaGroup
import Derived.Test.YtkbhgnbnnbengaaReesLaw
section
/- Package subdirect: Irreducible, Check: contracts. -/
namespace Go.Proofs.Ytkbhgnbnnbengaa
open Go Go.AM
set_option maxRecDepth 100000
def Irr (t : List (List Int)) : Prop := Semi t ∧ (minsL t).length = 1
theorem AtomsOk.one {t : List (List Int)} {L : List (List (Int × Int))} (h : AtomsOk t L) (h1 : L.length = 1) : (minsL t).getD 0 [] = eqP t.length (relP (L.getD 0 [])) := by
  have hm := getD_mem (d := []) (l := minsL t) (i := 0) (by rw [h.num]; omega)
  generalize (minsL t).getD 0 [] = x at hm ⊢
  rw [h.mins, srt_mem] at hm
  match L, h1 with
  | [l], _ => simpa using hm
theorem sirr1_fn (t : List (List Int)) (h : Irr t) (ht : t.length ≤ 60) : QF 12 [.ro (.rows .i64 t)] (.tup [.new (.ints .i64 ((minsL t).getD 0 [])), .bool (.lit true)]) := mkQ Try.func12 (by decide +kernel) rfl (Nat.le_of_ble_eq_true rfl) fun _ => by
  obtain ⟨hs, h1⟩ := h
  refine Or.inl (cq (valid_fn t) (And.intro rfl trivial) ?_)
  refine And.intro (fun h2 => absurd (valid_zero.2 hs) h2) (fun _ => ?_)
  refine Or.inr (Or.inr (ce (atoms_fn t hs ht) (And.intro rfl trivial) ?_))
  intro L hL
  have hL : AtomsOk t L := hL
  have hn := hL.num
  refine And.intro (fun h2 => ?_) (fun _ => ?_)
  · have h2 : ¬ (L.length : Int) = 1 := h2
    omega
  have hL0 : L.getD 0 [] ∈ L := getD_mem (d := []) (by omega)
  have hin := hL.inw _ hL0
  refine And.intro (show 0 ≤ (0 : Int) ∧ (0 : Int) < (L.length : Int) by omega) ?_
  refine Or.inl (cq (fpairs_fn t.length (by omega) (L.getD 0 []) fun x hx => ⟨(hin x hx).1.1, (hin x hx).1.2, (hin x hx).2.1, (hin x hx).2.2⟩) (And.intro rfl (And.intro rfl trivial)) ?_)
  have e : canon (rtL t.length (prR id (L.getD 0 []))) = (minsL t).getD 0 [] := by rw [pairs_eqP hin, hL.one (by omega)]
  refine And.intro (And.intro ?_ (congrArg (RO.ints .i64) e)) (And.intro rfl trivial)
  rfl
theorem sirr0_fn (t : List (List Int)) (h : ¬ Irr t) (ht : Semi t → t.length ≤ 60) : QF 12 [.ro (.rows .i64 t)] (.tup [.nils, .bool (.lit false)]) := mkQ Try.func12 (by decide +kernel) rfl (Nat.le_of_ble_eq_true rfl) fun _ => by
  refine Or.inl (cq (valid_fn t) (And.intro rfl trivial) ?_)
  refine And.intro (fun _ => ?_) (fun h2 => ?_)
  · exact And.intro trivial (And.intro rfl trivial)
  have hs := valid_zero.1 h2
  refine Or.inr (Or.inr (ce (atoms_fn t hs (ht hs)) (And.intro rfl trivial) ?_))
  intro L hL
  have hL : AtomsOk t L := hL
  have hn := hL.num
  refine And.intro (fun _ => ?_) (fun h3 => ?_)
  · exact And.intro trivial (And.intro rfl trivial)
  · have h3 : (L.length : Int) = 1 := h3
    exact absurd ⟨hs, by omega⟩ h
structure Chk (t : List (List Int)) (l : List (List Int)) : Prop where
  semi : Semi t
  few : l.length < t.length
  cg : ∀ p ∈ l, IsCg t p 0
  meet : classN (mtL t.length l) = t.length
  red : (redL t.length (List.replicate t.length 0) l).length = l.length
  irr : ∀ p ∈ l, (minsL (quoL t p)).length = 1
noncomputable def chkB (t : List (List Int)) (l : List (List Int)) : Bool := @decide (Chk t l) (Classical.propDecidable _)
theorem chkB_true {t l : List (List Int)} : chkB t l = true ↔ Chk t l := by unfold chkB; exact @decide_eq_true_iff _ (Classical.propDecidable _)
theorem chkB_false {t l : List (List Int)} : chkB t l = false ↔ ¬ Chk t l := by rw [← chkB_true, Bool.not_eq_true]
theorem IsCg.pt {t : List (List Int)} {p : List Int} (h : IsCg t p 0) : Pt t.length p := ⟨h.len, h.val⟩
theorem IsCg.quo {t : List (List Int)} {p : List Int} (h : IsCg t p 0) : Semi (quoL t p) := quo_semi h.semi h.len h.val.2 h.cg
theorem IsCg.quo_le {t : List (List Int)} {p : List Int} (h : IsCg t p 0) : (quoL t p).length ≤ t.length := by rw [quoL_len, ← h.len]; exact firsts_le _
set_option maxHeartbeats 1000000 in
theorem schk_fn (t l : List (List Int)) (ht : Semi t → t.length ≤ 60) : QF 15 [.ro (.rows .i64 t), .ro (.rows .i64 l)] (.bool (.v (chkB t l))) := mkQ Try.func15 (by decide +kernel) rfl (Nat.le_of_ble_eq_true rfl) fun _ => by
  have no : ¬ Chk t l → (BE.lit false).val = (BE.v (chkB t l)).val := fun h => (chkB_false.2 h).symm
  refine Or.inl (cq (valid_fn t) (And.intro rfl trivial) ?_)
  refine And.intro (fun h1 => ?_) (fun h1 => ?_)
  · exact And.intro (no fun h => h1 (valid_zero.2 h.semi)) trivial
  have hs := valid_zero.1 h1
  have hn := ht hs
  refine And.intro (fun h2 => ?_) (fun h2 => ?_)
  · have h2 : (t.length : Int) ≤ (l.length : Int) := h2
    exact And.intro (no fun h => by have := h.few; omega) trivial
  have h2 : (l.length : Int) < (t.length : Int) := h2
  refine Exists.intro [] <| lp (X := Nat) (fun i => [(21, .int .i64 i)]) (fun _ => []) (fun i => i ≤ l.length ∧ ∀ j, j < i → IsCg t (l.getD j []) 0) (fun i => l.length - i) 0 ⟨Nat.zero_le _, fun j hj => absurd hj (Nat.not_lt_zero _)⟩ (by repeat' first | refine And.intro ?_ ?_ | exact True.intro | (show (_ : Int) = (_ : Int); omega) | omega | exact rfl | (simp only [RO.len]; omega)) ?_
  rintro i ⟨hi, hc⟩
  refine And.intro (fun h3 => ?_) (fun h3 => ?_)
  · have h3 : (i : Int) < (l.length : Int) := h3
    refine And.intro (by omega) ?_
    refine Or.inl (cq (sdcg_fn t (l.getD i []) hs) (And.intro rfl (And.intro rfl trivial)) ?_)
    refine And.intro (fun h4 => ?_) (fun h4 => ?_)
    · have h4 : (!cgB t (l.getD i []) 0) = true := h4
      refine And.intro (no fun h => ?_) trivial
      rw [cgB_true.2 (h.cg _ (getD_mem (d := []) (by omega)))] at h4; cases h4
    · have h4 : (!cgB t (l.getD i []) 0) = false := h4
      refine And.intro (by omega) ?_
      refine nx (i + 1) ⟨by omega, fun j hj => ?_⟩ (show l.length - (i + 1) < l.length - i by omega) (by repeat' first | refine And.intro ?_ ?_ | exact True.intro | (show (_ : Int) = (_ : Int); omega) | omega | exact rfl | (simp only [RO.len]; omega))
      by_cases e : j = i
      · subst e; exact cgB_true.1 (by simpa using h4)
      · exact hc j (by omega)
  · have h3 : (l.length : Int) ≤ (i : Int) := h3
    have hcg : ∀ p ∈ l, IsCg t p 0 := fun p hp => by
      obtain ⟨j, hj, rfl⟩ := mem_getD [] hp
      exact hc j (by omega)
    have hpt : ∀ p ∈ l, Pt t.length p := fun p hp => (hcg p hp).pt
    have h0 : 0 < t.length := by omega
    have hsl := sfx_len t.length l
    have hs0 : (sfxL t.length l).getD 0 [] = mtL t.length l := by rw [sfx_get _ _ (Nat.zero_le _), List.drop_zero]
    have hpm : Pt t.length (mtL t.length l) := Pt.mtL (by omega) hpt
    refine Or.inl (cq (ssfx_fn t.length l h0 (by omega) (by omega) hpt) (And.intro rfl (And.intro rfl trivial)) ?_)
    refine And.intro (show 0 ≤ (0 : Int) ∧ (0 : Int) < ((sfxL t.length l).length : Int) by omega) ?_
    refine Or.inl (cq (scnt_fn ((sfxL t.length l).getD 0 []) (by rw [hs0]; exact hpm.2)) (And.intro rfl trivial) ?_)
    refine And.intro (fun h4 => ?_) (fun h4 => ?_)
    · have h4 : ¬ ((classN ((sfxL t.length l).getD 0 []) : Nat) : Int) = (t.length : Int) := h4
      rw [hs0] at h4
      exact And.intro (no fun h => by have := h.meet; omega) trivial
    have h4 : ((classN ((sfxL t.length l).getD 0 []) : Nat) : Int) = (t.length : Int) := h4
    rw [hs0] at h4
    refine Or.inl (cq (sred_fn t.length l h0 (by omega) (by omega) hpt) (And.intro rfl (And.intro rfl trivial)) ?_)
    refine And.intro (fun h5 => ?_) (fun h5 => ?_)
    · have h5 : ¬ ((redL t.length (List.replicate t.length 0) l).length : Int) = (l.length : Int) := h5
      exact And.intro (no fun h => by have := h.red; omega) trivial
    have h5 : ((redL t.length (List.replicate t.length 0) l).length : Int) = (l.length : Int) := h5
    refine Exists.intro [] <| lp (X := Nat) (fun i => [(52, .int .i64 i)]) (fun _ => []) (fun i => i ≤ l.length ∧ ∀ j, j < i → (minsL (quoL t (l.getD j []))).length = 1) (fun i => l.length - i) 0 ⟨Nat.zero_le _, fun j hj => absurd hj (Nat.not_lt_zero _)⟩ (by repeat' first | refine And.intro ?_ ?_ | exact True.intro | (show (_ : Int) = (_ : Int); omega) | omega | exact rfl | (simp only [RO.len]; omega)) ?_
    rintro k ⟨hk, hm⟩
    refine And.intro (fun h6 => ?_) (fun h6 => ?_)
    · have h6 : (k : Int) < (l.length : Int) := h6
      have hck := hcg _ (getD_mem (d := []) (show k < l.length by omega))
      have hql := hck.quo_le
      refine And.intro (by omega) ?_
      refine Or.inl (cq (sdquo_fn t (l.getD k []) hck) (And.intro rfl (And.intro rfl trivial)) ?_)
      refine Or.inr (Or.inr (ce (atoms_fn (quoL t (l.getD k [])) hck.quo (by omega)) (And.intro rfl trivial) ?_))
      intro L hL
      have hL : AtomsOk (quoL t (l.getD k [])) L := hL
      have hLn := hL.num
      refine And.intro (fun h7 => ?_) (fun h7 => ?_)
      · have h7 : ¬ (L.length : Int) = 1 := h7
        exact And.intro (no fun h => by have := h.irr _ (getD_mem (d := []) (show k < l.length by omega)); omega) trivial
      · have h7 : (L.length : Int) = 1 := h7
        refine And.intro (by omega) ?_
        refine nx (k + 1) ⟨by omega, fun j hj => ?_⟩ (show l.length - (k + 1) < l.length - k by omega) (by repeat' first | refine And.intro ?_ ?_ | exact True.intro | (show (_ : Int) = (_ : Int); omega) | omega | exact rfl | (simp only [RO.len]; omega))
        by_cases e : j = k
        · subst e; omega
        · exact hm j (by omega)
    · have h6 : (l.length : Int) ≤ (k : Int) := h6
      refine And.intro ?_ trivial
      refine (chkB_true.2 ⟨hs, by omega, hcg, by omega, by omega, fun p hp => ?_⟩).symm
      obtain ⟨j, hj, rfl⟩ := mem_getD [] hp
      exact hm j (by omega)
end Go.Proofs.Ytkbhgnbnnbengaa
end
section
/- Statements about subdirect decompositions: the sanity check. -/
namespace Go.Proofs.Ytkbhgnbnnbengaa
open Go Go.AM
set_option maxRecDepth 100000
def klL : List (List Int) := [[0, 1, 2, 3], [1, 0, 3, 2], [2, 3, 0, 1], [3, 2, 1, 0]]
def klP : List (List Int) := [[0, 0, 1, 1], [0, 1, 0, 1]]
def c2L : List (List Int) := [[0, 1], [1, 0]]
theorem semi_dec {t : List (List Int)} (h0 : 0 < t.length ∧ t.length ≤ 400) (h1 : ∀ r ∈ t, r.length = t.length ∧ ∀ x ∈ r, 0 ≤ x ∧ x < (t.length : Int)) (h2 : ∀ x, x < t.length → ∀ y, y < t.length → ∀ z, z < t.length → en t (en t x y) z = en t x (en t y z)) : Semi t :=
  ⟨⟨h0.1, h0.2, h1⟩, fun g hg x y hx hy => h2 x hx g hg y hy⟩
theorem semi_kl : Semi klL := semi_dec (by decide) (by decide +kernel) (by decide +kernel)
theorem semi_c2 : Semi c2L := semi_dec (by decide) (by decide +kernel) (by decide +kernel)
theorem cg_dec {t : List (List Int)} {p : List Int} (h : ∀ x, x < t.length → ∀ y, y < t.length → ∀ s, s < t.length → p.getD x 0 = p.getD y 0 → p.getD (en t s x) 0 = p.getD (en t s y) 0 ∧ p.getD (en t x s) 0 = p.getD (en t y s) 0) : Cg t p 0 :=
  fun x y s hx hy hs e => ⟨fun _ => (h x hx y hy s hs e).1, fun _ => (h x hx y hy s hs e).2⟩
theorem cg_kl {p : List Int} (hp : p ∈ klP) : IsCg klL p 0 := by
  have h : p = [0, 0, 1, 1] ∨ p = [0, 1, 0, 1] := by simpa [klP] using hp
  rcases h with rfl | rfl
  · exact ⟨semi_kl, rfl, ⟨by decide, by decide +kernel⟩, by decide, cg_dec (by decide +kernel)⟩
  · exact ⟨semi_kl, rfl, ⟨by decide, by decide +kernel⟩, by decide, cg_dec (by decide +kernel)⟩
theorem min_kl {p : List Int} (hp : p ∈ klP) : MinC klL p := by
  have hc := cg_kl hp
  have h : p = [0, 0, 1, 1] ∨ p = [0, 1, 0, 1] := by simpa [klP] using hp
  refine ⟨hc, ?_, fun q hq hj hs => ?_⟩
  · rcases h with rfl | rfl
    · exact ⟨0, 1, by decide, by decide, by decide, by decide⟩
    · exact ⟨0, 2, by decide, by decide, by decide, by decide⟩
  · obtain ⟨x, y, hx, hy, hne, e⟩ := hj
    have ep := hs x y hx hy e
    have g := hq.cg
    have hx : x < 4 := hx
    have hy : y < 4 := hy
    have k := fun s (h : s < 4) => (g x y s hx hy h e).1 (by decide)
    have k0 := k x hx
    have l := fun a b s (ha : a < 4) (hb : b < 4) (hs : s < 4) (h : q.getD a 0 = q.getD b 0) => (g a b s ha hb hs h).1 (by decide)
    rcases h with rfl | rfl
    · have e01 : q.getD 0 0 = q.getD 1 0 := by
        rcases x with _ | _ | _ | _ | x <;> rcases y with _ | _ | _ | _ | y <;> first | exact absurd ep (by decide) | exact absurd rfl hne | omega | exact k0
      have e23 : q.getD 2 0 = q.getD 3 0 := l 0 1 2 (by decide) (by decide) (by decide) e01
      intro a b ha hb e2
      have ha : a < 4 := ha
      have hb : b < 4 := hb
      rcases a with _ | _ | _ | _ | a <;> rcases b with _ | _ | _ | _ | b <;> first | exact absurd e2 (by decide) | rfl | exact e01 | exact e01.symm | exact e23 | exact e23.symm | omega
    · have e02 : q.getD 0 0 = q.getD 2 0 := by
        rcases x with _ | _ | _ | _ | x <;> rcases y with _ | _ | _ | _ | y <;> first | exact absurd ep (by decide) | exact absurd rfl hne | omega | exact k0
      have e13 : q.getD 1 0 = q.getD 3 0 := l 0 2 1 (by decide) (by decide) (by decide) e02
      intro a b ha hb e2
      have ha : a < 4 := ha
      have hb : b < 4 := hb
      rcases a with _ | _ | _ | _ | a <;> rcases b with _ | _ | _ | _ | b <;> first | exact absurd e2 (by decide) | rfl | exact e02 | exact e02.symm | exact e13 | exact e13.symm | omega
theorem irr_kl : ¬ Irr klL := fun ⟨_, h⟩ => by
  by_cases hM : ∃ M, Srt cmpL M ∧ ∀ p, p ∈ M ↔ MinC klL p
  · obtain ⟨M, hS, hm⟩ := hM
    rw [mins_of hS hm] at h
    match M, h with
    | [m], _ =>
      have a := (hm _).2 (min_kl (p := [0, 0, 1, 1]) (by decide))
      have b := (hm _).2 (min_kl (p := [0, 1, 0, 1]) (by decide))
      rw [List.mem_singleton] at a b
      rw [← b] at a
      exact absurd a (by decide)
  · unfold minsL at h
    rw [dif_neg hM] at h
    cases h
theorem min_c2 (p : List Int) : MinC c2L p ↔ p = [0, 0] := by
  have ht : IsCg c2L [0, 0] 0 := triv_cg semi_c2
  have key : ∀ q, Joins 2 q → q.getD 0 0 = q.getD 1 0 := fun q ⟨x, y, hx, hy, hne, e⟩ => by
    rcases x with _ | _ | x <;> rcases y with _ | _ | y <;> first | exact absurd rfl hne | omega | exact e | exact e.symm
  have sub : ∀ q r, Joins 2 q → Sub 2 r q := fun q r hj x y hx hy _ => by
    have := key q hj
    rcases x with _ | _ | x <;> rcases y with _ | _ | y <;> first | rfl | omega | exact this | exact this.symm
  constructor
  · intro h
    exact sub_eq h.cg.len ht.len h.cg.val.2 ht.val.2 (sub _ _ ⟨0, 1, by decide, by decide, by decide, by decide⟩) (sub _ _ h.jo)
  · rintro rfl
    exact ⟨ht, ⟨0, 1, by decide, by decide, by decide, by decide⟩, fun q _ hj _ => sub _ _ hj⟩
theorem mins_c2 : minsL c2L = [[0, 0]] := mins_of (List.pairwise_singleton _ _) fun p => by rw [min_c2, List.mem_singleton]
theorem irr_c2 : Irr c2L := ⟨semi_c2, by rw [mins_c2]; rfl⟩
theorem chk_kl : Chk klL klP := ⟨semi_kl, by decide, fun _ h => cg_kl h, by decide +kernel, by decide +kernel, fun p hp => by
  have h : p = [0, 0, 1, 1] ∨ p = [0, 1, 0, 1] := by simpa [klP] using hp
  have e : quoL klL p = c2L := by rcases h with rfl | rfl <;> decide +kernel
  rw [e]; exact irr_c2.2⟩
theorem klein_fn : QF 37 [] (.ro (.rows .i64 klL)) := mkQ Try.func37 (by decide +kernel) rfl (Nat.le_of_ble_eq_true rfl) fun _ => by
  exact And.intro (And.intro trivial rfl) trivial
theorem awake22_fn : QF 11 [] (.bool (.lit true)) := mkQ Try.func11 (by decide +kernel) rfl (Nat.le_of_ble_eq_true rfl) fun _ => by
  refine Or.inl (cq klein_fn trivial ?_)
  refine Or.inl (cq (sirr0_fn klL irr_kl fun _ => by decide) (And.intro rfl trivial) ?_)
  refine Or.inl (cq (sirr1_fn c2L irr_c2 (by decide)) (And.intro rfl trivial) ?_)
  refine Or.inl (cq klein_fn trivial ?_)
  refine Or.inl (cq (schk_fn klL klP fun _ => by decide) (And.intro rfl (And.intro rfl trivial)) ?_)
  exact And.intro (chkB_true.2 chk_kl) trivial
end Go.Proofs.Ytkbhgnbnnbengaa
end
section
/- References: FromPairs, the generated congruence: contracts. -/
namespace Go.Proofs.Ytkbhgnbnnbengaa
open Go Go.AM
set_option maxRecDepth 100000
theorem rpairs_k (n : Nat) (hn : n ≤ 4096) (l : List (Int × Int)) (hll : l.length ≤ 140737488355328) (hl : inW n l) : fnK TY SP Try.f117 [.int .i64 n, .ro (.pairs l)] (.new (.ints .i64 (eqP n (relP l)))) := by
  have n10 : ¬ (1 : Int) = ((0 : Nat) : Int) := by omega
  have n01 : ¬ (0 : Int) = ((0 + 1 : Nat) : Int) := by omega
  refine Or.inl (cq (rdis_fn n hn) (And.intro rfl trivial) ?_)
  refine Exists.intro [] <| lp2 (fun (i : Nat) (_ : List Int) => [(12, .int .i64 i)]) (fun _ p => [(9, .vec 0 (.ints .i64 p) [])]) (fun i p => i ≤ l.length ∧ KerOf n p (orR (fun _ _ => False) (l.take i))) (fun i _ => l.length - i) 0 (disI n) ⟨Nat.zero_le _, KerOf.dis fun a b h => h.elim id fun h => by simp [relP] at h⟩ (by repeat' first | refine And.intro ?_ ?_ | exact True.intro | (show (_ : Int) = (_ : Int); omega) | omega | exact rfl | (simp only [RO.len]; omega)) ?_
  rintro i p ⟨hi, hp⟩
  have hpl := hp.1
  refine And.intro (fun h1 => ?_) (fun h1 => ?_)
  · have h1 : (i : Int) < (l.length : Int) := h1
    have hil : i < l.length := by omega
    have hq := hl _ (getD_mem (d := ((0 : Int), (0 : Int))) (l := l) (i := i) hil)
    obtain ⟨a, ha⟩ : ∃ a : Nat, (a : Int) = (l.getD i (0, 0)).1 := ⟨_, Int.toNat_of_nonneg hq.1.1⟩
    obtain ⟨b, hb⟩ : ∃ b : Nat, (b : Int) = (l.getD i (0, 0)).2 := ⟨_, Int.toNat_of_nonneg hq.2.1⟩
    have hm := merge_fn p a b (by omega) (by omega) (by omega)
    rw [ha, hb] at hm
    have hn2 : KerOf n (mrgL p a b) (orR (fun _ _ => False) (l.take (i + 1))) := (hp.mrg (i := a) (j := b) (by omega) (by omega)).congr (fun x y h => .rel (by
        rw [take_get (d := (0, 0)) hil]
        rcases h with (h | h) | ⟨rfl, rfl⟩
        · exact .inl h
        · exact .inr (List.mem_append_left _ h)
        · refine .inr (List.mem_append_right _ (List.mem_singleton.2 ?_))
          rw [ha, hb])) fun x y h => .rel (by
        rw [take_get (d := (0, 0)) hil] at h
        rcases h with h | h
        · exact .inl (.inl h)
        · rcases List.mem_append.1 h with h | h
          · exact .inl (.inr h)
          · rw [List.mem_singleton] at h
            refine .inr ?_
            have h1 : (x : Int) = (l.getD i (0, 0)).1 := by rw [← h]
            have h2 : (y : Int) = (l.getD i (0, 0)).2 := by rw [← h]
            omega)
    refine And.intro (by omega) ?_
    refine And.intro (by omega) ?_
    refine And.intro (fun _ => ?_) (And.intro (fun h => absurd h n01) trivial)
    refine And.intro (by omega) ?_
    refine And.intro (fun h => absurd h n10) (And.intro (fun _ => ?_) trivial)
    refine Or.inr (Or.inl (cm [] [(1000, 9)] hm ?_))
    refine And.intro (by repeat' first | refine And.intro ?_ ?_ | exact True.intro | (show (_ : Int) = (_ : Int); omega) | omega | exact rfl | (simp only [RO.len]; omega)) ?_
    refine And.intro (by omega) ?_
    exact nx (i + 1, mrgL p a b) ⟨by omega, hn2⟩ (show l.length - (i + 1) < l.length - i by omega) (by repeat' first | refine And.intro ?_ ?_ | exact True.intro | (show (_ : Int) = (_ : Int); omega) | omega | exact rfl | (simp only [RO.len]; omega))
  · have h1 : (l.length : Int) ≤ (i : Int) := h1
    rw [List.take_of_length_le (by omega)] at hp
    have e : (if p.length ≤ 4096 then canon p else []) = eqP n (relP l) := by
      rw [if_pos (by omega)]
      exact eqP_of (hp.congr (fun a b h => h.elim (fun f => f.elim) .rel) fun a b h => .rel (.inr h))
    refine Or.inl (cq (rcanon_fn p) (And.intro rfl trivial) ?_)
    exact And.intro (And.intro (by omega) (congrArg (RO.ints .i64) e)) trivial
theorem rpairs_fn (n : Nat) (hn : n ≤ 4096) (l : List (Int × Int)) (hl : inW n l) : QF 117 [.int .i64 n, .ro (.pairs l)] (.new (.ints .i64 (eqP n (relP l)))) := mkQ Try.func117 (by decide +kernel) rfl (Nat.le_of_ble_eq_true rfl) fun hf => rpairs_k n hn l hf.2.1.1 hl
end Go.Proofs.Ytkbhgnbnnbengaa
end
section
/- The reference's generated congruence: contract. -/
namespace Go.Proofs.Ytkbhgnbnnbengaa
open Go Go.AM
set_option maxRecDepth 100000
def b1 (b : Bool) : Nat := match b with | true => 1 | false => 0
set_option maxHeartbeats 2000000 in
theorem rgnr_fn (t : List (List Int)) (l : List (Int × Int)) (side : Int) (hs : Sh t) (hl : inW t.length l) : QF 97 [.ro (.rows .i64 t), .ro (.pairs l), .int .i64 side] (.new (.ints .i64 (genP t side (relP l)))) := mkQ Try.func97 (by decide +kernel) rfl (Nat.le_of_ble_eq_true rfl) fun _ => by
  have hmost := hs.most
  refine Or.inl (cq (rpairs_fn t.length (by omega) l hl) (And.intro rfl (And.intro rfl trivial)) ?_)
  refine Exists.intro [] <| lp2 (fun (_ : List Int) (ch : Bool) => [(8, .bool (.v ch))]) (fun p _ => [(19, .vec 0 (.ints .i64 p) [])]) (fun p ch => RcB t side (relP l) p ∧ (ch = false → canon p = genP t side (relP l))) (fun p ch => classN p + b1 ch) (eqP t.length (relP l)) true ⟨RcB.ofPairs hl, fun h => by cases h⟩ (by repeat' first | refine And.intro ?_ ?_ | exact True.intro | (show (_ : Int) = (_ : Int); omega) | omega | exact rfl | (simp only [RO.len]; omega)) ?_
  rintro p0 ch0 ⟨hB, hdone⟩
  have hp0 := hB.len
  refine And.intro (fun h1 => ?_) (fun h1 => ?_)
  · have h1 : ch0 = true := h1
    refine Exists.intro [] <| lp3 (fun (x : Nat) (_ : List Int) (ch : Bool) => [(23, .int .i64 x), (8, .bool (.v ch))]) (fun _ p _ => [(19, .vec 0 (.ints .i64 p) [])]) (fun x p ch => x ≤ t.length ∧ RcI t side (relP l) p0 p ch x 0 0) (fun x _ _ => t.length - x) 0 p0 false ⟨Nat.zero_le _, RcI.start hB⟩ (by repeat' first | refine And.intro ?_ ?_ | exact True.intro | (show (_ : Int) = (_ : Int); omega) | omega | exact rfl | (simp only [RO.len]; omega)) ?_
    rintro x p1 ch1 ⟨hx, hI1⟩
    refine And.intro (fun h2 => ?_) (fun h2 => ?_)
    · have h2 : (x : Int) < (t.length : Int) := h2
      have hxl : x < t.length := by omega
      refine Exists.intro [] <| lp3 (fun (y : Nat) (_ : List Int) (ch : Bool) => [(10, .int .i64 y), (8, .bool (.v ch))]) (fun _ p _ => [(19, .vec 0 (.ints .i64 p) [])]) (fun y p ch => y ≤ x ∧ RcI t side (relP l) p0 p ch x y 0) (fun y _ _ => x - y) 0 p1 ch1 ⟨Nat.zero_le _, hI1⟩ (by repeat' first | refine And.intro ?_ ?_ | exact True.intro | (show (_ : Int) = (_ : Int); omega) | omega | exact rfl | (simp only [RO.len]; omega)) ?_
      rintro y p2 ch2 ⟨hy, hI2⟩
      refine And.intro (fun h3 => ?_) (fun h3 => ?_)
      · have h3 : (y : Int) < (x : Int) := h3
        have hyl : y < t.length := by omega
        refine Exists.intro [] <| lp3 (fun (s : Nat) (_ : List Int) (ch : Bool) => [(11, .int .i64 s), (8, .bool (.v ch))]) (fun _ p _ => [(19, .vec 0 (.ints .i64 p) [])]) (fun s p ch => s ≤ t.length ∧ RcI t side (relP l) p0 p ch x y s) (fun s _ _ => t.length - s) 0 p2 ch2 ⟨Nat.zero_le _, hI2⟩ (by repeat' first | refine And.intro ?_ ?_ | exact True.intro | (show (_ : Int) = (_ : Int); omega) | omega | exact rfl | (simp only [RO.len]; omega)) ?_
        rintro s p ch ⟨hsn, hI⟩
        have hpl := hI.b.len
        refine Or.inl ?_
        refine Exists.intro [false, false, false, false, false, false, false, false, false, false, false, false, false, false, false] (And.intro (by decide +kernel) ?_)
        refine And.intro (fun h4 => ?_) (fun h4 => ?_)
        · have h4 : (s : Int) < (t.length : Int) := h4
          have hsl : s < t.length := by omega
          refine And.intro (show 0 ≤ (x : Int) ∧ (x : Int) < (p.length : Int) by omega) ?_
          refine And.intro (show 0 ≤ (y : Int) ∧ (y : Int) < (p.length : Int) by omega) ?_
          refine And.intro (fun h5 => ?_) (fun h5 => ?_)
          · have h5 : p.getD x 0 = p.getD y 0 := h5
            have hxy := hI.b.up x y hxl hyl h5
            have e1 := hs.ent hsl hxl
            have e2 := hs.ent hsl hyl
            have e3 := hs.ent hxl hsl
            have e4 := hs.ent hyl hsl
            have r1 := hs.len hsl
            have r2 := hs.len hxl
            have r3 := hs.len hyl
            refine Or.inl ?_
            refine Exists.intro [false, false, false, false, false, false, false, false, false, false, false, false, false, false, false, false] (And.intro (by decide +kernel) ?_)
            refine And.intro (by omega) ?_
            refine And.intro (show 0 ≤ (x : Int) ∧ (x : Int) < ((t.getD s []).length : Int) by omega) ?_
            refine And.intro (by omega) ?_
            refine And.intro (show 0 ≤ (y : Int) ∧ (y : Int) < ((t.getD s []).length : Int) by omega) ?_
            refine Or.inl ?_
            refine Exists.intro [false, false, false, false, false, false, false, false, false, false, false, false, false] (And.intro (by decide +kernel) ?_)
            refine And.intro (fun h6 => ?_) (fun h6 => ?_)
            · have h6 : side ≠ 2 := h6
              refine And.intro (show 0 ≤ (t.getD s []).getD x 0 ∧ (t.getD s []).getD x 0 < (p.length : Int) by omega) ?_
              refine And.intro (show 0 ≤ (t.getD s []).getD y 0 ∧ (t.getD s []).getD y 0 < (p.length : Int) by omega) ?_
              refine And.intro (fun h7 => ?_) (fun h7 => ?_)
              · have h7 : p.getD ((t.getD s []).getD x 0).toNat 0 ≠ p.getD ((t.getD s []).getD y 0).toNat 0 := h7
                rw [e1.1, e2.1, Int.toNat_natCast, Int.toNat_natCast] at h7
                have hm := merge_fn p (en t s x) (en t s y) (by omega) (by omega) (by omega)
                rw [← e1.1, ← e2.1] at hm
                have hI1 := hI.mrg e1.2 e2.2 (.left h6 hsl hxl hyl hxy) h7 x y s
                refine Or.inr (Or.inl (cm [] [(1000, 19)] hm ?_))
                refine And.intro (by repeat' first | refine And.intro ?_ ?_ | exact True.intro | (show (_ : Int) = (_ : Int); omega) | omega | exact rfl | (simp only [RO.len]; omega)) ?_
                have hpl1 : (mrgL p (en t s x) (en t s y)).length = t.length := by rw [mrgL_len]; exact hpl
                refine Or.inl ?_
                refine Exists.intro [false, false, false, false, false, false, false, false, false, false, false, false, false, false, false, false] (And.intro (by decide +kernel) ?_)
                refine And.intro (by omega) ?_
                refine And.intro (show 0 ≤ (s : Int) ∧ (s : Int) < ((t.getD x []).length : Int) by omega) ?_
                refine And.intro (by omega) ?_
                refine And.intro (show 0 ≤ (s : Int) ∧ (s : Int) < ((t.getD y []).length : Int) by omega) ?_
                refine Or.inl ?_
                refine Exists.intro [false, false, false, false, false, false, false, false, false, false, false, false, false] (And.intro (by decide +kernel) ?_)
                refine And.intro (fun h8 => ?_) (fun h8 => ?_)
                · have h8 : side ≠ 1 := h8
                  refine And.intro (show 0 ≤ (t.getD x []).getD s 0 ∧ (t.getD x []).getD s 0 < ((mrgL p (en t s x) (en t s y)).length : Int) by omega) ?_
                  refine And.intro (show 0 ≤ (t.getD y []).getD s 0 ∧ (t.getD y []).getD s 0 < ((mrgL p (en t s x) (en t s y)).length : Int) by omega) ?_
                  refine And.intro (fun h9 => ?_) (fun h9 => ?_)
                  · have h9 : (mrgL p (en t s x) (en t s y)).getD ((t.getD x []).getD s 0).toNat 0 ≠ (mrgL p (en t s x) (en t s y)).getD ((t.getD y []).getD s 0).toNat 0 := h9
                    rw [e3.1, e4.1, Int.toNat_natCast, Int.toNat_natCast] at h9
                    have hm := merge_fn (mrgL p (en t s x) (en t s y)) (en t x s) (en t y s) (by omega) (by omega) (by omega)
                    rw [← e3.1, ← e4.1] at hm
                    refine Or.inr (Or.inl (cm [] [(1000, 19)] hm ?_))
                    refine And.intro (by repeat' first | refine And.intro ?_ ?_ | exact True.intro | (show (_ : Int) = (_ : Int); omega) | omega | exact rfl | (simp only [RO.len]; omega)) ?_
                    refine And.intro (by omega) ?_
                    exact nx (s + 1, mrgL (mrgL p (en t s x) (en t s y)) (en t x s) (en t y s), true) ⟨by omega, hI1.mrg e3.2 e4.2 (.right h8 hsl hxl hyl hxy) h9 x y (s + 1)⟩ (show t.length - (s + 1) < t.length - s by omega) (by repeat' first | refine And.intro ?_ ?_ | exact True.intro | (show (_ : Int) = (_ : Int); omega) | omega | exact rfl | (simp only [RO.len]; omega))
                  · have h9 : (mrgL p (en t s x) (en t s y)).getD ((t.getD x []).getD s 0).toNat 0 = (mrgL p (en t s x) (en t s y)).getD ((t.getD y []).getD s 0).toNat 0 := h9
                    rw [e3.1, e4.1, Int.toNat_natCast, Int.toNat_natCast] at h9
                    refine And.intro (by omega) ?_
                    exact nx (s + 1, mrgL p (en t s x) (en t s y), true) ⟨by omega, hI1.chd x y (s + 1)⟩ (show t.length - (s + 1) < t.length - s by omega) (by repeat' first | refine And.intro ?_ ?_ | exact True.intro | (show (_ : Int) = (_ : Int); omega) | omega | exact rfl | (simp only [RO.len]; omega))
                · have h8 : side = 1 := h8
                  refine And.intro (by omega) ?_
                  exact nx (s + 1, mrgL p (en t s x) (en t s y), true) ⟨by omega, hI1.chd x y (s + 1)⟩ (show t.length - (s + 1) < t.length - s by omega) (by repeat' first | refine And.intro ?_ ?_ | exact True.intro | (show (_ : Int) = (_ : Int); omega) | omega | exact rfl | (simp only [RO.len]; omega))
              · have h7 : p.getD ((t.getD s []).getD x 0).toNat 0 = p.getD ((t.getD s []).getD y 0).toNat 0 := h7
                rw [e1.1, e2.1, Int.toNat_natCast, Int.toNat_natCast] at h7
                have hLok : side ≠ 2 → p.getD (en t s x) 0 = p.getD (en t s y) 0 := fun _ => h7
                have hpl1 : (p).length = t.length := by exact hpl
                refine Or.inl ?_
                refine Exists.intro [false, false, false, false, false, false, false, false, false, false, false, false, false, false, false, false] (And.intro (by decide +kernel) ?_)
                refine And.intro (by omega) ?_
                refine And.intro (show 0 ≤ (s : Int) ∧ (s : Int) < ((t.getD x []).length : Int) by omega) ?_
                refine And.intro (by omega) ?_
                refine And.intro (show 0 ≤ (s : Int) ∧ (s : Int) < ((t.getD y []).length : Int) by omega) ?_
                refine Or.inl ?_
                refine Exists.intro [false, false, false, false, false, false, false, false, false, false, false, false, false] (And.intro (by decide +kernel) ?_)
                refine And.intro (fun h8 => ?_) (fun h8 => ?_)
                · have h8 : side ≠ 1 := h8
                  refine And.intro (show 0 ≤ (t.getD x []).getD s 0 ∧ (t.getD x []).getD s 0 < ((p).length : Int) by omega) ?_
                  refine And.intro (show 0 ≤ (t.getD y []).getD s 0 ∧ (t.getD y []).getD s 0 < ((p).length : Int) by omega) ?_
                  refine And.intro (fun h9 => ?_) (fun h9 => ?_)
                  · have h9 : (p).getD ((t.getD x []).getD s 0).toNat 0 ≠ (p).getD ((t.getD y []).getD s 0).toNat 0 := h9
                    rw [e3.1, e4.1, Int.toNat_natCast, Int.toNat_natCast] at h9
                    have hm := merge_fn (p) (en t x s) (en t y s) (by omega) (by omega) (by omega)
                    rw [← e3.1, ← e4.1] at hm
                    refine Or.inr (Or.inl (cm [] [(1000, 19)] hm ?_))
                    refine And.intro (by repeat' first | refine And.intro ?_ ?_ | exact True.intro | (show (_ : Int) = (_ : Int); omega) | omega | exact rfl | (simp only [RO.len]; omega)) ?_
                    refine And.intro (by omega) ?_
                    exact nx (s + 1, mrgL (p) (en t x s) (en t y s), true) ⟨by omega, hI.mrg e3.2 e4.2 (.right h8 hsl hxl hyl hxy) h9 x y (s + 1)⟩ (show t.length - (s + 1) < t.length - s by omega) (by repeat' first | refine And.intro ?_ ?_ | exact True.intro | (show (_ : Int) = (_ : Int); omega) | omega | exact rfl | (simp only [RO.len]; omega))
                  · have h9 : (p).getD ((t.getD x []).getD s 0).toNat 0 = (p).getD ((t.getD y []).getD s 0).toNat 0 := h9
                    rw [e3.1, e4.1, Int.toNat_natCast, Int.toNat_natCast] at h9
                    refine And.intro (by omega) ?_
                    exact nx (s + 1, p, ch) ⟨by omega, hI.okS ⟨hLok, fun _ => h9⟩⟩ (show t.length - (s + 1) < t.length - s by omega) (by repeat' first | refine And.intro ?_ ?_ | exact True.intro | (show (_ : Int) = (_ : Int); omega) | omega | exact rfl | (simp only [RO.len]; omega))
                · have h8 : side = 1 := h8
                  refine And.intro (by omega) ?_
                  exact nx (s + 1, p, ch) ⟨by omega, hI.okS ⟨hLok, fun h => absurd h8 h⟩⟩ (show t.length - (s + 1) < t.length - s by omega) (by repeat' first | refine And.intro ?_ ?_ | exact True.intro | (show (_ : Int) = (_ : Int); omega) | omega | exact rfl | (simp only [RO.len]; omega))
            · have h6 : side = 2 := h6
              have hLok : side ≠ 2 → p.getD (en t s x) 0 = p.getD (en t s y) 0 := fun h => absurd h6 h
              have hpl1 : (p).length = t.length := by exact hpl
              refine Or.inl ?_
              refine Exists.intro [false, false, false, false, false, false, false, false, false, false, false, false, false, false, false, false] (And.intro (by decide +kernel) ?_)
              refine And.intro (by omega) ?_
              refine And.intro (show 0 ≤ (s : Int) ∧ (s : Int) < ((t.getD x []).length : Int) by omega) ?_
              refine And.intro (by omega) ?_
              refine And.intro (show 0 ≤ (s : Int) ∧ (s : Int) < ((t.getD y []).length : Int) by omega) ?_
              refine Or.inl ?_
              refine Exists.intro [false, false, false, false, false, false, false, false, false, false, false, false, false] (And.intro (by decide +kernel) ?_)
              refine And.intro (fun h8 => ?_) (fun h8 => ?_)
              · have h8 : side ≠ 1 := h8
                refine And.intro (show 0 ≤ (t.getD x []).getD s 0 ∧ (t.getD x []).getD s 0 < ((p).length : Int) by omega) ?_
                refine And.intro (show 0 ≤ (t.getD y []).getD s 0 ∧ (t.getD y []).getD s 0 < ((p).length : Int) by omega) ?_
                refine And.intro (fun h9 => ?_) (fun h9 => ?_)
                · have h9 : (p).getD ((t.getD x []).getD s 0).toNat 0 ≠ (p).getD ((t.getD y []).getD s 0).toNat 0 := h9
                  rw [e3.1, e4.1, Int.toNat_natCast, Int.toNat_natCast] at h9
                  have hm := merge_fn (p) (en t x s) (en t y s) (by omega) (by omega) (by omega)
                  rw [← e3.1, ← e4.1] at hm
                  refine Or.inr (Or.inl (cm [] [(1000, 19)] hm ?_))
                  refine And.intro (by repeat' first | refine And.intro ?_ ?_ | exact True.intro | (show (_ : Int) = (_ : Int); omega) | omega | exact rfl | (simp only [RO.len]; omega)) ?_
                  refine And.intro (by omega) ?_
                  exact nx (s + 1, mrgL (p) (en t x s) (en t y s), true) ⟨by omega, hI.mrg e3.2 e4.2 (.right h8 hsl hxl hyl hxy) h9 x y (s + 1)⟩ (show t.length - (s + 1) < t.length - s by omega) (by repeat' first | refine And.intro ?_ ?_ | exact True.intro | (show (_ : Int) = (_ : Int); omega) | omega | exact rfl | (simp only [RO.len]; omega))
                · have h9 : (p).getD ((t.getD x []).getD s 0).toNat 0 = (p).getD ((t.getD y []).getD s 0).toNat 0 := h9
                  rw [e3.1, e4.1, Int.toNat_natCast, Int.toNat_natCast] at h9
                  refine And.intro (by omega) ?_
                  exact nx (s + 1, p, ch) ⟨by omega, hI.okS ⟨hLok, fun _ => h9⟩⟩ (show t.length - (s + 1) < t.length - s by omega) (by repeat' first | refine And.intro ?_ ?_ | exact True.intro | (show (_ : Int) = (_ : Int); omega) | omega | exact rfl | (simp only [RO.len]; omega))
              · have h8 : side = 1 := h8
                refine And.intro (by omega) ?_
                exact nx (s + 1, p, ch) ⟨by omega, hI.okS ⟨hLok, fun h => absurd h8 h⟩⟩ (show t.length - (s + 1) < t.length - s by omega) (by repeat' first | refine And.intro ?_ ?_ | exact True.intro | (show (_ : Int) = (_ : Int); omega) | omega | exact rfl | (simp only [RO.len]; omega))
          · have h5 : p.getD x 0 ≠ p.getD y 0 := h5
            refine And.intro (by omega) ?_
            exact nx (y + 1, p, ch) ⟨by omega, hI.endS (.inr h5)⟩ (show x - (y + 1) < x - y by omega) (by repeat' first | refine And.intro ?_ ?_ | exact True.intro | (show (_ : Int) = (_ : Int); omega) | omega | exact rfl | (simp only [RO.len]; omega))
        · have h4 : (t.length : Int) ≤ (s : Int) := h4
          refine And.intro (by omega) ?_
          exact nx (y + 1, p, ch) ⟨by omega, hI.endS (.inl (by omega))⟩ (show x - (y + 1) < x - y by omega) (by repeat' first | refine And.intro ?_ ?_ | exact True.intro | (show (_ : Int) = (_ : Int); omega) | omega | exact rfl | (simp only [RO.len]; omega))
      · have h3 : (x : Int) ≤ (y : Int) := h3
        refine And.intro (by omega) ?_
        exact nx (x + 1, p2, ch2) ⟨by omega, hI2.endY (by omega)⟩ (show t.length - (x + 1) < t.length - x by omega) (by repeat' first | refine And.intro ?_ ?_ | exact True.intro | (show (_ : Int) = (_ : Int); omega) | omega | exact rfl | (simp only [RO.len]; omega))
    · have h2 : (t.length : Int) ≤ (x : Int) := h2
      refine nx (p1, ch1) ⟨hI1.b, fun h => by subst h; exact hI1.done (by omega)⟩ ?_ (by repeat' first | refine And.intro ?_ ?_ | exact True.intro | (show (_ : Int) = (_ : Int); omega) | omega | exact rfl | (simp only [RO.len]; omega))
      show classN p1 + b1 ch1 < classN p0 + b1 ch0
      rw [h1]
      have hle := hI1.le
      cases hc : ch1 with
      | true => have := hI1.cd hc; show classN p1 + 1 < classN p0 + 1; omega
      | false => show classN p1 + 0 < classN p0 + 1; omega
  · have h1 : ch0 = false := h1
    have e : (if p0.length ≤ 4096 then canon p0 else []) = genP t side (relP l) := by rw [if_pos (by omega)]; exact hdone h1
    refine Or.inl (cq (rcanon_fn p0) (And.intro rfl trivial) ?_)
    exact And.intro (And.intro (by omega) (congrArg (RO.ints .i64) e)) trivial
end Go.Proofs.Ytkbhgnbnnbengaa
end
section
/- Package partition: Refines; mult.Opposite: contracts. -/
namespace Go.Proofs.Ytkbhgnbnnbengaa
open Go Go.AM
set_option maxRecDepth 100000
def Rf (p q : List Int) : Prop := ∀ i j, i < p.length → j < p.length → p.getD i 0 = p.getD j 0 → q.getD i 0 = q.getD j 0
noncomputable def rfB (p q : List Int) : Bool := @decide (Rf p q) (Classical.propDecidable _)
theorem rfB_true {p q : List Int} : rfB p q = true ↔ Rf p q := by unfold rfB; exact @decide_eq_true_iff _ (Classical.propDecidable _)
theorem rfB_false {p q : List Int} : rfB p q = false ↔ ¬ Rf p q := by unfold rfB; exact @decide_eq_false_iff_not _ (Classical.propDecidable _)
/-! ### The opposite semigroup -/
end Go.Proofs.Ytkbhgnbnnbengaa
end
