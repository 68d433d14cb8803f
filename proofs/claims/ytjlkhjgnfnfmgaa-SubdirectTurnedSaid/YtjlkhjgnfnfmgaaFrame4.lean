import Derived.Test.YtjlkhjgnfnfmgaaSdRef
import Derived.Test.YtjlkhjgnfnfmgaaJoin
import Derived.Test.YtjlkhjgnfnfmgaaQuoLaw
import Derived.Test.YtjlkhjgnfnfmgaaLp
import Derived.Test.YtjlkhjgnfnfmgaaReesLaw
import Derived.Test.YtjlkhjgnfnfmgaaRefCgG
import Derived.Test.YtjlkhjgnfnfmgaaRows
import Derived.Deep.Matrix
import Derived.Deep.Fields
import Derived.SizedLaws
import Derived.Carry
import Derived.WideKeyArgs
import Derived.ProofKit
import Derived.OpenShut
section
/- The reference's Check; the statement SubdirectChecks: contracts and walk. -/
namespace Go.Proofs.Ytjlkhjgnfnfmgaa
open Go Go.AM
set_option maxRecDepth 100000
theorem Pt.rng {n : Nat} {p : List Int} (h : Pt n p) (hn : n ≤ 4095) : ∀ i, i < p.length → 0 ≤ p.getD i 0 ∧ p.getD i 0 < 4096 := fun i hi => by
  have := cls_lt h.2.2 hi
  have h1 : classN p ≤ p.length := firsts_le p
  have := h.1
  omega
theorem rmt_fn {n : Nat} {p q : List Int} (hn : n ≤ 4095) (hp : Pt n p) (hq : Pt n q) : QF 135 [.ro (.ints .i64 p), .ro (.ints .i64 q)] (.new (.ints .i64 (mtP p q))) :=
  rmeet_fn p q (hp.1.trans hq.1.symm) (by have := hp.1; omega) (hp.rng hn) (hq.rng hn)
theorem rmt22_fn (n : Nat) (l : List (List Int)) (but : Int) (hn : n ≤ 4095) (hl : l.length ≤ 4096) (hp : ∀ p ∈ l, Pt n p) : QF 62 [.int .i64 n, .ro (.rows .i64 l), .int .i64 but] (.ro (.ints .i64 (rmt n l but l.length))) := mkQ Try.func62 (by decide +kernel) rfl (Nat.le_of_ble_eq_true rfl) fun _ => by
  refine And.intro (by omega) ?_
  refine And.intro (by omega) ?_
  refine Exists.intro [11, 22, 24, 10011, 10024] <| lp2 (fun (k : Nat) (b : List Int) => [(14, .int .i64 k), (7, .ro (.ints .i64 b))]) (fun _ _ => []) (fun k b => k ≤ l.length ∧ b = rmt n l but k) (fun k _ => l.length - k) 0 (List.replicate n 0) ⟨Nat.zero_le _, rfl⟩ (by repeat' first | refine And.intro ?_ ?_ | exact True.intro | (show (_ : Int) = (_ : Int); omega) | omega | exact rfl | (simp only [RO.len]; omega)) ?_
  rintro k b ⟨hk, hb⟩
  have hbp : Pt n b := by rw [hb]; exact rmt_pt (by omega) hp hk
  refine And.intro (fun h1 => ?_) (fun h1 => ?_)
  · have h1 : (k : Int) < (l.length : Int) := h1
    have hkp : Pt n (l.getD k []) := hp _ (getD_mem (d := []) (by omega))
    refine And.intro (by omega) ?_
    refine And.intro (fun h2 => ?_) (fun h2 => ?_)
    · have h2 : ¬ (k : Int) = but := h2
      refine Or.inl (cq (rmt_fn hn hbp hkp) (And.intro rfl (And.intro rfl trivial)) ?_)
      refine And.intro (by omega) ?_
      exact nx (k + 1, mtP b (l.getD k [])) ⟨by omega, by unfold rmt; rw [if_pos h2, hb]⟩ (show l.length - (k + 1) < l.length - k by omega) (by repeat' first | refine And.intro ?_ ?_ | exact True.intro | (show (_ : Int) = (_ : Int); omega) | omega | exact rfl | (simp only [RO.len]; omega))
    · have h2 : (k : Int) = but := h2
      refine And.intro (by omega) ?_
      exact nx (k + 1, b) ⟨by omega, by unfold rmt; rw [if_neg (fun h => h h2), hb]⟩ (show l.length - (k + 1) < l.length - k by omega) (by repeat' first | refine And.intro ?_ ?_ | exact True.intro | (show (_ : Int) = (_ : Int); omega) | omega | exact rfl | (simp only [RO.len]; omega))
  · have h1 : (l.length : Int) ≤ (k : Int) := h1
    have e : k = l.length := by omega
    refine And.intro ?_ trivial
    exact congrArg (RO.ints .i64) (by rw [hb, e])
set_option maxHeartbeats 1000000 in
theorem rchk_fn (t l : List (List Int)) (ht : Semi t → t.length ≤ 60) (hl : l.length ≤ 4096) : QF 14 [.ro (.rows .i64 t), .ro (.rows .i64 l)] (.bool (.v (chkB t l))) := mkQ Try.func14 (by decide +kernel) rfl (Nat.le_of_ble_eq_true rfl) fun _ => by
  have no : ¬ RChk t l → (BE.lit false).val = (BE.v (chkB t l)).val := fun h => (chkB_false.2 fun h2 => h (chk_iff.1 h2)).symm
  refine Or.inl (cq (rvalid_fn t) (And.intro rfl trivial) ?_)
  refine And.intro (fun h1 => ?_) (fun h1 => ?_)
  · have h1 : (!decide (validV t = 0)) = true := h1
    refine And.intro (no fun h => ?_) trivial
    rw [decide_eq_true (valid_zero.2 h.semi)] at h1; cases h1
  have h1 : (!decide (validV t = 0)) = false := h1
  have hs : Semi t := valid_zero.1 (by simpa using h1)
  have hn := ht hs
  refine Exists.intro [] <| lp (X := Nat) (fun i => [(15, .int .i64 i)]) (fun _ => []) (fun i => i ≤ l.length ∧ ∀ j, j < i → IsCg t (l.getD j []) 0 ∧ Irr (quoL t (l.getD j []))) (fun i => l.length - i) 0 ⟨Nat.zero_le _, fun j hj => absurd hj (Nat.not_lt_zero _)⟩ (by repeat' first | refine And.intro ?_ ?_ | exact True.intro | (show (_ : Int) = (_ : Int); omega) | omega | exact rfl | (simp only [RO.len]; omega)) ?_
  rintro i ⟨hi, hc⟩
  refine And.intro (fun h3 => ?_) (fun h3 => ?_)
  · have h3 : (i : Int) < (l.length : Int) := h3
    have hmem : l.getD i [] ∈ l := getD_mem (d := []) (by omega)
    refine And.intro (by omega) ?_
    refine Or.inl (cq (rcgr_fn t (l.getD i []) 0) (And.intro rfl (And.intro rfl (And.intro rfl trivial))) ?_)
    refine And.intro (fun h4 => ?_) (fun h4 => ?_)
    · have h4 : (!cgB t (l.getD i []) 0) = true := h4
      refine And.intro (no fun h => ?_) trivial
      rw [cgB_true.2 (h.cg _ hmem)] at h4; cases h4
    have h4 : (!cgB t (l.getD i []) 0) = false := h4
    have hcg : IsCg t (l.getD i []) 0 := cgB_true.1 (by simpa using h4)
    have hql := hcg.quo_le
    refine Or.inl (cq (rcQuo_fn t (l.getD i []) hs hcg.len hcg.val) (And.intro rfl (And.intro rfl trivial)) ?_)
    by_cases hI : Irr (quoL t (l.getD i []))
    · refine Or.inl (cq (rirr1_fn _ hI (by omega)) (And.intro rfl trivial) ?_)
      refine And.intro (by omega) ?_
      refine nx (i + 1) ⟨by omega, fun j hj => ?_⟩ (show l.length - (i + 1) < l.length - i by omega) (by repeat' first | refine And.intro ?_ ?_ | exact True.intro | (show (_ : Int) = (_ : Int); omega) | omega | exact rfl | (simp only [RO.len]; omega))
      by_cases e : j = i
      · subst e; exact ⟨hcg, hI⟩
      · exact hc j (by omega)
    · refine Or.inl (cq (rirr0_fn _ hI (fun _ => by omega)) (And.intro rfl trivial) ?_)
      exact And.intro (no fun h => hI (h.irr _ hmem)) trivial
  · have h3 : (l.length : Int) ≤ (i : Int) := h3
    have hall : ∀ p ∈ l, IsCg t p 0 ∧ Irr (quoL t p) := fun p hp => by
      obtain ⟨j, hj, rfl⟩ := mem_getD [] hp
      exact hc j (by omega)
    have hpt : ∀ p ∈ l, Pt t.length p := fun p hp => (hall p hp).1.pt
    have hr : ∀ but, Pt t.length (rmt t.length l but l.length) := fun but => rmt_pt (by omega) hpt (Nat.le_refl _)
    refine Or.inl (cq (rmt22_fn t.length l (-1) (by omega) hl hpt) (And.intro rfl (And.intro rfl (And.intro rfl trivial))) ?_)
    refine Or.inl (cq (rcount_fn (rmt t.length l (-1) l.length) (hr _).2) (And.intro rfl trivial) ?_)
    refine And.intro (fun h4 => ?_) (fun h4 => ?_)
    · have h4 : ¬ ((classN (rmt t.length l (-1) l.length) : Nat) : Int) = (t.length : Int) := h4
      exact And.intro (no fun h => by have := h.meet; omega) trivial
    have h4 : ((classN (rmt t.length l (-1) l.length) : Nat) : Int) = (t.length : Int) := h4
    refine Exists.intro [] <| lp (X := Nat) (fun i => [(43, .int .i64 i)]) (fun _ => []) (fun i => i ≤ l.length ∧ ∀ j, j < i → classN (rmt t.length l j l.length) ≠ t.length) (fun i => l.length - i) 0 ⟨Nat.zero_le _, fun j hj => absurd hj (Nat.not_lt_zero _)⟩ (by repeat' first | refine And.intro ?_ ?_ | exact True.intro | (show (_ : Int) = (_ : Int); omega) | omega | exact rfl | (simp only [RO.len]; omega)) ?_
    rintro k ⟨hk, hm⟩
    refine And.intro (fun h6 => ?_) (fun h6 => ?_)
    · have h6 : (k : Int) < (l.length : Int) := h6
      refine Or.inl (cq (rmt22_fn t.length l k (by omega) hl hpt) (And.intro rfl (And.intro rfl (And.intro rfl trivial))) ?_)
      refine Or.inl (cq (rcount_fn (rmt t.length l k l.length) (hr _).2) (And.intro rfl trivial) ?_)
      refine And.intro (fun h7 => ?_) (fun h7 => ?_)
      · have h7 : ((classN (rmt t.length l k l.length) : Nat) : Int) = (t.length : Int) := h7
        exact And.intro (no fun h => h.red k (by omega) (by omega)) trivial
      · have h7 : ¬ ((classN (rmt t.length l k l.length) : Nat) : Int) = (t.length : Int) := h7
        refine And.intro (by omega) ?_
        refine nx (k + 1) ⟨by omega, fun j hj => ?_⟩ (show l.length - (k + 1) < l.length - k by omega) (by repeat' first | refine And.intro ?_ ?_ | exact True.intro | (show (_ : Int) = (_ : Int); omega) | omega | exact rfl | (simp only [RO.len]; omega))
        by_cases e : j = k
        · subst e; exact fun h => h7 (by omega)
        · exact hm j (by omega)
    · have h6 : (l.length : Int) ≤ (k : Int) := h6
      refine And.intro ?_ trivial
      exact (chkB_true.2 (chk_iff.2 ⟨hs, fun p hp => (hall p hp).1, fun p hp => (hall p hp).2, by omega, fun j hj => hm j (by omega)⟩)).symm
end Go.Proofs.Ytjlkhjgnfnfmgaa
end
section
/- The reference's Copy of rows: contract. -/
namespace Go.Proofs.Ytjlkhjgnfnfmgaa
open Go Go.AM
set_option maxRecDepth 100000
theorem rcopy_fn (l : List (List Int)) (hl : l.length ≤ 100000) (hr : ∀ p ∈ l, p.length ≤ 100000) : QF 12 [.ro (.rows .i64 l)] (.new (.rows .i64 l)) := mkQ Try.func12 (by decide +kernel) rfl (Nat.le_of_ble_eq_true rfl) fun _ => by
  refine Exists.intro [] <| lp (X := Nat) (fun i => [(8, .int .i64 i), (3, .vec 17)]) (fun i => [(17, .vec 0 (.rows .i64 (l.take i)) [])]) (fun i => i ≤ l.length) (fun i => l.length - i) 0 (Nat.zero_le _) (by repeat' first | refine And.intro ?_ ?_ | exact True.intro | (show (_ : Int) = (_ : Int); omega) | omega | exact rfl | (simp only [RO.len]; omega)) ?_
  rintro i hi
  refine And.intro (fun h1 => ?_) (fun h1 => ?_)
  · have h1 : (i : Int) < (l.length : Int) := h1
    have hil : i < l.length := by omega
    have hrl := hr _ (getD_mem (d := []) hil)
    have he : l.take i ++ [[] ++ l.getD i []] = l.take (i + 1) := by
      rw [List.nil_append, List.take_succ_eq_append_getElem hil, ← getD_eq (d := []) hil]
    have hlen : (l.take i ++ [[] ++ l.getD i []]).length = i + 1 := by rw [he, List.length_take]; omega
    refine And.intro (by omega) ?_
    refine And.intro (show (([] ++ l.getD i [] : List Int).length : Int) ≤ 17592186044416 by rw [List.nil_append]; omega) ?_
    refine And.intro (show ((l.take i ++ [[] ++ l.getD i []]).length : Int) ≤ 2199023255552 by omega) ?_
    refine And.intro (by omega) ?_
    exact nx (i + 1) (show i + 1 ≤ l.length by omega) (show l.length - (i + 1) < l.length - i by omega) (by repeat' first | refine And.intro ?_ ?_ | exact True.intro | exact congrArg (RO.rows .i64) he | omega | exact rfl)
  · have h1 : (l.length : Int) ≤ (i : Int) := h1
    have hie : i = l.length := by omega
    subst hie
    refine And.intro (And.intro (by omega) ?_) trivial
    exact congrArg (RO.rows .i64) (List.take_length)
end Go.Proofs.Ytjlkhjgnfnfmgaa
end
section
/- What is handed over as owned may be taken as read only. -/
namespace Go.Proofs.Ytjlkhjgnfnfmgaa
open Go Go.AM
theorem new_ro {f : FuncId} {args : List AV} {r : RO} (h : QF f args (.new r)) : QF f args (.ro r) := by
  refine ⟨h.1, fun M w vs hM hv => (h.2 M w vs hM hv).mono fun e w' ⟨v, he, hs, M', h1, h2, hr⟩ => ?_⟩
  obtain ⟨o, rfl, hV, hf⟩ := hr
  obtain ⟨e1, e2, e3, _, hb⟩ := hV
  refine ⟨_, he, hs, fun b off => M' b off ∧ o.blk ≠ some b, fun b off hlt => ?_, fun b off hm => h2 b off hm.1, ?_⟩
  · rw [← h1 b off hlt]
    exact ⟨fun hh => hh.1, fun hh => ⟨hh, fun e => by have := hf b e; omega⟩⟩
  · have hk : Keep w' M' w' fun b off => M' b off ∧ o.blk ≠ some b := fun b off c hc hn => ⟨hc, fun hh => hn hh.1⟩
    show RepRO w' _ r o.val
    cases ho : o.blk with
    | none =>
      rw [ho] at hb
      obtain ⟨b1, b2⟩ := hb
      exact ⟨e3, none, o.cap, by unfold Sl.val; rw [ho, e1]; rfl, by omega, .inl (by unfold RO.cells; rw [b1, Nat.zero_mul])⟩
    | some b =>
      rw [ho] at hb
      obtain ⟨b1, cs, ty, b2, b3, b4, b5⟩ := hb
      refine ⟨e3, some ⟨b, 0, none⟩, o.cap, by unfold Sl.val; rw [ho, e1]; rfl, by omega, .inr ⟨b, 0, rfl, fun q hq => ?_⟩⟩
      obtain ⟨c, c1, c2⟩ := b5 q hq
      have hkc : Keep w' M' w' fun b' off => M' b' off ∧ some b ≠ some b' := by rw [← ho]; exact hk
      exact ⟨c, by rw [cell_of_heap b2, Nat.zero_add]; exact c1, fun hh => hh.2 rfl, c2.keep hkc⟩
theorem mf_of_q {f : FuncId} {args : List AV} {e : BE} (h : QF f args (.bool e)) : MF f args [] (.bool e) [] := by
  refine ⟨h.1, fun ρ M w vs st hv => ?_⟩
  have hρ : ρ = noEnv := funext fun k => by
    have := st.dom k
    cases hk : ρ k with
    | none => rfl
    | some o => rw [hk] at this; cases this
  subst hρ
  refine (h.2 M w vs st.mlt hv).mono fun e w' ⟨v, he, hs, M', h1, h2, hr⟩ => ⟨v, noEnv, M', he, ?_, hr⟩
  have no : ∀ k b, ¬ hasB noEnv k b := fun k b hb => hb
  refine ⟨fun _ => rfl, fun _ _ hB => ?_, fun k k' b hb => (no k b hb).elim, h2, ?_, fun b off hb hm => (h1 b off hb).1 hm, fun b off hb _ hm => (h1 b off hb).2 hm, fun k b hb => (no k b hb).elim, fun k o _ ho => ?_⟩
  · cases hB
  · exact ⟨hs.1, fun b hb => (hs.2 b hb).imp id fun h => h.imp (fun ⟨cs, cs', ty, g1, g2, g3, g4⟩ => ⟨cs, cs', ty, g1, g2, g3, fun i _ => g4 i (fun hf => hf)⟩) fun ⟨_, _, _, _, _, _, hf⟩ => hf.elim, hs.3⟩
  · cases ho
end Go.Proofs.Ytjlkhjgnfnfmgaa
end
section
/- The statement SubdirectTurned: the walk. -/
namespace Go.Proofs.Ytjlkhjgnfnfmgaa
open Go Go.AM
set_option maxRecDepth 100000
theorem tmod_bnd (a : Int) {n : Int} (h : 0 < n) : -n < a.tmod n ∧ a.tmod n < n :=
  ⟨by have := Int.lt_tmod_of_pos a h; omega, Int.tmod_lt_of_pos a h⟩
set_option maxHeartbeats 2000000 in
theorem sdTrnA_k (t : List (List Int)) (what at_ : Int) (p : List Int) (hw : andI .i64 what 3 = 0) (_ha : -9223372036854775808 ≤ at_ ∧ at_ ≤ 9223372036854775807) : fnK TY SP Try.f3 [.ro (.rows .i64 t), .int .i64 what, .int .i64 at_, .ro (.ints .i64 p)] (.bool (.lit true)) := by
  refine Or.inl (cq (small22_fn t 7) (And.intro rfl (And.intro rfl trivial)) ?_)
  refine And.intro (fun _ => ?_) (fun h1 => ?_)
  · refine Or.inl (cq awake22_fn trivial ?_)
    exact And.intro rfl trivial
  have h1 : (!decide ((t.length : Int) ≤ 7 ∧ validV t = 0)) = false := h1
  have h1 : (t.length : Int) ≤ 7 ∧ validV t = 0 := by simpa using h1
  have hs := valid_zero.1 h1.2
  have hn : Semi t → t.length ≤ 60 := fun _ => by omega
  refine Or.inr (Or.inr (ce (dec_fn t hs (hn hs)) (And.intro rfl trivial) ?_))
  intro R hR
  have hR : DecOk t R := hR
  have hf := hR.chk.few
  have hRp : ∀ q ∈ R, q.length ≤ 100000 := fun q hq => by have := (hR.chk.cg q hq).len; omega
  refine And.intro (fun h => absurd rfl h) (fun _ => ?_)
  refine Or.inl (cq (new_ro (rcopy_fn R (by omega) hRp)) (And.intro rfl trivial) ?_)
  refine And.intro (fun h2 => ?_) (fun h2 => ?_)
  · have h2 : 0 < (R.length : Int) := h2
    have hm := tmod_bnd at_ h2
    have hi0 : 0 ≤ (at_.tmod (R.length : Int) + (R.length : Int)) % (R.length : Int) := Int.emod_nonneg _ (by omega)
    have hi1 : (at_.tmod (R.length : Int) + (R.length : Int)) % (R.length : Int) < (R.length : Int) := Int.emod_lt_of_pos _ h2
    refine Or.inr ?_
    refine And.intro (by omega) ?_
    refine And.intro (by omega) ?_
    refine Or.inl ?_
    refine And.intro (by omega) ?_
    refine And.intro (fun _ => ?_) (fun h3 => absurd hw h3)
    refine Or.inl ?_
    refine Exists.intro [false, false, false, false, false, false, false, false, true, true] (And.intro (by decide +kernel) ?_)
    generalize hgi : (at_.tmod (R.length : Int) + (R.length : Int)) % (R.length : Int) = i at hi0 hi1 ⊢
    refine And.intro (by omega) ?_
    refine And.intro (by omega) ?_
    refine And.intro (by omega) ?_
    refine And.intro (by simp; omega) ?_
    refine And.intro (fun _ => ?_) (fun _ => ?_)
    · refine Or.inl (cq (schk_fn t (List.drop 0 (List.take i.toNat R)) hn) (And.intro rfl (And.intro rfl trivial)) ?_)
      refine Or.inl (cq (rchk_fn t (List.drop 0 (List.take i.toNat R)) hn (by simp; omega)) (And.intro rfl (And.intro rfl trivial)) ?_)
      refine And.intro (fun _ => ?_) (fun h => absurd (h.symm.trans (beq_self_eq_true (chkB t (List.drop 0 (List.take i.toNat R))))) (by decide))
      refine Or.inl (cq awake22_fn trivial ?_)
      exact And.intro rfl trivial
    · refine Or.inl (cq (schk_fn t (List.drop 0 (List.take i.toNat R) ++ List.drop (i + 1).toNat (List.take (R.length : Int).toNat R)) hn) (And.intro rfl (And.intro rfl trivial)) ?_)
      refine Or.inl (cq (rchk_fn t (List.drop 0 (List.take i.toNat R) ++ List.drop (i + 1).toNat (List.take (R.length : Int).toNat R)) hn (by simp; omega)) (And.intro rfl (And.intro rfl trivial)) ?_)
      refine And.intro (fun _ => ?_) (fun h => absurd (h.symm.trans (beq_self_eq_true (chkB t (List.drop 0 (List.take i.toNat R) ++ List.drop (i + 1).toNat (List.take (R.length : Int).toNat R))))) (by decide))
      refine Or.inl (cq awake22_fn trivial ?_)
      exact And.intro rfl trivial
  · have h2 : (R.length : Int) ≤ 0 := h2
    refine Or.inl (cq (schk_fn t R hn) (And.intro rfl (And.intro rfl trivial)) ?_)
    refine Or.inl (cq (rchk_fn t R hn (by omega)) (And.intro rfl (And.intro rfl trivial)) ?_)
    refine And.intro (fun _ => ?_) (fun h => absurd (h.symm.trans (beq_self_eq_true (chkB t R))) (by decide))
    refine Or.inl (cq awake22_fn trivial ?_)
    exact And.intro rfl trivial
set_option maxHeartbeats 2000000 in
theorem sdTrnB_k (t : List (List Int)) (what at_ : Int) (p : List Int) (hw : andI .i64 what 3 ≠ 0) (_ha : -9223372036854775808 ≤ at_ ∧ at_ ≤ 9223372036854775807) (hp : p.length ≤ 17592186044416) : fnK TY SP Try.f3 [.ro (.rows .i64 t), .int .i64 what, .int .i64 at_, .ro (.ints .i64 p)] (.bool (.lit true)) := by
  refine Or.inl (cq (small22_fn t 7) (And.intro rfl (And.intro rfl trivial)) ?_)
  refine And.intro (fun _ => ?_) (fun h1 => ?_)
  · refine Or.inl (cq awake22_fn trivial ?_)
    exact And.intro rfl trivial
  have h1 : (!decide ((t.length : Int) ≤ 7 ∧ validV t = 0)) = false := h1
  have h1 : (t.length : Int) ≤ 7 ∧ validV t = 0 := by simpa using h1
  have hs := valid_zero.1 h1.2
  have hn : Semi t → t.length ≤ 60 := fun _ => by omega
  refine Or.inr (Or.inr (ce (dec_fn t hs (hn hs)) (And.intro rfl trivial) ?_))
  intro R hR
  have hR : DecOk t R := hR
  have hf := hR.chk.few
  have hRp : ∀ q ∈ R, q.length ≤ 100000 := fun q hq => by have := (hR.chk.cg q hq).len; omega
  refine And.intro (fun h => absurd rfl h) (fun _ => ?_)
  refine Or.inl (cq (rcopy_fn R (by omega) hRp) (And.intro rfl trivial) ?_)
  refine And.intro (fun h2 => ?_) (fun h2 => ?_)
  · have h2 : 0 < (R.length : Int) := h2
    have hm := tmod_bnd at_ h2
    have hi0 : 0 ≤ (at_.tmod (R.length : Int) + (R.length : Int)) % (R.length : Int) := Int.emod_nonneg _ (by omega)
    have hi1 : (at_.tmod (R.length : Int) + (R.length : Int)) % (R.length : Int) < (R.length : Int) := Int.emod_lt_of_pos _ h2
    refine Or.inr ?_
    refine And.intro (by omega) ?_
    refine And.intro (by omega) ?_
    refine Or.inl ?_
    refine And.intro (by omega) ?_
    generalize hgi : (at_.tmod (R.length : Int) + (R.length : Int)) % (R.length : Int) = i at hi0 hi1 ⊢
    refine And.intro (fun h3 => absurd h3 hw) (fun _ => ?_)
    refine And.intro (fun _ => ?_) (fun _ => ?_)
    · refine And.intro (by omega) ?_
      refine And.intro (by simp; omega) ?_
      refine Or.inl (cq (schk_fn t (R ++ [R.getD i.toNat []]) hn) (And.intro rfl (And.intro rfl trivial)) ?_)
      refine Or.inl (cq (rchk_fn t (R ++ [R.getD i.toNat []]) hn (by simp; omega)) (And.intro rfl (And.intro rfl trivial)) ?_)
      refine And.intro (fun _ => ?_) (fun h => absurd (h.symm.trans (beq_self_eq_true (chkB t (R ++ [R.getD i.toNat []])))) (by decide))
      refine Or.inl (cq awake22_fn trivial ?_)
      exact And.intro rfl trivial
    refine And.intro (fun _ => ?_) (fun _ => ?_)
    · refine And.intro (by simp; omega) ?_
      refine And.intro (by omega) ?_
      refine And.intro (by omega) ?_
      refine Or.inr (Or.inl (cm [64, 24] [] (mf_of_q (schk_fn t (R.set i.toNat ([] ++ p)) hn)) ?_))
      refine And.intro ?_ ?_
      · repeat' first | refine And.intro ?_ ?_ | exact True.intro | exact rfl
      refine Or.inl (cq (rchk_fn t (R.set i.toNat ([] ++ p)) hn (by simp; omega)) (And.intro rfl (And.intro rfl trivial)) ?_)
      refine And.intro (fun _ => ?_) (fun h => absurd (h.symm.trans (beq_self_eq_true (chkB t (R.set i.toNat ([] ++ p))))) (by decide))
      refine Or.inl (cq awake22_fn trivial ?_)
      exact And.intro rfl trivial
    · refine Or.inl (cq (schk_fn t R hn) (And.intro rfl (And.intro rfl trivial)) ?_)
      refine Or.inl (cq (rchk_fn t R hn (by omega)) (And.intro rfl (And.intro rfl trivial)) ?_)
      refine And.intro (fun _ => ?_) (fun h => absurd (h.symm.trans (beq_self_eq_true (chkB t R))) (by decide))
      refine Or.inl (cq awake22_fn trivial ?_)
      exact And.intro rfl trivial
  · have h2 : (R.length : Int) ≤ 0 := h2
    refine Or.inl (cq (schk_fn t R hn) (And.intro rfl (And.intro rfl trivial)) ?_)
    refine Or.inl (cq (rchk_fn t R hn (by omega)) (And.intro rfl (And.intro rfl trivial)) ?_)
    refine And.intro (fun _ => ?_) (fun h => absurd (h.symm.trans (beq_self_eq_true (chkB t R))) (by decide))
    refine Or.inl (cq awake22_fn trivial ?_)
    exact And.intro rfl trivial
theorem sdTrn_fn (t : List (List Int)) (what at_ : Int) (p : List Int) (hp : p.length ≤ 17592186044416) : QF 3 [.ro (.rows .i64 t), .int .i64 what, .int .i64 at_, .ro (.ints .i64 p)] (.bool (.lit true)) := mkQ Try.func3 (by decide +kernel) rfl (Nat.le_of_ble_eq_true rfl) fun hf => by
  have ha : -9223372036854775808 ≤ at_ ∧ at_ ≤ 9223372036854775807 := hf.2.2.1
  by_cases hw : andI .i64 what 3 = 0
  · exact sdTrnA_k t what at_ p hw ha
  · exact sdTrnB_k t what at_ p hw ha hp
end Go.Proofs.Ytjlkhjgnfnfmgaa
end
section
/- From contracts to the given statements: how the arguments read, before and after. -/
namespace Go.Proofs.Ytjlkhjgnfnfmgaa
open Go Go.AM
open Go.ChangeShapes Go.WideShapes Go.ChangeAt Go.RowKit Go.Deep
def noM : Msk := fun _ _ => False
section
variable {H : Type} {enc : TypeId × Value → H} {P : Program} {w : World}
theorem wf_in {k : IntKind} {n : Int} (h : (Lit.int k n).wf = true) : inK k n := by
  simp only [Lit.wf, Bool.and_eq_true, decide_eq_true_eq] at h
  exact h
theorem weight_mem {e : TypeId} {d : DataW H} {x : Nat} : ∀ {l : List (DataW H)}, d ∈ l → x ∈ d.weights P e → x ∈ DataW.weightsAll P e l
  | [], h, _ => by cases h
  | c :: l, h, hx => by
    simp only [DataW.weightsAll, List.mem_append]
    rcases List.mem_cons.1 h with rfl | h
    · exact .inl hx
    · exact .inr (weight_mem h hx)
theorem rows_rep {t e q : TypeId} {n : Nat} {v : Value} {y : DataW H × List MemPlace} (ht : P.underlying t = some (.slice e)) (he : P.underlying e = some (.slice q)) (hq : P.underlying q = some (.int .i64)) (ce : P.cellsOf e = 1) (cq : P.cellsOf q = 1)
    (be : 1 ≤ P.bytesOf e) (bq : 1 ≤ P.bytesOf q) (h : DataW.trod enc P w 0 (fun _ => true) true n t [v] = some y) (hw : ∀ x ∈ y.1.weights P t, x ≤ reachBytes) : ∃ l, RepC noEnv w noM (.ro (.rows .i64 l)) v := by
  have hrb : reachBytes = 140737488351232 := rfl
  rcases open_int_rows ht he hq ce cq h with ⟨hv, _⟩ | ⟨a, len, cap, A, L, C, Z, hv, _, hl, hm, hy, hrows⟩
  · obtain rfl : v = .slice none 0 0 := by simpa using hv
    exact ⟨[], Nat.zero_le _, none, 0, rfl, Nat.le_refl _, .inl rfl⟩
  · obtain rfl : v = .slice (some a) len cap := by simpa using hv
    subst hy
    have hlen : len * P.bytesOf e ≤ reachBytes := by
      have := hw ((len + (cap - len)) * P.bytesOf e) (by simp [DataW.weights, ht])
      exact Nat.le_trans (Nat.mul_le_mul_right _ (by omega)) this
    have hlen1 : len ≤ reachBytes := Nat.le_trans (by have := Nat.mul_le_mul_left len be; omega) hlen
    have hL : ∀ r, r < len → L r ≤ reachBytes := fun r hr => by
      obtain ⟨_, h1, h2, h3, _, h4, _⟩ := hrows r (by omega)
      cases hA : A r with
      | none => have := h4 hA; omega
      | some a' =>
        have hx : (L r + ((Z r).length - L r)) * P.bytesOf q ≤ reachBytes := by
          refine hw _ ?_
          simp only [DataW.weights, ht, List.mem_cons, List.mem_append]
          refine .inr (.inl (weight_mem (d := intRow .i64 (A r) (L r) (Z r)) (List.mem_map.2 ⟨r, List.mem_range.2 hr, rfl⟩) ?_))
          rw [hA]
          simp [intRow, DataW.weights, he, lits]
          left
          rw [Nat.min_eq_left (by omega)]
        have h5 : L r * 1 ≤ (L r + ((Z r).length - L r)) * P.bytesOf q := Nat.mul_le_mul (by omega) bq
        omega
    refine ⟨(List.range len).map fun r => (Z r).take (L r), ?_⟩
    have hll : (RO.rows .i64 ((List.range len).map fun r => (Z r).take (L r))).len = len := by simp [RO.len]
    refine ⟨by rw [hll]; exact Nat.le_trans hlen1 (by rw [hrb]; decide), some a, cap, by rw [hll], by rw [hll]; exact hl, ?_⟩
    by_cases h0 : len = 0
    · exact .inl (by rw [RO.cells, hll, h0, Nat.zero_mul])
    have hcell0 := (hrows 0 (by omega)).1
    obtain ⟨b, off, spot⟩ := a
    have hspot : spot = none := by simpa [Addr.add] using World.cell?_spot hcell0
    subst hspot
    refine .inr ⟨b, off, rfl, fun r hr => ?_⟩
    have hr : r < len := by simpa [RO.cells, hll, RO.sz] using hr
    obtain ⟨h1, h2, h3, h4, h5, h6, h7⟩ := hrows r (by omega)
    refine ⟨.slice (A r) (L r) (C r), by rw [← add_plain]; exact h1, fun hh => hh, ?_⟩
    have hget : ((List.range len).map fun r => (Z r).take (L r)).getD r [] = (Z r).take (L r) := by simp [List.getD, hr]
    show SlI w noM .i64 (((List.range len).map fun r => (Z r).take (L r)).getD r []) _
    rw [hget]
    have hzl : ((Z r).take (L r)).length = L r := by rw [List.length_take]; omega
    refine ⟨by rw [hzl]; have := hL r hr; simp only [LB]; omega, A r, C r, by rw [hzl], by rw [hzl]; exact h2, ?_⟩
    by_cases hl0 : L r = 0
    · exact .inl (by rw [hzl, hl0])
    cases hA : A r with
    | none => have := h6 hA; omega
    | some a' =>
      obtain ⟨h8, h9⟩ := h7 a' hA
      obtain ⟨b', off', spot'⟩ := a'
      have hspot : spot' = none := by simpa [Addr.add] using World.cell?_spot (h9 0 (by omega))
      subst hspot
      refine .inr ⟨b', off', rfl, fun c hc => ?_⟩
      rw [hzl] at hc
      have hg2 : ((Z r).take (L r)).getD c 0 = (Z r).getD c 0 := by simp [List.getD, hc]
      refine ⟨.int .i64 ((Z r).getD c 0), by rw [← add_plain]; exact h9 c (by omega), fun hh => hh, by rw [hg2], ?_⟩
      rw [hg2]
      refine wf_in (h5 _ ?_)
      have : c < (Z r).length := by omega
      simp [List.getD, this]
theorem stp_heap {W W' : World} (hs : Stp (fun _ _ => False) W W') {b : Nat} (hb : b < W.heap.size) : W'.heap[b]? = W.heap[b]? := by
  rcases hs.2 b hb with h | ⟨cs, cs', ty, h1, h2, h3, h4⟩ | ⟨_, _, _, _, _, _, h⟩
  · exact h
  · rw [h1, h2]
    have : cs' = cs := Array.ext_getElem? fun i => h4 i (by simp)
    rw [this]
  · exact h.elim
theorem stp_trod {t : TypeId} (hl : laidOutB P = true) (hr : P.readableRec t = true) (hrow : t < P.types.size) {W W' : World} {v : Value} {d : DataW H} {ps : List MemPlace}
    (h : DataW.Trod enc P W 0 (fun _ => true) true t v d ps) (hs : Stp (fun _ _ => False) W W') (hlt : ∀ x ∈ ps, x.block < W.heap.size) (sp : Nat → Bool) (hsp : ∀ x ∈ ps, sp x.block = true) :
    DataW.Trod enc P W' 0 sp true t v d ps :=
  WideElems.Trod_stays hl hr hrow h (fun x hx => by
    have hb := hlt x hx
    cases x with
    | cell b o => exact World.cell?_of_block (w := W) (stp_heap hs hb)
    | map b => exact stp_heap hs hb) hsp
theorem stp_kept {W W' : World} (hs : Stp (fun _ _ => False) W W') (may : MemPlace → Prop) : W.keptBut W' may := by
  refine ⟨hs.3.1.1, hs.3.1.2, fun i hi => ?_⟩
  rw [stp_heap hs hi]
  cases W.heap[i]? with
  | none => exact rfl
  | some o => cases o <;> first | exact ⟨rfl, rfl, rfl, fun _ _ => rfl⟩ | exact .inr ⟨rfl, rfl⟩ | exact rfl
theorem each_mem : ∀ {ts : List TypeId} {ds : List (DataW H)} {j : Nat} {t : TypeId} {d : DataW H} {x : Nat}, ts[j]? = some t → ds[j]? = some d → x ∈ d.weights P t → x ∈ DataW.weightsEach P ts ds
  | [], _, j, _, _, _, h, _, _ => by simp at h
  | _ :: _, [], j, _, _, _, _, h, _ => by simp at h
  | t :: ts, d :: ds, 0, t', d', x, h1, h2, hx => by
    simp at h1 h2
    subst h1; subst h2
    simp [DataW.weightsEach, hx]
  | t :: ts, d :: ds, j + 1, t', d', x, h1, h2, hx => by
    have := each_mem (ts := ts) (ds := ds) (j := j) (by simpa using h1) (by simpa using h2) hx
    simp [DataW.weightsEach, this]
theorem rows_arg {t e q : TypeId} {r : Reach} {b0 : Nat} {v : Value} {d : DataW H} {p : List MemPlace} (ht : P.underlying t = some (.slice e)) (he : P.underlying e = some (.slice q)) (hq : P.underlying q = some (.int .i64)) (ce : P.cellsOf e = 1) (cq : P.cellsOf q = 1)
    (be : 1 ≤ P.bytesOf e) (bq : 1 ≤ P.bytesOf q) (hv : Value.okWide P w r b0 t v) (h : DataW.Trod enc P w 0 (fun _ => true) true t v d p) (hw : ∀ x ∈ d.weights P t, x ≤ reachBytes) : ∃ l, RepT noEnv w noM (.ro (.rows .i64 l)) v := by
  obtain ⟨a, len, cap, rfl⟩ := okWide_slice ht hv
  obtain ⟨fuel, hf⟩ := h
  exact rows_rep ht he hq ce cq be bq (y := (d, p)) hf hw
end
end Go.Proofs.Ytjlkhjgnfnfmgaa
end
section
/- A list of integers as an argument, with the greatest length that memory allows. -/
namespace Go.Proofs.Ytjlkhjgnfnfmgaa
open Go Go.AM
open Go.ChangeShapes Go.WideShapes Go.ChangeAt Go.RowKit Go.Deep
section
variable {H : Type} {enc : TypeId × Value → H} {P : Program} {w : World}
theorem ints_rep8 {t e : TypeId} {n : Nat} {v : Value} {y : DataW H × List MemPlace} (ht : P.underlying t = some (.slice e)) (he : P.underlying e = some (.int .i64)) (ce : P.cellsOf e = 1)
    (b8 : P.bytesOf e = 8) (h : DataW.trod enc P w 0 (fun _ => true) true n t [v] = some y) (hw : ∀ x ∈ y.1.weights P t, x ≤ reachBytes) : ∃ l, RepC noEnv w noM (.ro (.ints .i64 l)) v ∧ l.length ≤ 17592186044416 := by
  have be : 1 ≤ P.bytesOf e := by omega
  have hrb : reachBytes = 140737488351232 := rfl
  rcases open_ints ht he ce h with ⟨hv, _⟩ | ⟨a, len, cap, zs, hv, _, hl, hm, hz, hy, hcell, hwf⟩
  · obtain rfl : v = .slice none 0 0 := by simpa using hv
    exact ⟨[], ⟨Nat.zero_le _, none, 0, rfl, Nat.le_refl _, .inl rfl⟩, Nat.zero_le _⟩
  · obtain rfl : v = .slice (some a) len cap := by simpa using hv
    subst hy
    simp only [if_true] at hz
    have hlen : (len + (zs.length - len)) * P.bytesOf e ≤ reachBytes := hw _ (by simp [DataW.weights, ht, lits]; left; rw [Nat.min_eq_left (by omega)])
    have hlen1 : len * 1 ≤ (len + (zs.length - len)) * P.bytesOf e := Nat.mul_le_mul (by omega) be
    have hzl : (zs.take len).length = len := by rw [List.length_take]; omega
    refine ⟨zs.take len, ?_, by rw [hzl]; rw [b8] at hlen; omega⟩
    refine ⟨by show (zs.take len).length ≤ _; rw [hzl]; simp only [LB]; omega, some a, cap, by show _ = Value.slice _ (zs.take len).length _; rw [hzl], by show (zs.take len).length ≤ _; rw [hzl]; exact hl, ?_⟩
    by_cases hl0 : len = 0
    · exact .inl (by simp [RO.cells, RO.len, hl0])
    obtain ⟨b, off, spot⟩ := a
    have hspot : spot = none := by simpa [Addr.add] using World.cell?_spot (hcell 0 (by omega))
    subst hspot
    refine .inr ⟨b, off, rfl, fun c hc => ?_⟩
    have hc : c < len := by simpa [RO.cells, RO.len, RO.sz, hzl] using hc
    have hg2 : (zs.take len).getD c 0 = zs.getD c 0 := by simp [List.getD, hc]
    refine ⟨.int .i64 (zs.getD c 0), by rw [← add_plain]; exact hcell c (by omega), fun hh => hh, by rw [hg2], ?_⟩
    rw [hg2]
    refine wf_in (hwf _ ?_)
    have : c < zs.length := by omega
    simp [List.getD, this]
theorem ints_arg8 {t e : TypeId} {r : Reach} {b0 : Nat} {v : Value} {d : DataW H} {p : List MemPlace} (ht : P.underlying t = some (.slice e)) (he : P.underlying e = some (.int .i64)) (ce : P.cellsOf e = 1)
    (b8 : P.bytesOf e = 8) (hv : Value.okWide P w r b0 t v) (h : DataW.Trod enc P w 0 (fun _ => true) true t v d p) (hw : ∀ x ∈ d.weights P t, x ≤ reachBytes) : ∃ l, RepT noEnv w noM (.ro (.ints .i64 l)) v ∧ l.length ≤ 17592186044416 := by
  obtain ⟨a, len, cap, rfl⟩ := okWide_slice ht hv
  obtain ⟨fuel, hf⟩ := h
  exact ints_rep8 ht he ce b8 (y := (d, p)) hf hw
end
end Go.Proofs.Ytjlkhjgnfnfmgaa
end
