import Derived.Test.YtjlkhjgnfnfmgaaGroup
import Derived.Test.YtjlkhjgnfnfmgaaCmTz
import Derived.Test.YtjlkhjgnfnfmgaaCmCode
import Derived.Test.YtjlkhjgnfnfmgaaCgGnrN
import Derived.Test.YtjlkhjgnfnfmgaaClone
import Derived.Test.YtjlkhjgnfnfmgaaRefCg
import Derived.Test.YtjlkhjgnfnfmgaaForLaw
import Derived.Test.YtjlkhjgnfnfmgaaSep
import Derived.Test.YtjlkhjgnfnfmgaaCgSpr
import Derived.Test.YtjlkhjgnfnfmgaaRows
import Derived.Deep.Matrix
import Derived.Deep.Fields
import Derived.SizedLaws
import Derived.Carry
import Derived.WideKeyArgs
import Derived.ProofKit
import Derived.OpenShut
section
/- The sanity check, by computation: what every seat needs. -/
namespace Go.Proofs.Ytjlkhjgnfnfmgaa
open Go Go.AM Go.CM
set_option maxRecDepth 100000
theorem zOk : ZOk Try.prog TY TZ := zOk_of (by decide +kernel)
theorem namesOk : namesB Try.prog = true := by decide +kernel
theorem semi_of {t : List (List Int)} (h : semiB t = true) : validV t = 0 := by
  obtain ⟨⟨h1, h2⟩, h3, h4⟩ := semiB_ok h
  exact valid_zero.2 ⟨⟨h1, h2, h3⟩, fun g hg x y hx hy => h4 x g y hx hg hy⟩
noncomputable abbrev KN : Kn := ⟨[], knowV 49 semiB⟩
theorem kn_ok : CalOk Try.prog KN.know := know_ok fun t h => by have := valid_fn t; rw [semi_of h] at this; exact this
theorem kn_eq : EqOk Try.prog KN.eqs := fun _ h => by cases h
theorem awk {f : FuncId} {n d : Nat} (h : okTrue (evF Try.prog TY TZ KN n d f [] ⟨.lf, 0, 0, []⟩) = true) : QF f [] (.bool (.lit true)) := fn_true tyOk zOk kn_ok kn_eq mixed (names_of namesOk) h
end Go.Proofs.Ytjlkhjgnfnfmgaa
end
section
/- Statements about congruences: the sanity check. -/
namespace Go.Proofs.Ytjlkhjgnfnfmgaa
open Go Go.AM Go.CM
set_option maxRecDepth 100000
theorem awake19_fn : QF 17 [] (.bool (.lit true)) := awk (n := 1000) (d := 40) (by decide +kernel)
end Go.Proofs.Ytjlkhjgnfnfmgaa
end
section
/- The statements CongrLeast and CongrSides: the walks. -/
namespace Go.Proofs.Ytjlkhjgnfnfmgaa
open Go Go.AM
set_option maxRecDepth 100000
theorem small19_fn (t : List (List Int)) (m : Int) : QF 15 [.ro (.rows .i64 t), .int .i64 m] (.bool (.v (decide ((t.length : Int) ≤ m ∧ validV t = 0)))) := mkQ Try.func15 (by decide +kernel) rfl (Nat.le_of_ble_eq_true rfl) fun _ => by
  refine And.intro (fun h1 => ?_) (fun h1 => ?_)
  · have h1 : (t.length : Int) ≤ m := h1
    refine Or.inl (cq (rvalid_fn t) (And.intro rfl trivial) ?_)
    refine And.intro ?_ trivial
    show decide (validV t = 0) = decide ((t.length : Int) ≤ m ∧ validV t = 0)
    simp [h1]
  · have h1 : m < (t.length : Int) := h1
    refine And.intro ?_ trivial
    show false = decide ((t.length : Int) ≤ m ∧ validV t = 0)
    rw [decide_eq_false (fun h => by omega)]
end Go.Proofs.Ytjlkhjgnfnfmgaa
end
section
/- What is handed over as owned may be taken as read only. -/
namespace Go.Proofs.Ytjlkhjgnfnfmgaa
open Go Go.AM
theorem new_ro {f : FuncId} {args : List AV} {r : RO} (h : QF f args (.new r)) : QF f args (.ro r) := by
  refine ⟨h.1, fun M w vs hM hv => (h.2 M w vs hM hv).mono fun e w' ⟨v, he, hs, M', h1, h2, hr⟩ => ?_⟩
  obtain ⟨o, rfl, hV, hf⟩ := hr
  obtain ⟨e1, e2, e3, _, hb⟩ := hV
  refine ⟨_, he, hs, fun b off => M' b off ∧ o.blk ≠ some b, fun b off hlt => ?_, fun b off hm => h2 b off hm.1, ?_⟩
  · rw [← h1 b off hlt]
    exact ⟨fun hh => hh.1, fun hh => ⟨hh, fun e => by have := hf b e; omega⟩⟩
  · have hk : Keep w' M' w' fun b off => M' b off ∧ o.blk ≠ some b := fun b off c hc hn => ⟨hc, fun hh => hn hh.1⟩
    show RepRO w' _ r o.val
    cases ho : o.blk with
    | none =>
      rw [ho] at hb
      obtain ⟨b1, b2⟩ := hb
      exact ⟨e3, none, o.cap, by unfold Sl.val; rw [ho, e1]; rfl, by omega, .inl (by unfold RO.cells; rw [b1, Nat.zero_mul])⟩
    | some b =>
      rw [ho] at hb
      obtain ⟨b1, cs, ty, b2, b3, b4, b5⟩ := hb
      refine ⟨e3, some ⟨b, 0, none⟩, o.cap, by unfold Sl.val; rw [ho, e1]; rfl, by omega, .inr ⟨b, 0, rfl, fun q hq => ?_⟩⟩
      obtain ⟨c, c1, c2⟩ := b5 q hq
      have hkc : Keep w' M' w' fun b' off => M' b' off ∧ some b ≠ some b' := by rw [← ho]; exact hk
      exact ⟨c, by rw [cell_of_heap b2, Nat.zero_add]; exact c1, fun hh => hh.2 rfl, c2.keep hkc⟩
end Go.Proofs.Ytjlkhjgnfnfmgaa
end
section
/- The statement CongrApart: the walk. -/
namespace Go.Proofs.Ytjlkhjgnfnfmgaa
open Go Go.AM
set_option maxRecDepth 100000
def ApI (L p : List Int) (i j : Nat) (b : Bool) : Prop := b = true ↔ (∀ a c, c < a → a < i → p.getD (L.getD a 0).toNat 0 ≠ p.getD (L.getD c 0).toNat 0) ∧ ∀ c, c < j → p.getD (L.getD i 0).toNat 0 ≠ p.getD (L.getD c 0).toNat 0
theorem ApI.start (L p : List Int) : ApI L p 0 0 true := ⟨fun _ => ⟨fun a c _ h => absurd h (Nat.not_lt_zero _), fun c h => absurd h (Nat.not_lt_zero _)⟩, fun _ => rfl⟩
theorem ApI.row {L p : List Int} {i : Nat} {b : Bool} (h : ApI L p i i b) : ApI L p (i + 1) 0 b := by
  refine h.trans ⟨fun ⟨h1, h2⟩ => ⟨fun a c hca ha => ?_, fun c h => absurd h (Nat.not_lt_zero _)⟩, fun ⟨h1, _⟩ => ⟨fun a c hca ha => h1 a c hca (by omega), fun c hc => h1 i c hc (by omega)⟩⟩
  by_cases e : a = i
  · subst e; exact h2 c hca
  · exact h1 a c hca (by omega)
theorem ApI.no {L p : List Int} {i j : Nat} (h : ApI L p i j false) : ApI L p i (j + 1) false :=
  Iff.intro (fun hh => absurd hh (by decide)) (fun hh => absurd (h.2 ⟨hh.1, fun c hc => hh.2 c (by omega)⟩) (by decide))
theorem ApI.yes {L p : List Int} {i j : Nat} {b : Bool} (h : ApI L p i j true) (e : b = true ↔ p.getD (L.getD i 0).toNat 0 ≠ p.getD (L.getD j 0).toNat 0) : ApI L p i (j + 1) b := by
  have h0 := h.1 rfl
  refine e.trans ⟨fun h1 => ⟨h0.1, fun c hc => ?_⟩, fun h1 => h1.2 j (by omega)⟩
  by_cases e : c = j
  · subst e; exact h1
  · exact h0.2 c (by omega)
set_option maxHeartbeats 4000000 in
theorem cgApt_k (t : List (List Int)) (l : List (Int × Int)) (hs : Semi t) (hn : t.length ≤ 10) (hl : inW t.length l) (hll : l.length ≤ 4) : fnK TY SP Try.f4 [.ro (.rows .i64 t), .ro (.pairs l)] (.bool (.lit true)) := by
  have hv := valid_zero.2 hs
  have hS := hs.toSh
  have hsl : (sepP t).length = t.length := (sepP_is hs).len
  have hgl : (genP t 0 (relP l)).length = t.length := genP_len
  have hqs := quo_semi hs hsl (sepP_is hs).val.2 (sepP_is hs).cg
  have hqv := valid_zero.2 hqs
  have hGv := genP_valid hS (side := 0) (R := relP l)
  have hiq := idm_quo hs (sepP_is hs) (sepP_sep hs)
  refine Or.inl (cq (small19_fn t 10) (And.intro rfl (And.intro rfl trivial)) ?_)
  refine And.intro (fun h1 => ?_) (fun _ => ?_)
  · have h1 : (!decide ((t.length : Int) ≤ 10 ∧ validV t = 0)) = true := h1
    rw [decide_eq_true ⟨by omega, hv⟩] at h1; exact absurd h1 (by decide)
  refine And.intro (fun h2 => absurd (show (4 : Int) < (l.length : Int) from h2) (by omega)) (fun _ => ?_)
  refine Or.inl (cq (rmay_fn t.length (by omega) l) (And.intro rfl (And.intro rfl trivial)) ?_)
  refine And.intro (fun h3 => ?_) (fun _ => ?_)
  · have h3 : (!inWB t.length l) = true := h3
    rw [inWB_true.2 hl] at h3; exact absurd h3 (by decide)
  refine Or.inl (cq (cSep_fn t hs) (And.intro rfl trivial) ?_)
  refine Or.inl (cq (cgnr_fn t l 0 hs hl (by omega)) (And.intro rfl (And.intro rfl (And.intro rfl trivial))) ?_)
  refine Or.inl (cq (cQuo_fn t (sepP t) (sepP_is hs)) (And.intro rfl (And.intro rfl trivial)) ?_)
  refine And.intro (fun h => absurd rfl h) (fun _ => ?_)
  refine And.intro (fun h => absurd (show ((genP t 0 (relP l)).length : Int) = (t.length : Int) by omega) h) (fun _ => ?_)
  refine Or.inl (cq (new_ro (idm_fn t hv)) (And.intro rfl trivial) ?_)
  refine Exists.intro [] <| lp2 (fun (i : Nat) (b : Bool) => [(55, .int .i64 i), (9, .bool (.v b))]) (fun _ _ => []) (fun i b => i ≤ (ascV t.length (idmF t)).length ∧ ApI (ascV t.length (idmF t)) (genP t 0 (relP l)) i 0 b) (fun i _ => (ascV t.length (idmF t)).length - i) 0 true ⟨Nat.zero_le _, ApI.start _ _⟩ (by repeat' first | refine And.intro ?_ ?_ | exact True.intro | (show (_ : Int) = (_ : Int); omega) | omega | exact rfl | (simp only [RO.len]; omega)) ?_
  rintro i b ⟨hi, hI⟩
  have hll2 := ascV_len t.length (idmF t)
  refine And.intro (fun h1 => ?_) (fun h1 => ?_)
  · have h1 : (i : Int) < ((ascV t.length (idmF t)).length : Int) := h1
    have hil : i < (ascV t.length (idmF t)).length := by omega
    have hri := ascV_in (getD_mem (d := 0) hil)
    have ht1 : (List.drop 0 (List.take i (ascV t.length (idmF t)))).length = i := by simp; omega
    refine And.intro (by omega) ?_
    refine And.intro (by omega) ?_
    refine Exists.intro [] <| lp2 (fun (j : Nat) (b : Bool) => [(64, .int .i64 j), (9, .bool (.v b))]) (fun _ _ => []) (fun j b => j ≤ i ∧ ApI (ascV t.length (idmF t)) (genP t 0 (relP l)) i j b) (fun j _ => i - j) 0 b ⟨Nat.zero_le _, hI⟩ (by repeat' first | refine And.intro ?_ ?_ | exact True.intro | (show (_ : Int) = (_ : Int); omega) | omega | exact rfl | (simp only [RO.len]; omega)) ?_
    rintro j b ⟨hj, hJ⟩
    have eT : (List.drop (Int.toNat 0) (List.take ((i : Int)).toNat (idzL t))).length = i := by show (List.drop 0 (List.take i (idzL t))).length = i; exact ht1
    refine And.intro (fun h2 => ?_) (fun h2 => ?_)
    · have h2 : (j : Int) < ((List.drop (Int.toNat 0) (List.take ((i : Int)).toNat (idzL t))).length : Int) := h2
      have hji : j < i := by omega
      have eg : (List.drop 0 (List.take i (idzL t))).getD j 0 = (ascV t.length (idmF t)).getD j 0 := by
        simp only [List.getD, List.drop_zero]; rw [List.getElem?_take_of_lt hji]; rfl
      have hrj := ascV_in (getD_mem (d := 0) (show j < (ascV t.length (idmF t)).length by omega))
      refine And.intro (by omega) ?_
      refine Or.inl ?_
      refine Exists.intro [false, false, false, false, false, false, false, false, false, false, false, false, true] (And.intro (by decide +kernel) ?_)
      refine And.intro (fun h3 => ?_) (fun h3 => ?_)
      · have h3 : b = true := h3
        subst h3
        refine And.intro (show 0 ≤ (ascV t.length (idmF t)).getD i 0 ∧ (ascV t.length (idmF t)).getD i 0 < ((genP t 0 (relP l)).length : Int) by omega) ?_
        refine And.intro (show 0 ≤ (List.drop 0 (List.take i (idzL t))).getD j 0 ∧ (List.drop 0 (List.take i (idzL t))).getD j 0 < ((genP t 0 (relP l)).length : Int) by omega) ?_
        refine And.intro (by omega) ?_
        refine nx (j + 1, decide ((genP t 0 (relP l)).getD ((ascV t.length (idmF t)).getD i 0).toNat 0 ≠ (genP t 0 (relP l)).getD ((ascV t.length (idmF t)).getD j 0).toNat 0)) ⟨by omega, hJ.yes decide_eq_true_iff⟩ (show i - (j + 1) < i - j by omega) ?_
        have e3 : decide ((genP t 0 (relP l)).getD ((ascV t.length (idmF t)).getD i 0).toNat 0 ≠ (genP t 0 (relP l)).getD ((List.drop 0 (List.take i (idzL t))).getD j 0).toNat 0) = decide ((genP t 0 (relP l)).getD ((ascV t.length (idmF t)).getD i 0).toNat 0 ≠ (genP t 0 (relP l)).getD ((ascV t.length (idmF t)).getD j 0).toNat 0) := by rw [eg]
        repeat' first | refine And.intro ?_ ?_ | exact True.intro | exact e3 | (show (_ : Int) = (_ : Int); omega) | omega | exact rfl
      · have h3 : b = false := h3
        subst h3
        refine And.intro (by omega) ?_
        exact nx (j + 1, false) ⟨by omega, hJ.no⟩ (show i - (j + 1) < i - j by omega) (by repeat' first | refine And.intro ?_ ?_ | exact True.intro | (show (_ : Int) = (_ : Int); omega) | omega | exact rfl | (simp only [RO.len]; omega))
    · have h2 : ((List.drop (Int.toNat 0) (List.take ((i : Int)).toNat (idzL t))).length : Int) ≤ (j : Int) := h2
      have hji : j = i := by omega
      subst hji
      refine And.intro (by omega) ?_
      exact nx (j + 1, b) ⟨by omega, hJ.row⟩ (show (ascV t.length (idmF t)).length - (j + 1) < (ascV t.length (idmF t)).length - j by omega) (by repeat' first | refine And.intro ?_ ?_ | exact True.intro | (show (_ : Int) = (_ : Int); omega) | omega | exact rfl | (simp only [RO.len]; omega))
  · have h1 : ((ascV t.length (idmF t)).length : Int) ≤ (i : Int) := h1
    have hie : i = (ascV t.length (idmF t)).length := by omega
    subst hie
    have hsep : b = true ↔ Sep t (genP t 0 (relP l)) := by
      rw [sep_list]
      exact hI.trans ⟨fun h a c hca ha => h.1 a c hca ha, fun h => ⟨fun a c hca ha => h a c hca ha, fun c hc => absurd hc (Nat.not_lt_zero _)⟩⟩
    have hrf : b = rfB (genP t 0 (relP l)) (sepP t) := by
      rw [Bool.eq_iff_iff, hsep, rfB_true, sep_sub hs (genP_cg hS)]
      unfold Rf Sub
      rw [hgl]
    refine Or.inl (cq (prefn_fn (genP t 0 (relP l)) (sepP t) hGv (sepP_is hs).val (by omega)) (And.intro rfl (And.intro rfl trivial)) ?_)
    refine And.intro (fun _ => ?_) (fun h2 => ?_)
    · refine Or.inl (cq (idm_fn (quoL t (sepP t)) hqv) (And.intro rfl trivial) ?_)
      refine And.intro (fun _ => ?_) (fun h3 => absurd (show ((idzL (quoL t (sepP t))).length : Int) = ((idzL t).length : Int) from congrArg _ hiq) h3)
      exact Or.inl (cq awake19_fn trivial (And.intro rfl trivial))
    · have h2 : (b == rfB (genP t 0 (relP l)) (sepP t)) = false := h2
      rw [hrf] at h2; simp at h2
theorem cgAptN_k (t : List (List Int)) (l : List (Int × Int)) (hno : ¬ (Semi t ∧ t.length ≤ 10 ∧ inW t.length l ∧ l.length ≤ 4)) : fnK TY SP Try.f4 [.ro (.rows .i64 t), .ro (.pairs l)] (.bool (.lit true)) := by
  refine Or.inl (cq (small19_fn t 10) (And.intro rfl (And.intro rfl trivial)) ?_)
  refine And.intro (fun _ => Or.inl (cq awake19_fn trivial (And.intro rfl trivial))) (fun h1 => ?_)
  have h1 : (!decide ((t.length : Int) ≤ 10 ∧ validV t = 0)) = false := h1
  rw [Bool.not_eq_false'] at h1
  have h1 := of_decide_eq_true h1
  refine And.intro (fun _ => Or.inl (cq awake19_fn trivial (And.intro rfl trivial))) (fun h4 => ?_)
  have h4 : (l.length : Int) ≤ 4 := h4
  refine Or.inl (cq (rmay_fn t.length (by omega) l) (And.intro rfl (And.intro rfl trivial)) ?_)
  refine And.intro (fun _ => Or.inl (cq awake19_fn trivial (And.intro rfl trivial))) (fun h3 => ?_)
  have h3 : (!inWB t.length l) = false := h3
  rw [Bool.not_eq_false'] at h3
  exact absurd ⟨valid_zero.1 h1.2, by omega, inWB_true.1 h3, by omega⟩ hno
theorem cgApt_fn (t : List (List Int)) (l : List (Int × Int)) : QF 4 [.ro (.rows .i64 t), .ro (.pairs l)] (.bool (.lit true)) :=
  mkQ Try.func4 (by decide +kernel) rfl (Nat.le_of_ble_eq_true rfl) fun _ => by
    by_cases h : Semi t ∧ t.length ≤ 10 ∧ inW t.length l ∧ l.length ≤ 4
    · exact cgApt_k t l h.1 h.2.1 h.2.2.1 h.2.2.2
    · exact cgAptN_k t l h
end Go.Proofs.Ytjlkhjgnfnfmgaa
end
section
/- From contracts to the given statements: how the arguments read, before and after. -/
namespace Go.Proofs.Ytjlkhjgnfnfmgaa
open Go Go.AM
open Go.ChangeShapes Go.WideShapes Go.ChangeAt Go.RowKit Go.Deep
def noM : Msk := fun _ _ => False
section
variable {H : Type} {enc : TypeId × Value → H} {P : Program} {w : World}
theorem wf_in {k : IntKind} {n : Int} (h : (Lit.int k n).wf = true) : inK k n := by
  simp only [Lit.wf, Bool.and_eq_true, decide_eq_true_eq] at h
  exact h
theorem weight_mem {e : TypeId} {d : DataW H} {x : Nat} : ∀ {l : List (DataW H)}, d ∈ l → x ∈ d.weights P e → x ∈ DataW.weightsAll P e l
  | [], h, _ => by cases h
  | c :: l, h, hx => by
    simp only [DataW.weightsAll, List.mem_append]
    rcases List.mem_cons.1 h with rfl | h
    · exact .inl hx
    · exact .inr (weight_mem h hx)
theorem rows_rep {t e q : TypeId} {n : Nat} {v : Value} {y : DataW H × List MemPlace} (ht : P.underlying t = some (.slice e)) (he : P.underlying e = some (.slice q)) (hq : P.underlying q = some (.int .i64)) (ce : P.cellsOf e = 1) (cq : P.cellsOf q = 1)
    (be : 1 ≤ P.bytesOf e) (bq : 1 ≤ P.bytesOf q) (h : DataW.trod enc P w 0 (fun _ => true) true n t [v] = some y) (hw : ∀ x ∈ y.1.weights P t, x ≤ reachBytes) : ∃ l, RepC noEnv w noM (.ro (.rows .i64 l)) v := by
  have hrb : reachBytes = 140737488351232 := rfl
  rcases open_int_rows ht he hq ce cq h with ⟨hv, _⟩ | ⟨a, len, cap, A, L, C, Z, hv, _, hl, hm, hy, hrows⟩
  · obtain rfl : v = .slice none 0 0 := by simpa using hv
    exact ⟨[], Nat.zero_le _, none, 0, rfl, Nat.le_refl _, .inl rfl⟩
  · obtain rfl : v = .slice (some a) len cap := by simpa using hv
    subst hy
    have hlen : len * P.bytesOf e ≤ reachBytes := by
      have := hw ((len + (cap - len)) * P.bytesOf e) (by simp [DataW.weights, ht])
      exact Nat.le_trans (Nat.mul_le_mul_right _ (by omega)) this
    have hlen1 : len ≤ reachBytes := Nat.le_trans (by have := Nat.mul_le_mul_left len be; omega) hlen
    have hL : ∀ r, r < len → L r ≤ reachBytes := fun r hr => by
      obtain ⟨_, h1, h2, h3, _, h4, _⟩ := hrows r (by omega)
      cases hA : A r with
      | none => have := h4 hA; omega
      | some a' =>
        have hx : (L r + ((Z r).length - L r)) * P.bytesOf q ≤ reachBytes := by
          refine hw _ ?_
          simp only [DataW.weights, ht, List.mem_cons, List.mem_append]
          refine .inr (.inl (weight_mem (d := intRow .i64 (A r) (L r) (Z r)) (List.mem_map.2 ⟨r, List.mem_range.2 hr, rfl⟩) ?_))
          rw [hA]
          simp [intRow, DataW.weights, he, lits]
          left
          rw [Nat.min_eq_left (by omega)]
        have h5 : L r * 1 ≤ (L r + ((Z r).length - L r)) * P.bytesOf q := Nat.mul_le_mul (by omega) bq
        omega
    refine ⟨(List.range len).map fun r => (Z r).take (L r), ?_⟩
    have hll : (RO.rows .i64 ((List.range len).map fun r => (Z r).take (L r))).len = len := by simp [RO.len]
    refine ⟨by rw [hll]; exact Nat.le_trans hlen1 (by rw [hrb]; decide), some a, cap, by rw [hll], by rw [hll]; exact hl, ?_⟩
    by_cases h0 : len = 0
    · exact .inl (by rw [RO.cells, hll, h0, Nat.zero_mul])
    have hcell0 := (hrows 0 (by omega)).1
    obtain ⟨b, off, spot⟩ := a
    have hspot : spot = none := by simpa [Addr.add] using World.cell?_spot hcell0
    subst hspot
    refine .inr ⟨b, off, rfl, fun r hr => ?_⟩
    have hr : r < len := by simpa [RO.cells, hll, RO.sz] using hr
    obtain ⟨h1, h2, h3, h4, h5, h6, h7⟩ := hrows r (by omega)
    refine ⟨.slice (A r) (L r) (C r), by rw [← add_plain]; exact h1, fun hh => hh, ?_⟩
    have hget : ((List.range len).map fun r => (Z r).take (L r)).getD r [] = (Z r).take (L r) := by simp [List.getD, hr]
    show SlI w noM .i64 (((List.range len).map fun r => (Z r).take (L r)).getD r []) _
    rw [hget]
    have hzl : ((Z r).take (L r)).length = L r := by rw [List.length_take]; omega
    refine ⟨by rw [hzl]; have := hL r hr; simp only [LB]; omega, A r, C r, by rw [hzl], by rw [hzl]; exact h2, ?_⟩
    by_cases hl0 : L r = 0
    · exact .inl (by rw [hzl, hl0])
    cases hA : A r with
    | none => have := h6 hA; omega
    | some a' =>
      obtain ⟨h8, h9⟩ := h7 a' hA
      obtain ⟨b', off', spot'⟩ := a'
      have hspot : spot' = none := by simpa [Addr.add] using World.cell?_spot (h9 0 (by omega))
      subst hspot
      refine .inr ⟨b', off', rfl, fun c hc => ?_⟩
      rw [hzl] at hc
      have hg2 : ((Z r).take (L r)).getD c 0 = (Z r).getD c 0 := by simp [List.getD, hc]
      refine ⟨.int .i64 ((Z r).getD c 0), by rw [← add_plain]; exact h9 c (by omega), fun hh => hh, by rw [hg2], ?_⟩
      rw [hg2]
      refine wf_in (h5 _ ?_)
      have : c < (Z r).length := by omega
      simp [List.getD, this]
theorem stp_heap {W W' : World} (hs : Stp (fun _ _ => False) W W') {b : Nat} (hb : b < W.heap.size) : W'.heap[b]? = W.heap[b]? := by
  rcases hs.2 b hb with h | ⟨cs, cs', ty, h1, h2, h3, h4⟩ | ⟨_, _, _, _, _, _, h⟩
  · exact h
  · rw [h1, h2]
    have : cs' = cs := Array.ext_getElem? fun i => h4 i (by simp)
    rw [this]
  · exact h.elim
theorem stp_trod {t : TypeId} (hl : laidOutB P = true) (hr : P.readableRec t = true) (hrow : t < P.types.size) {W W' : World} {v : Value} {d : DataW H} {ps : List MemPlace}
    (h : DataW.Trod enc P W 0 (fun _ => true) true t v d ps) (hs : Stp (fun _ _ => False) W W') (hlt : ∀ x ∈ ps, x.block < W.heap.size) (sp : Nat → Bool) (hsp : ∀ x ∈ ps, sp x.block = true) :
    DataW.Trod enc P W' 0 sp true t v d ps :=
  WideElems.Trod_stays hl hr hrow h (fun x hx => by
    have hb := hlt x hx
    cases x with
    | cell b o => exact World.cell?_of_block (w := W) (stp_heap hs hb)
    | map b => exact stp_heap hs hb) hsp
theorem stp_kept {W W' : World} (hs : Stp (fun _ _ => False) W W') (may : MemPlace → Prop) : W.keptBut W' may := by
  refine ⟨hs.3.1.1, hs.3.1.2, fun i hi => ?_⟩
  rw [stp_heap hs hi]
  cases W.heap[i]? with
  | none => exact rfl
  | some o => cases o <;> first | exact ⟨rfl, rfl, rfl, fun _ _ => rfl⟩ | exact .inr ⟨rfl, rfl⟩ | exact rfl
theorem each_mem : ∀ {ts : List TypeId} {ds : List (DataW H)} {j : Nat} {t : TypeId} {d : DataW H} {x : Nat}, ts[j]? = some t → ds[j]? = some d → x ∈ d.weights P t → x ∈ DataW.weightsEach P ts ds
  | [], _, j, _, _, _, h, _, _ => by simp at h
  | _ :: _, [], j, _, _, _, _, h, _ => by simp at h
  | t :: ts, d :: ds, 0, t', d', x, h1, h2, hx => by
    simp at h1 h2
    subst h1; subst h2
    simp [DataW.weightsEach, hx]
  | t :: ts, d :: ds, j + 1, t', d', x, h1, h2, hx => by
    have := each_mem (ts := ts) (ds := ds) (j := j) (by simpa using h1) (by simpa using h2) hx
    simp [DataW.weightsEach, this]
theorem rows_arg {t e q : TypeId} {r : Reach} {b0 : Nat} {v : Value} {d : DataW H} {p : List MemPlace} (ht : P.underlying t = some (.slice e)) (he : P.underlying e = some (.slice q)) (hq : P.underlying q = some (.int .i64)) (ce : P.cellsOf e = 1) (cq : P.cellsOf q = 1)
    (be : 1 ≤ P.bytesOf e) (bq : 1 ≤ P.bytesOf q) (hv : Value.okWide P w r b0 t v) (h : DataW.Trod enc P w 0 (fun _ => true) true t v d p) (hw : ∀ x ∈ d.weights P t, x ≤ reachBytes) : ∃ l, RepT noEnv w noM (.ro (.rows .i64 l)) v := by
  obtain ⟨a, len, cap, rfl⟩ := okWide_slice ht hv
  obtain ⟨fuel, hf⟩ := h
  exact rows_rep ht he hq ce cq be bq (y := (d, p)) hf hw
end
end Go.Proofs.Ytjlkhjgnfnfmgaa
end
section
/- Arguments that are lists of pairs: how they read. -/
namespace Go.Proofs.Ytjlkhjgnfnfmgaa
open Go Go.AM
open Go.ChangeShapes Go.WideShapes Go.ChangeAt Go.RowKit Go.Deep
section
variable {H : Type} {enc : TypeId × Value → H} {P : Program} {w : World}
theorem trod_array2 {t e : TypeId} {fuel : Nat} {c0 c1 : Value} {x : DataW H × List MemPlace} (ht : P.underlying t = some (.array 2 e)) (hce : P.cellsOf e = 1)
    (h : DataW.trod enc P w 0 (fun _ => true) true fuel t [c0, c1] = some x) : ∃ y0 y1 n, DataW.trod enc P w 0 (fun _ => true) true n e [c0] = some y0 ∧ DataW.trod enc P w 0 (fun _ => true) true n e [c1] = some y1 ∧ x = (.agg [y0.1, y1.1], y0.2 ++ y1.2) := by
  cases fuel with
  | zero => simp [DataW.trod] at h
  | succ n =>
    unfold DataW.trod at h
    rw [ht] at h
    have r2 : List.range 2 = [0, 1] := rfl
    simp [r2, hce] at h
    obtain ⟨_, h⟩ := h
    cases h0 : DataW.trod enc P w 0 (fun _ => true) true n e [c0] with
    | none => simp [h0] at h
    | some y0 =>
      cases h1 : DataW.trod enc P w 0 (fun _ => true) true n e [c1] with
      | none => simp [h0, h1] at h
      | some y1 =>
        simp [h0, h1] at h
        exact ⟨y0, y1, n, h0, h1, h.symm⟩
theorem pairs_rep {t e q : TypeId} {n : Nat} {v : Value} {y : DataW H × List MemPlace} (ht : P.underlying t = some (.slice e)) (he : P.underlying e = some (.array 2 q)) (hq : P.underlying q = some (.int .i64)) (ce : P.cellsOf e = 2) (cq : P.cellsOf q = 1)
    (be : 1 ≤ P.bytesOf e) (h : DataW.trod enc P w 0 (fun _ => true) true n t [v] = some y) (hw : ∀ x ∈ y.1.weights P t, x ≤ reachBytes) : ∃ l, RepC noEnv w noM (.ro (.pairs l)) v := by
  have hrb : reachBytes = 140737488351232 := rfl
  rcases DataW.trod_slice ht h with ⟨hv, _⟩ | ⟨a, len, cap, elems, rest, n', _, hv, rfl, _, hl, hm, hlen, hel, _, _⟩
  · obtain rfl : v = .slice none 0 0 := by simpa using hv
    exact ⟨[], Nat.zero_le _, none, 0, rfl, Nat.le_refl _, .inl rfl⟩
  · obtain rfl : v = .slice (some a) len cap := by simpa using hv
    have hlen0 : (elems.length + rest.length) * P.bytesOf e ≤ reachBytes := hw _ (by simp [DataW.weights, ht])
    have hlen1 : len * 1 ≤ (elems.length + rest.length) * P.bytesOf e := Nat.mul_le_mul (by omega) be
    have each : ∀ i, i < len → ∃ z : Int × Int, w.cell? (a.add (i * 2)) = some (.int .i64 z.1) ∧ w.cell? ((a.add (i * 2)).add 1) = some (.int .i64 z.2) ∧ inK .i64 z.1 ∧ inK .i64 z.2 := fun i hi => by
      have h1 := hel i hi
      rw [List.getElem?_eq_getElem (by omega), ce, Option.bind_eq_some_iff] at h1
      obtain ⟨cs, h2, h3⟩ := h1
      obtain ⟨_, h4, h5⟩ := World.cells?_some h2
      match cs, h4 with
      | [c0, c1], _ =>
        obtain ⟨y0, y1, m, g0, g1, _⟩ := trod_array2 he cq h3
        obtain ⟨z0, e0, _, w0⟩ := DataW.trod_int hq g0
        obtain ⟨z1, e1, _, w1⟩ := DataW.trod_int hq g1
        have e0 : c0 = .int .i64 z0 := by simpa using e0
        have e1 : c1 = .int .i64 z1 := by simpa using e1
        have k0 := h5 0 (by omega)
        have k1 := h5 1 (by omega)
        rw [e0] at k0; rw [e1] at k1
        refine ⟨(z0, z1), by simpa [Addr.add] using k0, by simpa using k1, wf_in w0, wf_in w1⟩
    obtain ⟨z, hz⟩ := choose_lt each
    refine ⟨(List.range len).map z, ?_⟩
    have hll : ((List.range len).map z).length = len := by simp
    refine ⟨by show _ ≤ _; simp only [RO.len, hll, LB]; omega, some a, cap, by simp only [RO.len, hll], by simp only [RO.len, hll]; exact hl, ?_⟩
    by_cases hl0 : len = 0
    · exact .inl (by simp [RO.cells, RO.len, hl0])
    obtain ⟨b, off, spot⟩ := a
    have hspot : spot = none := by simpa [Addr.add] using World.cell?_spot (hz 0 (by omega)).1
    subst hspot
    refine .inr ⟨b, off, rfl, fun c hc => ?_⟩
    have hc : c < len * 2 := by simpa [RO.cells, RO.len, RO.sz] using hc
    have hci : c / 2 < len := by omega
    obtain ⟨z1, z2, z3, z4⟩ := hz (c / 2) hci
    have hg : ((List.range len).map z).getD (c / 2) (0, 0) = z (c / 2) := by simp [List.getD, hci]
    rw [add_plain] at z1 z2
    rw [add_plain] at z2
    by_cases h2 : c % 2 = 0
    · refine ⟨.int .i64 (z (c / 2)).1, by rw [show off + c = off + c / 2 * 2 by omega]; exact z1, fun hh => hh, ?_⟩
      simp only [CellP, hg, if_pos h2]
      exact ⟨trivial, z3⟩
    · refine ⟨.int .i64 (z (c / 2)).2, by rw [show off + c = off + c / 2 * 2 + 1 by omega]; exact z2, fun hh => hh, ?_⟩
      simp only [CellP, hg, if_neg h2]
      exact ⟨trivial, z4⟩
theorem pairs_arg {t e q : TypeId} {r : Reach} {b0 : Nat} {v : Value} {d : DataW H} {p : List MemPlace} (ht : P.underlying t = some (.slice e)) (he : P.underlying e = some (.array 2 q)) (hq : P.underlying q = some (.int .i64)) (ce : P.cellsOf e = 2) (cq : P.cellsOf q = 1)
    (be : 1 ≤ P.bytesOf e) (hv : Value.okWide P w r b0 t v) (h : DataW.Trod enc P w 0 (fun _ => true) true t v d p) (hw : ∀ x ∈ d.weights P t, x ≤ reachBytes) : ∃ l, RepT noEnv w noM (.ro (.pairs l)) v := by
  obtain ⟨a, len, cap, rfl⟩ := okWide_slice ht hv
  obtain ⟨fuel, hf⟩ := h
  exact pairs_rep ht he hq ce cq be (y := (d, p)) hf hw
end
end Go.Proofs.Ytjlkhjgnfnfmgaa
end
