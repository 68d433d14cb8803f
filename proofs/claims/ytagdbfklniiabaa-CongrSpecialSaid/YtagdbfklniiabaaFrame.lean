import Derived.Test.YtagdbfklniiabaaReesLaw
import Derived.Test.YtagdbfklniiabaaCmTz
import Derived.Test.YtagdbfklniiabaaCmCode
import Derived.Test.YtagdbfklniiabaaIdpLaw
import Derived.Test.YtagdbfklniiabaaSgpLaw
import Derived.Test.YtagdbfklniiabaaSep
import Derived.Test.YtagdbfklniiabaaRefJnL
import Derived.Test.YtagdbfklniiabaaEqvLaw
import Derived.Test.YtagdbfklniiabaaRows
import Derived.Deep.Matrix
import Derived.Deep.Fields
import Derived.SizedLaws
import Derived.Carry
import Derived.WideKeyArgs
import Derived.ProofKit
import Derived.OpenShut
section
/- The sanity check, by computation: what every seat needs. -/
namespace Go.Proofs.Ytagdbfklniiabaa
open Go Go.AM Go.CM
set_option maxRecDepth 100000
theorem zOk : ZOk Try.prog TY TZ := zOk_of (by decide +kernel)
theorem namesOk : namesB Try.prog = true := by decide +kernel
theorem semi_of {t : List (List Int)} (h : semiB t = true) : validV t = 0 := by
  obtain ⟨⟨h1, h2⟩, h3, h4⟩ := semiB_ok h
  exact valid_zero.2 ⟨⟨h1, h2, h3⟩, fun g hg x y hx hy => h4 x g y hx hg hy⟩
noncomputable abbrev KN : Kn := ⟨[], knowV 36 semiB⟩
theorem kn_ok : CalOk Try.prog KN.know := know_ok fun t h => by have := valid_fn t; rw [semi_of h] at this; exact this
theorem kn_eq : EqOk Try.prog KN.eqs := fun _ h => by cases h
theorem awk {f : FuncId} {n d : Nat} (h : okTrue (evF Try.prog TY TZ KN n d f [] ⟨.lf, 0, 0, []⟩) = true) : QF f [] (.bool (.lit true)) := fn_true tyOk zOk kn_ok kn_eq mixed (names_of namesOk) h
end Go.Proofs.Ytagdbfklniiabaa
end
section
/- Statements about congruences: the sanity check. -/
namespace Go.Proofs.Ytagdbfklniiabaa
open Go Go.AM Go.CM
set_option maxRecDepth 100000
theorem awake19_fn : QF 8 [] (.bool (.lit true)) := awk (n := 1000) (d := 40) (by decide +kernel)
end Go.Proofs.Ytagdbfklniiabaa
end
section
/- The statement CongrRecognizes: the walk. -/
namespace Go.Proofs.Ytagdbfklniiabaa
open Go Go.AM
set_option maxRecDepth 100000
theorem large19_k (t : List (List Int)) (m : Int) (_ht : t.length ≤ 140737488355328) : fnK TY SP Try.f7 [.ro (.rows .i64 t), .int .i64 m] (.bool (.v (decide (m < t.length ∧ shapeV t = 0)))) := by
  refine And.intro (fun h1 => ?_) (fun h1 => ?_)
  · refine Or.inl (cq (rshape_fn t) (And.intro rfl trivial) ?_)
    refine And.intro ?_ trivial
    show decide (shapeV t = 0) = decide (m < t.length ∧ shapeV t = 0)
    simp [h1]
  · refine And.intro ?_ trivial
    show false = decide (m < t.length ∧ shapeV t = 0)
    rw [decide_eq_false (fun h => by omega)]
theorem large19_fn (t : List (List Int)) (m : Int) : QF 7 [.ro (.rows .i64 t), .int .i64 m] (.bool (.v (decide (m < t.length ∧ shapeV t = 0)))) := mkQ Try.func7 (by decide +kernel) rfl (Nat.le_of_ble_eq_true rfl) fun hf => large19_k t m hf.1.1
end Go.Proofs.Ytagdbfklniiabaa
end
section
/- The reference of ideals: its contracts (generated ideals, the kernel, which lists are ideals). -/
namespace Go.Proofs.Ytagdbfklniiabaa
open Go Go.AM
set_option maxRecDepth 100000
theorem rasc_k (t : List (List Int)) (l : List Int) (hll : l.length ≤ 140737488355328) : fnK TY SP Try.f83 [.ro (.rows .i64 t), .ro (.ints .i64 l)] (.bool (.v (ascB t l))) := by
  refine Exists.intro [] <| lp (X := Nat) (fun i => [(9, .int .i64 i)]) (fun _ => []) (fun i => AscTo t l i) (fun i => l.length - i) 0 .start (by repeat' first | refine And.intro ?_ ?_ | exact True.intro | (show (_ : Int) = (_ : Int); omega) | omega | exact rfl | (simp only [RO.len]; omega)) ?_
  intro i H
  have hi := H.le
  refine And.intro (fun h1 => ?_) (fun h1 => ?_)
  · have hil : i < l.length := by omega
    have no : ¬ (0 ≤ l.getD i 0 ∧ l.getD i 0 < (t.length : Int)) → false = ascB t l := fun hn => (ascB_false.2 fun hh => hn (hh.2.2 _ (getD_mem hil))).symm
    refine And.intro (by omega) ?_
    refine And.intro (fun h2 => ?_) (fun h2 => ?_)
    · have h2 : l.getD i 0 < 0 := h2
      exact And.intro (no (by omega)) trivial
    · have h2 : 0 ≤ l.getD i 0 := h2
      refine And.intro (fun h3 => ?_) (fun h3 => ?_)
      · have h3 : (t.length : Int) ≤ l.getD i 0 := h3
        exact And.intro (no (by omega)) trivial
      · have h3 : l.getD i 0 < (t.length : Int) := h3
        refine And.intro (fun h4 => ?_) (fun h4 => ?_)
        · refine And.intro (by omega) ?_
          refine And.intro (by omega) ?_
          have e1 : ((i : Int) - 1).toNat = i - 1 := by omega
          refine And.intro (fun h5 => ?_) (fun h5 => ?_)
          · have h5 : l.getD i 0 ≤ l.getD ((i : Int) - 1).toNat 0 := h5
            rw [e1] at h5
            refine And.intro ?_ trivial
            refine (ascB_false.2 fun hh => ?_).symm
            have := hh.2.1 (i - 1) (by omega)
            rw [show i - 1 + 1 = i by omega] at this
            omega
          · have h5 : l.getD ((i : Int) - 1).toNat 0 < l.getD i 0 := h5
            rw [e1] at h5
            refine And.intro (by omega) ?_
            exact nx (i + 1) (H.next hil h2 h3 fun _ => h5) (show l.length - (i + 1) < l.length - i by omega) (by repeat' first | refine And.intro ?_ ?_ | exact True.intro | (show (_ : Int) = (_ : Int); omega) | omega | exact rfl | (simp only [RO.len]; omega))
        · refine And.intro (by omega) ?_
          exact nx (i + 1) (H.next hil h2 h3 fun _ => by omega) (show l.length - (i + 1) < l.length - i by omega) (by repeat' first | refine And.intro ?_ ?_ | exact True.intro | (show (_ : Int) = (_ : Int); omega) | omega | exact rfl | (simp only [RO.len]; omega))
  · obtain ⟨hasc, hin⟩ := H.done (by omega)
    refine And.intro ?_ trivial
    show decide ((0 : Int) < (l.length : Int)) = ascB t l
    by_cases h0 : 0 < l.length
    · rw [ascB_true.2 ⟨h0, hasc, hin⟩]
      exact decide_eq_true (by omega)
    · rw [ascB_false.2 fun hh => h0 hh.1]
      exact decide_eq_false (by omega)
theorem rasc_fn (t : List (List Int)) (l : List Int) : QF 83 [.ro (.rows .i64 t), .ro (.ints .i64 l)] (.bool (.v (ascB t l))) := mkQ Try.func83 (by decide +kernel) rfl (Nat.le_of_ble_eq_true rfl) fun hf => rasc_k t l hf.2.1.1
theorem rIsIdeal_k (t : List (List Int)) (h : Semi t) (l : List Int) (hll : l.length ≤ 140737488355328) : fnK TY SP Try.f42 [.ro (.rows .i64 t), .ro (.ints .i64 l)] (.bool (.v (idB t l))) := by
  have hmost := h.most
  have hsh := h.toSh
  refine Or.inl (cq (rvalid_fn t) (And.intro rfl trivial) ?_)
  refine And.intro (fun h1 => ?_) (fun _ => ?_)
  · rw [decide_eq_true (valid_zero.2 h)] at h1; cases h1
  refine Or.inl (cq (rasc_fn t l) (And.intro rfl (And.intro rfl trivial)) ?_)
  refine And.intro (fun h1 => ?_) (fun h1 => ?_)
  · refine And.intro ?_ trivial
    have h1 : ascB t l = false := by simpa using h1
    exact (idB_false.2 fun hh => ascB_false.1 h1 ⟨hh.1, hh.2.1, hh.2.2.1⟩).symm
  have h1 : ascB t l = true := by simpa using h1
  obtain ⟨h0, hasc, hin⟩ := ascB_true.1 h1
  refine Or.inl (cq (rset_fn l t.length (by omega)) (And.intro rfl (And.intro rfl trivial)) ?_)
  have hsl := setB_len t.length (setI l)
  refine Exists.intro [] <| lp (X := Nat) (fun i => [(24, .int .i64 i)]) (fun _ => [(21, .vec 0 (.bools (setB t.length (setI l))) [])]) (fun i => i ≤ l.length ∧ ∀ j, j < i → ∀ s, s < t.length → setI l (en t (l.getD j 0).toNat s) = true ∧ setI l (en t s (l.getD j 0).toNat) = true) (fun i => l.length - i) 0 ⟨Nat.zero_le _, fun j hj => absurd hj (Nat.not_lt_zero _)⟩ (by repeat' first | refine And.intro ?_ ?_ | exact True.intro | (show (_ : Int) = (_ : Int); omega) | omega | exact rfl | (simp only [RO.len]; omega)) ?_
  rintro i ⟨hi2, hs⟩
  refine And.intro (fun h2 => ?_) (fun h2 => ?_)
  · have hil : i < l.length := by omega
    have hx := hin _ (getD_mem (d := 0) hil)
    have hxn : (l.getD i 0).toNat < t.length := by omega
    have hmem : setI l (l.getD i 0).toNat = true := setI_iff.2 (by rw [Int.toNat_of_nonneg hx.1]; exact getD_mem hil)
    refine And.intro (by omega) ?_
    refine Exists.intro [] <| lp (X := Nat) (fun s => [(30, .int .i64 s)]) (fun _ => [(21, .vec 0 (.bools (setB t.length (setI l))) [])]) (fun s => s ≤ t.length ∧ ∀ s', s' < s → setI l (en t (l.getD i 0).toNat s') = true ∧ setI l (en t s' (l.getD i 0).toNat) = true) (fun s => t.length - s) 0 ⟨Nat.zero_le _, fun j hj => absurd hj (Nat.not_lt_zero _)⟩ (by repeat' first | refine And.intro ?_ ?_ | exact True.intro | (show (_ : Int) = (_ : Int); omega) | omega | exact rfl | (simp only [RO.len]; omega)) ?_
    rintro s ⟨hsn, hss⟩
    refine And.intro (fun h3 => ?_) (fun h3 => ?_)
    · have hsl2 : s < t.length := by omega
      have r1 := hsh.len hxn
      have r2 := hsh.len hsl2
      have e1 := hsh.ent hxn hsl2
      have e2 := hsh.ent hsl2 hxn
      refine And.intro (show 0 ≤ l.getD i 0 ∧ l.getD i 0 < (t.length : Int) by omega) ?_
      refine And.intro (show 0 ≤ (s : Int) ∧ (s : Int) < ((t.getD (l.getD i 0).toNat []).length : Int) by omega) ?_
      refine And.intro (show 0 ≤ (t.getD (l.getD i 0).toNat []).getD s 0 ∧ (t.getD (l.getD i 0).toNat []).getD s 0 < ((setB t.length (setI l)).length : Int) by omega) ?_
      refine And.intro (fun h4 => ?_) (fun h4 => ?_)
      · have h4 : (!(setB t.length (setI l)).getD (en t (l.getD i 0).toNat s) false) = true := h4
        rw [setB_get e1.2] at h4
        refine And.intro ?_ trivial
        refine (idB_false.2 fun hh => ?_).symm
        have := (hh.2.2.2 _ s hxn hsl2 hmem).1
        rw [this] at h4; cases h4
      · have h4 : (!(setB t.length (setI l)).getD (en t (l.getD i 0).toNat s) false) = false := h4
        rw [setB_get e1.2] at h4
        refine And.intro ⟨by omega, show (s : Int) < (t.length : Int) by omega⟩ ?_
        refine And.intro (show 0 ≤ l.getD i 0 ∧ l.getD i 0 < ((t.getD s []).length : Int) by omega) ?_
        refine And.intro (show 0 ≤ (t.getD s []).getD (l.getD i 0).toNat 0 ∧ (t.getD s []).getD (l.getD i 0).toNat 0 < ((setB t.length (setI l)).length : Int) by omega) ?_
        refine And.intro (fun h5 => ?_) (fun h5 => ?_)
        · have h5 : (!(setB t.length (setI l)).getD (en t s (l.getD i 0).toNat) false) = true := h5
          rw [setB_get e2.2] at h5
          refine And.intro ?_ trivial
          refine (idB_false.2 fun hh => ?_).symm
          have := (hh.2.2.2 _ s hxn hsl2 hmem).2
          rw [this] at h5; cases h5
        · have h5 : (!(setB t.length (setI l)).getD (en t s (l.getD i 0).toNat) false) = false := h5
          rw [setB_get e2.2] at h5
          refine And.intro (by omega) ?_
          refine nx (s + 1) ⟨by omega, fun s' hs' => ?_⟩ (show t.length - (s + 1) < t.length - s by omega) (by repeat' first | refine And.intro ?_ ?_ | exact True.intro | (show (_ : Int) = (_ : Int); omega) | omega | exact rfl | (simp only [RO.len]; omega))
          by_cases e : s' = s
          · subst e; exact ⟨by simpa using h4, by simpa using h5⟩
          · exact hss s' (by omega)
    · refine And.intro (by omega) ?_
      refine nx (i + 1) ⟨by omega, fun j hj => ?_⟩ (show l.length - (i + 1) < l.length - i by omega) (by repeat' first | refine And.intro ?_ ?_ | exact True.intro | (show (_ : Int) = (_ : Int); omega) | omega | exact rfl | (simp only [RO.len]; omega))
      by_cases e : j = i
      · subst e; exact fun s' hs' => hss s' (by omega)
      · exact hs j (by omega)
  · refine And.intro ?_ trivial
    have hidf : IdF t (setI l) := fun x s hx hs' hm => by
      obtain ⟨j, hj, e⟩ := mem_getD 0 (setI_iff.1 hm)
      have := hs j (by omega) s hs'
      rw [e, Int.toNat_natCast] at this
      exact this
    exact (idB_true.2 ⟨h0, hasc, hin, hidf⟩).symm
theorem rIsIdeal_fn (t : List (List Int)) (h : Semi t) (l : List Int) : QF 42 [.ro (.rows .i64 t), .ro (.ints .i64 l)] (.bool (.v (idB t l))) := mkQ Try.func42 (by decide +kernel) rfl (Nat.le_of_ble_eq_true rfl) fun hf => rIsIdeal_k t h l hf.2.1.1
end Go.Proofs.Ytagdbfklniiabaa
end
section
/- The statement CongrSpecial: the walk. -/
namespace Go.Proofs.Ytagdbfklniiabaa
open Go Go.AM
set_option maxRecDepth 100000
theorem r19id_fn (t : List (List Int)) (h : Semi t) (l : List Int) : QF 14 [.ro (.rows .i64 t), .ro (.ints .i64 l)] (.bool (.v (idB t l))) := mkQ Try.func14 (by decide +kernel) rfl (Nat.le_of_ble_eq_true rfl) fun _ => by
  refine Or.inl (cq (rIsIdeal_fn t h l) (And.intro rfl (And.intro rfl trivial)) ?_)
  exact And.intro rfl trivial
theorem cgSpc_fn (t : List (List Int)) (l : List Int) : QF 3 [.ro (.rows .i64 t), .ro (.ints .i64 l)] (.bool (.lit true)) := mkQ Try.func3 (by decide +kernel) rfl (Nat.le_of_ble_eq_true rfl) fun _ => by
  refine Or.inl (cq (large19_fn t 10) (And.intro rfl (And.intro rfl trivial)) ?_)
  refine And.intro (fun _ => ?_) (fun h1 => ?_)
  · refine Or.inl (cq awake19_fn trivial ?_)
    exact And.intro rfl trivial
  by_cases hs : Semi t
  · have hn : t.length ≤ 10 := by
      have h1 : decide ((10 : Int) < t.length ∧ shapeV t = 0) = false := h1
      have := of_decide_eq_false h1
      have hz := shape_zero.2 hs.toSh
      omega
    by_cases hI : IdL t l
    · have hlen : l.length ≤ t.length := by rw [← hI.self]; exact ascV_len _ _
      refine Or.inl (cq (crees_fn t l hs hI) (And.intro rfl (And.intro rfl trivial)) ?_)
      refine Or.inl (cq (cSep_fn t hs) (And.intro rfl trivial) ?_)
      refine Or.inl (cq (rvalid_fn t) (And.intro rfl trivial) ?_)
      refine And.intro (fun h2 => ?_) (fun _ => ?_)
      · have h2 : (!decide (validV t = 0)) = true := h2
        rw [decide_eq_true (valid_zero.2 hs)] at h2; exact absurd h2 (by decide)
      refine Or.inl (cq (rsep_fn t hs (by omega)) (And.intro rfl trivial) ?_)
      refine Or.inl (cq (same_fn (sepP t) (sepP t)) (And.intro rfl (And.intro rfl trivial)) ?_)
      refine And.intro (fun h2 => ?_) (fun _ => ?_)
      · have h2 : (!decide (sepP t = sepP t)) = true := h2
        rw [decide_eq_true rfl] at h2; exact absurd h2 (by decide)
      refine Or.inl (cq (r19id_fn t hs l) (And.intro rfl (And.intro rfl trivial)) ?_)
      refine And.intro (fun h2 => ?_) (fun _ => ?_)
      · have h2 : (!idB t l) = true := h2
        rw [idB_true.2 hI] at h2; exact absurd h2 (by decide)
      refine Or.inl (cq (rrees_fn t l (by omega) hI.1 hI.2.2.1 (by omega)) (And.intro rfl (And.intro rfl trivial)) ?_)
      refine Or.inl (cq (same_fn (canon (reI t.length l)) (canon (reI t.length l))) (And.intro rfl (And.intro rfl trivial)) ?_)
      refine And.intro (fun _ => ?_) (fun h => absurd rfl (of_decide_eq_false h))
      refine Or.inl (cq awake19_fn trivial ?_)
      exact And.intro rfl trivial
    · refine Or.inl (cq (creesN_fn t l (fun h => hI h.2)) (And.intro rfl (And.intro rfl trivial)) ?_)
      refine Or.inl (cq (cSep_fn t hs) (And.intro rfl trivial) ?_)
      refine Or.inl (cq (rvalid_fn t) (And.intro rfl trivial) ?_)
      refine And.intro (fun h2 => ?_) (fun _ => ?_)
      · have h2 : (!decide (validV t = 0)) = true := h2
        rw [decide_eq_true (valid_zero.2 hs)] at h2; exact absurd h2 (by decide)
      refine Or.inl (cq (rsep_fn t hs (by omega)) (And.intro rfl trivial) ?_)
      refine Or.inl (cq (same_fn (sepP t) (sepP t)) (And.intro rfl (And.intro rfl trivial)) ?_)
      refine And.intro (fun h2 => ?_) (fun _ => ?_)
      · have h2 : (!decide (sepP t = sepP t)) = true := h2
        rw [decide_eq_true rfl] at h2; exact absurd h2 (by decide)
      refine Or.inl (cq (r19id_fn t hs l) (And.intro rfl (And.intro rfl trivial)) ?_)
      refine And.intro (fun _ => ?_) (fun h2 => ?_)
      · refine And.intro (fun _ => ?_) (fun h => absurd rfl h)
        refine Or.inl (cq awake19_fn trivial ?_)
        exact And.intro rfl trivial
      · have h2 : (!idB t l) = false := h2
        rw [idB_false.2 hI] at h2; exact absurd h2 (by decide)
  · refine Or.inl (cq (creesN_fn t l (fun h => hs h.1)) (And.intro rfl (And.intro rfl trivial)) ?_)
    refine Or.inl (cq (cSepN_fn t hs) (And.intro rfl trivial) ?_)
    refine Or.inl (cq (rvalid_fn t) (And.intro rfl trivial) ?_)
    refine And.intro (fun _ => ?_) (fun h2 => ?_)
    · refine And.intro (fun _ => ?_) (fun h => absurd rfl h)
      refine And.intro (fun _ => ?_) (fun h => absurd rfl h)
      refine Or.inl (cq awake19_fn trivial ?_)
      exact And.intro rfl trivial
    · have h2 : (!decide (validV t = 0)) = false := h2
      exact absurd (valid_zero.1 (by simpa using h2)) hs
end Go.Proofs.Ytagdbfklniiabaa
end
section
/- From contracts to the given statements: how the arguments read, before and after. -/
namespace Go.Proofs.Ytagdbfklniiabaa
open Go Go.AM
open Go.ChangeShapes Go.WideShapes Go.ChangeAt Go.RowKit Go.Deep
def noM : Msk := fun _ _ => False
section
variable {H : Type} {enc : TypeId × Value → H} {P : Program} {w : World}
theorem wf_in {k : IntKind} {n : Int} (h : (Lit.int k n).wf = true) : inK k n := by
  simp only [Lit.wf, Bool.and_eq_true, decide_eq_true_eq] at h
  exact h
theorem weight_mem {e : TypeId} {d : DataW H} {x : Nat} : ∀ {l : List (DataW H)}, d ∈ l → x ∈ d.weights P e → x ∈ DataW.weightsAll P e l
  | [], h, _ => by cases h
  | c :: l, h, hx => by
    simp only [DataW.weightsAll, List.mem_append]
    rcases List.mem_cons.1 h with rfl | h
    · exact .inl hx
    · exact .inr (weight_mem h hx)
theorem rows_rep {t e q : TypeId} {n : Nat} {v : Value} {y : DataW H × List MemPlace} (ht : P.underlying t = some (.slice e)) (he : P.underlying e = some (.slice q)) (hq : P.underlying q = some (.int .i64)) (ce : P.cellsOf e = 1) (cq : P.cellsOf q = 1)
    (be : 1 ≤ P.bytesOf e) (bq : 1 ≤ P.bytesOf q) (h : DataW.trod enc P w 0 (fun _ => true) true n t [v] = some y) (hw : ∀ x ∈ y.1.weights P t, x ≤ reachBytes) : ∃ l, RepC noEnv w noM (.ro (.rows .i64 l)) v := by
  have hrb : reachBytes = 140737488351232 := rfl
  rcases open_int_rows ht he hq ce cq h with ⟨hv, _⟩ | ⟨a, len, cap, A, L, C, Z, hv, _, hl, hm, hy, hrows⟩
  · obtain rfl : v = .slice none 0 0 := by simpa using hv
    exact ⟨[], Nat.zero_le _, none, 0, rfl, Nat.le_refl _, .inl rfl⟩
  · obtain rfl : v = .slice (some a) len cap := by simpa using hv
    subst hy
    have hlen : len * P.bytesOf e ≤ reachBytes := by
      have := hw ((len + (cap - len)) * P.bytesOf e) (by simp [DataW.weights, ht])
      exact Nat.le_trans (Nat.mul_le_mul_right _ (by omega)) this
    have hlen1 : len ≤ reachBytes := Nat.le_trans (by have := Nat.mul_le_mul_left len be; omega) hlen
    have hL : ∀ r, r < len → L r ≤ reachBytes := fun r hr => by
      obtain ⟨_, h1, h2, h3, _, h4, _⟩ := hrows r (by omega)
      cases hA : A r with
      | none => have := h4 hA; omega
      | some a' =>
        have hx : (L r + ((Z r).length - L r)) * P.bytesOf q ≤ reachBytes := by
          refine hw _ ?_
          simp only [DataW.weights, ht, List.mem_cons, List.mem_append]
          refine .inr (.inl (weight_mem (d := intRow .i64 (A r) (L r) (Z r)) (List.mem_map.2 ⟨r, List.mem_range.2 hr, rfl⟩) ?_))
          rw [hA]
          simp [intRow, DataW.weights, he, lits]
          left
          rw [Nat.min_eq_left (by omega)]
        have h5 : L r * 1 ≤ (L r + ((Z r).length - L r)) * P.bytesOf q := Nat.mul_le_mul (by omega) bq
        omega
    refine ⟨(List.range len).map fun r => (Z r).take (L r), ?_⟩
    have hll : (RO.rows .i64 ((List.range len).map fun r => (Z r).take (L r))).len = len := by simp [RO.len]
    refine ⟨by rw [hll]; exact Nat.le_trans hlen1 (by rw [hrb]; decide), some a, cap, by rw [hll], by rw [hll]; exact hl, ?_⟩
    by_cases h0 : len = 0
    · exact .inl (by rw [RO.cells, hll, h0, Nat.zero_mul])
    have hcell0 := (hrows 0 (by omega)).1
    obtain ⟨b, off, spot⟩ := a
    have hspot : spot = none := by simpa [Addr.add] using World.cell?_spot hcell0
    subst hspot
    refine .inr ⟨b, off, rfl, fun r hr => ?_⟩
    have hr : r < len := by simpa [RO.cells, hll, RO.sz] using hr
    obtain ⟨h1, h2, h3, h4, h5, h6, h7⟩ := hrows r (by omega)
    refine ⟨.slice (A r) (L r) (C r), by rw [← add_plain]; exact h1, fun hh => hh, ?_⟩
    have hget : ((List.range len).map fun r => (Z r).take (L r)).getD r [] = (Z r).take (L r) := by simp [List.getD, hr]
    show SlI w noM .i64 (((List.range len).map fun r => (Z r).take (L r)).getD r []) _
    rw [hget]
    have hzl : ((Z r).take (L r)).length = L r := by rw [List.length_take]; omega
    refine ⟨by rw [hzl]; have := hL r hr; simp only [LB]; omega, A r, C r, by rw [hzl], by rw [hzl]; exact h2, ?_⟩
    by_cases hl0 : L r = 0
    · exact .inl (by rw [hzl, hl0])
    cases hA : A r with
    | none => have := h6 hA; omega
    | some a' =>
      obtain ⟨h8, h9⟩ := h7 a' hA
      obtain ⟨b', off', spot'⟩ := a'
      have hspot : spot' = none := by simpa [Addr.add] using World.cell?_spot (h9 0 (by omega))
      subst hspot
      refine .inr ⟨b', off', rfl, fun c hc => ?_⟩
      rw [hzl] at hc
      have hg2 : ((Z r).take (L r)).getD c 0 = (Z r).getD c 0 := by simp [List.getD, hc]
      refine ⟨.int .i64 ((Z r).getD c 0), by rw [← add_plain]; exact h9 c (by omega), fun hh => hh, by rw [hg2], ?_⟩
      rw [hg2]
      refine wf_in (h5 _ ?_)
      have : c < (Z r).length := by omega
      simp [List.getD, this]
theorem ints_rep {t e : TypeId} {n : Nat} {v : Value} {y : DataW H × List MemPlace} (ht : P.underlying t = some (.slice e)) (he : P.underlying e = some (.int .i64)) (ce : P.cellsOf e = 1)
    (be : 1 ≤ P.bytesOf e) (h : DataW.trod enc P w 0 (fun _ => true) true n t [v] = some y) (hw : ∀ x ∈ y.1.weights P t, x ≤ reachBytes) : ∃ l, RepC noEnv w noM (.ro (.ints .i64 l)) v := by
  have hrb : reachBytes = 140737488351232 := rfl
  rcases open_ints ht he ce h with ⟨hv, _⟩ | ⟨a, len, cap, zs, hv, _, hl, hm, hz, hy, hcell, hwf⟩
  · obtain rfl : v = .slice none 0 0 := by simpa using hv
    exact ⟨[], Nat.zero_le _, none, 0, rfl, Nat.le_refl _, .inl rfl⟩
  · obtain rfl : v = .slice (some a) len cap := by simpa using hv
    subst hy
    simp only [if_true] at hz
    have hlen : (len + (zs.length - len)) * P.bytesOf e ≤ reachBytes := hw _ (by simp [DataW.weights, ht, lits]; left; rw [Nat.min_eq_left (by omega)])
    have hlen1 : len * 1 ≤ (len + (zs.length - len)) * P.bytesOf e := Nat.mul_le_mul (by omega) be
    have hzl : (zs.take len).length = len := by rw [List.length_take]; omega
    refine ⟨zs.take len, by show (zs.take len).length ≤ _; rw [hzl]; simp only [LB]; omega, some a, cap, by show _ = Value.slice _ (zs.take len).length _; rw [hzl], by show (zs.take len).length ≤ _; rw [hzl]; exact hl, ?_⟩
    by_cases hl0 : len = 0
    · exact .inl (by simp [RO.cells, RO.len, hl0])
    obtain ⟨b, off, spot⟩ := a
    have hspot : spot = none := by simpa [Addr.add] using World.cell?_spot (hcell 0 (by omega))
    subst hspot
    refine .inr ⟨b, off, rfl, fun c hc => ?_⟩
    have hc : c < len := by simpa [RO.cells, RO.len, RO.sz, hzl] using hc
    have hg2 : (zs.take len).getD c 0 = zs.getD c 0 := by simp [List.getD, hc]
    refine ⟨.int .i64 (zs.getD c 0), by rw [← add_plain]; exact hcell c (by omega), fun hh => hh, by rw [hg2], ?_⟩
    rw [hg2]
    refine wf_in (hwf _ ?_)
    have : c < zs.length := by omega
    simp [List.getD, this]
theorem stp_heap {W W' : World} (hs : Stp (fun _ _ => False) W W') {b : Nat} (hb : b < W.heap.size) : W'.heap[b]? = W.heap[b]? := by
  rcases hs.2 b hb with h | ⟨cs, cs', ty, h1, h2, h3, h4⟩ | ⟨_, _, _, _, _, _, h⟩
  · exact h
  · rw [h1, h2]
    have : cs' = cs := Array.ext_getElem? fun i => h4 i (by simp)
    rw [this]
  · exact h.elim
theorem stp_trod {t : TypeId} (hl : laidOutB P = true) (hr : P.readableRec t = true) (hrow : t < P.types.size) {W W' : World} {v : Value} {d : DataW H} {ps : List MemPlace}
    (h : DataW.Trod enc P W 0 (fun _ => true) true t v d ps) (hs : Stp (fun _ _ => False) W W') (hlt : ∀ x ∈ ps, x.block < W.heap.size) (sp : Nat → Bool) (hsp : ∀ x ∈ ps, sp x.block = true) :
    DataW.Trod enc P W' 0 sp true t v d ps :=
  WideElems.Trod_stays hl hr hrow h (fun x hx => by
    have hb := hlt x hx
    cases x with
    | cell b o => exact World.cell?_of_block (w := W) (stp_heap hs hb)
    | map b => exact stp_heap hs hb) hsp
theorem stp_kept {W W' : World} (hs : Stp (fun _ _ => False) W W') (may : MemPlace → Prop) : W.keptBut W' may := by
  refine ⟨hs.3.1.1, hs.3.1.2, fun i hi => ?_⟩
  rw [stp_heap hs hi]
  cases W.heap[i]? with
  | none => exact rfl
  | some o => cases o <;> first | exact ⟨rfl, rfl, rfl, fun _ _ => rfl⟩ | exact .inr ⟨rfl, rfl⟩ | exact rfl
theorem each_mem : ∀ {ts : List TypeId} {ds : List (DataW H)} {j : Nat} {t : TypeId} {d : DataW H} {x : Nat}, ts[j]? = some t → ds[j]? = some d → x ∈ d.weights P t → x ∈ DataW.weightsEach P ts ds
  | [], _, j, _, _, _, h, _, _ => by simp at h
  | _ :: _, [], j, _, _, _, _, h, _ => by simp at h
  | t :: ts, d :: ds, 0, t', d', x, h1, h2, hx => by
    simp at h1 h2
    subst h1; subst h2
    simp [DataW.weightsEach, hx]
  | t :: ts, d :: ds, j + 1, t', d', x, h1, h2, hx => by
    have := each_mem (ts := ts) (ds := ds) (j := j) (by simpa using h1) (by simpa using h2) hx
    simp [DataW.weightsEach, this]
theorem rows_arg {t e q : TypeId} {r : Reach} {b0 : Nat} {v : Value} {d : DataW H} {p : List MemPlace} (ht : P.underlying t = some (.slice e)) (he : P.underlying e = some (.slice q)) (hq : P.underlying q = some (.int .i64)) (ce : P.cellsOf e = 1) (cq : P.cellsOf q = 1)
    (be : 1 ≤ P.bytesOf e) (bq : 1 ≤ P.bytesOf q) (hv : Value.okWide P w r b0 t v) (h : DataW.Trod enc P w 0 (fun _ => true) true t v d p) (hw : ∀ x ∈ d.weights P t, x ≤ reachBytes) : ∃ l, RepT noEnv w noM (.ro (.rows .i64 l)) v := by
  obtain ⟨a, len, cap, rfl⟩ := okWide_slice ht hv
  obtain ⟨fuel, hf⟩ := h
  exact rows_rep ht he hq ce cq be bq (y := (d, p)) hf hw
theorem ints_arg {t e : TypeId} {r : Reach} {b0 : Nat} {v : Value} {d : DataW H} {p : List MemPlace} (ht : P.underlying t = some (.slice e)) (he : P.underlying e = some (.int .i64)) (ce : P.cellsOf e = 1)
    (be : 1 ≤ P.bytesOf e) (hv : Value.okWide P w r b0 t v) (h : DataW.Trod enc P w 0 (fun _ => true) true t v d p) (hw : ∀ x ∈ d.weights P t, x ≤ reachBytes) : ∃ l, RepT noEnv w noM (.ro (.ints .i64 l)) v := by
  obtain ⟨a, len, cap, rfl⟩ := okWide_slice ht hv
  obtain ⟨fuel, hf⟩ := h
  exact ints_rep ht he ce be (y := (d, p)) hf hw
end
end Go.Proofs.Ytagdbfklniiabaa
end
