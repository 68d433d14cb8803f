import Derived.Test.YtpanlghofeebhaaRefMin
import Derived.Test.YtpanlghofeebhaaCgSyn
import Derived.Test.YtpanlghofeebhaaIdealLaw
import Derived.Test.YtpanlghofeebhaaCgFor
import Derived.Test.YtpanlghofeebhaaCgMin
import Derived.Test.YtpanlghofeebhaaGroup
section
/- The reference's principal and minimal congruences: contracts. -/
namespace Go.Proofs.Ytpanlghofeebhaa
open Go Go.AM
set_option maxRecDepth 100000
noncomputable def prnG (t : List (List Int)) (x y : Nat) : List Int := genP t 0 (relP [((x : Int), (y : Int))])
noncomputable def prnL (t : List (List Int)) : List (List Int) := srt cmpL (firsts ((List.range t.length).flatMap fun x => (List.range x).map fun y => prnG t x y))
theorem prnL_srt (t : List (List Int)) : Srt cmpL (prnL t) := srt_srt cmpL_tot (firsts_nodup _)
theorem mem_prnL {t : List (List Int)} {p : List Int} : p ∈ prnL t ↔ ∃ x y, y < x ∧ x < t.length ∧ p = prnG t x y := by
  unfold prnL
  rw [srt_mem, mem_firsts, List.mem_flatMap]
  constructor
  · rintro ⟨x, hx, h⟩
    obtain ⟨y, hy, rfl⟩ := List.mem_map.1 h
    exact ⟨x, y, List.mem_range.1 hy, List.mem_range.1 hx, rfl⟩
  · rintro ⟨x, y, h1, h2, rfl⟩
    exact ⟨x, List.mem_range.2 h2, List.mem_map.2 ⟨y, List.mem_range.2 h1, rfl⟩⟩
structure PrI (t : List (List Int)) (x y : Nat) (L : List (List Int)) : Prop where
  srt : Srt cmpL L
  mem : ∀ p, p ∈ L ↔ ∃ a b, b < a ∧ (a < x ∨ a = x ∧ b < y) ∧ p = prnG t a b
  len : L.length ≤ x * 60 + y
theorem PrI.start (t : List (List Int)) : PrI t 0 0 [] := ⟨List.Pairwise.nil, fun p => ⟨fun h => absurd h List.not_mem_nil, fun ⟨a, b, _, h, _⟩ => by omega⟩, Nat.le_refl _⟩
theorem PrI.next {t : List (List Int)} {x y : Nat} {L : List (List Int)} (h : PrI t x y L) (hy : y < x) : PrI t x (y + 1) (insC cmpL L (prnG t x y)) := by
  refine ⟨insC_srt cmpL_tot h.srt, fun p => ?_, ?_⟩
  · rw [insC_mem, h.mem]
    constructor
    · rintro (rfl | ⟨a, b, h1, h2, rfl⟩)
      · exact ⟨x, y, hy, by omega, rfl⟩
      · exact ⟨a, b, h1, by omega, rfl⟩
    · rintro ⟨a, b, h1, h2, rfl⟩
      by_cases e : a = x ∧ b = y
      · obtain ⟨rfl, rfl⟩ := e; exact .inl rfl
      · exact .inr ⟨a, b, h1, by omega, rfl⟩
  · have := insC_len (c := cmpL) L (prnG t x y)
    have := h.len
    omega
theorem PrI.row {t : List (List Int)} {x y : Nat} {L : List (List Int)} (h : PrI t x y L) (hy : x ≤ y) (hx : y ≤ 60) : PrI t (x + 1) 0 L :=
  ⟨h.srt, fun p => (h.mem p).trans ⟨fun ⟨a, b, h1, h2, h3⟩ => ⟨a, b, h1, by omega, h3⟩, fun ⟨a, b, h1, h2, h3⟩ => ⟨a, b, h1, by omega, h3⟩⟩, by have := h.len; omega⟩
theorem PrI.done {t : List (List Int)} {x : Nat} {L : List (List Int)} (h : PrI t x 0 L) (hx : x = t.length) : L = prnL t := by
  refine sorted_uniq cmpL_tot h.srt (prnL_srt t) fun p => ?_
  rw [h.mem, mem_prnL]
  exact ⟨fun ⟨a, b, h1, h2, h3⟩ => ⟨a, b, h1, by omega, h3⟩, fun ⟨a, b, h1, h2, h3⟩ => ⟨a, b, h1, by omega, h3⟩⟩
set_option maxHeartbeats 1000000 in
theorem rprn_fn (t : List (List Int)) (hs : Sh t) (ht : t.length ≤ 60) : QF 70 [.ro (.rows .i64 t)] (.ro (.rows .i64 (prnL t))) := mkQ Try.func70 (by decide +kernel) rfl (Nat.le_of_ble_eq_true rfl) fun _ => by
  refine Exists.intro [20, 21, 22, 10021, 10022] <| lp2 (fun (x : Nat) (L : List (List Int)) => [(8, .int .i64 x), (3, .ro (.rows .i64 L))]) (fun _ _ => []) (fun x L => x ≤ t.length ∧ PrI t x 0 L) (fun x _ => t.length - x) 0 [] ⟨Nat.zero_le _, .start t⟩ (by repeat' first | refine And.intro ?_ ?_ | exact True.intro | (show (_ : Int) = (_ : Int); omega) | omega | exact rfl | (simp only [RO.len]; omega)) ?_
  rintro x L0 ⟨hx, h0⟩
  refine And.intro (fun h1 => ?_) (fun h1 => ?_)
  · have h1 : (x : Int) < (t.length : Int) := h1
    refine Exists.intro [20, 21, 22, 10021, 10022] <| lp2 (fun (y : Nat) (L : List (List Int)) => [(5, .int .i64 y), (3, .ro (.rows .i64 L))]) (fun _ _ => []) (fun y L => y ≤ x ∧ PrI t x y L) (fun y _ => x - y) 0 L0 ⟨Nat.zero_le _, h0⟩ (by repeat' first | refine And.intro ?_ ?_ | exact True.intro | (show (_ : Int) = (_ : Int); omega) | omega | exact rfl | (simp only [RO.len]; omega)) ?_
    rintro y L ⟨hy, hI⟩
    have hLl := hI.len
    refine And.intro (fun h2 => ?_) (fun h2 => ?_)
    · have h2 : (y : Int) < (x : Int) := h2
      have hin : inW t.length [((x : Int), (y : Int))] := fun q hq => by rw [List.mem_singleton] at hq; subst hq; exact ⟨⟨by omega, h1⟩, by omega, by show (y : Int) < (t.length : Int); omega⟩
      refine Or.inl (cq (rgnr_fn t [((x : Int), (y : Int))] 0 hs hin) (And.intro rfl (And.intro rfl (And.intro rfl trivial))) ?_)
      refine Or.inl (cq (insRow_fn L (prnG t x y) (by omega) hI.srt) (And.intro rfl (And.intro rfl trivial)) ?_)
      refine And.intro (by omega) ?_
      exact nx (y + 1, insC cmpL L (prnG t x y)) ⟨by omega, hI.next (by omega)⟩ (show x - (y + 1) < x - y by omega) (by repeat' first | refine And.intro ?_ ?_ | exact True.intro | (show (_ : Int) = (_ : Int); omega) | omega | exact rfl | (simp only [RO.len]; omega))
    · have h2 : (x : Int) ≤ (y : Int) := h2
      refine And.intro (by omega) ?_
      exact nx (x + 1, L) ⟨by omega, hI.row (by omega) (by omega)⟩ (show t.length - (x + 1) < t.length - x by omega) (by repeat' first | refine And.intro ?_ ?_ | exact True.intro | (show (_ : Int) = (_ : Int); omega) | omega | exact rfl | (simp only [RO.len]; omega))
  · have h1 : (t.length : Int) ≤ (x : Int) := h1
    refine And.intro ?_ trivial
    exact congrArg (RO.rows .i64) (h0.done (by omega))
noncomputable def mcB (l : List (List Int)) (p : List Int) : Bool := l.all fun q => decide (p = q) || !rfB q p
noncomputable def mcL (l : List (List Int)) : List (List Int) := l.filter (mcB l)
theorem mcB_true {l : List (List Int)} {p : List Int} : mcB l p = true ↔ ∀ q ∈ l, rfB q p = true → p = q := by
  unfold mcB
  rw [List.all_eq_true]
  refine forall_congr' fun q => forall_congr' fun _ => ?_
  rw [Bool.or_eq_true, decide_eq_true_iff, Bool.not_eq_true']
  cases rfB q p <;> simp
theorem prnG_is {t : List (List Int)} (h : Semi t) (x y : Nat) : IsCg t (prnG t x y) 0 := genP_is h (by decide)
theorem prnG_eq {t : List (List Int)} {x y : Nat} (hx : x < t.length) (hy : y < t.length) : (prnG t x y).getD x 0 = (prnG t x y).getD y 0 :=
  (genP_iff hx hy).2 (.rel (List.mem_singleton.2 rfl))
theorem prnG_sub {t : List (List Int)} {x y : Nat} {q : List Int} (hq : IsCg t q 0) (e : q.getD x 0 = q.getD y 0) : Sub t.length (prnG t x y) q := fun a b ha hb h => by
  refine Cgr.sub (fun c d hcd => ?_) hq.cg ((genP_iff ha hb).1 h)
  have := List.mem_singleton.1 hcd
  injection this with h1 h2
  have h1 : c = x := by omega
  have h2 : d = y := by omega
  rw [h1, h2]; exact e
theorem rf_sub2 {p q : List Int} {n : Nat} (hp : p.length = n) : rfB p q = true ↔ Sub n p q := by
  rw [rfB_true, ← hp]; exact Iff.rfl
theorem Joins.gen {t : List (List Int)} {q : List Int} (hj : Joins t.length q) : ∃ x y, y < x ∧ x < t.length ∧ q.getD x 0 = q.getD y 0 := by
  obtain ⟨a, b, ha, hb, hne, e⟩ := hj
  by_cases h : b < a
  · exact ⟨a, b, h, ha, e⟩
  · exact ⟨b, a, by omega, hb, e.symm⟩
theorem mc_min {t : List (List Int)} (h : Semi t) (p : List Int) : p ∈ mcL (prnL t) ↔ MinC t p := by
  unfold mcL
  rw [List.mem_filter, mcB_true]
  constructor
  · rintro ⟨hp, hm⟩
    obtain ⟨x, y, hy, hx, rfl⟩ := mem_prnL.1 hp
    refine ⟨prnG_is h x y, ⟨x, y, hx, by omega, by omega, prnG_eq hx (by omega)⟩, fun q hq hj hs => ?_⟩
    obtain ⟨a, b, hb, ha, e⟩ := hj.gen
    have h1 := prnG_sub (x := a) (y := b) hq e
    have h2 := hm (prnG t a b) (mem_prnL.2 ⟨a, b, hb, ha, rfl⟩) ((rf_sub2 (prnG_is h a b).len).2 fun c d hc hd e2 => hs c d hc hd (h1 c d hc hd e2))
    rw [h2]; exact h1
  · intro hm
    obtain ⟨a, b, hb, ha, e⟩ := hm.jo.gen
    have h1 := prnG_sub (x := a) (y := b) hm.cg e
    have hj : Joins t.length (prnG t a b) := ⟨a, b, ha, by omega, by omega, prnG_eq ha (by omega)⟩
    have h2 := sub_eq hm.cg.len (prnG_is h a b).len hm.cg.val.2 (prnG_is h a b).val.2 (hm.mi _ (prnG_is h a b) hj h1) h1
    refine ⟨mem_prnL.2 ⟨a, b, hb, ha, h2⟩, fun q hq hr => ?_⟩
    obtain ⟨c, d, hd, hc, rfl⟩ := mem_prnL.1 hq
    have h3 := (rf_sub2 (prnG_is h c d).len).1 hr
    exact sub_eq hm.cg.len (prnG_is h c d).len hm.cg.val.2 (prnG_is h c d).val.2 (hm.mi _ (prnG_is h c d) ⟨c, d, hc, by omega, by omega, prnG_eq hc (by omega)⟩ h3) h3
theorem mc_mins {t : List (List Int)} (h : Semi t) : minsL t = mcL (prnL t) := mins_of ((prnL_srt t).filter _) (mc_min h)
theorem prnL_len {t : List (List Int)} : (prnL t).length ≤ t.length * t.length := by
  unfold prnL
  rw [srt_len]
  refine Nat.le_trans (firsts_le _) ?_
  rw [List.length_flatMap]
  have : ∀ n, ((List.range n).map fun x => ((List.range x).map fun y => prnG t x y).length).sum ≤ n * t.length ∨ t.length < n := fun n => by
    induction n with
    | zero => exact .inl (by simp)
    | succ n ih =>
      by_cases hn : t.length < n + 1
      · exact .inr hn
      · refine .inl ?_
        rcases ih with ih | ih
        · rw [List.range_succ, List.map_append, List.sum_append, Nat.succ_mul]
          simp only [List.map_cons, List.map_nil, List.sum_cons, List.sum_nil, List.length_map, List.length_range]
          simp only [List.length_map, List.length_range] at ih
          omega
        · omega
  rcases this t.length with h | h
  · exact h
  · omega
set_option maxHeartbeats 1000000 in
theorem rmin_fn (t : List (List Int)) (hs : Semi t) (ht : t.length ≤ 60) : QF 25 [.ro (.rows .i64 t)] (.ro (.rows .i64 (minsL t))) := mkQ Try.func25 (by decide +kernel) rfl (Nat.le_of_ble_eq_true rfl) fun _ => by
  have hl : ∀ p ∈ prnL t, p.length = t.length := fun p hp => by
    obtain ⟨x, y, _, _, rfl⟩ := mem_prnL.1 hp
    exact genP_len
  have hpl : (prnL t).length ≤ 3600 := Nat.le_trans prnL_len (Nat.mul_le_mul ht ht)
  refine Or.inl (cq (rprn_fn t hs.toSh ht) (And.intro rfl trivial) ?_)
  refine Exists.intro [] <| lp2 (fun (i : Nat) (_ : List (List Int)) => [(14, .int .i64 i), (3, .vec 41)]) (fun _ O => [(41, .vec 0 (.rows .i64 O) [])]) (fun i O => i ≤ (prnL t).length ∧ O = ((prnL t).take i).filter (mcB (prnL t))) (fun i _ => (prnL t).length - i) 0 [] ⟨Nat.zero_le _, rfl⟩ (by repeat' first | refine And.intro ?_ ?_ | exact True.intro | (show (_ : Int) = (_ : Int); omega) | omega | exact rfl | (simp only [RO.len]; omega)) ?_
  rintro i O ⟨hi, hO⟩
  have hOl : O.length ≤ i := by rw [hO]; refine Nat.le_trans (List.length_filter_le _ _) ?_; rw [List.length_take]; omega
  refine And.intro (fun h1 => ?_) (fun h1 => ?_)
  · have h1 : (i : Int) < ((prnL t).length : Int) := h1
    have hil : i < (prnL t).length := by omega
    have hpi := hl _ (getD_mem (d := []) hil)
    have hst : ((prnL t).take (i + 1)).filter (mcB (prnL t)) = O ++ (if mcB (prnL t) ((prnL t).getD i []) then [(prnL t).getD i []] else []) := by
      rw [hO, List.take_succ_eq_append_getElem hil, List.filter_append, getD_eq hil]
      cases h : mcB (prnL t) (prnL t)[i] <;> simp [h]
    refine And.intro (by omega) ?_
    refine Exists.intro [] <| lp2 (fun (j : Nat) (b : Bool) => [(20, .int .i64 j), (7, .bool (.v b))]) (fun _ _ => []) (fun j b => j ≤ (prnL t).length ∧ b = ((prnL t).take j).all fun q => decide ((prnL t).getD i [] = q) || !rfB q ((prnL t).getD i [])) (fun j _ => (prnL t).length - j) 0 true ⟨Nat.zero_le _, rfl⟩ (by repeat' first | refine And.intro ?_ ?_ | exact True.intro | (show (_ : Int) = (_ : Int); omega) | omega | exact rfl | (simp only [RO.len]; omega)) ?_
    rintro j b ⟨hj, hb⟩
    refine And.intro (fun h2 => ?_) (fun h2 => ?_)
    · have h2 : (j : Int) < ((prnL t).length : Int) := h2
      have hjl : j < (prnL t).length := by omega
      have hpj := hl _ (getD_mem (d := []) hjl)
      have hsb : (((prnL t).take (j + 1)).all fun q => decide ((prnL t).getD i [] = q) || !rfB q ((prnL t).getD i [])) = (b && (decide ((prnL t).getD i [] = (prnL t).getD j []) || !rfB ((prnL t).getD j []) ((prnL t).getD i []))) := by
        rw [hb, List.take_succ_eq_append_getElem hjl, List.all_append, getD_eq hjl]; simp
      refine And.intro (by omega) ?_
      refine And.intro (fun h3 => ?_) (fun h3 => ?_)
      · have h3 : b = true := h3
        refine Or.inl (cq (same_fn ((prnL t).getD i []) ((prnL t).getD j [])) (And.intro rfl (And.intro rfl trivial)) ?_)
        refine And.intro (fun h4 => ?_) (fun h4 => ?_)
        · have h4 : decide ((prnL t).getD i [] = (prnL t).getD j []) = true := h4
          refine And.intro (by omega) ?_
          exact nx (j + 1, true) ⟨by omega, by rw [hsb, h3, h4]; rfl⟩ (show (prnL t).length - (j + 1) < (prnL t).length - j by omega) (by repeat' first | refine And.intro ?_ ?_ | exact True.intro | (show (_ : Int) = (_ : Int); omega) | omega | exact rfl | (simp only [RO.len]; omega))
        · have h4 : decide ((prnL t).getD i [] = (prnL t).getD j []) = false := h4
          refine Or.inl (cq (rrefn_fn ((prnL t).getD j []) ((prnL t).getD i []) (by omega)) (And.intro rfl (And.intro rfl trivial)) ?_)
          refine And.intro (by omega) ?_
          exact nx (j + 1, !rfB ((prnL t).getD j []) ((prnL t).getD i [])) ⟨by omega, by rw [hsb, h3, h4]; rfl⟩ (show (prnL t).length - (j + 1) < (prnL t).length - j by omega) (by repeat' first | refine And.intro ?_ ?_ | exact True.intro | (show (_ : Int) = (_ : Int); omega) | omega | exact rfl | (simp only [RO.len]; omega))
      · have h3 : b = false := h3
        refine And.intro (by omega) ?_
        exact nx (j + 1, false) ⟨by omega, by rw [hsb, h3]; rfl⟩ (show (prnL t).length - (j + 1) < (prnL t).length - j by omega) (by repeat' first | refine And.intro ?_ ?_ | exact True.intro | (show (_ : Int) = (_ : Int); omega) | omega | exact rfl | (simp only [RO.len]; omega))
    · have h2 : ((prnL t).length : Int) ≤ (j : Int) := h2
      have eb : b = mcB (prnL t) ((prnL t).getD i []) := by rw [hb, List.take_of_length_le (by omega)]; rfl
      refine And.intro (fun h3 => ?_) (fun h3 => ?_)
      · have h3 : b = true := h3
        have hOa : (O ++ [(prnL t).getD (i : Int).toNat []]).length = O.length + 1 := by simp
        refine And.intro (by omega) ?_
        refine And.intro (by omega) ?_
        exact nx (i + 1, O ++ [(prnL t).getD i []]) ⟨by omega, by rw [hst, ← eb, h3]; rfl⟩ (show (prnL t).length - (i + 1) < (prnL t).length - i by omega) (by repeat' first | refine And.intro ?_ ?_ | exact True.intro | (show (_ : Int) = (_ : Int); omega) | omega | exact rfl | (simp only [RO.len]; omega))
      · have h3 : b = false := h3
        refine And.intro (by omega) ?_
        exact nx (i + 1, O) ⟨by omega, by rw [hst, ← eb, h3]; simp⟩ (show (prnL t).length - (i + 1) < (prnL t).length - i by omega) (by repeat' first | refine And.intro ?_ ?_ | exact True.intro | (show (_ : Int) = (_ : Int); omega) | omega | exact rfl | (simp only [RO.len]; omega))
  · have h1 : ((prnL t).length : Int) ≤ (i : Int) := h1
    refine And.intro ?_ trivial
    refine And.intro trivial ?_
    refine congrArg (RO.rows .i64) ?_
    rw [hO, List.take_of_length_le (by omega), mc_mins hs]; rfl
end Go.Proofs.Ytpanlghofeebhaa
end
section
/- Package subdirect: the meets of a list's ends, and the list without what is superfluous: contracts. -/
namespace Go.Proofs.Ytpanlghofeebhaa
open Go Go.AM
set_option maxRecDepth 100000
def Pt (n : Nat) (p : List Int) : Prop := p.length = n ∧ validP p
end Go.Proofs.Ytpanlghofeebhaa
end
section
/- Subdirect decompositions, in plain words: when a list holds nothing superfluous. -/
namespace Go.Proofs.Ytpanlghofeebhaa
open Go Go.AM
def kerP (p : List Int) (x y : Nat) : Prop := p.getD x 0 = p.getD y 0
end Go.Proofs.Ytpanlghofeebhaa
end
section
/- The join of two partitions by a forest: plain laws. -/
namespace Go.Proofs.Ytpanlghofeebhaa
theorem ufR_up {r : Nat → Nat} {i j a b : Nat} (e : r a = r b) : ufR r i j a = ufR r i j b := by unfold ufR; rw [e]
theorem ufR_ij {r : Nat → Nat} {i j : Nat} : ufR r i j i = ufR r i j j := by
  unfold ufR; split <;> split <;> omega
def JoR (n : Nat) (p q : List Int) (a b : Nat) : Prop := a < n ∧ b < n ∧ (p.getD a 0 = p.getD b 0 ∨ q.getD a 0 = q.getD b 0)
noncomputable def joB (n : Nat) (p q : List Int) (a b : Nat) : Bool := @decide (Eg (JoR n p q) a b) (Classical.propDecidable _)
theorem joB_true {n : Nat} {p q : List Int} {a b : Nat} : joB n p q a b = true ↔ Eg (JoR n p q) a b := by unfold joB; exact @decide_eq_true_iff _ (Classical.propDecidable _)
noncomputable def joP (n : Nat) (p q : List Int) : List Int := clsL n (joB n p q)
theorem jo_pre (n : Nat) (p q : List Int) : Pre n (joB n p q) :=
  pre_of (fun x _ => joB_true.2 (.refl x)) fun _ _ _ _ _ _ h h' => joB_true.2 ((joB_true.1 h).trans (joB_true.1 h'))
theorem joP_len {n : Nat} {p q : List Int} : (joP n p q).length = n := clsL_len _ _
theorem joP_canon {n : Nat} {p q : List Int} : canon (joP n p q) = joP n p q := canon_idem _
theorem joP_iff {n : Nat} {p q : List Int} {a b : Nat} (ha : a < n) (hb : b < n) : (joP n p q).getD a 0 = (joP n p q).getD b 0 ↔ Eg (JoR n p q) a b := by
  unfold joP
  rw [clsL_iff (jo_pre n p q) ha hb, joB_true, joB_true]
  exact ⟨fun h => h.1, fun h => ⟨h, h.symm⟩⟩
end Go.Proofs.Ytpanlghofeebhaa
end
section
/- Coarser congruences with irreducible quotients: plain laws. -/
namespace Go.Proofs.Ytpanlghofeebhaa
open Go Go.AM
theorem Eg.map {R S : Nat → Nat → Prop} {f : Nat → Nat} (h : ∀ a b, R a b → Eg S (f a) (f b)) {a b : Nat} (e : Eg R a b) : Eg S (f a) (f b) :=
  Eg.least (Q := fun a b => Eg S (f a) (f b)) (fun a => .refl (f a)) (fun _ _ h => h.symm) (fun _ _ _ h h' => h.trans h') h e
section
variable {t : List (List Int)} {p q : List Int}
theorem joP_cg (hp : IsCg t p 0) (hq : IsCg t q 0) : IsCg t (joP t.length p q) 0 := by
  have hS := hp.semi.toSh
  refine ⟨hp.semi, joP_len, ⟨by rw [joP_len]; have := hS.most; omega, joP_canon⟩, by decide, fun x y s hx hy hs e => ?_⟩
  have e := (joP_iff hx hy).1 e
  have step : ∀ {f : Nat → Nat}, (∀ a, a < t.length → f a < t.length) → (∀ a b, a < t.length → b < t.length → p.getD a 0 = p.getD b 0 → p.getD (f a) 0 = p.getD (f b) 0) → (∀ a b, a < t.length → b < t.length → q.getD a 0 = q.getD b 0 → q.getD (f a) 0 = q.getD (f b) 0) → Eg (JoR t.length p q) (f x) (f y) := fun hf h1 h2 =>
    Eg.map (fun a b ⟨ha, hb, h⟩ => .rel ⟨hf a ha, hf b hb, h.imp (h1 a b ha hb) (h2 a b ha hb)⟩) e
  refine ⟨fun _ => (joP_iff (hS.ent hs hx).2 (hS.ent hs hy).2).2 ?_, fun _ => (joP_iff (hS.ent hx hs).2 (hS.ent hy hs).2).2 ?_⟩
  · exact step (f := fun a => en t s a) (fun a ha => (hS.ent hs ha).2) (fun a b ha hb h => (hp.cg a b s ha hb hs h).1 (by decide)) fun a b ha hb h => (hq.cg a b s ha hb hs h).1 (by decide)
  · exact step (f := fun a => en t a s) (fun a ha => (hS.ent ha hs).2) (fun a b ha hb h => (hp.cg a b s ha hb hs h).2 (by decide)) fun a b ha hb h => (hq.cg a b s ha hb hs h).2 (by decide)
theorem dis_ker {n x y : Nat} (hx : x < n) (hy : y < n) (e : kerP (disI n) x y) : x = y := by
  unfold kerP at e
  rw [disI_get hx, disI_get hy] at e
  omega
theorem dis_pt {n : Nat} (hn : n ≤ 4096) : Pt n (disI n) := ⟨disI_len n, by rw [disI_len]; exact hn, by
  refine canon_fix.2 fun i hi => ?_
  rw [disI_len] at hi
  refine ⟨by rw [disI_get hi]; omega, ?_⟩
  rw [disI_get hi]
  have hd : ((disI n).take i).Nodup := by
    refine List.nodup_iff_pairwise_ne.2 (List.pairwise_iff_getElem.2 fun a b ha hb hab => ?_)
    simp [disI]
    omega
  have := nodup_sub hd (B := firsts ((disI n).take i)) fun v hv => mem_firsts.2 hv
  rw [List.length_take, disI_len] at this
  omega⟩
theorem dis_cg (h : Semi t) : IsCg t (disI t.length) 0 :=
  ⟨h, disI_len _, (dis_pt (by have := h.most; omega)).2, by decide, fun x y s hx hy _ e => by
    obtain rfl := dis_ker hx hy e
    exact ⟨fun _ => rfl, fun _ => rfl⟩⟩
end
end Go.Proofs.Ytpanlghofeebhaa
end
section
/- Plain: all congruences are joins of principal ones; lists that are closed under such joins; there are at most 720 partitions of six. -/
namespace Go.Proofs.Ytpanlghofeebhaa
open Go Go.AM
/-! ### Few partitions -/
def ptnsN : Nat → List (List Int)
  | 0 => [[]] | k + 1 => (ptnsN k).flatMap fun p => (List.range (k + 1)).map fun c : Nat => p ++ [(c : Int)]
theorem ptns_len {n : Nat} (h : n ≤ 6) : (ptnsN n).length ≤ 720 := by
  have : ∀ m, m < 7 → (ptnsN m).length ≤ 720 := by decide +kernel
  exact this n (by omega)
theorem mem_ptns (p : List Int) : (∀ i, i < p.length → 0 ≤ p.getD i 0 ∧ p.getD i 0 ≤ (i : Int)) → p ∈ ptnsN p.length := by
  refine snoc_ind (P := fun p => (∀ i, i < p.length → 0 ≤ p.getD i 0 ∧ p.getD i 0 ≤ (i : Int)) → p ∈ ptnsN p.length) (fun _ => List.mem_singleton.2 rfl) (fun q x ih h => ?_) p
  have hl : (q ++ [x]).length = q.length + 1 := by simp
  rw [hl]
  have hq : q ∈ ptnsN q.length := ih fun i hi => by
    have := h i (by omega)
    rw [getD_app, if_pos hi] at this
    exact this
  have hx := h q.length (by omega)
  rw [getD_app, if_neg (by omega), Nat.sub_self] at hx
  have hx : 0 ≤ x ∧ x ≤ (q.length : Int) := hx
  exact List.mem_flatMap.2 ⟨q, hq, List.mem_map.2 ⟨x.toNat, List.mem_range.2 (by omega), by rw [Int.toNat_of_nonneg hx.1]⟩⟩
theorem canon_le {p : List Int} (h : canon p = p) {i : Nat} (hi : i < p.length) : 0 ≤ p.getD i 0 ∧ p.getD i 0 ≤ (i : Int) := by
  have h1 := canon_fix.1 h i hi
  have h2 := firsts_le (p.take i)
  rw [List.length_take] at h2
  unfold stepOk at h1
  omega
theorem ptns_few {F : List (List Int)} {n : Nat} (hn : n ≤ 6) (h : F.Nodup) (hF : ∀ p ∈ F, p.length = n ∧ canon p = p) : F.length ≤ 720 :=
  Nat.le_trans (nodup_sub h (B := ptnsN n) fun p hp => by
    obtain ⟨h1, h2⟩ := hF p hp
    rw [← h1]
    exact mem_ptns p fun i hi => canon_le h2 hi) (ptns_len hn)
/-! ### From principal ones to all -/
section
variable {t : List (List Int)} {p q : List Int}
theorem sub_dis {n : Nat} {q : List Int} : Sub n (disI n) q := fun x y hx hy e => by rw [dis_ker hx hy e]
theorem joP_comm {n : Nat} : joP n p q = joP n q p :=
  sub_eq joP_len joP_len joP_canon joP_canon (fun _x _y hx hy e => (joP_iff hx hy).2 (((joP_iff hx hy).1 e).mono fun _ _ ⟨ha, hb, h⟩ => .rel ⟨ha, hb, h.symm⟩))
    (fun _x _y hx hy e => (joP_iff hx hy).2 (((joP_iff hx hy).1 e).mono fun _ _ ⟨ha, hb, h⟩ => .rel ⟨ha, hb, h.symm⟩))
theorem joP_sub {n : Nat} {c : List Int} (hp : Sub n p c) (hq : Sub n q c) : Sub n (joP n p q) c := fun _x _y hx hy e =>
  Eg.least (Q := fun a b => c.getD a 0 = c.getD b 0) (fun _ => rfl) (fun _ _ h => h.symm) (fun _ _ _ h h' => h.trans h') (fun a b ⟨ha, hb, h⟩ => h.elim (hp a b ha hb) (hq a b ha hb)) ((joP_iff hx hy).1 e)
theorem joP_left {n : Nat} : Sub n p (joP n p q) := fun _ _ hx hy e => (joP_iff hx hy).2 (.rel ⟨hx, hy, .inl e⟩)
theorem joP_right {n : Nat} : Sub n q (joP n p q) := fun _ _ hx hy e => (joP_iff hx hy).2 (.rel ⟨hx, hy, .inr e⟩)
theorem joP_abs {n : Nat} (hl : p.length = n) (hc : canon p = p) (h : Sub n q p) : joP n p q = p :=
  sub_eq joP_len hl joP_canon hc (joP_sub (fun _ _ _ _ e => e) h) joP_left
noncomputable def subB (n : Nat) (p q : List Int) : Bool := @decide (Sub n p q) (Classical.propDecidable _)
theorem subB_true {n : Nat} : subB n p q = true ↔ Sub n p q := by unfold subB; exact @decide_eq_true_iff _ (Classical.propDecidable _)
noncomputable def allJ (t : List (List Int)) (q : List Int) : Nat → List Int
  | 0 => disI t.length
  | k + 1 => match subB t.length ((prnL t).getD k []) q with | true => joP t.length (allJ t q k) ((prnL t).getD k []) | false => allJ t q k
theorem allJ_is (h : Semi t) (q : List Int) : ∀ k, k ≤ (prnL t).length → IsCg t (allJ t q k) 0
  | 0, _ => dis_cg h
  | k + 1, hk => by
    have ih := allJ_is h q k (by omega)
    unfold allJ
    split
    · obtain ⟨x, y, _, _, e⟩ := mem_prnL.1 (getD_mem (d := []) (l := prnL t) (i := k) (by omega))
      exact joP_cg ih (e ▸ prnG_is h x y)
    · exact ih
theorem allJ_step (q : List Int) {k : Nat} : Sub t.length (allJ t q k) (allJ t q (k + 1)) := by
  show Sub _ _ (match subB t.length ((prnL t).getD k []) q with | true => joP t.length (allJ t q k) ((prnL t).getD k []) | false => allJ t q k)
  split
  · exact joP_left
  · exact fun _ _ _ _ e => e
theorem allJ_mono (q : List Int) {j : Nat} : ∀ k, j ≤ k → Sub t.length (allJ t q j) (allJ t q k)
  | 0, hj => by obtain rfl : j = 0 := by omega
                exact fun _ _ _ _ e => e
  | k + 1, hj => by
    by_cases e : j = k + 1
    · subst e; exact fun _ _ _ _ e => e
    · exact fun x y hx hy e => allJ_step q x y hx hy (allJ_mono q k (by omega) x y hx hy e)
theorem allJ_sub (q : List Int) : ∀ k, Sub t.length (allJ t q k) q
  | 0 => sub_dis
  | k + 1 => by
    have ih := allJ_sub q k
    unfold allJ
    split
    · rename_i hb; exact joP_sub ih (subB_true.1 hb)
    · exact ih
theorem allJ_done (h : Semi t) (hq : IsCg t q 0) : allJ t q (prnL t).length = q := by
  have hJ := allJ_is h q _ (Nat.le_refl _)
  refine sub_eq hJ.len hq.len hJ.val.2 hq.val.2 (allJ_sub q _) fun x y hx hy e => ?_
  have key : ∀ x y, y < x → x < t.length → q.getD x 0 = q.getD y 0 → (allJ t q (prnL t).length).getD x 0 = (allJ t q (prnL t).length).getD y 0 := fun x y hxy hx e => by
    have hm : prnG t x y ∈ prnL t := mem_prnL.2 ⟨x, y, hxy, hx, rfl⟩
    obtain ⟨i, hi, ei⟩ := mem_getD [] hm
    have h1 : (allJ t q (i + 1)).getD x 0 = (allJ t q (i + 1)).getD y 0 := by
      have hb : subB t.length ((prnL t).getD i []) q = true := subB_true.2 (ei ▸ prnG_sub hq e)
      unfold allJ; rw [hb]
      exact joP_right x y hx (by omega) (by rw [ei]; exact prnG_eq hx (by omega))
    exact allJ_mono q (prnL t).length (by omega) x y hx (by omega) h1
  by_cases hxy : x = y
  · rw [hxy]
  · rcases Nat.lt_or_ge y x with h1 | h1
    · exact key x y h1 hx e
    · exact (key y x (by omega) hy e.symm).symm
noncomputable def cgsL (t : List (List Int)) : List (List Int) := @dite _ (∃ M, Srt cmpL M ∧ ∀ p, p ∈ M ↔ IsCg t p 0) (Classical.propDecidable _) (fun h => h.choose) fun _ => []
theorem cgs_of {M : List (List Int)} (hs : Srt cmpL M) (hm : ∀ p, p ∈ M ↔ IsCg t p 0) : cgsL t = M := by
  have h : ∃ M, Srt cmpL M ∧ ∀ p, p ∈ M ↔ IsCg t p 0 := ⟨M, hs, hm⟩
  unfold cgsL
  rw [dif_pos h]
  exact sorted_uniq cmpL_tot h.choose_spec.1 hs fun p => (h.choose_spec.2 p).trans (hm p).symm
structure AllC (t : List (List Int)) (F : List (List Int)) : Prop where
  nd : F.Nodup
  is : ∀ p ∈ F, IsCg t p 0
  dis : disI t.length ∈ F
  jo : ∀ p ∈ F, ∀ e ∈ prnL t, joP t.length p e ∈ F
theorem AllC.all {F : List (List Int)} (c : AllC t F) (h : Semi t) (hq : IsCg t q 0) : q ∈ F := by
  have key : ∀ k, k ≤ (prnL t).length → allJ t q k ∈ F := fun k => by
    induction k with
    | zero => exact fun _ => c.dis
    | succ k ih =>
      intro hk
      have ih := ih (by omega)
      unfold allJ
      split
      · exact c.jo _ ih _ (getD_mem (by omega))
      · exact ih
  have := key _ (Nat.le_refl _)
  rwa [allJ_done h hq] at this
theorem AllC.cgs {F : List (List Int)} (c : AllC t F) (h : Semi t) : cgsL t = srt cmpL F :=
  cgs_of (srt_srt cmpL_tot c.nd) fun p => srt_mem.trans ⟨c.is p, fun hp => c.all h hp⟩
/-! ### The reference's list: after each principal congruence -/
structure RaI (t : List (List Int)) (k m : Nat) (N A : List (List Int)) : Prop where
  srt : Srt cmpL A
  is : ∀ p ∈ A, IsCg t p 0
  now : ∀ p ∈ N, p ∈ A
  nis : ∀ p ∈ N, IsCg t p 0
  has : ∀ q, allJ t q k ∈ N
  jo : ∀ j, j < m → joP t.length ((prnL t).getD k []) (N.getD j []) ∈ A
theorem RaI.start {A : List (List Int)} {k : Nat} (hs : Srt cmpL A) (hi : ∀ p ∈ A, IsCg t p 0) (hh : ∀ q, allJ t q k ∈ A) : RaI t k 0 A A := ⟨hs, hi, fun _ h => h, hi, hh, fun j hj => by omega⟩
theorem RaI.next {k m : Nat} {N A : List (List Int)} (h : RaI t k m N A) (hs : Semi t) (hk : k < (prnL t).length) (hm : m < N.length) : RaI t k (m + 1) N (insC cmpL A (joP t.length ((prnL t).getD k []) (N.getD m []))) := by
  obtain ⟨x, y, _, _, e⟩ := mem_prnL.1 (getD_mem (d := []) hk)
  refine ⟨insC_srt cmpL_tot h.srt, fun p hp => ?_, fun p hp => insC_mem.2 (.inr (h.now p hp)), h.nis, h.has, fun j hj => insC_mem.2 ?_⟩
  · rcases insC_mem.1 hp with rfl | hp
    · exact joP_cg (e ▸ prnG_is hs x y) (h.nis _ (getD_mem hm))
    · exact h.is p hp
  · by_cases ej : j = m
    · subst ej; exact .inl rfl
    · exact .inr (h.jo j (by omega))
theorem RaI.done {k m : Nat} {N A : List (List Int)} (h : RaI t k m N A) (hm : N.length ≤ m) : ∀ q, allJ t q (k + 1) ∈ A := fun q => by
  unfold allJ
  split
  · obtain ⟨j, hj, e⟩ := mem_getD [] (h.has q)
    have := h.jo j (by omega)
    rw [e, joP_comm] at this
    exact this
  · exact h.now _ (h.has q)
theorem ra_done {A : List (List Int)} (h : Semi t) (hs : Srt cmpL A) (hi : ∀ p ∈ A, IsCg t p 0) (hh : ∀ q, allJ t q (prnL t).length ∈ A) : A = cgsL t :=
  (cgs_of hs fun p => ⟨hi p, fun hp => by have := hh p; rwa [allJ_done h hp] at this⟩).symm
/-! ### The list of principal congruences as pairs -/
structure PrnOk (t : List (List Int)) (e : Prn) : Prop where
  gen : ∃ x y : Nat, e.1 = ((x : Int), (y : Int)) ∧ x < y ∧ y < t.length ∧ e.2.1 = prnG t x y
  inw : inW t.length e.2.2
  cls : e.2.1 = eqP t.length (relP e.2.2)
  pl : e.2.2.length ≤ t.length
structure PrL (t : List (List Int)) (L : List Prn) : Prop where
  ok : ∀ e ∈ L, PrnOk t e
  nd : (L.map fun e => e.2.1).Nodup
  all : ∀ x y, x < y → y < t.length → ∃ e ∈ L, e.2.1 = prnG t x y
theorem prnG_comm (h : Semi t) {x y : Nat} (hx : x < t.length) (hy : y < t.length) : prnG t x y = prnG t y x :=
  sub_eq (prnG_is h x y).len (prnG_is h y x).len (prnG_is h x y).val.2 (prnG_is h y x).val.2 (prnG_sub (prnG_is h y x) (prnG_eq hy hx).symm) (prnG_sub (prnG_is h x y) (prnG_eq hx hy).symm)
theorem PrL.prn {L : List Prn} (h : PrL t L) (hs : Semi t) {p : List Int} (hp : p ∈ prnL t) : ∃ e ∈ L, e.2.1 = p := by
  obtain ⟨x, y, hy, hx, rfl⟩ := mem_prnL.1 hp
  obtain ⟨e, he, e1⟩ := h.all y x hy hx
  exact ⟨e, he, by rw [e1]; exact prnG_comm hs (by omega) hx⟩
theorem PrnOk.is {e : Prn} (h : PrnOk t e) (hs : Semi t) : IsCg t e.2.1 0 := by
  obtain ⟨x, y, _, _, _, e1⟩ := h.gen
  rw [e1]; exact prnG_is hs x y
/-! ### The run of All -/
structure AlI (t : List (List Int)) (L : List Prn) (i k : Nat) (F : List (List Int)) : Prop where
  nd : F.Nodup
  is : ∀ p ∈ F, IsCg t p 0
  dis : disI t.length ∈ F
  old : ∀ j, j < i → ∀ e ∈ L, joP t.length (F.getD j []) e.2.1 ∈ F
  cur : ∀ m, m < k → joP t.length (F.getD i []) (L.getD m (prn0)).2.1 ∈ F
theorem AlI.start (h : Semi t) (L : List Prn) : AlI t L 0 0 [disI t.length] :=
  ⟨(by simp), fun p hp => by rw [List.mem_singleton.1 hp]; exact dis_cg h, List.mem_singleton.2 rfl, fun j hj => by omega, fun j hj => by omega⟩
theorem AlI.few {L : List Prn} {i k : Nat} {F : List (List Int)} (h : AlI t L i k F) (hn : t.length ≤ 6) : F.length ≤ 720 := ptns_few hn h.nd fun p hp => ⟨(h.is p hp).len, (h.is p hp).val.2⟩
theorem AlI.same {L : List Prn} {i k : Nat} {F : List (List Int)} (h : AlI t L i k F) (hj : joP t.length (F.getD i []) (L.getD k prn0).2.1 ∈ F) : AlI t L i (k + 1) F :=
  ⟨h.nd, h.is, h.dis, h.old, fun m hm => by
    by_cases e : m = k
    · subst e; exact hj
    · exact h.cur m (by omega)⟩
theorem AlI.skip {L : List Prn} {i k : Nat} {F : List (List Int)} (h : AlI t L i k F) (hL : PrL t L) (hi : i < F.length) (hk : k < L.length) (e : (F.getD i []).getD (L.getD k prn0).1.1.toNat 0 = (F.getD i []).getD (L.getD k prn0).1.2.toNat 0) : AlI t L i (k + 1) F := by
  refine h.same ?_
  have hp := h.is _ (getD_mem (d := []) hi)
  obtain ⟨x, y, e1, hxy, hy, e2⟩ := (hL.ok _ (getD_mem (d := prn0) hk)).gen
  rw [e1] at e
  rw [joP_abs hp.len hp.val.2 (by rw [e2]; exact prnG_sub hp (by simpa using e))]
  exact getD_mem hi
theorem AlI.add {L : List Prn} {i k : Nat} {F : List (List Int)} (h : AlI t L i k F) (hs : Semi t) (hL : PrL t L) (hi : i < F.length) (hk : k < L.length) (hn : joP t.length (F.getD i []) (L.getD k prn0).2.1 ∉ F) : AlI t L i (k + 1) (F ++ [joP t.length (F.getD i []) (L.getD k prn0).2.1]) := by
  have hp := h.is _ (getD_mem (d := []) hi)
  have he := (hL.ok _ (getD_mem (d := prn0) hk)).is hs
  have hg : ∀ j, j < F.length → (F ++ [joP t.length (F.getD i []) (L.getD k prn0).2.1]).getD j [] = F.getD j [] := fun j hj => by rw [getD_app, if_pos hj]
  refine ⟨List.nodup_append.2 ⟨h.nd, (by simp), fun a ha b hb e => hn (by rw [← List.mem_singleton.1 hb, ← e]; exact ha)⟩, fun p hp' => ?_, List.mem_append.2 (.inl h.dis), fun j hj e hm => ?_, fun m hm => ?_⟩
  · rcases List.mem_append.1 hp' with hp' | hp'
    · exact h.is p hp'
    · rw [List.mem_singleton.1 hp']; exact joP_cg hp he
  · rw [hg j (by omega)]; exact List.mem_append.2 (.inl (h.old j hj e hm))
  · rw [hg i hi]
    by_cases e : m = k
    · subst e; exact List.mem_append.2 (.inr (List.mem_singleton.2 rfl))
    · exact List.mem_append.2 (.inl (h.cur m (by omega)))
theorem AlI.row {L : List Prn} {i k : Nat} {F : List (List Int)} (h : AlI t L i k F) (hk : L.length ≤ k) : AlI t L (i + 1) 0 F :=
  ⟨h.nd, h.is, h.dis, fun j hj e he => by
    by_cases e1 : j = i
    · subst e1
      obtain ⟨m, hm, rfl⟩ := mem_getD prn0 he
      exact h.cur m (by omega)
    · exact h.old j (by omega) e he, fun m hm => by omega⟩
theorem AlI.done {L : List Prn} {i : Nat} {F : List (List Int)} (h : AlI t L i 0 F) (hs : Semi t) (hL : PrL t L) (hi : F.length ≤ i) : AllC t F :=
  ⟨h.nd, h.is, h.dis, fun p hp e he => by
    obtain ⟨j, hj, rfl⟩ := mem_getD [] hp
    obtain ⟨x, hx, rfl⟩ := hL.prn hs he
    exact h.old j (by omega) x hx⟩
theorem join_item {n : Nat} {p : List Int} {r : Nat → Nat} {W : List (Int × Int)} (hr : KerR n r (orR (fun a b => a < n ∧ b < n ∧ p.getD a 0 = p.getD b 0) W)) (hW : inW n W) : canon (rtL n r) = joP n p (eqP n (relP W)) := by
  rw [← joP_canon (n := n) (p := p) (q := eqP n (relP W))]
  refine ker_canon (rtL_len n r) joP_len fun a b ha hb => ?_
  rw [hr.ker.2 a b ha hb, joP_iff ha hb]
  constructor
  · refine Eg.mono fun a b h => ?_
    rcases h with ⟨h1, h2, h3⟩ | h
    · exact .rel ⟨h1, h2, .inl h3⟩
    · have := relP_lt hW h
      exact .rel ⟨this.1, this.2, .inr ((eqP_iff this.1 this.2).2 (.rel h))⟩
  · refine Eg.mono fun a b h => ?_
    obtain ⟨h1, h2, h3 | h3⟩ := h
    · exact .rel (.inl ⟨h1, h2, h3⟩)
    · exact ((eqP_iff h1 h2).1 h3).mono fun a b h => .rel (.inr h)
end
end Go.Proofs.Ytpanlghofeebhaa
end
