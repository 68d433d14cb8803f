import Derived.Test.YtjlkhjgnfnfmgaaEqvLaw
import Derived.Test.YtjlkhjgnfnfmgaaSynLaw
import Derived.Test.YtjlkhjgnfnfmgaaRefRees
import Derived.Test.YtjlkhjgnfnfmgaaGroup
import Derived.Test.YtjlkhjgnfnfmgaaReesLaw
import Derived.Test.YtjlkhjgnfnfmgaaAmRet
section
/- Package subdirect: the meets of a list's ends, and the list without what is superfluous: contracts. -/
namespace Go.Proofs.Ytjlkhjgnfnfmgaa
open Go Go.AM
set_option maxRecDepth 100000
theorem ptriv_fn (n : Nat) (hn : n ≤ 4096) : QF 50 [.int .i64 n] (.new (.ints .i64 (List.replicate n 0))) := mkQ Try.func50 (by decide +kernel) rfl (Nat.le_of_ble_eq_true rfl) fun _ => by
  refine And.intro (fun h1 => ?_) (fun _ => ?_)
  · have h1 : (n : Int) < 0 := h1
    omega
  refine And.intro (fun h1 => ?_) (fun _ => ?_)
  · have h1 : 4096 < (n : Int) := h1
    omega
  refine And.intro (by omega) ?_
  refine And.intro (by omega) ?_
  refine And.intro (And.intro (by simp) ?_) trivial
  show RO.ints .i64 (List.replicate (n : Int).toNat 0) = RO.ints .i64 (List.replicate n 0)
  rw [Int.toNat_natCast]
def Pt (n : Nat) (p : List Int) : Prop := p.length = n ∧ validP p
def mtP (p q : List Int) : List Int := canon (p.zip q)
def mtL (n : Nat) (l : List (List Int)) : List Int := l.foldr mtP (List.replicate n 0)
theorem Pt.triv {n : Nat} (hn : n ≤ 4096) : Pt n (List.replicate n 0) :=
  ⟨List.length_replicate, by rw [List.length_replicate]; omega, canon_fix.2 fun i _ => by
    have : (List.replicate n (0 : Int)).getD i 0 = 0 := by simp only [List.getD, List.getElem?_replicate]; split <;> rfl
    unfold stepOk; rw [this]; omega⟩
theorem Pt.mt {n : Nat} {p q : List Int} (hp : Pt n p) (hq : Pt n q) : Pt n (mtP p q) := by
  have hl : (mtP p q).length = n := by unfold mtP; rw [canon_length, List.length_zip, hp.1, hq.1]; omega
  exact ⟨hl, by rw [hl]; have := hp.2.1; have := hp.1; omega, canon_idemG (0, 0) _⟩
theorem Pt.mtL {n : Nat} (hn : n ≤ 4096) : ∀ {l : List (List Int)}, (∀ p ∈ l, Pt n p) → Pt n (mtL n l)
  | [], _ => Pt.triv hn
  | _ :: _, h => (h _ (List.mem_cons_self ..)).mt (Pt.mtL hn fun q hq => h q (List.mem_cons_of_mem _ hq))
theorem pmt_fn {n : Nat} {p q : List Int} (hp : Pt n p) (hq : Pt n q) : QF 27 [.ro (.ints .i64 p), .ro (.ints .i64 q)] (.new (.ints .i64 (mtP p q))) := by
  have h := pmeet_fn p q
  rw [if_pos ⟨hp.1.trans hq.1.symm, hp.2, hq.2⟩] at h
  exact h
def sfxL (n : Nat) (l : List (List Int)) : List (List Int) := (List.range (l.length + 1)).map fun i => mtL n (l.drop i)
theorem sfx_len (n : Nat) (l : List (List Int)) : (sfxL n l).length = l.length + 1 := by simp [sfxL]
theorem sfx_get (n : Nat) (l : List (List Int)) {i : Nat} (hi : i ≤ l.length) : (sfxL n l).getD i [] = mtL n (l.drop i) := by
  have : i < l.length + 1 := by omega
  simp [sfxL, List.getD, this]
theorem mtL_drop (n : Nat) (l : List (List Int)) {i : Nat} (hi : i < l.length) : mtL n (l.drop i) = mtP (l.getD i []) (mtL n (l.drop (i + 1))) := by
  rw [List.drop_eq_getElem_cons hi, getD_eq hi]; rfl
set_option maxHeartbeats 1000000 in
theorem ssfx_fn (n : Nat) (l : List (List Int)) (h0 : 0 < n) (hn : n ≤ 4096) (hl : l.length ≤ 4096) (hp : ∀ p ∈ l, Pt n p) : QF 55 [.int .i64 n, .ro (.rows .i64 l)] (.new (.rows .i64 (sfxL n l))) := mkQ Try.func55 (by decide +kernel) rfl (Nat.le_of_ble_eq_true rfl) fun _ => by
  have hd : ∀ i, ∀ p ∈ l.drop i, Pt n p := fun i p h => hp p (List.mem_of_mem_drop h)
  refine And.intro (by omega) ?_
  refine And.intro (by omega) ?_
  refine And.intro (by omega) ?_
  refine Or.inr (Or.inr ?_)
  refine Or.inl (cq (ptriv_fn n hn) (And.intro rfl trivial) ?_)
  have hr : (List.replicate ((l.length : Int) + 1).toNat ([] : List Int)).length = l.length + 1 := by rw [List.length_replicate]; omega
  refine And.intro (show 0 ≤ (l.length : Int) ∧ (l.length : Int) < ((List.replicate ((l.length : Int) + 1).toNat ([] : List Int)).length : Int) by omega) ?_
  refine And.intro (by omega) ?_
  refine And.intro (by omega) ?_
  have hne : ∀ p, Pt n p → p ≠ [] := fun p h e => by have := h.1; rw [e] at this; simp at this; omega
  refine Exists.intro [11, 15, 16, 24, 30, 35, 36, 10015, 10035] <| lp2 (fun (k : Nat) (_ : List (List Int)) => [(6, .int .i64 ((k : Int) - 1))]) (fun _ M => [(10, .vec 0 (.nrows .i64 M) [])]) (fun k M => k ≤ l.length ∧ M.length = l.length + 1 ∧ ∀ j, k ≤ j → j ≤ l.length → M.getD j [] = mtL n (l.drop j)) (fun k _ => k) l.length ((List.replicate ((l.length : Int) + 1).toNat []).set l.length (List.replicate n 0)) ⟨Nat.le_refl _, by rw [List.length_set]; exact hr, fun j h1 h2 => ?_⟩ ?_ ?_
  · have e : j = l.length := by omega
    subst e
    rw [getD_set_eq (by omega), List.drop_length]; rfl
  · repeat' first | refine And.intro ?_ ?_ | exact True.intro | exact hne _ (Pt.triv hn) | (show (_ : Int) = (_ : Int); omega) | omega | exact rfl
  rintro k M ⟨hk, hM, hMj⟩
  refine And.intro (fun h1 => ?_) (fun h1 => ?_)
  · have h1 : 0 ≤ (k : Int) - 1 := h1
    have hkl : k - 1 < l.length := by omega
    have ek : ((k : Int) - 1).toNat = k - 1 := by omega
    have ek2 : ((k : Int) - 1 + 1).toNat = k := by omega
    have hMk := hMj k (Nat.le_refl _) hk
    have hPk : Pt n (mtL n (l.drop k)) := Pt.mtL hn (hd k)
    have hPp : Pt n (l.getD (k - 1) []) := hp _ (getD_mem (d := []) hkl)
    refine Or.inl ?_
    refine Exists.intro (List.replicate 11 false ++ [true, false, true]) (And.intro (by decide +kernel) ?_)
    refine And.intro (show 0 ≤ (k : Int) - 1 ∧ (k : Int) - 1 < (l.length : Int) by omega) ?_
    refine And.intro (show -9223372036854775808 ≤ (k : Int) - 1 + 1 ∧ (k : Int) - 1 + 1 ≤ 9223372036854775807 by omega) ?_
    refine And.intro (show 0 ≤ (k : Int) - 1 + 1 ∧ (k : Int) - 1 + 1 < (M.length : Int) by omega) ?_
    refine And.intro (fun h2 => ?_) (fun _ => ?_)
    · have h2 : M.getD ((k : Int) - 1 + 1).toNat [] = [] := h2
      rw [ek2, hMk] at h2
      exact absurd h2 (hne _ hPk)
    refine Or.inl (cq (pmt_fn (n := n) (p := l.getD ((k : Int) - 1).toNat []) (q := M.getD ((k : Int) - 1 + 1).toNat []) (by rw [ek]; exact hPp) (by rw [ek2, hMk]; exact hPk)) (And.intro rfl (And.intro rfl trivial)) ?_)
    refine And.intro (show 0 ≤ (k : Int) - 1 ∧ (k : Int) - 1 < (M.length : Int) by omega) ?_
    refine And.intro (by omega) ?_
    refine And.intro (by omega) ?_
    have em : mtP (l.getD ((k : Int) - 1).toNat []) (M.getD ((k : Int) - 1 + 1).toNat []) = mtL n (l.drop (k - 1)) := by
      rw [ek, ek2, hMk, mtL_drop n l hkl, show k - 1 + 1 = k by omega]
    refine nx (k - 1, M.set ((k : Int) - 1).toNat (mtP (l.getD ((k : Int) - 1).toNat []) (M.getD ((k : Int) - 1 + 1).toNat []))) ⟨by omega, by rw [List.length_set]; exact hM, fun j h2 h3 => ?_⟩ (show k - 1 < k by omega) ?_
    · rw [em, ek]
      by_cases e : j = k - 1
      · subst e; rw [getD_set_eq (by omega)]
      · rw [getD_set_ne (Ne.symm e)]; exact hMj j (by omega) h3
    · repeat' first | refine And.intro ?_ ?_ | exact True.intro | (rw [em]; exact hne _ (Pt.mtL hn (hd _))) | (show (_ : Int) = (_ : Int); omega) | omega | exact rfl
  · have h1 : (k : Int) - 1 < 0 := h1
    refine And.intro (And.intro (by omega) ?_) trivial
    show RO.rows .i64 M = RO.rows .i64 (sfxL n l)
    congr 1
    refine ext_getD [] (by rw [hM, sfx_len]) fun i hi => ?_
    rw [sfx_get n l (by omega)]
    exact hMj i (by omega) (by omega)
def redL (n : Nat) : List Int → List (List Int) → List (List Int)
  | _, [] => []
  | b, p :: l => if classN (mtP b (mtL n l)) = n then redL n b l else p :: redL n (mtP b p) l
theorem redL_drop (n : Nat) (b : List Int) (l : List (List Int)) {i : Nat} (hi : i < l.length) : redL n b (l.drop i) = if classN (mtP b (mtL n (l.drop (i + 1)))) = n then redL n b (l.drop (i + 1)) else l.getD i [] :: redL n (mtP b (l.getD i [])) (l.drop (i + 1)) := by
  rw [List.drop_eq_getElem_cons hi, getD_eq hi]; rfl
set_option maxHeartbeats 1000000 in
theorem sred_fn (n : Nat) (l : List (List Int)) (h0 : 0 < n) (hn : n ≤ 4096) (hl : l.length ≤ 4096) (hp : ∀ p ∈ l, Pt n p) : QF 52 [.int .i64 n, .ro (.rows .i64 l)] (.ro (.rows .i64 (redL n (List.replicate n 0) l))) := mkQ Try.func52 (by decide +kernel) rfl (Nat.le_of_ble_eq_true rfl) fun _ => by
  have hd : ∀ i, ∀ p ∈ l.drop i, Pt n p := fun i p h => hp p (List.mem_of_mem_drop h)
  refine Or.inl (cq (ssfx_fn n l h0 hn hl hp) (And.intro rfl (And.intro rfl trivial)) ?_)
  refine Or.inl (cq (ptriv_fn n hn) (And.intro rfl trivial) ?_)
  refine Exists.intro [14, 22, 28, 36, 38, 10014, 10028, 10038] <| lp3 (fun (i : Nat) (_ : List (List Int)) (b : List Int) => [(17, .int .i64 i), (5, .vec 35), (7, .ro (.ints .i64 b))]) (fun _ K _ => [(35, .vec 0 (.rows .i64 K) [])]) (fun i K b => i ≤ l.length ∧ K.length ≤ i ∧ Pt n b ∧ K ++ redL n b (l.drop i) = redL n (List.replicate n 0) l) (fun i _ _ => l.length - i) 0 [] (List.replicate n 0) ⟨Nat.zero_le _, Nat.le_refl _, Pt.triv hn, rfl⟩ (by repeat' first | refine And.intro ?_ ?_ | exact True.intro | (show (_ : Int) = (_ : Int); omega) | omega | exact rfl | (simp only [RO.len]; omega)) ?_
  rintro i K b ⟨hi, hK, hb, he⟩
  refine And.intro (fun h1 => ?_) (fun h1 => ?_)
  · have h1 : (i : Int) < (l.length : Int) := h1
    have hil : i < l.length := by omega
    have hPp : Pt n (l.getD i []) := hp _ (getD_mem (d := []) hil)
    have hst := redL_drop n b l hil
    have hs1 := sfx_get n l (i := i + 1) (by omega)
    have hsl := sfx_len n l
    have hPs : Pt n (mtL n (l.drop (i + 1))) := Pt.mtL hn (hd _)
    have ei : ((i : Int) + 1).toNat = i + 1 := by omega
    have hPs2 : Pt n ((sfxL n l).getD ((i : Int) + 1).toNat []) := by rw [ei, hs1]; exact hPs
    have hcn : classN (mtP b ((sfxL n l).getD ((i : Int) + 1).toNat [])) ≤ n := by
      have := firsts_le (mtP b ((sfxL n l).getD ((i : Int) + 1).toNat []))
      rw [(hb.mt hPs2).1] at this; exact this
    have hKl : (K ++ [l.getD (i : Int).toNat []]).length = K.length + 1 := by simp
    refine And.intro (by omega) ?_
    refine And.intro (show -9223372036854775808 ≤ (i : Int) + 1 ∧ (i : Int) + 1 ≤ 9223372036854775807 by omega) ?_
    refine And.intro (show 0 ≤ (i : Int) + 1 ∧ (i : Int) + 1 < ((sfxL n l).length : Int) by omega) ?_
    refine Or.inl (cq (pmt_fn hb hPs2) (And.intro rfl (And.intro rfl trivial)) ?_)
    refine Or.inl (cq (scnt_fn _ (hb.mt hPs2).2) (And.intro rfl trivial) ?_)
    refine And.intro (fun h2 => ?_) (fun h2 => ?_)
    · have h2 : ((classN (mtP b ((sfxL n l).getD ((i : Int) + 1).toNat [])) : Nat) : Int) = (n : Int) := h2
      rw [ei, hs1] at h2
      rw [if_pos (by omega)] at hst
      refine And.intro (by omega) ?_
      exact nx (i + 1, K, b) ⟨by omega, by omega, hb, by rw [← he, hst]⟩ (show l.length - (i + 1) < l.length - i by omega) (by repeat' first | refine And.intro ?_ ?_ | exact True.intro | (show (_ : Int) = (_ : Int); omega) | omega | exact rfl | (simp only [RO.len]; omega))
    · have h2 : ¬ ((classN (mtP b ((sfxL n l).getD ((i : Int) + 1).toNat [])) : Nat) : Int) = (n : Int) := h2
      rw [ei, hs1] at h2
      rw [if_neg (by omega)] at hst
      refine And.intro (by omega) ?_
      refine Or.inl (cq (pmt_fn hb hPp) (And.intro rfl (And.intro rfl trivial)) ?_)
      refine And.intro (by omega) ?_
      exact nx (i + 1, K ++ [l.getD i []], mtP b (l.getD i [])) ⟨by omega, by rw [List.length_append, List.length_singleton]; omega, hb.mt hPp, by rw [← he, hst, List.append_assoc]; rfl⟩ (show l.length - (i + 1) < l.length - i by omega) (by repeat' first | refine And.intro ?_ ?_ | exact True.intro | (show (_ : Int) = (_ : Int); omega) | omega | exact rfl | (simp only [RO.len]; omega))
  · have h1 : (l.length : Int) ≤ (i : Int) := h1
    have e : K = redL n (List.replicate n 0) l := by rw [← he, List.drop_of_length_le (by omega)]; simp [redL]
    refine And.intro ?_ trivial
    refine And.intro trivial ?_
    show RO.rows .i64 K = RO.rows .i64 _
    rw [e]
end Go.Proofs.Ytjlkhjgnfnfmgaa
end
section
/- Plain: the partition that a relation generates; lists of pairs. -/
namespace Go.Proofs.Ytjlkhjgnfnfmgaa
open Go Go.AM
noncomputable def egB (R : Nat → Nat → Prop) (a b : Nat) : Bool := @decide (Eg R a b) (Classical.propDecidable _)
theorem egB_true {R : Nat → Nat → Prop} {a b : Nat} : egB R a b = true ↔ Eg R a b := by unfold egB; exact @decide_eq_true_iff _ (Classical.propDecidable _)
theorem eg_pre (n : Nat) (R : Nat → Nat → Prop) : Pre n (egB R) := pre_of (fun x _ => egB_true.2 (.refl x)) fun _ _ _ _ _ _ h h' => egB_true.2 ((egB_true.1 h).trans (egB_true.1 h'))
noncomputable def eqP (n : Nat) (R : Nat → Nat → Prop) : List Int := clsL n (egB R)
theorem eqP_len {n : Nat} {R : Nat → Nat → Prop} : (eqP n R).length = n := clsL_len _ _
theorem eqP_canon {n : Nat} {R : Nat → Nat → Prop} : canon (eqP n R) = eqP n R := canon_idem _
theorem eqP_valid {n : Nat} {R : Nat → Nat → Prop} (h : n ≤ 4096) : validP (eqP n R) := ⟨by rw [eqP_len]; exact h, eqP_canon⟩
theorem eqP_iff {n : Nat} {R : Nat → Nat → Prop} {a b : Nat} (ha : a < n) (hb : b < n) : (eqP n R).getD a 0 = (eqP n R).getD b 0 ↔ Eg R a b := by
  unfold eqP
  rw [clsL_iff (eg_pre n R) ha hb, egB_true, egB_true]
  exact ⟨fun h => h.1, fun h => ⟨h, h.symm⟩⟩
theorem eqP_of {n : Nat} {p : List Int} {R : Nat → Nat → Prop} (h : KerOf n p R) : canon p = eqP n R :=
  ker_clsL (eg_pre n R) h.1 fun a b ha hb => by
    rw [egB_true, egB_true, h.2 a b ha hb]
    exact ⟨fun h => ⟨h, h.symm⟩, fun h => h.1⟩
theorem KerR.congr {n : Nat} {r : Nat → Nat} {R R' : Nat → Nat → Prop} (h : KerR n r R) (h1 : ∀ a b, R a b → Eg R' a b) (h2 : ∀ a b, R' a b → Eg R a b) : KerR n r R' :=
  fun a b ha hb => (h a b ha hb).trans ⟨Eg.mono h1, Eg.mono h2⟩
def relP (l : List (Int × Int)) (a b : Nat) : Prop := ((a : Int), (b : Int)) ∈ l
def orR (R : Nat → Nat → Prop) (l : List (Int × Int)) (a b : Nat) : Prop := R a b ∨ relP l a b
theorem relP_lt {n : Nat} {l : List (Int × Int)} (h : inW n l) {a b : Nat} (hr : relP l a b) : a < n ∧ b < n := by
  have := h _ hr
  simp only at this
  omega
theorem prR_ker {n : Nat} : ∀ (l : List (Int × Int)) (r : Nat → Nat) (R : Nat → Nat → Prop), KerR n r R → inW n l → KerR n (prR r l) (orR R l)
  | [], r, R, h, _ => h.congr (fun a b h => .rel (.inl h)) fun a b h => h.elim .rel fun h => nomatch h
  | x :: l, r, R, h, hW => by
    have hx := hW x (by simp)
    have hl : inW n l := fun q hq => hW q (List.mem_cons_of_mem _ hq)
    refine (prR_ker l (ufR r x.1.toNat x.2.toNat) (orP R x.1.toNat x.2.toNat) (h.union (by omega) (by omega)) hl).congr (fun a b h => .rel ?_) fun a b h => .rel ?_
    · rcases h with (h | ⟨rfl, rfl⟩) | h
      · exact .inl h
      · refine .inr ?_
        show (_, _) ∈ _
        rw [Int.toNat_of_nonneg hx.1.1, Int.toNat_of_nonneg hx.2.1]
        exact List.mem_cons_self
      · exact .inr (List.mem_cons_of_mem _ h)
    · rcases h with h | h
      · exact .inl (.inl h)
      · rcases List.mem_cons.1 h with h | h
        · exact .inl (.inr ⟨by rw [← h]; rfl, by rw [← h]; rfl⟩)
        · exact .inr h
theorem pairs_eqP {n : Nat} {l : List (Int × Int)} (h : inW n l) : canon (rtL n (prR id l)) = eqP n (relP l) :=
  eqP_of (((prR_ker l id (fun _ _ => False) (KerR.dis n) h).congr (fun a b h => h.elim (fun f => f.elim) .rel) fun _a _b h => .rel (.inr h)).ker)
end Go.Proofs.Ytjlkhjgnfnfmgaa
end
section
/- Plain: how the reference closes a partition under products. -/
namespace Go.Proofs.Ytjlkhjgnfnfmgaa
open Go Go.AM
theorem nodup_sub {α : Type} [DecidableEq α] : ∀ {A B : List α}, A.Nodup → (∀ x ∈ A, x ∈ B) → A.length ≤ B.length
  | [], _, _, _ => Nat.zero_le _
  | a :: A, B, hA, h => by
    have ha := h a (by simp)
    have hn := List.nodup_cons.1 hA
    have := nodup_sub (B := B.erase a) hn.2 fun x hx => (List.mem_erase_of_ne fun e => by subst e; exact hn.1 hx).2 (h x (List.mem_cons_of_mem _ hx))
    have hl := List.length_erase_of_mem ha
    have hp := List.length_pos_of_mem ha
    simp only [List.length_cons]; omega
theorem mrg_less {p : List Int} {a b : Nat} (ha : a < p.length) (hb : b < p.length) (hne : p.getD a 0 ≠ p.getD b 0) : classN (mrgL p a b) < classN p := by
  have hm : ∀ x ∈ mrgL p a b, x ∈ p ∧ x ≠ p.getD b 0 := fun x hx => by
    obtain ⟨k, hk, rfl⟩ := mem_getD 0 hx
    rw [mrgL_len] at hk
    rw [mrgL_get hk]
    by_cases e : p.getD k 0 = p.getD b 0
    · rw [if_pos e]; exact ⟨getD_mem ha, hne⟩
    · rw [if_neg e]; exact ⟨getD_mem hk, e⟩
  have := nodup_sub (A := p.getD b 0 :: firsts (mrgL p a b)) (B := firsts p) (List.nodup_cons.2 ⟨fun h => (hm _ (mem_firsts.1 h)).2 rfl, firsts_nodup _⟩) fun x hx => by
    rcases List.mem_cons.1 hx with rfl | hx
    · exact mem_firsts.2 (getD_mem hb)
    · exact mem_firsts.2 (hm x (mem_firsts.1 hx)).1
  simp only [List.length_cons] at this
  exact this
structure RcB (t : List (List Int)) (side : Int) (R : Nat → Nat → Prop) (p : List Int) : Prop where
  len : p.length = t.length
  up : ∀ a b, a < t.length → b < t.length → p.getD a 0 = p.getD b 0 → Cgr t side R a b
  lo : ∀ a b, R a b → a < t.length ∧ b < t.length ∧ p.getD a 0 = p.getD b 0
section
variable {t : List (List Int)} {side : Int} {R : Nat → Nat → Prop} {p p0 : List Int} {ch : Bool} {x y s : Nat}
theorem RcB.mrg (h : RcB t side R p) {a b : Nat} (ha : a < t.length) (hb : b < t.length) (e : Cgr t side R a b) : RcB t side R (mrgL p a b) := by
  have hl := h.len
  refine ⟨by rw [mrgL_len]; exact hl, fun i j hi hj e2 => ?_, fun i j hR => ?_⟩
  · rw [mrgL_get (by omega), mrgL_get (by omega)] at e2
    by_cases e3 : p.getD i 0 = p.getD b 0 <;> by_cases e4 : p.getD j 0 = p.getD b 0
    · exact (h.up i b hi hb e3).trans (h.up j b hj hb e4).symm
    · rw [if_pos e3, if_neg e4] at e2
      exact (h.up i b hi hb e3).trans (e.symm.trans (h.up a j ha hj e2))
    · rw [if_neg e3, if_pos e4] at e2
      exact (h.up i a hi ha e2).trans (e.trans (h.up b j hb hj e4.symm))
    · rw [if_neg e3, if_neg e4] at e2
      exact h.up i j hi hj e2
  · have k := h.lo i j hR
    refine ⟨k.1, k.2.1, ?_⟩
    rw [mrgL_get (by omega), mrgL_get (by omega), k.2.2]
structure RcI (t : List (List Int)) (side : Int) (R : Nat → Nat → Prop) (p0 p : List Int) (ch : Bool) (x y s : Nat) : Prop where
  b : RcB t side R p
  cd : ch = true → classN p < classN p0
  eq : ch = false → p = p0
  cl : ch = false → ∀ x' y' s', x' < t.length → y' < x' → s' < t.length → (x' < x ∨ (x' = x ∧ y' < y) ∨ (x' = x ∧ y' = y ∧ s' < s)) → p0.getD x' 0 = p0.getD y' 0 → CgA t p0 side x' y' s'
theorem RcI.start (h : RcB t side R p) : RcI t side R p p false 0 0 0 := ⟨h, (fun h => by cases h), fun _ => rfl, fun _ x' y' s' _ _ _ h => by omega⟩
theorem RcI.le (h : RcI t side R p0 p ch x y s) : classN p ≤ classN p0 := by
  cases hc : ch with
  | true => exact Nat.le_of_lt (h.cd hc)
  | false => rw [h.eq hc]; exact Nat.le_refl _
theorem RcI.mrg (h : RcI t side R p0 p ch x y s) {a b : Nat} (ha : a < t.length) (hb : b < t.length) (e : Cgr t side R a b) (hne : p.getD a 0 ≠ p.getD b 0) (x' y' s' : Nat) : RcI t side R p0 (mrgL p a b) true x' y' s' :=
  ⟨h.b.mrg ha hb e, fun _ => Nat.lt_of_lt_of_le (mrg_less (by rw [h.b.len]; exact ha) (by rw [h.b.len]; exact hb) hne) h.le, fun h => (by cases h), fun h => (by cases h)⟩
theorem RcI.chd (h : RcI t side R p0 p true x y s) (x' y' s' : Nat) : RcI t side R p0 p true x' y' s' := ⟨h.b, h.cd, h.eq, fun h => (by cases h)⟩
theorem RcI.okS (h : RcI t side R p0 p ch x y s) (hg : CgA t p side x y s) : RcI t side R p0 p ch x y (s + 1) :=
  ⟨h.b, h.cd, h.eq, fun hc x' y' s' h1 h2 h3 h4 h5 => by
    by_cases e : x' = x ∧ y' = y ∧ s' = s
    · obtain ⟨rfl, rfl, rfl⟩ := e
      rw [← h.eq hc]; exact hg
    · exact h.cl hc x' y' s' h1 h2 h3 (by omega) h5⟩
theorem RcI.endS (h : RcI t side R p0 p ch x y s) (hs : t.length ≤ s ∨ p.getD x 0 ≠ p.getD y 0) : RcI t side R p0 p ch x (y + 1) 0 :=
  ⟨h.b, h.cd, h.eq, fun hc x' y' s' h1 h2 h3 h4 h5 => by
    by_cases e : x' = x ∧ y' = y
    · rcases hs with hs | hs
      · exact h.cl hc x' y' s' h1 h2 h3 (by omega) h5
      · rw [e.1, e.2, ← h.eq hc] at h5; exact absurd h5 hs
    · exact h.cl hc x' y' s' h1 h2 h3 (by omega) h5⟩
theorem RcI.endY (h : RcI t side R p0 p ch x y 0) (hy : x ≤ y) : RcI t side R p0 p ch (x + 1) 0 0 :=
  ⟨h.b, h.cd, h.eq, fun hc x' y' s' h1 h2 h3 h4 h5 => h.cl hc x' y' s' h1 h2 h3 (by omega) h5⟩
theorem RcI.done (h : RcI t side R p0 p false x y 0) (hx : t.length ≤ x) : canon p = genP t side R := by
  have e := h.eq rfl
  subst e
  refine genP_of h.b.len h.b.up (fun a b hR => (h.b.lo a b hR).2.2) fun a b s ha hb hs e => ?_
  have key : ∀ a b, a < t.length → b < a → p.getD a 0 = p.getD b 0 → CgA t p side a b s := fun a b ha hb e => h.cl rfl a b s ha hb hs (.inl (by omega)) e
  rcases Nat.lt_trichotomy a b with hab | hab | hab
  · have := key b a hb hab e.symm
    exact ⟨fun h0 => (this.1 h0).symm, fun h0 => (this.2 h0).symm⟩
  · subst hab; exact ⟨fun _ => rfl, fun _ => rfl⟩
  · exact key a b ha hab e
theorem RcB.ofPairs {l : List (Int × Int)} (hl : inW t.length l) : RcB t side (relP l) (eqP t.length (relP l)) :=
  ⟨eqP_len, fun a b ha hb e => ((eqP_iff ha hb).1 e).least .refl (fun _ _ => .symm) (fun _ _ _ => .trans) fun a b h => .rel h,
    fun a b hR => by have := relP_lt hl hR; exact ⟨this.1, this.2, (eqP_iff this.1 this.2).2 (.rel hR)⟩⟩
end
end Go.Proofs.Ytjlkhjgnfnfmgaa
end
section
/- The reference's relations of Green (semigroupref15): contracts; the class of a table (semigroupref17). -/
namespace Go.Proofs.Ytjlkhjgnfnfmgaa
open Go Go.AM
set_option maxRecDepth 100000
def rowsB (n : Nat) (e : Nat → Nat → Bool) : List (List Bool) := (List.range n).map fun x => setB n (e x)
end Go.Proofs.Ytjlkhjgnfnfmgaa
end
section
/- Ideals of a table: plain. -/
namespace Go.Proofs.Ytjlkhjgnfnfmgaa
open Go Go.AM
open Classical
def inT (t : List (List Int)) (l : List Int) : Prop := ∀ x ∈ l, 0 ≤ x ∧ x < (t.length : Int)
instance (t : List (List Int)) (l : List Int) : Decidable (inT t l) := by unfold inT; infer_instance
end Go.Proofs.Ytjlkhjgnfnfmgaa
end
section
/- Orders by a comparison; sorted lists; the lexicographic order and the order by size. Plain. -/
namespace Go.Proofs.Ytjlkhjgnfnfmgaa
open Go Go.AM
structure TotC {α : Type} (c : α → α → Int) : Prop where
  swap : ∀ a b, c b a = - c a b
  eq : ∀ a b, c a b = 0 → a = b
  trans : ∀ a b d, c a b < 0 → c b d < 0 → c a d < 0
theorem TotC.self {α : Type} {c : α → α → Int} (h : TotC c) (a : α) : c a a = 0 := by have := h.swap a a; omega
def cmpI (a b : Int) : Int := if a < b then -1 else if b < a then 1 else 0
theorem cmpI_tot : TotC cmpI where
  swap a b := by unfold cmpI; split <;> split <;> (try split) <;> omega
  eq a b := by unfold cmpI; split <;> (try split) <;> omega
  trans a b d := by unfold cmpI; intro h1 h2; split at h1 <;> (try split at h1) <;> split at h2 <;> (try split at h2) <;> first | omega | (rw [if_pos (by omega)]; omega)
def cmpL : List Int → List Int → Int
  | [], [] => 0 | [], _ :: _ => -1 | _ :: _, [] => 1 | a :: l, b :: m => if cmpI a b ≠ 0 then cmpI a b else cmpL l m
theorem cmpL_swap : ∀ a b : List Int, cmpL b a = - cmpL a b
  | [], [] => rfl
  | [], _ :: _ => rfl
  | _ :: _, [] => rfl
  | a :: l, b :: m => by
    have e := cmpI_tot.swap a b
    have ih := cmpL_swap l m
    simp only [cmpL]
    by_cases h : cmpI a b = 0
    · rw [if_neg (by omega), if_neg (by omega), ih]
    · rw [if_pos (by omega), if_pos h, e]
theorem cmpL_eq : ∀ a b : List Int, cmpL a b = 0 → a = b
  | [], [], _ => rfl
  | [], _ :: _, h => by simp [cmpL] at h
  | _ :: _, [], h => by simp [cmpL] at h
  | a :: l, b :: m, h => by
    simp only [cmpL] at h
    by_cases h0 : cmpI a b = 0
    · rw [if_neg (by omega)] at h
      rw [cmpI_tot.eq a b h0, cmpL_eq l m h]
    · rw [if_pos h0] at h; exact absurd h h0
theorem cmpL_trans : ∀ a b d : List Int, cmpL a b < 0 → cmpL b d < 0 → cmpL a d < 0
  | [], [], _, h, _ => by simp [cmpL] at h
  | [], _ :: _, [], _, h => by simp [cmpL] at h
  | [], _ :: _, _ :: _, _, _ => by simp [cmpL]
  | _ :: _, [], _, h, _ => by simp [cmpL] at h
  | _ :: _, _ :: _, [], _, h => by simp [cmpL] at h
  | a :: l, b :: m, d :: n, h1, h2 => by
    simp only [cmpL] at h1 h2 ⊢
    have ih := cmpL_trans l m n
    by_cases e1 : cmpI a b = 0
    · rw [if_neg (by omega)] at h1
      obtain rfl := cmpI_tot.eq a b e1
      by_cases e2 : cmpI a d = 0
      · rw [if_neg (by omega)] at h2 ⊢; exact ih h1 h2
      · rw [if_pos e2] at h2 ⊢; exact h2
    · rw [if_pos e1] at h1
      by_cases e2 : cmpI b d = 0
      · obtain rfl := cmpI_tot.eq b d e2
        rw [if_pos e1]; exact h1
      · rw [if_pos e2] at h2
        have := cmpI_tot.trans a b d h1 h2
        rw [if_pos (by omega)]; exact this
theorem cmpL_tot : TotC cmpL := ⟨cmpL_swap, cmpL_eq, cmpL_trans⟩
def Srt {α : Type} (c : α → α → Int) (l : List α) : Prop := l.Pairwise fun a b => c a b < 0
def srt {α : Type} (c : α → α → Int) (l : List α) : List α := l.mergeSort fun a b => decide (c a b ≤ 0)
section
variable {α : Type} {c : α → α → Int}
theorem Srt.nodup (h : TotC c) {l : List α} (hs : Srt c l) : l.Nodup := hs.imp fun {a b} hab e => by subst e; have := h.self a; omega
theorem le_trans' (h : TotC c) {a b d : α} (h1 : c a b ≤ 0) (h2 : c b d ≤ 0) : c a d ≤ 0 := by
  by_cases e1 : c a b = 0
  · obtain rfl := h.eq _ _ e1; exact h2
  · by_cases e2 : c b d = 0
    · obtain rfl := h.eq _ _ e2; exact h1
    · have := h.trans a b d (by omega) (by omega); omega
theorem srt_perm (l : List α) : (srt c l).Perm l := List.mergeSort_perm _ _
theorem srt_mem {l : List α} {x : α} : x ∈ srt c l ↔ x ∈ l := (srt_perm l).mem_iff
theorem srt_len (l : List α) : (srt c l).length = l.length := (srt_perm l).length_eq
theorem srt_le (h : TotC c) (l : List α) : (srt c l).Pairwise fun a b => c a b ≤ 0 := by
  have := List.pairwise_mergeSort (le := fun a b => decide (c a b ≤ 0)) (fun a b d h1 h2 => decide_eq_true (le_trans' h (of_decide_eq_true h1) (of_decide_eq_true h2)))
    (fun a b => by
      have := h.swap a b
      by_cases h0 : c a b ≤ 0
      · simp [h0]
      · have : c b a ≤ 0 := by omega
        simp [this]) l
  exact this.imp fun {a b} hab => of_decide_eq_true hab
theorem srt_srt (h : TotC c) {l : List α} (hn : l.Nodup) : Srt c (srt c l) := by
  have h1 := srt_le h l
  have h2 : (srt c l).Nodup := (srt_perm l).nodup_iff.2 hn
  have := h1.and h2
  refine this.imp fun {a b} hab => ?_
  have : c a b ≠ 0 := fun e => hab.2 (h.eq _ _ e)
  omega
theorem perm_sorted (h : TotC c) : ∀ {l m : List α}, l.Pairwise (fun a b => c a b ≤ 0) → m.Pairwise (fun a b => c a b ≤ 0) → l.Perm m → l = m
  | [], m, _, _, hp => by rw [List.nil_perm.1 hp]
  | a :: l, [], _, _, hp => by have := hp.length_eq; simp at this
  | a :: l, b :: m, h1, h2, hp => by
    have h1' := List.pairwise_cons.1 h1
    have h2' := List.pairwise_cons.1 h2
    have e : a = b := by
      have ha : a ∈ b :: m := hp.mem_iff.1 (by simp)
      have hb : b ∈ a :: l := hp.mem_iff.2 (by simp)
      rcases List.mem_cons.1 ha with e | ha
      · exact e
      · rcases List.mem_cons.1 hb with e | hb
        · exact e.symm
        · have g1 := h2'.1 a ha
          have g2 := h1'.1 b hb
          have := h.swap a b
          exact h.eq _ _ (by omega)
    subst e
    rw [perm_sorted h h1'.2 h2'.2 hp.cons_inv]
theorem sorted_uniq (h : TotC c) {l m : List α} (hl : Srt c l) (hm : Srt c m) (he : ∀ x, x ∈ l ↔ x ∈ m) : l = m :=
  perm_sorted h (hl.imp fun h => by omega) (hm.imp fun h => by omega) ((List.perm_ext_iff_of_nodup (hl.nodup h) (hm.nodup h)).2 he)
end
theorem cmpL_at : ∀ {a b : List Int} {i : Nat}, (∀ j, j < i → a.getD j 0 = b.getD j 0) → i ≤ a.length → i ≤ b.length → cmpL a b = cmpL (a.drop i) (b.drop i)
  | a, b, 0, _, _, _ => by simp
  | [], _, i + 1, _, h, _ => by simp at h
  | _ :: _, [], i + 1, _, _, h => by simp at h
  | x :: a, y :: b, i + 1, h, h1, h2 => by
    have e : x = y := by simpa using h 0 (by omega)
    subst e
    rw [List.drop_succ_cons, List.drop_succ_cons, ← cmpL_at (a := a) (b := b) (i := i) (fun j hj => by simpa using h (j + 1) (by omega)) (by simpa using h1) (by simpa using h2)]
    simp [cmpL, cmpI_tot.self]
theorem cmpL_here {a b : List Int} {i : Nat} (h : ∀ j, j < i → a.getD j 0 = b.getD j 0) (h1 : i < a.length) (h2 : i < b.length) (hne : a.getD i 0 ≠ b.getD i 0) : cmpL a b = cmpI (a.getD i 0) (b.getD i 0) := by
  rw [cmpL_at h (by omega) (by omega), List.drop_eq_getElem_cons h1, List.drop_eq_getElem_cons h2]
  rw [getD_eq h1, getD_eq h2] at *
  simp only [cmpL]
  rw [if_pos fun e => hne (cmpI_tot.eq _ _ e)]
theorem cmpL_end {a b : List Int} {i : Nat} (h : ∀ j, j < i → a.getD j 0 = b.getD j 0) (h1 : i ≤ a.length) (h2 : i ≤ b.length) (he : i = a.length ∨ i = b.length) : cmpL a b = cmpI a.length b.length := by
  rw [cmpL_at h h1 h2]
  unfold cmpI
  rcases he with he | he
  · rw [List.drop_of_length_le (by omega)]
    cases hb : b.drop i with
    | nil =>
      have := congrArg List.length hb
      simp at this
      rw [if_neg (by omega), if_neg (by omega)]; rfl
    | cons =>
      have := congrArg List.length hb
      simp at this
      rw [if_pos (by omega)]; rfl
  · rw [show b.drop i = [] from List.drop_of_length_le (by omega)]
    cases ha : a.drop i with
    | nil =>
      have := congrArg List.length ha
      simp at this
      rw [if_neg (by omega), if_neg (by omega)]; rfl
    | cons =>
      have := congrArg List.length ha
      simp at this
      rw [if_neg (by omega), if_pos (by omega)]; rfl
noncomputable def insC {α : Type} (c : α → α → Int) (l : List α) (x : α) : List α := open Classical in if x ∈ l then l else srt c (x :: l)
section
variable {α : Type} {c : α → α → Int}
theorem insC_mem {l : List α} {x y : α} : y ∈ insC c l x ↔ y = x ∨ y ∈ l := by
  unfold insC
  split
  · rename_i h; exact ⟨.inr, fun h' => h'.elim (fun e => by rw [e]; exact h) id⟩
  · rw [srt_mem, List.mem_cons]
theorem insC_srt (h : TotC c) {l : List α} {x : α} (hl : Srt c l) : Srt c (insC c l x) := by
  unfold insC
  split
  · exact hl
  · rename_i hx; exact srt_srt h (List.nodup_cons.2 ⟨hx, hl.nodup h⟩)
theorem insC_len (l : List α) (x : α) : (insC c l x).length ≤ l.length + 1 := by
  unfold insC
  split
  · omega
  · rw [srt_len]; simp
theorem insC_at (h : TotC c) {l : List α} {x d : α} (hl : Srt c l) {i : Nat} (hi : i ≤ l.length) (h1 : ∀ j, i ≤ j → j < l.length → c x (l.getD j d) < 0) (h2 : 0 < i → c (l.getD (i - 1) d) x < 0) : l.take i ++ [x] ++ l.drop i = insC c l x := by
  have low : ∀ j, j < i → c (l.getD j d) x < 0 := fun j hj => by
    by_cases e : j = i - 1
    · rw [e]; exact h2 (by omega)
    · have hp := List.pairwise_iff_getElem.1 hl j (i - 1) (by omega) (by omega) (by omega)
      rw [getD_eq (by omega)]
      have := h2 (by omega)
      rw [getD_eq (by omega)] at this
      exact h.trans _ _ _ hp this
  refine sorted_uniq h ?_ (insC_srt h hl) fun y => ?_
  · unfold Srt
    rw [List.append_assoc, List.pairwise_append]
    refine ⟨hl.sublist (List.take_sublist _ _), ?_, fun a ha b hb => ?_⟩
    · rw [List.singleton_append, List.pairwise_cons]
      refine ⟨fun b hb => ?_, hl.sublist (List.drop_sublist _ _)⟩
      obtain ⟨j, hj, e⟩ := mem_getD d hb
      rw [List.length_drop] at hj
      have := h1 (i + j) (by omega) (by omega)
      rw [← e]
      simpa [List.getD] using this
    · obtain ⟨j, hj, e⟩ := mem_getD d ha
      rw [List.length_take] at hj
      have hx := low j (by omega)
      have ea : a = l.getD j d := by rw [← e]; simp [List.getD, show j < i by omega]
      rw [ea]
      rw [List.singleton_append, List.mem_cons] at hb
      rcases hb with rfl | hb
      · exact hx
      · obtain ⟨k, hk, e'⟩ := mem_getD d hb
        rw [List.length_drop] at hk
        have := h1 (i + k) (by omega) (by omega)
        rw [← e']
        have e2 : (l.drop i).getD k d = l.getD (i + k) d := by simp [List.getD]
        rw [e2]
        exact h.trans _ _ _ hx this
  · rw [insC_mem, List.append_assoc, List.mem_append, List.singleton_append, List.mem_cons]
    have := List.take_append_drop i l
    constructor
    · rintro (hy | rfl | hy)
      · exact .inr (List.mem_of_mem_take hy)
      · exact .inl rfl
      · exact .inr (List.mem_of_mem_drop hy)
    · rintro (rfl | hy)
      · exact .inr (.inl rfl)
      · rw [← this, List.mem_append] at hy
        exact hy.elim .inl fun hy => .inr (.inr hy)
theorem insC_in {l : List α} {x : α} (h : x ∈ l) : insC c l x = l := by unfold insC; rw [if_pos h]
end
end Go.Proofs.Ytjlkhjgnfnfmgaa
end
section
/- Plain: subgroups, what elements generate, conjugates, cosets. -/
namespace Go.Proofs.Ytjlkhjgnfnfmgaa
section
/-! ### Subgroups -/
end
/-! ### Generating, step by step -/
theorem nodup_len {n : Nat} {l : List Int} (hn : l.Nodup) (h : ∀ x ∈ l, 0 ≤ x ∧ x < (n : Int)) : l.length ≤ n := by
  have := hn.length_le_of_subset (l₂ := disI n) fun x hx => mem_disI.2 (h x hx)
  rwa [disI_len] at this
/-! ### What was collected -/
/-! ### Closing under products, pass by pass -/
/-! ### The reference's lists -/
end Go.Proofs.Ytjlkhjgnfnfmgaa
end
section
/- More idioms of stepping: loops with five to nine things that change. -/
namespace Go.Proofs.Ytjlkhjgnfnfmgaa
open Go Go.AM
abbrev un5 {A B C D E : Type} {γ : Sort _} (f : A → B → C → D → E → γ) (p : A × B × C × D × E) : γ := match p with | (a, b, c, d, e) => f a b c d e
theorem lp5 {A B C D E5 : Type} (U : A → B → C → D → E5 → List (Nat × AV)) (V : A → B → C → D → E5 → Store) (ok : A → B → C → D → E5 → Prop) (μ : A → B → C → D → E5 → Nat) (a0 : A) (b0 : B) (c0 : C) (d0 : D) (e0 : E5) {E Bd : (Y : Type) → (Y → List (Nat × AV)) → (Y → Store) → (Y → Prop) → (Y → Nat) → Y → Prop}
    (h0 : ok a0 b0 c0 d0 e0) (h1 : E (A × B × C × D × E5) (un5 U) (un5 V) (un5 ok) (un5 μ) (a0, b0, c0, d0, e0)) (h2 : ∀ a b c d e, ok a b c d e → Bd (A × B × C × D × E5) (un5 U) (un5 V) (un5 ok) (un5 μ) (a, b, c, d, e)) :
    ∃ (X : Type) (U : X → List (Nat × AV)) (V : X → Store) (ok : X → Prop) (μ : X → Nat) (x0 : X), (ok x0 ∧ E X U V ok μ x0) ∧ ∀ x, ok x → Bd X U V ok μ x :=
  ⟨A × B × C × D × E5, un5 U, un5 V, un5 ok, un5 μ, (a0, b0, c0, d0, e0), ⟨h0, h1⟩, fun (a, b, c, d, e) h => h2 a b c d e h⟩
abbrev un7 {A B C D E F G : Type} {γ : Sort _} (f : A → B → C → D → E → F → G → γ) (p : A × B × C × D × E × F × G) : γ := match p with | (a, b, c, d, e, g, h) => f a b c d e g h
theorem lp7 {A B C D E5 F6 G7 : Type} (U : A → B → C → D → E5 → F6 → G7 → List (Nat × AV)) (V : A → B → C → D → E5 → F6 → G7 → Store) (ok : A → B → C → D → E5 → F6 → G7 → Prop) (μ : A → B → C → D → E5 → F6 → G7 → Nat) (a0 : A) (b0 : B) (c0 : C) (d0 : D) (e0 : E5) (f0 : F6) (g0 : G7) {E Bd : (Y : Type) → (Y → List (Nat × AV)) → (Y → Store) → (Y → Prop) → (Y → Nat) → Y → Prop}
    (h0 : ok a0 b0 c0 d0 e0 f0 g0) (h1 : E (A × B × C × D × E5 × F6 × G7) (un7 U) (un7 V) (un7 ok) (un7 μ) (a0, b0, c0, d0, e0, f0, g0)) (h2 : ∀ a b c d e f g, ok a b c d e f g → Bd (A × B × C × D × E5 × F6 × G7) (un7 U) (un7 V) (un7 ok) (un7 μ) (a, b, c, d, e, f, g)) :
    ∃ (X : Type) (U : X → List (Nat × AV)) (V : X → Store) (ok : X → Prop) (μ : X → Nat) (x0 : X), (ok x0 ∧ E X U V ok μ x0) ∧ ∀ x, ok x → Bd X U V ok μ x :=
  ⟨A × B × C × D × E5 × F6 × G7, un7 U, un7 V, un7 ok, un7 μ, (a0, b0, c0, d0, e0, f0, g0), ⟨h0, h1⟩, fun (a, b, c, d, e, f, g) h => h2 a b c d e f g h⟩
abbrev un8 {T0 T1 T2 T3 T4 T5 T6 T7 : Type} {γ : Sort _} (q : T0 → T1 → T2 → T3 → T4 → T5 → T6 → T7 → γ) (p : T0 × T1 × T2 × T3 × T4 × T5 × T6 × T7) : γ := match p with | (a, b, c, d, e, f, g, h) => q a b c d e f g h
theorem lp8 {T0 T1 T2 T3 T4 T5 T6 T7 : Type} (U : T0 → T1 → T2 → T3 → T4 → T5 → T6 → T7 → List (Nat × AV)) (V : T0 → T1 → T2 → T3 → T4 → T5 → T6 → T7 → Store) (ok : T0 → T1 → T2 → T3 → T4 → T5 → T6 → T7 → Prop) (μ : T0 → T1 → T2 → T3 → T4 → T5 → T6 → T7 → Nat) (a0 : T0) (b0 : T1) (c0 : T2) (d0 : T3) (e0 : T4) (f0 : T5) (g0 : T6) (h0 : T7) {EE Bd : (Y : Type) → (Y → List (Nat × AV)) → (Y → Store) → (Y → Prop) → (Y → Nat) → Y → Prop}
    (q0 : ok a0 b0 c0 d0 e0 f0 g0 h0) (q1 : EE (T0 × T1 × T2 × T3 × T4 × T5 × T6 × T7) (un8 U) (un8 V) (un8 ok) (un8 μ) (a0, b0, c0, d0, e0, f0, g0, h0)) (q2 : ∀ a b c d e f g h, ok a b c d e f g h → Bd (T0 × T1 × T2 × T3 × T4 × T5 × T6 × T7) (un8 U) (un8 V) (un8 ok) (un8 μ) (a, b, c, d, e, f, g, h)) :
    ∃ (X : Type) (U : X → List (Nat × AV)) (V : X → Store) (ok : X → Prop) (μ : X → Nat) (x0 : X), (ok x0 ∧ EE X U V ok μ x0) ∧ ∀ x, ok x → Bd X U V ok μ x :=
  ⟨T0 × T1 × T2 × T3 × T4 × T5 × T6 × T7, un8 U, un8 V, un8 ok, un8 μ, (a0, b0, c0, d0, e0, f0, g0, h0), ⟨q0, q1⟩, fun (a, b, c, d, e, f, g, h) hh => q2 a b c d e f g h hh⟩
abbrev un9 {T0 T1 T2 T3 T4 T5 T6 T7 T8 : Type} {γ : Sort _} (q : T0 → T1 → T2 → T3 → T4 → T5 → T6 → T7 → T8 → γ) (p : T0 × T1 × T2 × T3 × T4 × T5 × T6 × T7 × T8) : γ := match p with | (a, b, c, d, e, f, g, h, i) => q a b c d e f g h i
theorem lp9 {T0 T1 T2 T3 T4 T5 T6 T7 T8 : Type} (U : T0 → T1 → T2 → T3 → T4 → T5 → T6 → T7 → T8 → List (Nat × AV)) (V : T0 → T1 → T2 → T3 → T4 → T5 → T6 → T7 → T8 → Store) (ok : T0 → T1 → T2 → T3 → T4 → T5 → T6 → T7 → T8 → Prop) (μ : T0 → T1 → T2 → T3 → T4 → T5 → T6 → T7 → T8 → Nat) (a0 : T0) (b0 : T1) (c0 : T2) (d0 : T3) (e0 : T4) (f0 : T5) (g0 : T6) (h0 : T7) (i0 : T8) {EE Bd : (Y : Type) → (Y → List (Nat × AV)) → (Y → Store) → (Y → Prop) → (Y → Nat) → Y → Prop}
    (q0 : ok a0 b0 c0 d0 e0 f0 g0 h0 i0) (q1 : EE (T0 × T1 × T2 × T3 × T4 × T5 × T6 × T7 × T8) (un9 U) (un9 V) (un9 ok) (un9 μ) (a0, b0, c0, d0, e0, f0, g0, h0, i0)) (q2 : ∀ a b c d e f g h i, ok a b c d e f g h i → Bd (T0 × T1 × T2 × T3 × T4 × T5 × T6 × T7 × T8) (un9 U) (un9 V) (un9 ok) (un9 μ) (a, b, c, d, e, f, g, h, i)) :
    ∃ (X : Type) (U : X → List (Nat × AV)) (V : X → Store) (ok : X → Prop) (μ : X → Nat) (x0 : X), (ok x0 ∧ EE X U V ok μ x0) ∧ ∀ x, ok x → Bd X U V ok μ x :=
  ⟨T0 × T1 × T2 × T3 × T4 × T5 × T6 × T7 × T8, un9 U, un9 V, un9 ok, un9 μ, (a0, b0, c0, d0, e0, f0, g0, h0, i0), ⟨q0, q1⟩, fun (a, b, c, d, e, f, g, h, i) hh => q2 a b c d e f g h i hh⟩
theorem all4 {T0 T1 T2 T3 : Type} {P : T0 × T1 × T2 × T3 → Prop} (q : ∀ a b c d, P (a, b, c, d)) : ∀ z, P z := fun (a, b, c, d) => q a b c d
theorem all7 {T0 T1 T2 T3 T4 T5 T6 : Type} {P : T0 × T1 × T2 × T3 × T4 × T5 × T6 → Prop} (q : ∀ a b c d e f g, P (a, b, c, d, e, f, g)) : ∀ z, P z := fun (a, b, c, d, e, f, g) => q a b c d e f g
theorem schShr {TY : List TyE} {F : Go.AM.Spec} {ops : List Oper} {t : Sch} {T0 T : List AV} {S0 S : Store} {Q : List AV → Store → Prop} (h : ∀ K : List AV → Store → Prop, K T S → schK TY F ops t T0 S0 K) (hq : Q T S) : schK TY F ops t T0 S0 Q := h Q hq
end Go.Proofs.Ytjlkhjgnfnfmgaa
end
