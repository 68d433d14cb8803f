import Derived.Test.YtjlkhjgnfnfmgaaLp
import Derived.Test.YtjlkhjgnfnfmgaaCgMin
import Derived.Test.YtjlkhjgnfnfmgaaSynLaw
import Derived.Test.YtjlkhjgnfnfmgaaCgFor
import Derived.Test.YtjlkhjgnfnfmgaaRefRees
import Derived.Test.YtjlkhjgnfnfmgaaQuoLaw
section
/- Package subdirect: Irreducible, Check: contracts. -/
namespace Go.Proofs.Ytjlkhjgnfnfmgaa
open Go Go.AM
set_option maxRecDepth 100000
def Irr (t : List (List Int)) : Prop := Semi t ∧ (minsL t).length = 1
theorem AtomsOk.one {t : List (List Int)} {L : List (List (Int × Int))} (h : AtomsOk t L) (h1 : L.length = 1) : (minsL t).getD 0 [] = eqP t.length (relP (L.getD 0 [])) := by
  have hm := getD_mem (d := []) (l := minsL t) (i := 0) (by rw [h.num]; omega)
  generalize (minsL t).getD 0 [] = x at hm ⊢
  rw [h.mins, srt_mem] at hm
  match L, h1 with
  | [l], _ => simpa using hm
theorem sirr1_fn (t : List (List Int)) (h : Irr t) (ht : t.length ≤ 60) : QF 47 [.ro (.rows .i64 t)] (.tup [.new (.ints .i64 ((minsL t).getD 0 [])), .bool (.lit true)]) := mkQ Try.func47 (by decide +kernel) rfl (Nat.le_of_ble_eq_true rfl) fun _ => by
  obtain ⟨hs, h1⟩ := h
  refine Or.inl (cq (valid_fn t) (And.intro rfl trivial) ?_)
  refine And.intro (fun h2 => absurd (valid_zero.2 hs) h2) (fun _ => ?_)
  refine Or.inr (Or.inr (ce (atoms_fn t hs ht) (And.intro rfl trivial) ?_))
  intro L hL
  have hL : AtomsOk t L := hL
  have hn := hL.num
  refine And.intro (fun h2 => ?_) (fun _ => ?_)
  · have h2 : ¬ (L.length : Int) = 1 := h2
    omega
  have hL0 : L.getD 0 [] ∈ L := getD_mem (d := []) (by omega)
  have hin := hL.inw _ hL0
  refine And.intro (show 0 ≤ (0 : Int) ∧ (0 : Int) < (L.length : Int) by omega) ?_
  refine Or.inl (cq (fpairs_fn t.length (by omega) (L.getD 0 []) fun x hx => ⟨(hin x hx).1.1, (hin x hx).1.2, (hin x hx).2.1, (hin x hx).2.2⟩) (And.intro rfl (And.intro rfl trivial)) ?_)
  have e : canon (rtL t.length (prR id (L.getD 0 []))) = (minsL t).getD 0 [] := by rw [pairs_eqP hin, hL.one (by omega)]
  refine And.intro (And.intro ?_ (congrArg (RO.ints .i64) e)) (And.intro rfl trivial)
  rfl
theorem sirr0_fn (t : List (List Int)) (h : ¬ Irr t) (ht : Semi t → t.length ≤ 60) : QF 47 [.ro (.rows .i64 t)] (.tup [.nils, .bool (.lit false)]) := mkQ Try.func47 (by decide +kernel) rfl (Nat.le_of_ble_eq_true rfl) fun _ => by
  refine Or.inl (cq (valid_fn t) (And.intro rfl trivial) ?_)
  refine And.intro (fun _ => ?_) (fun h2 => ?_)
  · exact And.intro trivial (And.intro rfl trivial)
  have hs := valid_zero.1 h2
  refine Or.inr (Or.inr (ce (atoms_fn t hs (ht hs)) (And.intro rfl trivial) ?_))
  intro L hL
  have hL : AtomsOk t L := hL
  have hn := hL.num
  refine And.intro (fun _ => ?_) (fun h3 => ?_)
  · exact And.intro trivial (And.intro rfl trivial)
  · have h3 : (L.length : Int) = 1 := h3
    exact absurd ⟨hs, by omega⟩ h
structure Chk (t : List (List Int)) (l : List (List Int)) : Prop where
  semi : Semi t
  few : l.length < t.length
  cg : ∀ p ∈ l, IsCg t p 0
  meet : classN (mtL t.length l) = t.length
  red : (redL t.length (List.replicate t.length 0) l).length = l.length
  irr : ∀ p ∈ l, (minsL (quoL t p)).length = 1
noncomputable def chkB (t : List (List Int)) (l : List (List Int)) : Bool := @decide (Chk t l) (Classical.propDecidable _)
theorem chkB_true {t l : List (List Int)} : chkB t l = true ↔ Chk t l := by unfold chkB; exact @decide_eq_true_iff _ (Classical.propDecidable _)
theorem chkB_false {t l : List (List Int)} : chkB t l = false ↔ ¬ Chk t l := by rw [← chkB_true, Bool.not_eq_true]
theorem IsCg.pt {t : List (List Int)} {p : List Int} (h : IsCg t p 0) : Pt t.length p := ⟨h.len, h.val⟩
theorem IsCg.quo {t : List (List Int)} {p : List Int} (h : IsCg t p 0) : Semi (quoL t p) := quo_semi h.semi h.len h.val.2 h.cg
theorem IsCg.quo_le {t : List (List Int)} {p : List Int} (h : IsCg t p 0) : (quoL t p).length ≤ t.length := by rw [quoL_len, ← h.len]; exact firsts_le _
set_option maxHeartbeats 1000000 in
theorem schk_fn (t l : List (List Int)) (ht : Semi t → t.length ≤ 60) : QF 13 [.ro (.rows .i64 t), .ro (.rows .i64 l)] (.bool (.v (chkB t l))) := mkQ Try.func13 (by decide +kernel) rfl (Nat.le_of_ble_eq_true rfl) fun _ => by
  have no : ¬ Chk t l → (BE.lit false).val = (BE.v (chkB t l)).val := fun h => (chkB_false.2 h).symm
  refine Or.inl (cq (valid_fn t) (And.intro rfl trivial) ?_)
  refine And.intro (fun h1 => ?_) (fun h1 => ?_)
  · exact And.intro (no fun h => h1 (valid_zero.2 h.semi)) trivial
  have hs := valid_zero.1 h1
  have hn := ht hs
  refine And.intro (fun h2 => ?_) (fun h2 => ?_)
  · have h2 : (t.length : Int) ≤ (l.length : Int) := h2
    exact And.intro (no fun h => by have := h.few; omega) trivial
  have h2 : (l.length : Int) < (t.length : Int) := h2
  refine Exists.intro [] <| lp (X := Nat) (fun i => [(21, .int .i64 i)]) (fun _ => []) (fun i => i ≤ l.length ∧ ∀ j, j < i → IsCg t (l.getD j []) 0) (fun i => l.length - i) 0 ⟨Nat.zero_le _, fun j hj => absurd hj (Nat.not_lt_zero _)⟩ (by repeat' first | refine And.intro ?_ ?_ | exact True.intro | (show (_ : Int) = (_ : Int); omega) | omega | exact rfl | (simp only [RO.len]; omega)) ?_
  rintro i ⟨hi, hc⟩
  refine And.intro (fun h3 => ?_) (fun h3 => ?_)
  · have h3 : (i : Int) < (l.length : Int) := h3
    refine And.intro (by omega) ?_
    refine Or.inl (cq (sdcg_fn t (l.getD i []) hs) (And.intro rfl (And.intro rfl trivial)) ?_)
    refine And.intro (fun h4 => ?_) (fun h4 => ?_)
    · have h4 : (!cgB t (l.getD i []) 0) = true := h4
      refine And.intro (no fun h => ?_) trivial
      rw [cgB_true.2 (h.cg _ (getD_mem (d := []) (by omega)))] at h4; cases h4
    · have h4 : (!cgB t (l.getD i []) 0) = false := h4
      refine And.intro (by omega) ?_
      refine nx (i + 1) ⟨by omega, fun j hj => ?_⟩ (show l.length - (i + 1) < l.length - i by omega) (by repeat' first | refine And.intro ?_ ?_ | exact True.intro | (show (_ : Int) = (_ : Int); omega) | omega | exact rfl | (simp only [RO.len]; omega))
      by_cases e : j = i
      · subst e; exact cgB_true.1 (by simpa using h4)
      · exact hc j (by omega)
  · have h3 : (l.length : Int) ≤ (i : Int) := h3
    have hcg : ∀ p ∈ l, IsCg t p 0 := fun p hp => by
      obtain ⟨j, hj, rfl⟩ := mem_getD [] hp
      exact hc j (by omega)
    have hpt : ∀ p ∈ l, Pt t.length p := fun p hp => (hcg p hp).pt
    have h0 : 0 < t.length := by omega
    have hsl := sfx_len t.length l
    have hs0 : (sfxL t.length l).getD 0 [] = mtL t.length l := by rw [sfx_get _ _ (Nat.zero_le _), List.drop_zero]
    have hpm : Pt t.length (mtL t.length l) := Pt.mtL (by omega) hpt
    refine Or.inl (cq (ssfx_fn t.length l h0 (by omega) (by omega) hpt) (And.intro rfl (And.intro rfl trivial)) ?_)
    refine And.intro (show 0 ≤ (0 : Int) ∧ (0 : Int) < ((sfxL t.length l).length : Int) by omega) ?_
    refine Or.inl (cq (scnt_fn ((sfxL t.length l).getD 0 []) (by rw [hs0]; exact hpm.2)) (And.intro rfl trivial) ?_)
    refine And.intro (fun h4 => ?_) (fun h4 => ?_)
    · have h4 : ¬ ((classN ((sfxL t.length l).getD 0 []) : Nat) : Int) = (t.length : Int) := h4
      rw [hs0] at h4
      exact And.intro (no fun h => by have := h.meet; omega) trivial
    have h4 : ((classN ((sfxL t.length l).getD 0 []) : Nat) : Int) = (t.length : Int) := h4
    rw [hs0] at h4
    refine Or.inl (cq (sred_fn t.length l h0 (by omega) (by omega) hpt) (And.intro rfl (And.intro rfl trivial)) ?_)
    refine And.intro (fun h5 => ?_) (fun h5 => ?_)
    · have h5 : ¬ ((redL t.length (List.replicate t.length 0) l).length : Int) = (l.length : Int) := h5
      exact And.intro (no fun h => by have := h.red; omega) trivial
    have h5 : ((redL t.length (List.replicate t.length 0) l).length : Int) = (l.length : Int) := h5
    refine Exists.intro [] <| lp (X := Nat) (fun i => [(52, .int .i64 i)]) (fun _ => []) (fun i => i ≤ l.length ∧ ∀ j, j < i → (minsL (quoL t (l.getD j []))).length = 1) (fun i => l.length - i) 0 ⟨Nat.zero_le _, fun j hj => absurd hj (Nat.not_lt_zero _)⟩ (by repeat' first | refine And.intro ?_ ?_ | exact True.intro | (show (_ : Int) = (_ : Int); omega) | omega | exact rfl | (simp only [RO.len]; omega)) ?_
    rintro k ⟨hk, hm⟩
    refine And.intro (fun h6 => ?_) (fun h6 => ?_)
    · have h6 : (k : Int) < (l.length : Int) := h6
      have hck := hcg _ (getD_mem (d := []) (show k < l.length by omega))
      have hql := hck.quo_le
      refine And.intro (by omega) ?_
      refine Or.inl (cq (sdquo_fn t (l.getD k []) hck) (And.intro rfl (And.intro rfl trivial)) ?_)
      refine Or.inr (Or.inr (ce (atoms_fn (quoL t (l.getD k [])) hck.quo (by omega)) (And.intro rfl trivial) ?_))
      intro L hL
      have hL : AtomsOk (quoL t (l.getD k [])) L := hL
      have hLn := hL.num
      refine And.intro (fun h7 => ?_) (fun h7 => ?_)
      · have h7 : ¬ (L.length : Int) = 1 := h7
        exact And.intro (no fun h => by have := h.irr _ (getD_mem (d := []) (show k < l.length by omega)); omega) trivial
      · have h7 : (L.length : Int) = 1 := h7
        refine And.intro (by omega) ?_
        refine nx (k + 1) ⟨by omega, fun j hj => ?_⟩ (show l.length - (k + 1) < l.length - k by omega) (by repeat' first | refine And.intro ?_ ?_ | exact True.intro | (show (_ : Int) = (_ : Int); omega) | omega | exact rfl | (simp only [RO.len]; omega))
        by_cases e : j = k
        · subst e; omega
        · exact hm j (by omega)
    · have h6 : (l.length : Int) ≤ (k : Int) := h6
      refine And.intro ?_ trivial
      refine (chkB_true.2 ⟨hs, by omega, hcg, by omega, by omega, fun p hp => ?_⟩).symm
      obtain ⟨j, hj, rfl⟩ := mem_getD [] hp
      exact hm j (by omega)
end Go.Proofs.Ytjlkhjgnfnfmgaa
end
section
/- Subdirect decompositions, in plain words: when a list holds nothing superfluous. -/
namespace Go.Proofs.Ytjlkhjgnfnfmgaa
open Go Go.AM
def Disc (n : Nat) (R : Nat → Nat → Prop) : Prop := ∀ x y, x < n → y < n → R x y → x = y
def kerP (p : List Int) (x y : Nat) : Prop := p.getD x 0 = p.getD y 0
theorem mtP_ker {n : Nat} {p q : List Int} (hp : Pt n p) (hq : Pt n q) {x y : Nat} (hx : x < n) (hy : y < n) : kerP (mtP p q) x y ↔ kerP p x y ∧ kerP q x y := by
  have hz : (p.zip q).length = n := by simp [hp.1, hq.1]
  have zg : ∀ i, i < n → (p.zip q).getD i (0, 0) = (p.getD i 0, q.getD i 0) := fun i hi => by
    have := hp.1
    have := hq.1
    rw [getD_eq (by omega), getD_eq (by omega), getD_eq (by omega)]; simp
  unfold kerP mtP
  rw [canon_eq_iff (d := (0, 0)) (by omega) (by omega), zg x hx, zg y hy]
  constructor
  · intro h
    injection h with h1 h2
    exact ⟨h1, h2⟩
  · rintro ⟨h1, h2⟩; rw [h1, h2]
theorem triv_ker (n x y : Nat) : kerP (List.replicate n 0) x y := by unfold kerP; rw [triv_get, triv_get]
theorem mtL_ker {n : Nat} (hn : n ≤ 4096) {x y : Nat} (hx : x < n) (hy : y < n) : ∀ {l : List (List Int)}, (∀ p ∈ l, Pt n p) → (kerP (mtL n l) x y ↔ ∀ p ∈ l, kerP p x y)
  | [], _ => ⟨fun _ _ h => absurd h List.not_mem_nil, fun _ => triv_ker n x y⟩
  | q :: l, h => by
    have ih := mtL_ker hn hx hy (l := l) fun p hp => h p (List.mem_cons_of_mem _ hp)
    have e := mtP_ker (h q (List.mem_cons_self ..)) (Pt.mtL hn fun p hp => h p (List.mem_cons_of_mem _ hp)) hx hy (q := mtL n l)
    show kerP (mtP q (mtL n l)) x y ↔ _
    rw [e, ih]
    exact ⟨fun ⟨h1, h2⟩ p hp => (List.mem_cons.1 hp).elim (fun e => e ▸ h1) (h2 p), fun h => ⟨h q (List.mem_cons_self ..), fun p hp => h p (List.mem_cons_of_mem _ hp)⟩⟩
theorem cls_disc {n : Nat} {p : List Int} (hp : Pt n p) : classN p = n ↔ Disc n (kerP p) := by
  constructor
  · intro hc a b ha hb e
    refine Classical.byContradiction fun hne => ?_
    have h1 := cnt_del (P := fun _ => true) (M := b) (n := n) hb rfl
    have h2 := nodup_sub (firsts_nodup p) (B := ((List.range n).filter fun i => true && decide (i ≠ b)).map fun i => p.getD i 0) fun x hx => by
      obtain ⟨j, hj, rfl⟩ := mem_getD 0 (mem_firsts.1 hx)
      have hj : j < n := by rw [← hp.1]; exact hj
      by_cases e1 : j = b
      · exact List.mem_map.2 ⟨a, List.mem_filter.2 ⟨List.mem_range.2 ha, by simp [hne]⟩, by rw [e1]; exact e⟩
      · exact List.mem_map.2 ⟨j, List.mem_filter.2 ⟨List.mem_range.2 hj, by simp [e1]⟩, rfl⟩
    rw [List.length_map] at h2
    have h3 : ((List.range n).filter fun _ => true).length = n := by rw [List.filter_eq_self.2 (fun _ _ => rfl), List.length_range]
    unfold classN at hc
    omega
  · intro h
    have hd : p.Nodup := List.nodup_iff_pairwise_ne.2 (List.pairwise_iff_getElem.2 fun i j hi hj hij e => by
      have := h i j (by rw [← hp.1]; exact hi) (by rw [← hp.1]; exact hj) (by unfold kerP; rw [getD_eq hi, getD_eq hj]; exact e)
      omega)
    have h1 := nodup_sub hd (B := firsts p) fun x hx => mem_firsts.2 hx
    have h2 : classN p ≤ p.length := firsts_le p
    have h3 := hp.1
    unfold classN at *
    omega
def rmt (n : Nat) (l : List (List Int)) (but : Int) : Nat → List Int
  | 0 => List.replicate n 0
  | k + 1 => if (k : Int) ≠ but then mtP (rmt n l but k) (l.getD k []) else rmt n l but k
theorem rmt_pt {n : Nat} {l : List (List Int)} {but : Int} (hn : n ≤ 4096) (hp : ∀ p ∈ l, Pt n p) : ∀ {k : Nat}, k ≤ l.length → Pt n (rmt n l but k)
  | 0, _ => Pt.triv hn
  | k + 1, h => by
    unfold rmt
    split
    · exact (rmt_pt hn hp (by omega)).mt (hp _ (getD_mem (d := []) (by omega)))
    · exact rmt_pt hn hp (by omega)
theorem rmt_ker {n : Nat} {l : List (List Int)} {but : Int} (hn : n ≤ 4096) (hp : ∀ p ∈ l, Pt n p) {x y : Nat} (hx : x < n) (hy : y < n) : ∀ {k : Nat}, k ≤ l.length → (kerP (rmt n l but k) x y ↔ ∀ j, j < k → (j : Int) ≠ but → kerP (l.getD j []) x y)
  | 0, _ => ⟨fun _ j h => absurd h (Nat.not_lt_zero _), fun _ => triv_ker n x y⟩
  | k + 1, h => by
    have ih := rmt_ker (but := but) hn hp hx hy (k := k) (by omega)
    unfold rmt
    split
    · rename_i hb
      rw [mtP_ker (rmt_pt hn hp (by omega)) (hp _ (getD_mem (d := []) (by omega))) hx hy, ih]
      refine ⟨fun ⟨h1, h2⟩ j hj hjb => ?_, fun h => ⟨fun j hj => h j (by omega), h k (by omega) hb⟩⟩
      by_cases e : j = k
      · subst e; exact h2
      · exact h1 j (by omega) hjb
    · rename_i hb
      rw [ih]
      refine ⟨fun h j hj hjb => ?_, fun h j hj => h j (by omega)⟩
      by_cases e : j = k
      · subst e; exact absurd hjb hb
      · exact h j (by omega) hjb
theorem redL_le (n : Nat) : ∀ (l : List (List Int)) (b : List Int), (redL n b l).length ≤ l.length
  | [], _ => Nat.le_refl _
  | p :: l, b => by
    unfold redL
    split
    · exact Nat.le_trans (redL_le n l b) (by simp)
    · simp only [List.length_cons]; exact Nat.succ_le_succ (redL_le n l _)
theorem redL_all (n : Nat) : ∀ (l : List (List Int)) (b : List Int), (redL n b l).length = l.length ↔ ∀ i, i < l.length → classN (mtP ((l.take i).foldl mtP b) (mtL n (l.drop (i + 1)))) ≠ n
  | [], _ => ⟨fun _ i h => absurd h (Nat.not_lt_zero _), fun _ => rfl⟩
  | p :: l, b => by
    unfold redL
    split
    · rename_i h
      constructor
      · intro e
        have := redL_le n l b
        simp only [List.length_cons] at e
        omega
      · intro e
        exact absurd h (e 0 (by simp))
    · rename_i h
      have ih := redL_all n l (mtP b p)
      simp only [List.length_cons]
      constructor
      · intro e i hi
        cases i with
        | zero => exact h
        | succ i => exact ih.1 (by omega) i (by omega)
      · intro e
        rw [ih.2 fun i hi => e (i + 1) (by omega)]
theorem fold_pt {n : Nat} : ∀ {l : List (List Int)} {b : List Int}, (∀ p ∈ l, Pt n p) → Pt n b → Pt n (l.foldl mtP b)
  | [], _, _, hb => hb
  | p :: l, b, h, hb => fold_pt (l := l) (b := mtP b p) (fun q hq => h q (List.mem_cons_of_mem _ hq)) (hb.mt (h p (List.mem_cons_self ..)))
theorem fold_ker {n : Nat} {x y : Nat} (hx : x < n) (hy : y < n) : ∀ {l : List (List Int)} {b : List Int}, (∀ p ∈ l, Pt n p) → Pt n b → (kerP (l.foldl mtP b) x y ↔ kerP b x y ∧ ∀ p ∈ l, kerP p x y)
  | [], _, _, _ => ⟨fun h => ⟨h, fun _ h => absurd h List.not_mem_nil⟩, fun h => h.1⟩
  | p :: l, b, h, hb => by
    have h1 := h p (List.mem_cons_self ..)
    have ih := fold_ker hx hy (l := l) (b := mtP b p) (fun q hq => h q (List.mem_cons_of_mem _ hq)) (hb.mt h1)
    rw [List.foldl_cons, ih, mtP_ker hb h1 hx hy]
    exact ⟨fun ⟨⟨h1, h2⟩, h3⟩ => ⟨h1, fun q hq => (List.mem_cons.1 hq).elim (fun e => e ▸ h2) (h3 q)⟩, fun ⟨h1, h2⟩ => ⟨⟨h1, h2 p (List.mem_cons_self ..)⟩, fun q hq => h2 q (List.mem_cons_of_mem _ hq)⟩⟩
theorem mem_but {l : List (List Int)} {i : Nat} (hi : i < l.length) {P : List Int → Prop} : ((∀ p ∈ l.take i, P p) ∧ ∀ p ∈ l.drop (i + 1), P p) ↔ ∀ j, j < l.length → (j : Int) ≠ (i : Int) → P (l.getD j []) := by
  constructor
  · rintro ⟨h1, h2⟩ j hj hne
    by_cases e : j < i
    · refine h1 _ ?_
      rw [getD_eq hj]
      exact List.mem_take_iff_getElem.2 ⟨j, by omega, rfl⟩
    · refine h2 _ ?_
      rw [getD_eq hj]
      exact List.mem_drop_iff_getElem.2 ⟨j - (i + 1), by omega, by congr 1; omega⟩
  · intro h
    refine ⟨fun p hp => ?_, fun p hp => ?_⟩
    · obtain ⟨j, hj, rfl⟩ := List.mem_take_iff_getElem.1 hp
      rw [← getD_eq (d := []) (by omega)]
      exact h j (by omega) (by omega)
    · obtain ⟨j, hj, rfl⟩ := List.mem_drop_iff_getElem.1 hp
      rw [← getD_eq (d := []) (by omega)]
      exact h _ (by omega) (by omega)
theorem red_iff {n : Nat} {l : List (List Int)} (hn : n ≤ 4096) (hp : ∀ p ∈ l, Pt n p) : (redL n (List.replicate n 0) l).length = l.length ↔ ∀ i, i < l.length → classN (rmt n l i l.length) ≠ n := by
  rw [redL_all]
  refine forall_congr' fun i => forall_congr' fun hi => not_congr ?_
  have ht : ∀ p ∈ l.take i, Pt n p := fun p h => hp p (List.mem_of_mem_take h)
  have hd : ∀ p ∈ l.drop (i + 1), Pt n p := fun p h => hp p (List.mem_of_mem_drop h)
  have hf := fold_pt ht (Pt.triv hn)
  rw [cls_disc (hf.mt (Pt.mtL hn hd)), cls_disc (rmt_pt hn hp (Nat.le_refl _))]
  refine forall_congr' fun x => forall_congr' fun y => forall_congr' fun hx => forall_congr' fun hy => ?_
  rw [mtP_ker hf (Pt.mtL hn hd) hx hy, fold_ker hx hy ht (Pt.triv hn), mtL_ker hn hx hy hd, rmt_ker hn hp hx hy (Nat.le_refl _), ← mem_but hi (P := fun p => kerP p x y)]
  exact ⟨fun h a => h ⟨⟨triv_ker n x y, a.1⟩, a.2⟩, fun h a => h ⟨a.1.2, a.2⟩⟩
theorem meet_iff {n : Nat} {l : List (List Int)} (hn : n ≤ 4096) (hp : ∀ p ∈ l, Pt n p) : classN (mtL n l) = n ↔ classN (rmt n l (-1) l.length) = n := by
  rw [cls_disc (Pt.mtL hn hp), cls_disc (rmt_pt hn hp (Nat.le_refl _))]
  refine forall_congr' fun x => forall_congr' fun y => forall_congr' fun hx => forall_congr' fun hy => ?_
  rw [mtL_ker hn hx hy hp, rmt_ker hn hp hx hy (Nat.le_refl _)]
  refine ⟨fun h a => h fun p hp => ?_, fun h a => h fun j hj _ => a _ (getD_mem (d := []) hj)⟩
  obtain ⟨j, hj, rfl⟩ := mem_getD [] hp
  exact a j hj (by omega)
theorem few_of {n : Nat} {l : List (List Int)} (h0 : 0 < n) (hn : n ≤ 4096) (hp : ∀ p ∈ l, Pt n p) (hm : classN (rmt n l (-1) l.length) = n) (hr : ∀ i, i < l.length → classN (rmt n l i l.length) ≠ n) : l.length < n := by
  have key : ∀ k, k ≤ l.length → k + 1 ≤ classN (rmt n l (-1) k) := fun k => by
    induction k with
    | zero =>
      intro _
      show 1 ≤ classN (List.replicate n (0 : Int))
      have : (0 : Int) ∈ firsts (List.replicate n (0 : Int)) := mem_firsts.2 (by simp; omega)
      exact List.length_pos_of_mem this
    | succ k ih =>
      intro hk
      have ih := ih (by omega)
      have hP := rmt_pt (but := -1) hn hp (k := k) (by omega)
      have hP2 := rmt_pt (but := -1) hn hp (k := k + 1) hk
      have hs := same_count hP.2.2 hP2.2.2 (by rw [hP.1, hP2.1]) fun x y hx hy e => by
        have hx : x < n := by rw [← hP.1]; exact hx
        have hy : y < n := by rw [← hP.1]; exact hy
        exact (rmt_ker hn hp hx hy (by omega)).2 fun j hj hb => (rmt_ker hn hp hx hy hk).1 e j (by omega) hb
      have hne : classN (rmt n l (-1) k) ≠ classN (rmt n l (-1) (k + 1)) := fun e => by
        have e2 := hs.2 e
        refine hr k (by omega) ((cls_disc (rmt_pt hn hp (Nat.le_refl _))).2 fun x y hx hy h => (cls_disc (rmt_pt hn hp (Nat.le_refl _))).1 hm x y hx hy ?_)
        have h := (rmt_ker hn hp hx hy (Nat.le_refl _)).1 h
        refine (rmt_ker hn hp hx hy (Nat.le_refl _)).2 fun j hj hb => ?_
        by_cases ej : j = k
        · subst ej
          have h3 : kerP (rmt n l (-1) j) x y := (rmt_ker hn hp hx hy (by omega)).2 fun i hi _ => h i (by omega) (by omega)
          rw [← e2] at h3
          exact (rmt_ker hn hp hx hy hk).1 h3 j (by omega) hb
        · exact h j hj (by omega)
      omega
  have := key l.length (Nat.le_refl _)
  omega
structure RChk (t : List (List Int)) (l : List (List Int)) : Prop where
  semi : Semi t
  cg : ∀ p ∈ l, IsCg t p 0
  irr : ∀ p ∈ l, Irr (quoL t p)
  meet : classN (rmt t.length l (-1) l.length) = t.length
  red : ∀ i, i < l.length → classN (rmt t.length l i l.length) ≠ t.length
theorem chk_iff {t l : List (List Int)} : Chk t l ↔ RChk t l := by
  constructor
  · intro h
    have hn := h.semi.most
    have hp : ∀ p ∈ l, Pt t.length p := fun p hp => (h.cg p hp).pt
    exact ⟨h.semi, h.cg, fun p hp => ⟨(h.cg p hp).quo, h.irr p hp⟩, (meet_iff (by omega) hp).1 h.meet, (red_iff (by omega) hp).1 h.red⟩
  · intro h
    have hn := h.semi.most
    have h0 := h.semi.pos
    have hp : ∀ p ∈ l, Pt t.length p := fun p hp => (h.cg p hp).pt
    exact ⟨h.semi, few_of h0 (by omega) hp h.meet h.red, h.cg, (meet_iff (by omega) hp).2 h.meet, (red_iff (by omega) hp).2 h.red, fun p hp => (h.irr p hp).2⟩
end Go.Proofs.Ytjlkhjgnfnfmgaa
end
section
section
/- The join of two partitions by a forest: plain laws. -/
namespace Go.Proofs.Ytjlkhjgnfnfmgaa
theorem ufR_up {r : Nat → Nat} {i j a b : Nat} (e : r a = r b) : ufR r i j a = ufR r i j b := by unfold ufR; rw [e]
theorem ufR_ij {r : Nat → Nat} {i j : Nat} : ufR r i j i = ufR r i j j := by
  unfold ufR; split <;> split <;> omega
theorem ufR_so {n : Nat} {R : Nat → Nat → Prop} {r : Nat → Nat} {i j : Nat} (h : ∀ a b, a < n → b < n → r a = r b → Eg R a b) (hi : i < n) (hj : j < n) (e : Eg R i j) : ∀ a b, a < n → b < n → ufR r i j a = ufR r i j b → Eg R a b := by
  intro a b ha hb e2
  have key : ∀ k, k < n → r k = r i ∨ r k = r j → Eg R k i := fun k hk e3 => Or.elim e3 (fun e4 => h k i hk hi e4) fun e4 => (h k j hk hj e4).trans e.symm
  unfold ufR at e2
  by_cases e3 : r a = max (r i) (r j) <;> by_cases e4 : r b = max (r i) (r j)
  · exact h a b ha hb (by omega)
  · rw [if_pos e3, if_neg e4] at e2
    exact (key a ha (by omega)).trans (key b hb (by omega)).symm
  · rw [if_neg e3, if_pos e4] at e2
    exact (key a ha (by omega)).trans (key b hb (by omega)).symm
  · rw [if_neg e3, if_neg e4] at e2
    exact h a b ha hb e2
def JoR (n : Nat) (p q : List Int) (a b : Nat) : Prop := a < n ∧ b < n ∧ (p.getD a 0 = p.getD b 0 ∨ q.getD a 0 = q.getD b 0)
def JoI (n : Nat) (p q F : List Int) (r : Nat → Nat) : Prop := Fo n F r ∧ ∀ a b, a < n → b < n → r a = r b → Eg (JoR n p q) a b
theorem JoI.union {n : Nat} {p q F : List Int} {r : Nat → Nat} {i j : Nat} (h : JoI n p q F r) (e : JoR n p q i j) : JoI n p q (ufL r F i j) (ufR r i j) :=
  ⟨h.1.union e.1 e.2.1, ufR_so h.2 e.1 e.2.1 (.rel e)⟩
noncomputable def joB (n : Nat) (p q : List Int) (a b : Nat) : Bool := @decide (Eg (JoR n p q) a b) (Classical.propDecidable _)
theorem joB_true {n : Nat} {p q : List Int} {a b : Nat} : joB n p q a b = true ↔ Eg (JoR n p q) a b := by unfold joB; exact @decide_eq_true_iff _ (Classical.propDecidable _)
noncomputable def joP (n : Nat) (p q : List Int) : List Int := clsL n (joB n p q)
theorem jo_pre (n : Nat) (p q : List Int) : Pre n (joB n p q) :=
  pre_of (fun x _ => joB_true.2 (.refl x)) fun _ _ _ _ _ _ h h' => joB_true.2 ((joB_true.1 h).trans (joB_true.1 h'))
theorem joP_len {n : Nat} {p q : List Int} : (joP n p q).length = n := clsL_len _ _
theorem joP_canon {n : Nat} {p q : List Int} : canon (joP n p q) = joP n p q := canon_idem _
theorem joP_iff {n : Nat} {p q : List Int} {a b : Nat} (ha : a < n) (hb : b < n) : (joP n p q).getD a 0 = (joP n p q).getD b 0 ↔ Eg (JoR n p q) a b := by
  unfold joP
  rw [clsL_iff (jo_pre n p q) ha hb, joB_true, joB_true]
  exact ⟨fun h => h.1, fun h => ⟨h, h.symm⟩⟩
theorem JoI.done {n : Nat} {p q F : List Int} {r : Nat → Nat} (h : JoI n p q F r) (hp : ∀ a b, a < n → b < n → p.getD a 0 = p.getD b 0 → r a = r b) (hq : ∀ a b, a < n → b < n → q.getD a 0 = q.getD b 0 → r a = r b) : canon (rtL n r) = joP n p q := by
  rw [← joP_canon]
  refine canon_congr (d := 0) (e := 0) (by rw [rtL_len, joP_len]) fun i j hi hj => ?_
  rw [rtL_len] at hi hj
  rw [rtL_get hi, rtL_get hj, joP_iff hi hj]
  refine ⟨fun e => h.2 i j hi hj (by omega), fun e => ?_⟩
  have : r i = r j := e.least (Q := fun a b => r a = r b) (fun _ => rfl) (fun _ _ e => e.symm) (fun _ _ _ e e' => e.trans e') (fun a b e => Or.elim e.2.2 (hp a b e.1 e.2.1) (hq a b e.1 e.2.1))
  rw [this]
end Go.Proofs.Ytjlkhjgnfnfmgaa
end
section
/- partition.Join: its contract. -/
namespace Go.Proofs.Ytjlkhjgnfnfmgaa
open Go Go.AM
set_option maxRecDepth 100000
def Clo (n : Nat) (p : List Int) (r : Nat → Nat) : Prop := ∀ a b, a < n → b < n → p.getD a 0 = p.getD b 0 → r a = r b
theorem Clo.up {n : Nat} {p : List Int} {r : Nat → Nat} {i j : Nat} (h : Clo n p r) : Clo n p (ufR r i j) := fun a b ha hb e => ufR_up (h a b ha hb e)
set_option maxHeartbeats 4000000 in
theorem pjoin_fn (p q : List Int) (h : matchP p q) : QF 28 [.ro (.ints .i64 p), .ro (.ints .i64 q)] (.new (.ints .i64 (joP p.length p q))) := mkQ Try.func28 (by decide +kernel) rfl (Nat.le_of_ble_eq_true rfl) fun _ => by
  have hp := h.2.1
  have hq := h.2.2
  have hpl := hp.1
  have hpq : ∀ i, i < 2 → validP (([p, q] : List (List Int)).getD i []) ∧ (([p, q] : List (List Int)).getD i []).length = p.length ∧ ∀ a b, a < p.length → b < p.length → (([p, q] : List (List Int)).getD i []).getD a 0 = (([p, q] : List (List Int)).getD i []).getD b 0 → JoR p.length p q a b := fun i hi => by
    match i, hi with
    | 0, _ => exact ⟨hp, rfl, fun a b ha hb e => ⟨ha, hb, Or.inl e⟩⟩
    | 1, _ => exact ⟨hq, h.1.symm, fun a b ha hb e => ⟨ha, hb, Or.inr e⟩⟩
  refine Or.inl (cq (pmatch_fn p q) (And.intro rfl (And.intro rfl trivial)) ?_)
  refine And.intro (fun h1 => ?_) (fun _ => ?_)
  · have h1 : (!decide (matchP p q)) = true := h1
    rw [decide_eq_true h] at h1; exact absurd h1 (by decide)
  refine Or.inl (cq (fnew_fn p.length (by omega)) (And.intro rfl trivial) ?_)
  refine Exists.intro [] <| lp3 (fun (i : Nat) (_ : List Int) (_ : Nat → Nat) => [(23, .int .i64 i)]) (fun _ F _ => [(18, .vec 0 (.ints .i64 F) [])]) (fun i F r => i ≤ 2 ∧ JoI p.length p q F r ∧ ∀ i', i' < i → Clo p.length (([p, q] : List (List Int)).getD i' []) r) (fun i _ _ => 2 - i) 0 (disI p.length) id ⟨Nat.zero_le _, ⟨Fo.dis p.length, fun a b _ _ e => by rw [show a = b from e]; exact .refl b⟩, fun i h => absurd h (Nat.not_lt_zero _)⟩ (by repeat' first | refine And.intro ?_ ?_ | exact True.intro | (show (_ : Int) = (_ : Int); omega) | omega | exact rfl | (simp only [RO.len]; omega)) ?_
  rintro i F r ⟨hi, hJ, hC⟩
  refine And.intro (fun h1 => ?_) (fun h1 => ?_)
  · have h1 : (i : Int) < 2 := h1
    have hP := hpq i (by omega)
    have hPl := hP.2.1
    have hcl : (classes (classN (([p, q] : List (List Int)).getD i [])) (([p, q] : List (List Int)).getD i [])).length = classN (([p, q] : List (List Int)).getD i []) := by simp [classes]
    have hcn : classN (([p, q] : List (List Int)).getD i []) ≤ (([p, q] : List (List Int)).getD i []).length := firsts_le _
    refine And.intro (by omega) ?_
    refine Or.inl (cq (pclasses_fn (([p, q] : List (List Int)).getD i []) hP.1) (And.intro rfl trivial) ?_)
    refine Exists.intro [] <| lp3 (fun (c : Nat) (_ : List Int) (_ : Nat → Nat) => [(30, .int .i64 c)]) (fun _ F _ => [(18, .vec 0 (.ints .i64 F) [])]) (fun c F r => c ≤ classN (([p, q] : List (List Int)).getD i []) ∧ JoI p.length p q F r ∧ (∀ i', i' < i → Clo p.length (([p, q] : List (List Int)).getD i' []) r) ∧ ∀ c', c' < c → ∀ x ∈ (classes (classN (([p, q] : List (List Int)).getD i [])) (([p, q] : List (List Int)).getD i [])).getD c' [], r x.toNat = r (hdN (([p, q] : List (List Int)).getD i []) c')) (fun c _ _ => classN (([p, q] : List (List Int)).getD i []) - c) 0 F r ⟨Nat.zero_le _, hJ, hC, fun c h => absurd h (Nat.not_lt_zero _)⟩ (by repeat' first | refine And.intro ?_ ?_ | exact True.intro | (show (_ : Int) = (_ : Int); omega) | omega | exact rfl | (simp only [RO.len]; omega)) ?_
    rintro c F r ⟨hc, hJ, hC, hci⟩
    refine And.intro (fun h2 => ?_) (fun h2 => ?_)
    · have h2 : (c : Int) < ((classes (classN (([p, q] : List (List Int)).getD i [])) (([p, q] : List (List Int)).getD i [])).length : Int) := h2
      have hcl2 : c < classN (([p, q] : List (List Int)).getD i []) := by omega
      have k := hd_at hP.1.2 hcl2
      have kp := cls_pos hP.1.2 hcl2
      have hcll : ((classes (classN (([p, q] : List (List Int)).getD i [])) (([p, q] : List (List Int)).getD i [])).getD c []).length ≤ (([p, q] : List (List Int)).getD i []).length := by
        rw [classes_getD hcl2, List.length_map]
        have := List.length_filter_le (fun i' => decide ((([p, q] : List (List Int)).getD i []).getD i' 0 = (c : Int))) (List.range (([p, q] : List (List Int)).getD i []).length)
        rw [List.length_range] at this; exact this
      refine And.intro (by omega) ?_
      refine Exists.intro [] <| lp3 (fun (m : Nat) (_ : List Int) (_ : Nat → Nat) => [(36, .int .i64 m)]) (fun _ F _ => [(18, .vec 0 (.ints .i64 F) [])]) (fun m F r => m ≤ ((classes (classN (([p, q] : List (List Int)).getD i [])) (([p, q] : List (List Int)).getD i [])).getD c []).length ∧ JoI p.length p q F r ∧ (∀ i', i' < i → Clo p.length (([p, q] : List (List Int)).getD i' []) r) ∧ (∀ c', c' < c → ∀ x ∈ (classes (classN (([p, q] : List (List Int)).getD i [])) (([p, q] : List (List Int)).getD i [])).getD c' [], r x.toNat = r (hdN (([p, q] : List (List Int)).getD i []) c')) ∧ ∀ m', m' < m → r (((classes (classN (([p, q] : List (List Int)).getD i [])) (([p, q] : List (List Int)).getD i [])).getD c []).getD m' 0).toNat = r (hdN (([p, q] : List (List Int)).getD i []) c)) (fun m _ _ => ((classes (classN (([p, q] : List (List Int)).getD i [])) (([p, q] : List (List Int)).getD i [])).getD c []).length - m) 0 F r ⟨Nat.zero_le _, hJ, hC, hci, fun m h => absurd h (Nat.not_lt_zero _)⟩ (by repeat' first | refine And.intro ?_ ?_ | exact True.intro | (show (_ : Int) = (_ : Int); omega) | omega | exact rfl | (simp only [RO.len]; omega)) ?_
      rintro m F r ⟨hm, hJ, hC, hci, hmi⟩
      refine And.intro (fun h3 => ?_) (fun h3 => ?_)
      · have h3 : (m : Int) < (((classes (classN (([p, q] : List (List Int)).getD i [])) (([p, q] : List (List Int)).getD i [])).getD c []).length : Int) := h3
        have hml : m < ((classes (classN (([p, q] : List (List Int)).getD i [])) (([p, q] : List (List Int)).getD i [])).getD c []).length := by omega
        have hx := (mem_classes (p := ([p, q] : List (List Int)).getD i []) hcl2).1 (getD_mem (d := 0) hml)
        have e1 : ((hdN (([p, q] : List (List Int)).getD i []) c : Nat) : Int) = ((classes (classN (([p, q] : List (List Int)).getD i [])) (([p, q] : List (List Int)).getD i [])).getD c []).getD 0 0 := k.2.2.symm
        have e2 : (((((classes (classN (([p, q] : List (List Int)).getD i [])) (([p, q] : List (List Int)).getD i [])).getD c []).getD m 0).toNat : Nat) : Int) = ((classes (classN (([p, q] : List (List Int)).getD i [])) (([p, q] : List (List Int)).getD i [])).getD c []).getD m 0 := Int.toNat_of_nonneg hx.1
        have hjo : JoR p.length p q (hdN (([p, q] : List (List Int)).getD i []) c) (((classes (classN (([p, q] : List (List Int)).getD i [])) (([p, q] : List (List Int)).getD i [])).getD c []).getD m 0).toNat := hP.2.2 _ _ (by omega) (by omega) (by rw [k.2.1, hx.2.2])
        have funion := funion_fn p.length F r (hdN (([p, q] : List (List Int)).getD i []) c) (((classes (classN (([p, q] : List (List Int)).getD i [])) (([p, q] : List (List Int)).getD i [])).getD c []).getD m 0).toNat hJ.1 hjo.1 hjo.2.1 (by omega)
        rw [e1, e2] at funion
        refine And.intro (by omega) ?_
        refine And.intro (by omega) ?_
        refine Or.inr (Or.inl (cm [] [(1000, 18)] funion ?_))
        refine And.intro (by repeat' first | refine And.intro ?_ ?_ | exact True.intro | (show (_ : Int) = (_ : Int); omega) | omega | exact rfl | (simp only [RO.len]; omega)) ?_
        refine And.intro (by omega) ?_
        refine nx (m + 1, ufL r F (hdN (([p, q] : List (List Int)).getD i []) c) (((classes (classN (([p, q] : List (List Int)).getD i [])) (([p, q] : List (List Int)).getD i [])).getD c []).getD m 0).toNat, ufR r (hdN (([p, q] : List (List Int)).getD i []) c) (((classes (classN (([p, q] : List (List Int)).getD i [])) (([p, q] : List (List Int)).getD i [])).getD c []).getD m 0).toNat) ⟨show m + 1 ≤ _ by omega, hJ.union hjo, fun i' hi' => (hC i' hi').up, fun c' hc' x hx' => ufR_up (hci c' hc' x hx'), fun m' hm' => ?_⟩ (show ((classes (classN (([p, q] : List (List Int)).getD i [])) (([p, q] : List (List Int)).getD i [])).getD c []).length - (m + 1) < ((classes (classN (([p, q] : List (List Int)).getD i [])) (([p, q] : List (List Int)).getD i [])).getD c []).length - m by omega) (by repeat' first | refine And.intro ?_ ?_ | exact True.intro | (show (_ : Int) = (_ : Int); omega) | omega | exact rfl | (simp only [RO.len]; omega))
        by_cases e : m' = m
        · subst e; exact ufR_ij.symm
        · exact ufR_up (hmi m' (by omega))
      · have h3 : (((classes (classN (([p, q] : List (List Int)).getD i [])) (([p, q] : List (List Int)).getD i [])).getD c []).length : Int) ≤ (m : Int) := h3
        refine And.intro (by omega) ?_
        refine nx (c + 1, F, r) ⟨show c + 1 ≤ _ by omega, hJ, hC, fun c' hc' x hx => ?_⟩ (show classN (([p, q] : List (List Int)).getD i []) - (c + 1) < classN (([p, q] : List (List Int)).getD i []) - c by omega) (by repeat' first | refine And.intro ?_ ?_ | exact True.intro | (show (_ : Int) = (_ : Int); omega) | omega | exact rfl | (simp only [RO.len]; omega))
        by_cases e : c' = c
        · subst e
          exact Exists.elim (mem_getD 0 hx) fun m' hm' => by rw [← hm'.2]; exact hmi m' (by omega)
        · exact hci c' (by omega) x hx
    · have h2 : ((classes (classN (([p, q] : List (List Int)).getD i [])) (([p, q] : List (List Int)).getD i [])).length : Int) ≤ (c : Int) := h2
      refine And.intro (by omega) ?_
      refine nx (i + 1, F, r) ⟨show i + 1 ≤ 2 by omega, hJ, fun i' hi' => ?_⟩ (show 2 - (i + 1) < 2 - i by omega) (by repeat' first | refine And.intro ?_ ?_ | exact True.intro | (show (_ : Int) = (_ : Int); omega) | omega | exact rfl | (simp only [RO.len]; omega))
      by_cases e : i' = i
      · subst e
        intro a b ha hb e5
        have ki := cls_lt hP.1.2 (x := a) (by omega)
        have mi := (mem_classes (p := ([p, q] : List (List Int)).getD i' []) ki.2.1 (x := (a : Int))).2 ⟨by omega, by omega, by rw [Int.toNat_natCast]; exact ki.2.2⟩
        have mj := (mem_classes (p := ([p, q] : List (List Int)).getD i' []) ki.2.1 (x := (b : Int))).2 ⟨by omega, by omega, by rw [Int.toNat_natCast, ← e5]; exact ki.2.2⟩
        have e1 := hci _ (by omega) _ mi
        have e2 := hci _ (by omega) _ mj
        rw [Int.toNat_natCast] at e1 e2
        rw [e1, e2]
      · exact hC i' (by omega)
  · have h1 : 2 ≤ (i : Int) := h1
    have ed : canon (rtL p.length r) = joP p.length p q := hJ.done (hC 0 (by omega)) (hC 1 (by omega))
    have hpa := fpart_fn p.length F r hJ.1 (by omega)
    rw [ed] at hpa
    refine Or.inr (Or.inl (cm [] [(1000, 18), (21, 301)] hpa ?_))
    refine And.intro (by repeat' first | refine And.intro ?_ ?_ | exact True.intro | (show (_ : Int) = (_ : Int); omega) | omega | exact rfl | (simp only [RO.len]; omega)) ?_
    exact And.intro (And.intro (by omega) rfl) trivial
end Go.Proofs.Ytjlkhjgnfnfmgaa
end
end
