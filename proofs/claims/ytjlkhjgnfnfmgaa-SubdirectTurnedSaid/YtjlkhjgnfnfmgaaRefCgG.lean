import Derived.Test.YtjlkhjgnfnfmgaaJoin
import Derived.Test.YtjlkhjgnfnfmgaaCgSyn
import Derived.Test.YtjlkhjgnfnfmgaaLp
import Derived.Test.YtjlkhjgnfnfmgaaCgFor
import Derived.Test.YtjlkhjgnfnfmgaaRefRees
section
/- Coarser congruences with irreducible quotients: plain laws. -/
namespace Go.Proofs.Ytjlkhjgnfnfmgaa
open Go Go.AM
theorem Eg.map {R S : Nat → Nat → Prop} {f : Nat → Nat} (h : ∀ a b, R a b → Eg S (f a) (f b)) {a b : Nat} (e : Eg R a b) : Eg S (f a) (f b) :=
  Eg.least (Q := fun a b => Eg S (f a) (f b)) (fun a => .refl (f a)) (fun _ _ h => h.symm) (fun _ _ _ h h' => h.trans h') h e
section
variable {t : List (List Int)} {p q : List Int}
theorem joP_cg (hp : IsCg t p 0) (hq : IsCg t q 0) : IsCg t (joP t.length p q) 0 := by
  have hS := hp.semi.toSh
  refine ⟨hp.semi, joP_len, ⟨by rw [joP_len]; have := hS.most; omega, joP_canon⟩, by decide, fun x y s hx hy hs e => ?_⟩
  have e := (joP_iff hx hy).1 e
  have step : ∀ {f : Nat → Nat}, (∀ a, a < t.length → f a < t.length) → (∀ a b, a < t.length → b < t.length → p.getD a 0 = p.getD b 0 → p.getD (f a) 0 = p.getD (f b) 0) → (∀ a b, a < t.length → b < t.length → q.getD a 0 = q.getD b 0 → q.getD (f a) 0 = q.getD (f b) 0) → Eg (JoR t.length p q) (f x) (f y) := fun hf h1 h2 =>
    Eg.map (fun a b ⟨ha, hb, h⟩ => .rel ⟨hf a ha, hf b hb, h.imp (h1 a b ha hb) (h2 a b ha hb)⟩) e
  refine ⟨fun _ => (joP_iff (hS.ent hs hx).2 (hS.ent hs hy).2).2 ?_, fun _ => (joP_iff (hS.ent hx hs).2 (hS.ent hy hs).2).2 ?_⟩
  · exact step (f := fun a => en t s a) (fun a ha => (hS.ent hs ha).2) (fun a b ha hb h => (hp.cg a b s ha hb hs h).1 (by decide)) fun a b ha hb h => (hq.cg a b s ha hb hs h).1 (by decide)
  · exact step (f := fun a => en t a s) (fun a ha => (hS.ent ha hs).2) (fun a b ha hb h => (hp.cg a b s ha hb hs h).2 (by decide)) fun a b ha hb h => (hq.cg a b s ha hb hs h).2 (by decide)
theorem mtP_cg (hp : IsCg t p 0) (hq : IsCg t q 0) : IsCg t (mtP p q) 0 := by
  have hS := hp.semi.toSh
  have hm := hp.pt.mt hq.pt
  refine ⟨hp.semi, hm.1, hm.2, by decide, fun x y s hx hy hs e => ?_⟩
  have e := (mtP_ker hp.pt hq.pt hx hy).1 e
  exact ⟨fun _ => (mtP_ker hp.pt hq.pt (hS.ent hs hx).2 (hS.ent hs hy).2).2 ⟨(hp.cg x y s hx hy hs e.1).1 (by decide), (hq.cg x y s hx hy hs e.2).1 (by decide)⟩, fun _ => (mtP_ker hp.pt hq.pt (hS.ent hx hs).2 (hS.ent hy hs).2).2 ⟨(hp.cg x y s hx hy hs e.1).2 (by decide), (hq.cg x y s hx hy hs e.2).2 (by decide)⟩⟩
theorem dis_ker {n x y : Nat} (hx : x < n) (hy : y < n) (e : kerP (disI n) x y) : x = y := by
  unfold kerP at e
  rw [disI_get hx, disI_get hy] at e
  omega
theorem dis_pt {n : Nat} (hn : n ≤ 4096) : Pt n (disI n) := ⟨disI_len n, by rw [disI_len]; exact hn, by
  refine canon_fix.2 fun i hi => ?_
  rw [disI_len] at hi
  refine ⟨by rw [disI_get hi]; omega, ?_⟩
  rw [disI_get hi]
  have hd : ((disI n).take i).Nodup := by
    refine List.nodup_iff_pairwise_ne.2 (List.pairwise_iff_getElem.2 fun a b ha hb hab => ?_)
    simp [disI]
    omega
  have := nodup_sub hd (B := firsts ((disI n).take i)) fun v hv => mem_firsts.2 hv
  rw [List.length_take, disI_len] at this
  omega⟩
theorem dis_cg (h : Semi t) : IsCg t (disI t.length) 0 :=
  ⟨h, disI_len _, (dis_pt (by have := h.most; omega)).2, by decide, fun x y s hx hy _ e => by
    obtain rfl := dis_ker hx hy e
    exact ⟨fun _ => rfl, fun _ => rfl⟩⟩
def nxtP (p w : List Int) : List Int := p.map fun c => w.getD c.toNat 0
theorem nxt_len (p w : List Int) : (nxtP p w).length = p.length := by simp [nxtP]
theorem nxt_get {w : List Int} {x : Nat} (hx : x < p.length) : (nxtP p w).getD x 0 = w.getD (p.getD x 0).toNat 0 := by simp [nxtP, List.getD, hx]
theorem nxt_pt {n : Nat} {w : List Int} (hp : Pt n p) (hw : Pt (classN p) w) : Pt n (nxtP p w) := by
  have hl : (nxtP p w).length = n := by rw [nxt_len, hp.1]
  refine ⟨hl, by rw [hl]; have := hp.2.1; have := hp.1; omega, canon_fix.2 fun i hi => ?_⟩
  rw [nxt_len] at hi
  have hpo := canon_fix.1 hp.2.2
  have hwo := canon_fix.1 hw.2.2
  have k := cls_lt hp.2.2 hi
  have hw1 := hwo (p.getD i 0).toNat (by rw [hw.1]; exact k.2.1)
  refine ⟨by rw [nxt_get hi]; exact hw1.1, ?_⟩
  rw [nxt_get hi]
  refine Int.le_trans hw1.2 (Int.ofNat_le.2 (nodup_sub (firsts_nodup _) fun v hv => mem_firsts.2 ?_))
  obtain ⟨d, hd, rfl⟩ := List.mem_take_iff_getElem.1 (mem_firsts.1 hv)
  have hfv := firsts_valid (p := p) (i := i) (by omega) fun j hj => hpo j (by omega)
  have hdm : (d : Int) ∈ firsts (p.take i) := by
    rw [hfv]
    refine List.mem_map.2 ⟨d, List.mem_range.2 ?_, rfl⟩
    have := (hpo i hi).2
    omega
  obtain ⟨j, hj, hje⟩ := List.mem_take_iff_getElem.1 (mem_firsts.1 hdm)
  refine List.mem_take_iff_getElem.2 ⟨j, by rw [nxt_len]; exact hj, ?_⟩
  have hjp : j < p.length := by omega
  have e1 : p.getD j 0 = (d : Int) := by rw [getD_eq hjp]; exact hje
  have e2 := nxt_get (w := w) hjp
  rw [getD_eq (by rw [nxt_len]; exact hjp), e1, Int.toNat_natCast, getD_eq (by omega)] at e2
  exact e2
theorem nxt_ker {n : Nat} {w : List Int} (hp : Pt n p) {x y : Nat} (hx : x < n) (hy : y < n) : kerP (nxtP p w) x y ↔ kerP w (p.getD x 0).toNat (p.getD y 0).toNat := by
  have := hp.1
  unfold kerP
  rw [nxt_get (by omega), nxt_get (by omega)]
theorem nxt_cg {w : List Int} (hp : IsCg t p 0) (hw : IsCg (quoL t p) w 0) : IsCg t (nxtP p w) 0 := by
  have hS := hp.semi.toSh
  have hwp : Pt (classN p) w := by have := hw.pt; rw [quoL_len] at this; exact this
  have hn := nxt_pt hp.pt hwp
  have hlt : ∀ x, x < t.length → (p.getD x 0).toNat < (quoL t p).length := fun x hx => by rw [quoL_len]; exact (cls_lt hp.val.2 (by rw [hp.len]; exact hx)).2.1
  refine ⟨hp.semi, hn.1, hn.2, by decide, fun x y s hx hy hs e => ?_⟩
  have e := (nxt_ker hp.pt hx hy).1 e
  have g := hw.cg _ _ _ (hlt x hx) (hlt y hy) (hlt s hs) e
  have q1 := fun {a b : Nat} (ha : a < t.length) (hb : b < t.length) => quo_en_hom hS hp.len hp.val.2 hp.cg ha hb
  unfold CgA at g
  rw [q1 hs hx, q1 hs hy, q1 hx hs, q1 hy hs] at g
  exact ⟨fun _ => (nxt_ker hp.pt (hS.ent hs hx).2 (hS.ent hs hy).2).2 (g.1 (by decide)), fun _ => (nxt_ker hp.pt (hS.ent hx hs).2 (hS.ent hy hs).2).2 (g.2 (by decide))⟩
theorem nxt_less {w : List Int} (hp : IsCg t p 0) (hw : IsCg (quoL t p) w 0) (hj : Joins (quoL t p).length w) : classN (nxtP p w) < classN p := by
  have hn := nxt_cg hp hw
  have hs := same_count hn.val.2 hp.val.2 (by rw [hn.len, hp.len]) fun x y hx hy e => (nxt_ker hp.pt (by rw [← hn.len]; exact hx) (by rw [← hn.len]; exact hy)).2 (by unfold kerP; rw [e])
  refine Nat.lt_of_le_of_ne hs.1 fun e => ?_
  have e2 := hs.2 e
  obtain ⟨c, d, hc, hd, hne, h⟩ := hj
  rw [quoL_len] at hc hd
  obtain ⟨x, hx, rfl⟩ := cls_rep hp.len hp.val.2 hc
  obtain ⟨y, hy, rfl⟩ := cls_rep hp.len hp.val.2 hd
  have h3 := (nxt_ker hp.pt hx hy).2 h
  rw [← e2] at h3
  exact hne (congrArg Int.toNat h3)
end
structure CoI (q : List (List Int)) (L : List (List (Int × Int))) (x y k : Nat) (p : List Int) : Prop where
  cg : IsCg q p 0
  ap : ¬ kerP p x y
  jo : Joins q.length p ∨ Disc q.length (kerP p) ∧ ∀ j, j < k → kerP (eqP q.length (relP (L.getD j []))) x y
section
variable {q : List (List Int)} {L : List (List (Int × Int))} {x y k : Nat} {p : List Int}
theorem CoI.start (h : Semi q) (hx : x < q.length) (hy : y < q.length) (hne : x ≠ y) : CoI q L x y 0 (disI q.length) :=
  ⟨dis_cg h, fun e => hne (dis_ker hx hy e), .inr ⟨fun _ _ ha hb e => dis_ker ha hb e, fun _ h => absurd h (Nat.not_lt_zero _)⟩⟩
theorem CoI.take (h : CoI q L x y k p) (hL : AtomsOk q L) (hk : k < L.length) (ha : ¬ kerP (joP q.length p (eqP q.length (relP (L.getD k [])))) x y) : CoI q L x y (k + 1) (joP q.length p (eqP q.length (relP (L.getD k [])))) := by
  have hm := hL.mi _ (getD_mem (d := []) hk)
  obtain ⟨a, b, h1, h2, h3, h4⟩ := hm.jo
  exact ⟨joP_cg h.cg hm.cg, ha, .inl ⟨a, b, h1, h2, h3, (joP_iff h1 h2).2 (.rel ⟨h1, h2, .inr h4⟩)⟩⟩
theorem CoI.skip (h : CoI q L x y k p) (hx : x < q.length) (hy : y < q.length) (ha : kerP (joP q.length p (eqP q.length (relP (L.getD k [])))) x y) : CoI q L x y (k + 1) p := by
  refine ⟨h.cg, h.ap, h.jo.imp id fun ⟨h1, h2⟩ => ⟨h1, fun j hj => ?_⟩⟩
  by_cases e : j = k
  · subst e
    exact Eg.least (Q := kerP (eqP q.length (relP (L.getD j [])))) (fun _ => rfl) (fun _ _ h => h.symm) (fun _ _ _ h h' => h.trans h') (fun a b ⟨ha, hb, h⟩ => h.elim (fun h => by rw [h1 a b ha hb h]; rfl) id) ((joP_iff hx hy).1 ha)
  · exact h2 j (by omega)
theorem CoI.done (h : CoI q L x y k p) (hL : AtomsOk q L) (h2 : 2 ≤ L.length) (hk : L.length ≤ k) (hx : x < q.length) (hy : y < q.length) (hne : x ≠ y) : Joins q.length p := by
  rcases h.jo with h | ⟨_, h⟩
  · exact h
  · have m0 := hL.mi _ (getD_mem (d := []) (show 0 < L.length by omega))
    have m1 := hL.mi _ (getD_mem (d := []) (show 1 < L.length by omega))
    have hM := mtP_cg m0.cg m1.cg
    have ker := fun {a b : Nat} (ha : a < q.length) (hb : b < q.length) => mtP_ker m0.cg.pt m1.cg.pt ha hb
    have hMj : Joins q.length (mtP (eqP q.length (relP (L.getD 0 []))) (eqP q.length (relP (L.getD 1 [])))) := ⟨x, y, hx, hy, hne, (ker hx hy).2 ⟨h 0 (by omega), h 1 (by omega)⟩⟩
    have s0 := m0.mi _ hM hMj fun a b ha hb e => ((ker ha hb).1 e).1
    have s1 := m1.mi _ hM hMj fun a b ha hb e => ((ker ha hb).1 e).2
    have e := sub_eq m0.cg.len m1.cg.len m0.cg.val.2 m1.cg.val.2 (fun a b ha hb e => ((ker ha hb).1 (s0 a b ha hb e)).2) fun a b ha hb e => ((ker ha hb).1 (s1 a b ha hb e)).1
    have hnd := List.pairwise_iff_getElem.1 (List.nodup_iff_pairwise_ne.1 hL.nd) 0 1 (by rw [List.length_map]; omega) (by rw [List.length_map]; omega) (by omega)
    refine absurd ?_ hnd
    rw [List.getElem_map, List.getElem_map, ← getD_eq (d := []), ← getD_eq (d := [])]
    exact e
end
end Go.Proofs.Ytjlkhjgnfnfmgaa
end
section
/- Package subdirect: coarser, apart: contracts. -/
namespace Go.Proofs.Ytjlkhjgnfnfmgaa
open Go Go.AM
set_option maxRecDepth 100000
set_option maxHeartbeats 1000000 in
theorem coar_fn (q : List (List Int)) (L : List (List (Int × Int))) (x y : Nat) (hq : Semi q) (hL : AtomsOk q L) (h2 : 2 ≤ L.length) (hx : x < q.length) (hy : y < q.length) (hne : x ≠ y) : EF 128 [.int .i64 q.length, .ro (.prows L), .int .i64 x, .int .i64 y] (fun w : List Int => .ro (.ints .i64 w)) (fun w => IsCg q w 0 ∧ ¬ kerP w x y ∧ Joins q.length w) := mkE Try.func128 (by decide +kernel) rfl (Nat.le_of_ble_eq_true rfl) fun _ => by
  have hn := hq.most
  have hLl : L.length ≤ 160000 := Nat.le_trans hL.le (Nat.mul_le_mul hn hn)
  refine Or.inl (cq (pdis_fn q.length (by omega)) (And.intro rfl trivial) ?_)
  refine Exists.intro [14, 21, 24, 25, 26, 28, 30, 32, 35, 12, 10014, 10024, 10025] <| lp2 (fun (k : Nat) (p : List Int) => [(17, .int .i64 k), (9, .ro (.ints .i64 p))]) (fun _ _ => []) (fun k p => k ≤ L.length ∧ CoI q L x y k p) (fun k _ => L.length - k) 0 (disI q.length) ⟨Nat.zero_le _, CoI.start hq hx hy hne⟩ (by repeat' first | refine And.intro ?_ ?_ | exact True.intro | (show (_ : Int) = (_ : Int); omega) | omega | exact rfl | (simp only [RO.len]; omega)) ?_
  rintro k p ⟨hk, hI⟩
  have hpl := hI.cg.len
  refine And.intro (fun h1 => ?_) (fun h1 => ?_)
  · have h1 : (k : Int) < (L.length : Int) := h1
    have hkl : k < L.length := by omega
    have hin := hL.inw _ (getD_mem (d := []) hkl)
    have hm := hL.mi _ (getD_mem (d := []) hkl)
    have hE : canon (rtL q.length (prR id (L.getD k []))) = eqP q.length (relP (L.getD k [])) := pairs_eqP hin
    have hfp := fpairs_fn q.length (by omega) (L.getD k []) fun z hz => ⟨(hin z hz).1.1, (hin z hz).1.2, (hin z hz).2.1, (hin z hz).2.2⟩
    rw [hE] at hfp
    have hjn := pjoin_fn p (eqP q.length (relP (L.getD k []))) ⟨by rw [hpl, hm.cg.len], hI.cg.val, hm.cg.val⟩
    rw [hpl] at hjn
    have hjl : (joP q.length p (eqP q.length (relP (L.getD k [])))).length = q.length := joP_len
    refine And.intro (by omega) ?_
    refine Or.inl (cq hfp (And.intro rfl (And.intro rfl trivial)) ?_)
    refine Or.inl (cq hjn (And.intro rfl (And.intro rfl trivial)) ?_)
    refine Or.inl ?_
    refine Exists.intro (List.replicate 9 false) (And.intro (by decide +kernel) ?_)
    refine And.intro (show 0 ≤ (x : Int) ∧ (x : Int) < ((joP q.length p (eqP q.length (relP (L.getD k [])))).length : Int) by omega) ?_
    refine And.intro (show 0 ≤ (y : Int) ∧ (y : Int) < ((joP q.length p (eqP q.length (relP (L.getD k [])))).length : Int) by omega) ?_
    refine And.intro (fun h3 => ?_) (fun h3 => ?_)
    · have h3 : ¬ kerP (joP q.length p (eqP q.length (relP (L.getD k [])))) x y := h3
      refine And.intro (by omega) ?_
      exact nx (k + 1, _) ⟨by omega, hI.take hL hkl h3⟩ (show L.length - (k + 1) < L.length - k by omega) (by repeat' first | refine And.intro ?_ ?_ | exact True.intro | (show (_ : Int) = (_ : Int); omega) | omega | exact rfl | (simp only [RO.len]; omega))
    · have h3 : kerP (joP q.length p (eqP q.length (relP (L.getD k [])))) x y := h3
      refine And.intro (by omega) ?_
      exact nx (k + 1, p) ⟨by omega, hI.skip hx hy h3⟩ (show L.length - (k + 1) < L.length - k by omega) (by repeat' first | refine And.intro ?_ ?_ | exact True.intro | (show (_ : Int) = (_ : Int); omega) | omega | exact rfl | (simp only [RO.len]; omega))
  · have h1 : (L.length : Int) ≤ (k : Int) := h1
    refine Exists.intro p (And.intro ⟨hI.cg, hI.ap, hI.done hL h2 (by omega) hx hy hne⟩ ?_)
    repeat' first | refine And.intro ?_ ?_ | exact True.intro | omega | exact rfl
end Go.Proofs.Ytjlkhjgnfnfmgaa
end
section
/- Package subdirect: apart: contract. -/
namespace Go.Proofs.Ytjlkhjgnfnfmgaa
open Go Go.AM
set_option maxRecDepth 100000
structure AptOk (t : List (List Int)) (x y : Nat) (p : List Int) : Prop where
  cg : IsCg t p 0
  irr : Irr (quoL t p)
  ap : ¬ kerP p x y
def labX (n x : Nat) : List Int := (List.replicate n 0).set x 1
theorem labX_ne {n x y : Nat} (hx : x < n) (hy : y < n) (hne : x ≠ y) : (canon (labX n x)).getD x 0 ≠ (canon (labX n x)).getD y 0 := fun e => by
  have hl : (labX n x).length = n := by simp [labX]
  have e := (canon_eq_iff (d := 0) (by omega) (by omega)).1 e
  unfold labX at e
  rw [getD_set_eq (by simp; omega), getD_set_ne hne, triv_get] at e
  exact absurd e (by decide)
theorem irr_of_few {t p : List (List Int)} {L : List (List (Int × Int))} (_ : p = t) (hs : Semi t) (hL : AtomsOk t L) (h2 : 2 ≤ t.length) (hf : L.length < 2) : Irr t := ⟨hs, by have := hL.num; have := hL.pos hs h2; omega⟩
set_option maxHeartbeats 1000000 in
theorem apt_fn (t : List (List Int)) (x y : Nat) (hs : Semi t) (ht : t.length ≤ 60) (hx : x < t.length) (hy : y < t.length) (hne : x ≠ y) : EF 51 [.ro (.rows .i64 t), .int .i64 x, .int .i64 y] (fun p : List Int => .ro (.ints .i64 p)) (AptOk t x y) := mkE Try.func51 (by decide +kernel) rfl (Nat.le_of_ble_eq_true rfl) fun _ => by
  have hll : (labX t.length x).length = t.length := by simp [labX]
  have hcl : (canon (labX t.length x)).length = t.length := by rw [canon_length, hll]
  have hcv : validP (canon (labX t.length x)) := ⟨by rw [hcl]; omega, canon_idem _⟩
  refine And.intro (by omega) ?_
  refine And.intro (by omega) ?_
  have hrl : (List.replicate (t.length : Int).toNat (0 : Int)).length = t.length := by simp
  refine And.intro (show 0 ≤ (x : Int) ∧ (x : Int) < ((List.replicate (t.length : Int).toNat (0 : Int)).length : Int) by omega) ?_
  refine And.intro (by omega) ?_
  have hcan := Canonical_fn (labX t.length x)
  rw [if_pos (by omega)] at hcan
  refine Or.inl (cq hcan (And.intro rfl trivial) ?_)
  refine Or.inl (cq (ccoa_fn t (canon (labX t.length x)) hs hcl hcv) (And.intro rfl (And.intro rfl trivial)) ?_)
  refine Exists.intro [7, 17, 18, 20, 22, 23, 24, 26, 27, 9, 28, 10, 29, 11, 12, 34, 36, 37, 41, 45, 48, 49, 56, 58, 60, 62, 64, 10017, 10023, 10024, 10027, 10045, 10048] <| lp (X := List Int) (fun p => [(8, .ro (.ints .i64 p))]) (fun _ => []) (fun p => IsCg t p 0 ∧ ¬ kerP p x y) (fun p => classN p) (synP t (canon (labX t.length x))) ⟨synP_is hs, fun e => labX_ne hx hy hne ((synP_iff hx hy).1 e).own⟩ (by repeat' first | refine And.intro ?_ ?_ | exact True.intro | (show (_ : Int) = (_ : Int); omega) | omega | exact rfl | (simp only [RO.len]; omega)) ?_
  rintro p ⟨hcg, hap⟩
  have hpl := hcg.len
  have hql := hcg.quo_le
  have kx := cls_lt hcg.val.2 (x := x) (by omega)
  have ky := cls_lt hcg.val.2 (x := y) (by omega)
  have hqn : (quoL t p).length = classN p := quoL_len
  have hne2 : (p.getD x 0).toNat ≠ (p.getD y 0).toNat := fun e => hap (by unfold kerP; omega)
  refine Or.inl (cq (sdquo_fn t p hcg) (And.intro rfl (And.intro rfl trivial)) ?_)
  refine Or.inr (Or.inr (ce (atoms_fn (quoL t p) hcg.quo (by omega)) (And.intro rfl trivial) ?_))
  intro L hL
  have hL : AtomsOk (quoL t p) L := hL
  refine And.intro (fun h1 => ?_) (fun h1 => ?_)
  · have h1 : (L.length : Int) < 2 := h1
    refine Exists.intro p (And.intro ⟨hcg, irr_of_few rfl hcg.quo hL (by omega) (by omega), hap⟩ ?_)
    repeat' first | refine And.intro ?_ ?_ | exact True.intro | omega | exact rfl
  have h1 : 2 ≤ (L.length : Int) := h1
  refine Or.inl ?_
  refine Exists.intro (List.replicate 11 false ++ [true, false]) (And.intro (by decide +kernel) ?_)
  refine And.intro (show 0 ≤ (x : Int) ∧ (x : Int) < (p.length : Int) by omega) ?_
  refine And.intro (show 0 ≤ (y : Int) ∧ (y : Int) < (p.length : Int) by omega) ?_
  refine Or.inr (Or.inr (ce (coar_fn (quoL t p) L (p.getD x 0).toNat (p.getD y 0).toNat hcg.quo hL (by omega) (by omega) (by omega) hne2) ?_ ?_))
  · repeat' first | refine And.intro ?_ ?_ | exact True.intro | exact kx.2.2 | exact ky.2.2 | exact rfl
  intro w hw
  have hw : IsCg (quoL t p) w 0 ∧ ¬ kerP w (p.getD x 0).toNat (p.getD y 0).toNat ∧ Joins (quoL t p).length w := hw
  have hwl := hw.1.len
  refine And.intro (by omega) ?_
  refine And.intro (by omega) ?_
  refine Exists.intro [] <| lp2 (fun (i : Nat) (_ : List Int) => [(51, .int .i64 i)]) (fun _ N => [(48, .vec 0 (.ints .i64 N) [])]) (fun i N => i ≤ p.length ∧ N.length = t.length ∧ ∀ j, j < i → N.getD j 0 = w.getD (p.getD j 0).toNat 0) (fun i _ => p.length - i) 0 (List.replicate (t.length : Int).toNat 0) ⟨Nat.zero_le _, hrl, fun j hj => absurd hj (Nat.not_lt_zero _)⟩ (by repeat' first | refine And.intro ?_ ?_ | exact True.intro | (show (_ : Int) = (_ : Int); omega) | omega | exact rfl | (simp only [RO.len]; omega)) ?_
  rintro i N ⟨hi, hN, hNj⟩
  refine And.intro (fun h2 => ?_) (fun h2 => ?_)
  · have h2 : (i : Int) < (p.length : Int) := h2
    have ki := cls_lt hcg.val.2 (x := i) (by omega)
    refine And.intro (by omega) ?_
    refine And.intro (show 0 ≤ p.getD i 0 ∧ p.getD i 0 < (w.length : Int) by omega) ?_
    refine And.intro (show 0 ≤ (i : Int) ∧ (i : Int) < (N.length : Int) by omega) ?_
    refine And.intro (by omega) ?_
    refine And.intro (by omega) ?_
    refine nx (i + 1, N.set i (w.getD (p.getD i 0).toNat 0)) ⟨by omega, by rw [List.length_set]; exact hN, fun j hj => ?_⟩ (show p.length - (i + 1) < p.length - i by omega) (by repeat' first | refine And.intro ?_ ?_ | exact True.intro | (show (_ : Int) = (_ : Int); omega) | omega | exact rfl | (simp only [RO.len]; omega))
    by_cases e : j = i
    · subst e; rw [getD_set_eq (by omega)]
    · rw [getD_set_ne (Ne.symm e)]; exact hNj j (by omega)
  · have h2 : (p.length : Int) ≤ (i : Int) := h2
    have eN : N = nxtP p w := ext_getD 0 (by rw [hN, nxt_len, hpl]) fun j hj => by rw [nxt_get (by omega)]; exact hNj j (by omega)
    subst eN
    exact nx (nxtP p w) ⟨nxt_cg hcg hw.1, fun e => hw.2.1 ((nxt_ker hcg.pt hx hy).1 e)⟩ (nxt_less hcg hw.1 hw.2.2) (by repeat' first | refine And.intro ?_ ?_ | exact True.intro | (show (_ : Int) = (_ : Int); omega) | omega | exact rfl | (simp only [RO.len]; omega))
end Go.Proofs.Ytjlkhjgnfnfmgaa
end
section
/- Package subdirect: Decompose: plain laws, contract. -/
namespace Go.Proofs.Ytjlkhjgnfnfmgaa
open Go Go.AM
set_option maxRecDepth 100000
theorem red_sub (n : Nat) {q : List Int} : ∀ (l : List (List Int)) (b : List Int), q ∈ redL n b l → q ∈ l
  | [], _, h => h
  | p :: l, b, h => by
    unfold redL at h
    split at h
    · exact List.mem_cons_of_mem _ (red_sub n l b h)
    · rcases List.mem_cons.1 h with rfl | h
      · exact List.mem_cons_self ..
      · exact List.mem_cons_of_mem _ (red_sub n l _ h)
def kerB (b : List Int) (l : List (List Int)) (x y : Nat) : Prop := kerP b x y ∧ ∀ p ∈ l, kerP p x y
theorem kerB_cons {n : Nat} {b p : List Int} {l : List (List Int)} (hb : Pt n b) (hp : Pt n p) {x y : Nat} (hx : x < n) (hy : y < n) : kerB b (p :: l) x y ↔ kerB (mtP b p) l x y := by
  unfold kerB
  rw [mtP_ker hb hp hx hy]
  exact ⟨fun ⟨h1, h2⟩ => ⟨⟨h1, h2 p (List.mem_cons_self ..)⟩, fun q hq => h2 q (List.mem_cons_of_mem _ hq)⟩, fun ⟨⟨h1, h2⟩, h3⟩ => ⟨h1, fun q hq => (List.mem_cons.1 hq).elim (fun e => e ▸ h2) (h3 q)⟩⟩
theorem mt_disc {n : Nat} (hn : n ≤ 4096) {b : List Int} {l : List (List Int)} (hb : Pt n b) (hp : ∀ p ∈ l, Pt n p) : classN (mtP b (mtL n l)) = n ↔ Disc n (kerB b l) := by
  rw [cls_disc (hb.mt (Pt.mtL hn hp))]
  refine forall_congr' fun x => forall_congr' fun y => forall_congr' fun hx => forall_congr' fun hy => ?_
  rw [mtP_ker hb (Pt.mtL hn hp) hx hy, mtL_ker hn hx hy hp]; exact Iff.rfl
theorem red_disc {n : Nat} (hn : n ≤ 4096) : ∀ (l : List (List Int)) (b : List Int), Pt n b → (∀ p ∈ l, Pt n p) → Disc n (kerB b l) → Disc n (kerB b (redL n b l))
  | [], _, _, _, h => h
  | p :: l, b, hb, hp, h => by
    have hp1 := hp p (List.mem_cons_self ..)
    have hpl : ∀ q ∈ l, Pt n q := fun q hq => hp q (List.mem_cons_of_mem _ hq)
    unfold redL
    split
    · rename_i h1
      exact red_disc hn l b hb hpl ((mt_disc hn hb hpl).1 h1)
    · have ih := red_disc hn l (mtP b p) (hb.mt hp1) hpl fun x y hx hy e => h x y hx hy ((kerB_cons hb hp1 hx hy).2 e)
      exact fun x y hx hy e => ih x y hx hy ((kerB_cons hb hp1 hx hy).1 e)
theorem red_idem {n : Nat} (hn : n ≤ 4096) : ∀ (l : List (List Int)) (b : List Int), Pt n b → (∀ p ∈ l, Pt n p) → (redL n b (redL n b l)).length = (redL n b l).length
  | [], _, _, _ => rfl
  | p :: l, b, hb, hp => by
    have hp1 := hp p (List.mem_cons_self ..)
    have hpl : ∀ q ∈ l, Pt n q := fun q hq => hp q (List.mem_cons_of_mem _ hq)
    by_cases h1 : classN (mtP b (mtL n l)) = n
    · have e : redL n b (p :: l) = redL n b l := by show (if _ then _ else _) = _; rw [if_pos h1]
      rw [e]; exact red_idem hn l b hb hpl
    · have e : redL n b (p :: l) = p :: redL n (mtP b p) l := by show (if _ then _ else _) = _; rw [if_neg h1]
      have hpr : ∀ q ∈ redL n (mtP b p) l, Pt n q := fun q hq => hpl q (red_sub n l _ hq)
      have h2 : ¬ classN (mtP b (mtL n (redL n (mtP b p) l))) = n := fun h2 => h1 ((mt_disc hn hb hpl).2 fun x y hx hy a => (mt_disc hn hb hpr).1 h2 x y hx hy ⟨a.1, fun q hq => a.2 q (red_sub n l _ hq)⟩)
      have e2 : redL n b (p :: redL n (mtP b p) l) = p :: redL n (mtP b p) (redL n (mtP b p) l) := by show (if _ then _ else _) = _; rw [if_neg h2]
      rw [e, e2, List.length_cons, List.length_cons, red_idem hn l (mtP b p) (hb.mt hp1) hpl]
structure DecOk (t : List (List Int)) (R : List (List Int)) : Prop where
  chk : Chk t R
  nil : R.length = 0 ↔ t.length = 1
theorem dec_ok {t K : List (List Int)} (hs : Semi t) (hk : ∀ p ∈ K, IsCg t p 0 ∧ Irr (quoL t p)) (hd : Disc t.length fun x y => ∀ p ∈ K, kerP p x y) : DecOk t (redL t.length (List.replicate t.length 0) K) := by
  have hn : t.length ≤ 4096 := by have := hs.most; omega
  have h0 := hs.pos
  have hT := Pt.triv (n := t.length) hn
  have hp : ∀ p ∈ K, Pt t.length p := fun p h => (hk p h).1.pt
  have hR : ∀ p ∈ redL t.length (List.replicate t.length 0) K, IsCg t p 0 ∧ Irr (quoL t p) := fun p h => hk p (red_sub _ _ _ h)
  have hRp : ∀ p ∈ redL t.length (List.replicate t.length 0) K, Pt t.length p := fun p h => (hR p h).1.pt
  have hD := red_disc hn K _ hT hp fun x y hx hy e => hd x y hx hy e.2
  have hm : classN (mtL t.length (redL t.length (List.replicate t.length 0) K)) = t.length := (cls_disc (Pt.mtL hn hRp)).2 fun x y hx hy e => hD x y hx hy ⟨triv_ker _ _ _, (mtL_ker hn hx hy hRp).1 e⟩
  have hc : Chk t (redL t.length (List.replicate t.length 0) K) := chk_iff.2 ⟨hs, fun p h => (hR p h).1, fun p h => (hR p h).2, (meet_iff hn hRp).1 hm, (red_iff hn hRp).1 (red_idem hn K _ hT hp)⟩
  refine ⟨hc, fun h => ?_, fun h => by have := hc.few; omega⟩
  have e := List.eq_nil_of_length_eq_zero h
  rw [e] at hD
  refine Classical.byContradiction fun h1 => ?_
  have := hD 0 1 (by omega) (by omega) ⟨triv_ker _ _ _, fun _ h => absurd h List.not_mem_nil⟩
  omega
structure DcI (t : List (List Int)) (x : Nat) (K : List (List Int)) (m : List Int) : Prop where
  ok : ∀ p ∈ K, IsCg t p 0 ∧ Irr (quoL t p)
  mp : Pt t.length m
  ker : ∀ a b, a < t.length → b < t.length → (kerP m a b ↔ ∀ p ∈ K, kerP p a b)
  sep : ∀ a b, a < x → a < b → b < t.length → ¬ kerP m a b
  len : K.length + 1 ≤ classN m
section
variable {t K : List (List Int)} {x y : Nat} {m p : List Int}
theorem DcI.start (hs : Semi t) : DcI t 0 [] (List.replicate t.length 0) :=
  ⟨fun _ h => absurd h List.not_mem_nil, Pt.triv (by have := hs.most; omega), fun a b _ _ => ⟨fun _ _ h => absurd h List.not_mem_nil, fun _ => triv_ker _ a b⟩, fun _ _ h => absurd h (Nat.not_lt_zero _), by
    have : (0 : Int) ∈ firsts (List.replicate t.length (0 : Int)) := mem_firsts.2 (List.mem_replicate.2 ⟨by have := hs.pos; omega, rfl⟩)
    exact List.length_pos_of_mem this⟩
theorem DcI.row (h : DcI t x K m) (hn : ∀ b, x < b → b < t.length → ¬ kerP m x b) : DcI t (x + 1) K m :=
  ⟨h.ok, h.mp, h.ker, fun a b ha hab hb => by
    by_cases e : a = x
    · subst e; exact hn b hab hb
    · exact h.sep a b (by omega) hab hb, h.len⟩
theorem mt_more (hm : Pt t.length m) (hp : Pt t.length p) (hx : x < t.length) (hy : y < t.length) (hk : kerP m x y) (ha : ¬ kerP p x y) : classN m < classN (mtP m p) := by
  have hM := hm.mt hp
  have hs := same_count hm.2.2 hM.2.2 (by rw [hm.1, hM.1]) fun a b ha hb e => ((mtP_ker hm hp (by rw [← hm.1]; exact ha) (by rw [← hm.1]; exact hb)).1 e).1
  refine Nat.lt_of_le_of_ne hs.1 fun e => ?_
  have e2 := hs.2 e
  rw [← e2] at hk
  exact ha ((mtP_ker hm hp hx hy).1 hk).2
theorem DcI.add (h : DcI t x K m) (hx : x < t.length) (hy : y < t.length) (hk : kerP m x y) (hp : AptOk t x y p) : DcI t x (K ++ [p]) (mtP m p) := by
  refine ⟨fun q hq => ?_, h.mp.mt hp.cg.pt, fun a b ha hb => ?_, fun a b ha hab hb e => ?_, ?_⟩
  · rcases List.mem_append.1 hq with hq | hq
    · exact h.ok q hq
    · rw [List.mem_singleton.1 hq]; exact ⟨hp.cg, hp.irr⟩
  · rw [mtP_ker h.mp hp.cg.pt ha hb, h.ker a b ha hb]
    exact ⟨fun ⟨h1, h2⟩ q hq => (List.mem_append.1 hq).elim (h1 q) fun hq => by rw [List.mem_singleton.1 hq]; exact h2, fun h => ⟨fun q hq => h q (List.mem_append_left _ hq), h p (List.mem_append_right _ (List.mem_singleton.2 rfl))⟩⟩
  · exact h.sep a b ha hab hb ((mtP_ker h.mp hp.cg.pt (by omega) hb).1 e).1
  · have := h.len
    have := mt_more h.mp hp.cg.pt hx hy hk hp.ap
    rw [List.length_append, List.length_singleton]; omega
theorem DcI.done (h : DcI t x K m) (hs : Semi t) (hx : t.length ≤ x) : DecOk t (redL t.length (List.replicate t.length 0) K) :=
  dec_ok hs h.ok fun a b ha hb e => by
    have e := (h.ker a b ha hb).2 e
    refine Classical.byContradiction fun hne => ?_
    by_cases hab : a < b
    · exact h.sep a b (by omega) hab hb e
    · exact h.sep b a (by omega) (by omega) ha e.symm
theorem DcI.cls (h : DcI t x K m) : classN m ≤ t.length := by rw [← h.mp.1]; exact firsts_le _
end
theorem decN_fn (t : List (List Int)) (h : validV t ≠ 0) : QF 11 [.ro (.rows .i64 t)] (.tup [.nils, .int .i64 (validV t)]) := mkQ Try.func11 (by decide +kernel) rfl (Nat.le_of_ble_eq_true rfl) fun _ => by
  refine Or.inl (cq (valid_fn t) (And.intro rfl trivial) ?_)
  refine And.intro (fun _ => ?_) (fun h2 => absurd h2 h)
  exact And.intro trivial (And.intro rfl trivial)
set_option maxHeartbeats 2000000 in
theorem dec_fn (t : List (List Int)) (hs : Semi t) (ht : t.length ≤ 60) : EF 11 [.ro (.rows .i64 t)] (fun R : List (List Int) => .tup [.ro (.rows .i64 R), .int .i64 0]) (DecOk t) := mkE Try.func11 (by decide +kernel) rfl (Nat.le_of_ble_eq_true rfl) fun _ => by
  refine Or.inl (cq (valid_fn t) (And.intro rfl trivial) ?_)
  refine And.intro (fun h => absurd (valid_zero.2 hs) h) (fun _ => ?_)
  refine Or.inl (cq (ptriv_fn t.length (by omega)) (And.intro rfl trivial) ?_)
  refine Exists.intro [17, 8, 29, 31, 33, 35, 50, 9, 52, 55, 56, 57, 10017, 10050, 10057] <| lp3 (fun (x : Nat) (_ : List (List Int)) (m : List Int) => [(7, .int .i64 x), (5, .vec 54), (6, .ro (.ints .i64 m))]) (fun _ K _ => [(54, .vec 0 (.rows .i64 K) [])]) (fun x K m => x ≤ t.length ∧ DcI t x K m) (fun x _ m => (t.length - x) + (t.length - classN m)) 0 [] (List.replicate t.length 0) ⟨Nat.zero_le _, DcI.start hs⟩ (by repeat' first | refine And.intro ?_ ?_ | exact True.intro | (show (_ : Int) = (_ : Int); omega) | omega | exact rfl | (simp only [RO.len]; omega)) ?_
  rintro x K m ⟨hx, hI⟩
  have hml := hI.mp.1
  have hcls := hI.cls
  have hKl := hI.len
  refine And.intro (fun h1 => ?_) (fun h1 => ?_)
  · have h1 : (x : Int) < (t.length : Int) := h1
    refine And.intro (by omega) ?_
    refine Exists.intro [] <| lp (X := Nat) (fun y => [(8, .int .i64 y)]) (fun _ => []) (fun y => x < y ∧ y ≤ t.length ∧ ∀ b, x < b → b < y → ¬ kerP m x b) (fun y => t.length - y) (x + 1) ⟨by omega, by omega, fun b h2 h3 => by omega⟩ (by repeat' first | refine And.intro ?_ ?_ | exact True.intro | (show (_ : Int) = (_ : Int); omega) | omega | exact rfl | (simp only [RO.len]; omega)) ?_
    rintro y ⟨hxy, hy, hb⟩
    refine Or.inl ?_
    refine Exists.intro (List.replicate 15 false) (And.intro (by decide +kernel) ?_)
    refine And.intro (fun h2 => ?_) (fun h2 => ?_)
    · have h2 : (y : Int) < (t.length : Int) := h2
      refine And.intro (show 0 ≤ (x : Int) ∧ (x : Int) < (m.length : Int) by omega) ?_
      refine And.intro (show 0 ≤ (y : Int) ∧ (y : Int) < (m.length : Int) by omega) ?_
      refine And.intro (fun h3 => ?_) (fun h3 => ?_)
      · have h3 : ¬ kerP m x y := h3
        refine And.intro (by omega) ?_
        refine nx (y + 1) ⟨by omega, by omega, fun b h4 h5 => ?_⟩ (show t.length - (y + 1) < t.length - y by omega) (by repeat' first | refine And.intro ?_ ?_ | exact True.intro | (show (_ : Int) = (_ : Int); omega) | omega | exact rfl | (simp only [RO.len]; omega))
        by_cases e : b = y
        · subst e; exact h3
        · exact hb b h4 (by omega)
      · have h3 : kerP m x y := h3
        refine And.intro (fun h4 => ?_) (fun _ => ?_)
        · have h4 : (y : Int) = (t.length : Int) := h4
          omega
        refine Or.inr (Or.inr (ce (apt_fn t x y hs ht (by omega) (by omega) (by omega)) (And.intro rfl (And.intro rfl (And.intro rfl trivial))) ?_))
        intro p hp
        have hp : AptOk t x y p := hp
        have hKa : (K ++ [p]).length = K.length + 1 := by simp
        refine And.intro (by omega) ?_
        refine Or.inl (cq (pmt_fn hI.mp hp.cg.pt) (And.intro rfl (And.intro rfl trivial)) ?_)
        have hI2 := hI.add (by omega) (by omega) h3 hp
        have hmore := mt_more hI.mp hp.cg.pt (by omega) (by omega) h3 hp.ap
        have hc2 := hI2.cls
        exact nx (x, K ++ [p], mtP m p) ⟨hx, hI2⟩ (show (t.length - x) + (t.length - classN (mtP m p)) < (t.length - x) + (t.length - classN m) by omega) (by repeat' first | refine And.intro ?_ ?_ | exact True.intro | (show (_ : Int) = (_ : Int); omega) | omega | exact rfl | (simp only [RO.len]; omega))
    · have h2 : (t.length : Int) ≤ (y : Int) := h2
      refine And.intro (fun _ => ?_) (fun h4 => ?_)
      · refine And.intro (by omega) ?_
        exact nx (x + 1, K, m) ⟨by omega, hI.row fun b h3 h4 => hb b h3 (by omega)⟩ (show (t.length - (x + 1)) + (t.length - classN m) < (t.length - x) + (t.length - classN m) by omega) (by repeat' first | refine And.intro ?_ ?_ | exact True.intro | (show (_ : Int) = (_ : Int); omega) | omega | exact rfl | (simp only [RO.len]; omega))
      · have h4 : ¬ (y : Int) = (t.length : Int) := h4
        omega
  · have h1 : (t.length : Int) ≤ (x : Int) := h1
    refine Or.inl (cq (sred_fn t.length K hs.pos (by omega) (by omega) fun p h => (hI.ok p h).1.pt) (And.intro rfl (And.intro rfl trivial)) ?_)
    refine Exists.intro (redL t.length (List.replicate t.length 0) K) (And.intro (hI.done hs (by omega)) ?_)
    repeat' first | refine And.intro ?_ ?_ | exact True.intro | omega | exact rfl
end Go.Proofs.Ytjlkhjgnfnfmgaa
end
section
/- Statements about subdirect decompositions: the sanity check. -/
namespace Go.Proofs.Ytjlkhjgnfnfmgaa
open Go Go.AM
set_option maxRecDepth 100000
def klL : List (List Int) := [[0, 1, 2, 3], [1, 0, 3, 2], [2, 3, 0, 1], [3, 2, 1, 0]]
def klP : List (List Int) := [[0, 0, 1, 1], [0, 1, 0, 1]]
def c2L : List (List Int) := [[0, 1], [1, 0]]
theorem semi_dec {t : List (List Int)} (h0 : 0 < t.length ∧ t.length ≤ 400) (h1 : ∀ r ∈ t, r.length = t.length ∧ ∀ x ∈ r, 0 ≤ x ∧ x < (t.length : Int)) (h2 : ∀ x, x < t.length → ∀ y, y < t.length → ∀ z, z < t.length → en t (en t x y) z = en t x (en t y z)) : Semi t :=
  ⟨⟨h0.1, h0.2, h1⟩, fun g hg x y hx hy => h2 x hx g hg y hy⟩
theorem semi_kl : Semi klL := semi_dec (by decide) (by decide +kernel) (by decide +kernel)
theorem semi_c2 : Semi c2L := semi_dec (by decide) (by decide +kernel) (by decide +kernel)
theorem cg_dec {t : List (List Int)} {p : List Int} (h : ∀ x, x < t.length → ∀ y, y < t.length → ∀ s, s < t.length → p.getD x 0 = p.getD y 0 → p.getD (en t s x) 0 = p.getD (en t s y) 0 ∧ p.getD (en t x s) 0 = p.getD (en t y s) 0) : Cg t p 0 :=
  fun x y s hx hy hs e => ⟨fun _ => (h x hx y hy s hs e).1, fun _ => (h x hx y hy s hs e).2⟩
theorem cg_kl {p : List Int} (hp : p ∈ klP) : IsCg klL p 0 := by
  have h : p = [0, 0, 1, 1] ∨ p = [0, 1, 0, 1] := by simpa [klP] using hp
  rcases h with rfl | rfl
  · exact ⟨semi_kl, rfl, ⟨by decide, by decide +kernel⟩, by decide, cg_dec (by decide +kernel)⟩
  · exact ⟨semi_kl, rfl, ⟨by decide, by decide +kernel⟩, by decide, cg_dec (by decide +kernel)⟩
theorem min_kl {p : List Int} (hp : p ∈ klP) : MinC klL p := by
  have hc := cg_kl hp
  have h : p = [0, 0, 1, 1] ∨ p = [0, 1, 0, 1] := by simpa [klP] using hp
  refine ⟨hc, ?_, fun q hq hj hs => ?_⟩
  · rcases h with rfl | rfl
    · exact ⟨0, 1, by decide, by decide, by decide, by decide⟩
    · exact ⟨0, 2, by decide, by decide, by decide, by decide⟩
  · obtain ⟨x, y, hx, hy, hne, e⟩ := hj
    have ep := hs x y hx hy e
    have g := hq.cg
    have hx : x < 4 := hx
    have hy : y < 4 := hy
    have k := fun s (h : s < 4) => (g x y s hx hy h e).1 (by decide)
    have k0 := k x hx
    have l := fun a b s (ha : a < 4) (hb : b < 4) (hs : s < 4) (h : q.getD a 0 = q.getD b 0) => (g a b s ha hb hs h).1 (by decide)
    rcases h with rfl | rfl
    · have e01 : q.getD 0 0 = q.getD 1 0 := by
        rcases x with _ | _ | _ | _ | x <;> rcases y with _ | _ | _ | _ | y <;> first | exact absurd ep (by decide) | exact absurd rfl hne | omega | exact k0
      have e23 : q.getD 2 0 = q.getD 3 0 := l 0 1 2 (by decide) (by decide) (by decide) e01
      intro a b ha hb e2
      have ha : a < 4 := ha
      have hb : b < 4 := hb
      rcases a with _ | _ | _ | _ | a <;> rcases b with _ | _ | _ | _ | b <;> first | exact absurd e2 (by decide) | rfl | exact e01 | exact e01.symm | exact e23 | exact e23.symm | omega
    · have e02 : q.getD 0 0 = q.getD 2 0 := by
        rcases x with _ | _ | _ | _ | x <;> rcases y with _ | _ | _ | _ | y <;> first | exact absurd ep (by decide) | exact absurd rfl hne | omega | exact k0
      have e13 : q.getD 1 0 = q.getD 3 0 := l 0 2 1 (by decide) (by decide) (by decide) e02
      intro a b ha hb e2
      have ha : a < 4 := ha
      have hb : b < 4 := hb
      rcases a with _ | _ | _ | _ | a <;> rcases b with _ | _ | _ | _ | b <;> first | exact absurd e2 (by decide) | rfl | exact e02 | exact e02.symm | exact e13 | exact e13.symm | omega
theorem irr_kl : ¬ Irr klL := fun ⟨_, h⟩ => by
  by_cases hM : ∃ M, Srt cmpL M ∧ ∀ p, p ∈ M ↔ MinC klL p
  · obtain ⟨M, hS, hm⟩ := hM
    rw [mins_of hS hm] at h
    match M, h with
    | [m], _ =>
      have a := (hm _).2 (min_kl (p := [0, 0, 1, 1]) (by decide))
      have b := (hm _).2 (min_kl (p := [0, 1, 0, 1]) (by decide))
      rw [List.mem_singleton] at a b
      rw [← b] at a
      exact absurd a (by decide)
  · unfold minsL at h
    rw [dif_neg hM] at h
    cases h
theorem min_c2 (p : List Int) : MinC c2L p ↔ p = [0, 0] := by
  have ht : IsCg c2L [0, 0] 0 := triv_cg semi_c2
  have key : ∀ q, Joins 2 q → q.getD 0 0 = q.getD 1 0 := fun q ⟨x, y, hx, hy, hne, e⟩ => by
    rcases x with _ | _ | x <;> rcases y with _ | _ | y <;> first | exact absurd rfl hne | omega | exact e | exact e.symm
  have sub : ∀ q r, Joins 2 q → Sub 2 r q := fun q r hj x y hx hy _ => by
    have := key q hj
    rcases x with _ | _ | x <;> rcases y with _ | _ | y <;> first | rfl | omega | exact this | exact this.symm
  constructor
  · intro h
    exact sub_eq h.cg.len ht.len h.cg.val.2 ht.val.2 (sub _ _ ⟨0, 1, by decide, by decide, by decide, by decide⟩) (sub _ _ h.jo)
  · rintro rfl
    exact ⟨ht, ⟨0, 1, by decide, by decide, by decide, by decide⟩, fun q _ hj _ => sub _ _ hj⟩
theorem mins_c2 : minsL c2L = [[0, 0]] := mins_of (List.pairwise_singleton _ _) fun p => by rw [min_c2, List.mem_singleton]
theorem irr_c2 : Irr c2L := ⟨semi_c2, by rw [mins_c2]; rfl⟩
theorem chk_kl : Chk klL klP := ⟨semi_kl, by decide, fun _ h => cg_kl h, by decide +kernel, by decide +kernel, fun p hp => by
  have h : p = [0, 0, 1, 1] ∨ p = [0, 1, 0, 1] := by simpa [klP] using hp
  have e : quoL klL p = c2L := by rcases h with rfl | rfl <;> decide +kernel
  rw [e]; exact irr_c2.2⟩
theorem klein_fn : QF 48 [] (.ro (.rows .i64 klL)) := mkQ Try.func48 (by decide +kernel) rfl (Nat.le_of_ble_eq_true rfl) fun _ => by
  exact And.intro (And.intro trivial rfl) trivial
theorem awake22_fn : QF 10 [] (.bool (.lit true)) := mkQ Try.func10 (by decide +kernel) rfl (Nat.le_of_ble_eq_true rfl) fun _ => by
  refine Or.inl (cq klein_fn trivial ?_)
  refine Or.inl (cq (sirr0_fn klL irr_kl fun _ => by decide) (And.intro rfl trivial) ?_)
  refine Or.inl (cq (sirr1_fn c2L irr_c2 (by decide)) (And.intro rfl trivial) ?_)
  refine Or.inl (cq klein_fn trivial ?_)
  refine Or.inl (cq (schk_fn klL klP fun _ => by decide) (And.intro rfl (And.intro rfl trivial)) ?_)
  exact And.intro (chkB_true.2 chk_kl) trivial
end Go.Proofs.Ytjlkhjgnfnfmgaa
end
section
/- References: FromPairs, the generated congruence: contracts. -/
namespace Go.Proofs.Ytjlkhjgnfnfmgaa
open Go Go.AM
set_option maxRecDepth 100000
theorem rpairs_k (n : Nat) (hn : n ≤ 4096) (l : List (Int × Int)) (hll : l.length ≤ 140737488355328) (hl : inW n l) : fnK TY SP Try.f194 [.int .i64 n, .ro (.pairs l)] (.new (.ints .i64 (eqP n (relP l)))) := by
  have n10 : ¬ (1 : Int) = ((0 : Nat) : Int) := by omega
  have n01 : ¬ (0 : Int) = ((0 + 1 : Nat) : Int) := by omega
  refine Or.inl (cq (rdis_fn n hn) (And.intro rfl trivial) ?_)
  refine Exists.intro [] <| lp2 (fun (i : Nat) (_ : List Int) => [(12, .int .i64 i)]) (fun _ p => [(9, .vec 0 (.ints .i64 p) [])]) (fun i p => i ≤ l.length ∧ KerOf n p (orR (fun _ _ => False) (l.take i))) (fun i _ => l.length - i) 0 (disI n) ⟨Nat.zero_le _, KerOf.dis fun a b h => h.elim id fun h => by simp [relP] at h⟩ (by repeat' first | refine And.intro ?_ ?_ | exact True.intro | (show (_ : Int) = (_ : Int); omega) | omega | exact rfl | (simp only [RO.len]; omega)) ?_
  rintro i p ⟨hi, hp⟩
  have hpl := hp.1
  refine And.intro (fun h1 => ?_) (fun h1 => ?_)
  · have h1 : (i : Int) < (l.length : Int) := h1
    have hil : i < l.length := by omega
    have hq := hl _ (getD_mem (d := ((0 : Int), (0 : Int))) (l := l) (i := i) hil)
    obtain ⟨a, ha⟩ : ∃ a : Nat, (a : Int) = (l.getD i (0, 0)).1 := ⟨_, Int.toNat_of_nonneg hq.1.1⟩
    obtain ⟨b, hb⟩ : ∃ b : Nat, (b : Int) = (l.getD i (0, 0)).2 := ⟨_, Int.toNat_of_nonneg hq.2.1⟩
    have hm := merge_fn p a b (by omega) (by omega) (by omega)
    rw [ha, hb] at hm
    have hn2 : KerOf n (mrgL p a b) (orR (fun _ _ => False) (l.take (i + 1))) := (hp.mrg (i := a) (j := b) (by omega) (by omega)).congr (fun x y h => .rel (by
        rw [take_get (d := (0, 0)) hil]
        rcases h with (h | h) | ⟨rfl, rfl⟩
        · exact .inl h
        · exact .inr (List.mem_append_left _ h)
        · refine .inr (List.mem_append_right _ (List.mem_singleton.2 ?_))
          rw [ha, hb])) fun x y h => .rel (by
        rw [take_get (d := (0, 0)) hil] at h
        rcases h with h | h
        · exact .inl (.inl h)
        · rcases List.mem_append.1 h with h | h
          · exact .inl (.inr h)
          · rw [List.mem_singleton] at h
            refine .inr ?_
            have h1 : (x : Int) = (l.getD i (0, 0)).1 := by rw [← h]
            have h2 : (y : Int) = (l.getD i (0, 0)).2 := by rw [← h]
            omega)
    refine And.intro (by omega) ?_
    refine And.intro (by omega) ?_
    refine And.intro (fun _ => ?_) (And.intro (fun h => absurd h n01) trivial)
    refine And.intro (by omega) ?_
    refine And.intro (fun h => absurd h n10) (And.intro (fun _ => ?_) trivial)
    refine Or.inr (Or.inl (cm [] [(1000, 9)] hm ?_))
    refine And.intro (by repeat' first | refine And.intro ?_ ?_ | exact True.intro | (show (_ : Int) = (_ : Int); omega) | omega | exact rfl | (simp only [RO.len]; omega)) ?_
    refine And.intro (by omega) ?_
    exact nx (i + 1, mrgL p a b) ⟨by omega, hn2⟩ (show l.length - (i + 1) < l.length - i by omega) (by repeat' first | refine And.intro ?_ ?_ | exact True.intro | (show (_ : Int) = (_ : Int); omega) | omega | exact rfl | (simp only [RO.len]; omega))
  · have h1 : (l.length : Int) ≤ (i : Int) := h1
    rw [List.take_of_length_le (by omega)] at hp
    have e : (if p.length ≤ 4096 then canon p else []) = eqP n (relP l) := by
      rw [if_pos (by omega)]
      exact eqP_of (hp.congr (fun a b h => h.elim (fun f => f.elim) .rel) fun a b h => .rel (.inr h))
    refine Or.inl (cq (rcanon_fn p) (And.intro rfl trivial) ?_)
    exact And.intro (And.intro (by omega) (congrArg (RO.ints .i64) e)) trivial
theorem rpairs_fn (n : Nat) (hn : n ≤ 4096) (l : List (Int × Int)) (hl : inW n l) : QF 194 [.int .i64 n, .ro (.pairs l)] (.new (.ints .i64 (eqP n (relP l)))) := mkQ Try.func194 (by decide +kernel) rfl (Nat.le_of_ble_eq_true rfl) fun hf => rpairs_k n hn l hf.2.1.1 hl
end Go.Proofs.Ytjlkhjgnfnfmgaa
end
