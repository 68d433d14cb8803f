import Derived.Test.YtkbhgnbnnbengaaSdApt
import Derived.Test.YtkbhgnbnnbengaaQuoLaw
import Derived.Test.YtkbhgnbnnbengaaSdLaw
import Derived.Test.YtkbhgnbnnbengaaPartLaw
import Derived.Test.YtkbhgnbnnbengaaRows
import Derived.Deep.Matrix
import Derived.Deep.Fields
import Derived.SizedLaws
import Derived.Carry
import Derived.WideKeyArgs
import Derived.ProofKit
import Derived.OpenShut
section
/- Package subdirect: Decompose: plain laws, contract. -/
namespace Go.Proofs.Ytkbhgnbnnbengaa
open Go Go.AM
set_option maxRecDepth 100000
theorem red_sub (n : Nat) {q : List Int} : ∀ (l : List (List Int)) (b : List Int), q ∈ redL n b l → q ∈ l
  | [], _, h => h
  | p :: l, b, h => by
    unfold redL at h
    split at h
    · exact List.mem_cons_of_mem _ (red_sub n l b h)
    · rcases List.mem_cons.1 h with rfl | h
      · exact List.mem_cons_self ..
      · exact List.mem_cons_of_mem _ (red_sub n l _ h)
def kerB (b : List Int) (l : List (List Int)) (x y : Nat) : Prop := kerP b x y ∧ ∀ p ∈ l, kerP p x y
theorem kerB_cons {n : Nat} {b p : List Int} {l : List (List Int)} (hb : Pt n b) (hp : Pt n p) {x y : Nat} (hx : x < n) (hy : y < n) : kerB b (p :: l) x y ↔ kerB (mtP b p) l x y := by
  unfold kerB
  rw [mtP_ker hb hp hx hy]
  exact ⟨fun ⟨h1, h2⟩ => ⟨⟨h1, h2 p (List.mem_cons_self ..)⟩, fun q hq => h2 q (List.mem_cons_of_mem _ hq)⟩, fun ⟨⟨h1, h2⟩, h3⟩ => ⟨h1, fun q hq => (List.mem_cons.1 hq).elim (fun e => e ▸ h2) (h3 q)⟩⟩
theorem mt_disc {n : Nat} (hn : n ≤ 4096) {b : List Int} {l : List (List Int)} (hb : Pt n b) (hp : ∀ p ∈ l, Pt n p) : classN (mtP b (mtL n l)) = n ↔ Disc n (kerB b l) := by
  rw [cls_disc (hb.mt (Pt.mtL hn hp))]
  refine forall_congr' fun x => forall_congr' fun y => forall_congr' fun hx => forall_congr' fun hy => ?_
  rw [mtP_ker hb (Pt.mtL hn hp) hx hy, mtL_ker hn hx hy hp]; exact Iff.rfl
theorem red_disc {n : Nat} (hn : n ≤ 4096) : ∀ (l : List (List Int)) (b : List Int), Pt n b → (∀ p ∈ l, Pt n p) → Disc n (kerB b l) → Disc n (kerB b (redL n b l))
  | [], _, _, _, h => h
  | p :: l, b, hb, hp, h => by
    have hp1 := hp p (List.mem_cons_self ..)
    have hpl : ∀ q ∈ l, Pt n q := fun q hq => hp q (List.mem_cons_of_mem _ hq)
    unfold redL
    split
    · rename_i h1
      exact red_disc hn l b hb hpl ((mt_disc hn hb hpl).1 h1)
    · have ih := red_disc hn l (mtP b p) (hb.mt hp1) hpl fun x y hx hy e => h x y hx hy ((kerB_cons hb hp1 hx hy).2 e)
      exact fun x y hx hy e => ih x y hx hy ((kerB_cons hb hp1 hx hy).1 e)
theorem red_idem {n : Nat} (hn : n ≤ 4096) : ∀ (l : List (List Int)) (b : List Int), Pt n b → (∀ p ∈ l, Pt n p) → (redL n b (redL n b l)).length = (redL n b l).length
  | [], _, _, _ => rfl
  | p :: l, b, hb, hp => by
    have hp1 := hp p (List.mem_cons_self ..)
    have hpl : ∀ q ∈ l, Pt n q := fun q hq => hp q (List.mem_cons_of_mem _ hq)
    by_cases h1 : classN (mtP b (mtL n l)) = n
    · have e : redL n b (p :: l) = redL n b l := by show (if _ then _ else _) = _; rw [if_pos h1]
      rw [e]; exact red_idem hn l b hb hpl
    · have e : redL n b (p :: l) = p :: redL n (mtP b p) l := by show (if _ then _ else _) = _; rw [if_neg h1]
      have hpr : ∀ q ∈ redL n (mtP b p) l, Pt n q := fun q hq => hpl q (red_sub n l _ hq)
      have h2 : ¬ classN (mtP b (mtL n (redL n (mtP b p) l))) = n := fun h2 => h1 ((mt_disc hn hb hpl).2 fun x y hx hy a => (mt_disc hn hb hpr).1 h2 x y hx hy ⟨a.1, fun q hq => a.2 q (red_sub n l _ hq)⟩)
      have e2 : redL n b (p :: redL n (mtP b p) l) = p :: redL n (mtP b p) (redL n (mtP b p) l) := by show (if _ then _ else _) = _; rw [if_neg h2]
      rw [e, e2, List.length_cons, List.length_cons, red_idem hn l (mtP b p) (hb.mt hp1) hpl]
structure DecOk (t : List (List Int)) (R : List (List Int)) : Prop where
  chk : Chk t R
  nil : R.length = 0 ↔ t.length = 1
theorem dec_ok {t K : List (List Int)} (hs : Semi t) (hk : ∀ p ∈ K, IsCg t p 0 ∧ Irr (quoL t p)) (hd : Disc t.length fun x y => ∀ p ∈ K, kerP p x y) : DecOk t (redL t.length (List.replicate t.length 0) K) := by
  have hn : t.length ≤ 4096 := by have := hs.most; omega
  have h0 := hs.pos
  have hT := Pt.triv (n := t.length) hn
  have hp : ∀ p ∈ K, Pt t.length p := fun p h => (hk p h).1.pt
  have hR : ∀ p ∈ redL t.length (List.replicate t.length 0) K, IsCg t p 0 ∧ Irr (quoL t p) := fun p h => hk p (red_sub _ _ _ h)
  have hRp : ∀ p ∈ redL t.length (List.replicate t.length 0) K, Pt t.length p := fun p h => (hR p h).1.pt
  have hD := red_disc hn K _ hT hp fun x y hx hy e => hd x y hx hy e.2
  have hm : classN (mtL t.length (redL t.length (List.replicate t.length 0) K)) = t.length := (cls_disc (Pt.mtL hn hRp)).2 fun x y hx hy e => hD x y hx hy ⟨triv_ker _ _ _, (mtL_ker hn hx hy hRp).1 e⟩
  have hc : Chk t (redL t.length (List.replicate t.length 0) K) := chk_iff.2 ⟨hs, fun p h => (hR p h).1, fun p h => (hR p h).2, (meet_iff hn hRp).1 hm, (red_iff hn hRp).1 (red_idem hn K _ hT hp)⟩
  refine ⟨hc, fun h => ?_, fun h => by have := hc.few; omega⟩
  have e := List.eq_nil_of_length_eq_zero h
  rw [e] at hD
  refine Classical.byContradiction fun h1 => ?_
  have := hD 0 1 (by omega) (by omega) ⟨triv_ker _ _ _, fun _ h => absurd h List.not_mem_nil⟩
  omega
structure DcI (t : List (List Int)) (x : Nat) (K : List (List Int)) (m : List Int) : Prop where
  ok : ∀ p ∈ K, IsCg t p 0 ∧ Irr (quoL t p)
  mp : Pt t.length m
  ker : ∀ a b, a < t.length → b < t.length → (kerP m a b ↔ ∀ p ∈ K, kerP p a b)
  sep : ∀ a b, a < x → a < b → b < t.length → ¬ kerP m a b
  len : K.length + 1 ≤ classN m
section
variable {t K : List (List Int)} {x y : Nat} {m p : List Int}
theorem DcI.start (hs : Semi t) : DcI t 0 [] (List.replicate t.length 0) :=
  ⟨fun _ h => absurd h List.not_mem_nil, Pt.triv (by have := hs.most; omega), fun a b _ _ => ⟨fun _ _ h => absurd h List.not_mem_nil, fun _ => triv_ker _ a b⟩, fun _ _ h => absurd h (Nat.not_lt_zero _), by
    have : (0 : Int) ∈ firsts (List.replicate t.length (0 : Int)) := mem_firsts.2 (List.mem_replicate.2 ⟨by have := hs.pos; omega, rfl⟩)
    exact List.length_pos_of_mem this⟩
theorem DcI.row (h : DcI t x K m) (hn : ∀ b, x < b → b < t.length → ¬ kerP m x b) : DcI t (x + 1) K m :=
  ⟨h.ok, h.mp, h.ker, fun a b ha hab hb => by
    by_cases e : a = x
    · subst e; exact hn b hab hb
    · exact h.sep a b (by omega) hab hb, h.len⟩
theorem mt_more (hm : Pt t.length m) (hp : Pt t.length p) (hx : x < t.length) (hy : y < t.length) (hk : kerP m x y) (ha : ¬ kerP p x y) : classN m < classN (mtP m p) := by
  have hM := hm.mt hp
  have hs := same_count hm.2.2 hM.2.2 (by rw [hm.1, hM.1]) fun a b ha hb e => ((mtP_ker hm hp (by rw [← hm.1]; exact ha) (by rw [← hm.1]; exact hb)).1 e).1
  refine Nat.lt_of_le_of_ne hs.1 fun e => ?_
  have e2 := hs.2 e
  rw [← e2] at hk
  exact ha ((mtP_ker hm hp hx hy).1 hk).2
theorem DcI.add (h : DcI t x K m) (hx : x < t.length) (hy : y < t.length) (hk : kerP m x y) (hp : AptOk t x y p) : DcI t x (K ++ [p]) (mtP m p) := by
  refine ⟨fun q hq => ?_, h.mp.mt hp.cg.pt, fun a b ha hb => ?_, fun a b ha hab hb e => ?_, ?_⟩
  · rcases List.mem_append.1 hq with hq | hq
    · exact h.ok q hq
    · rw [List.mem_singleton.1 hq]; exact ⟨hp.cg, hp.irr⟩
  · rw [mtP_ker h.mp hp.cg.pt ha hb, h.ker a b ha hb]
    exact ⟨fun ⟨h1, h2⟩ q hq => (List.mem_append.1 hq).elim (h1 q) fun hq => by rw [List.mem_singleton.1 hq]; exact h2, fun h => ⟨fun q hq => h q (List.mem_append_left _ hq), h p (List.mem_append_right _ (List.mem_singleton.2 rfl))⟩⟩
  · exact h.sep a b ha hab hb ((mtP_ker h.mp hp.cg.pt (by omega) hb).1 e).1
  · have := h.len
    have := mt_more h.mp hp.cg.pt hx hy hk hp.ap
    rw [List.length_append, List.length_singleton]; omega
theorem DcI.done (h : DcI t x K m) (hs : Semi t) (hx : t.length ≤ x) : DecOk t (redL t.length (List.replicate t.length 0) K) :=
  dec_ok hs h.ok fun a b ha hb e => by
    have e := (h.ker a b ha hb).2 e
    refine Classical.byContradiction fun hne => ?_
    by_cases hab : a < b
    · exact h.sep a b (by omega) hab hb e
    · exact h.sep b a (by omega) (by omega) ha e.symm
theorem DcI.cls (h : DcI t x K m) : classN m ≤ t.length := by rw [← h.mp.1]; exact firsts_le _
end
theorem decN_fn (t : List (List Int)) (h : validV t ≠ 0) : QF 17 [.ro (.rows .i64 t)] (.tup [.nils, .int .i64 (validV t)]) := mkQ Try.func17 (by decide +kernel) rfl (Nat.le_of_ble_eq_true rfl) fun _ => by
  refine Or.inl (cq (valid_fn t) (And.intro rfl trivial) ?_)
  refine And.intro (fun _ => ?_) (fun h2 => absurd h2 h)
  exact And.intro trivial (And.intro rfl trivial)
set_option maxHeartbeats 2000000 in
theorem dec_fn (t : List (List Int)) (hs : Semi t) (ht : t.length ≤ 60) : EF 17 [.ro (.rows .i64 t)] (fun R : List (List Int) => .tup [.ro (.rows .i64 R), .int .i64 0]) (DecOk t) := mkE Try.func17 (by decide +kernel) rfl (Nat.le_of_ble_eq_true rfl) fun _ => by
  refine Or.inl (cq (valid_fn t) (And.intro rfl trivial) ?_)
  refine And.intro (fun h => absurd (valid_zero.2 hs) h) (fun _ => ?_)
  refine Or.inl (cq (ptriv_fn t.length (by omega)) (And.intro rfl trivial) ?_)
  refine Exists.intro [17, 8, 29, 31, 33, 35, 50, 9, 52, 55, 56, 57, 10017, 10050, 10057] <| lp3 (fun (x : Nat) (_ : List (List Int)) (m : List Int) => [(7, .int .i64 x), (5, .vec 54), (6, .ro (.ints .i64 m))]) (fun _ K _ => [(54, .vec 0 (.rows .i64 K) [])]) (fun x K m => x ≤ t.length ∧ DcI t x K m) (fun x _ m => (t.length - x) + (t.length - classN m)) 0 [] (List.replicate t.length 0) ⟨Nat.zero_le _, DcI.start hs⟩ (by repeat' first | refine And.intro ?_ ?_ | exact True.intro | (show (_ : Int) = (_ : Int); omega) | omega | exact rfl | (simp only [RO.len]; omega)) ?_
  rintro x K m ⟨hx, hI⟩
  have hml := hI.mp.1
  have hcls := hI.cls
  have hKl := hI.len
  refine And.intro (fun h1 => ?_) (fun h1 => ?_)
  · have h1 : (x : Int) < (t.length : Int) := h1
    refine And.intro (by omega) ?_
    refine Exists.intro [] <| lp (X := Nat) (fun y => [(8, .int .i64 y)]) (fun _ => []) (fun y => x < y ∧ y ≤ t.length ∧ ∀ b, x < b → b < y → ¬ kerP m x b) (fun y => t.length - y) (x + 1) ⟨by omega, by omega, fun b h2 h3 => by omega⟩ (by repeat' first | refine And.intro ?_ ?_ | exact True.intro | (show (_ : Int) = (_ : Int); omega) | omega | exact rfl | (simp only [RO.len]; omega)) ?_
    rintro y ⟨hxy, hy, hb⟩
    refine Or.inl ?_
    refine Exists.intro (List.replicate 15 false) (And.intro (by decide +kernel) ?_)
    refine And.intro (fun h2 => ?_) (fun h2 => ?_)
    · have h2 : (y : Int) < (t.length : Int) := h2
      refine And.intro (show 0 ≤ (x : Int) ∧ (x : Int) < (m.length : Int) by omega) ?_
      refine And.intro (show 0 ≤ (y : Int) ∧ (y : Int) < (m.length : Int) by omega) ?_
      refine And.intro (fun h3 => ?_) (fun h3 => ?_)
      · have h3 : ¬ kerP m x y := h3
        refine And.intro (by omega) ?_
        refine nx (y + 1) ⟨by omega, by omega, fun b h4 h5 => ?_⟩ (show t.length - (y + 1) < t.length - y by omega) (by repeat' first | refine And.intro ?_ ?_ | exact True.intro | (show (_ : Int) = (_ : Int); omega) | omega | exact rfl | (simp only [RO.len]; omega))
        by_cases e : b = y
        · subst e; exact h3
        · exact hb b h4 (by omega)
      · have h3 : kerP m x y := h3
        refine And.intro (fun h4 => ?_) (fun _ => ?_)
        · have h4 : (y : Int) = (t.length : Int) := h4
          omega
        refine Or.inr (Or.inr (ce (apt_fn t x y hs ht (by omega) (by omega) (by omega)) (And.intro rfl (And.intro rfl (And.intro rfl trivial))) ?_))
        intro p hp
        have hp : AptOk t x y p := hp
        have hKa : (K ++ [p]).length = K.length + 1 := by simp
        refine And.intro (by omega) ?_
        refine Or.inl (cq (pmt_fn hI.mp hp.cg.pt) (And.intro rfl (And.intro rfl trivial)) ?_)
        have hI2 := hI.add (by omega) (by omega) h3 hp
        have hmore := mt_more hI.mp hp.cg.pt (by omega) (by omega) h3 hp.ap
        have hc2 := hI2.cls
        exact nx (x, K ++ [p], mtP m p) ⟨hx, hI2⟩ (show (t.length - x) + (t.length - classN (mtP m p)) < (t.length - x) + (t.length - classN m) by omega) (by repeat' first | refine And.intro ?_ ?_ | exact True.intro | (show (_ : Int) = (_ : Int); omega) | omega | exact rfl | (simp only [RO.len]; omega))
    · have h2 : (t.length : Int) ≤ (y : Int) := h2
      refine And.intro (fun _ => ?_) (fun h4 => ?_)
      · refine And.intro (by omega) ?_
        exact nx (x + 1, K, m) ⟨by omega, hI.row fun b h3 h4 => hb b h3 (by omega)⟩ (show (t.length - (x + 1)) + (t.length - classN m) < (t.length - x) + (t.length - classN m) by omega) (by repeat' first | refine And.intro ?_ ?_ | exact True.intro | (show (_ : Int) = (_ : Int); omega) | omega | exact rfl | (simp only [RO.len]; omega))
      · have h4 : ¬ (y : Int) = (t.length : Int) := h4
        omega
  · have h1 : (t.length : Int) ≤ (x : Int) := h1
    refine Or.inl (cq (sred_fn t.length K hs.pos (by omega) (by omega) fun p h => (hI.ok p h).1.pt) (And.intro rfl (And.intro rfl trivial)) ?_)
    refine Exists.intro (redL t.length (List.replicate t.length 0) K) (And.intro (hI.done hs (by omega)) ?_)
    repeat' first | refine And.intro ?_ ?_ | exact True.intro | omega | exact rfl
end Go.Proofs.Ytkbhgnbnnbengaa
end
section
/- Direct products and subdirect decompositions: plain laws. -/
namespace Go.Proofs.Ytkbhgnbnnbengaa
open Go Go.AM
set_option maxRecDepth 100000
section
variable {t u : List (List Int)}
theorem dir_div {a : Nat} (ha : a < t.length * u.length) : a / u.length < t.length := Nat.div_lt_of_lt_mul (by rw [Nat.mul_comm]; exact ha)
theorem dir_mod {a : Nat} (hu : 0 < u.length) : a % u.length < u.length := Nat.mod_lt _ hu
theorem dir_eq {m a b : Nat} (h1 : a / m = b / m) (h2 : a % m = b % m) : a = b := by
  rw [← Nat.div_add_mod a m, ← Nat.div_add_mod b m, h1, h2]
theorem dirE_nat (ht : Sh t) (hu : Sh u) {a b : Nat} (ha : a < t.length * u.length) (hb : b < t.length * u.length) :
    dirE t u a b = ((en t (a / u.length) (b / u.length) * u.length + en u (a % u.length) (b % u.length) : Nat) : Int) := by
  unfold dirE
  rw [(ht.ent (dir_div ha) (dir_div hb)).1, (hu.ent (dir_mod hu.pos) (dir_mod hu.pos)).1, Int.natCast_add, Int.natCast_mul]
theorem dir_en (ht : Sh t) (hu : Sh u) {a b : Nat} (ha : a < t.length * u.length) (hb : b < t.length * u.length) :
    en (dirL t u) a b = en t (a / u.length) (b / u.length) * u.length + en u (a % u.length) (b % u.length) := by
  unfold en; rw [dirL_get ha hb, dirE_nat ht hu ha hb]; rfl
theorem dir_fst (ht : Sh t) (hu : Sh u) {a b : Nat} (ha : a < t.length * u.length) (hb : b < t.length * u.length) : en (dirL t u) a b / u.length = en t (a / u.length) (b / u.length) := by
  have h2 := (hu.ent (x := a % u.length) (y := b % u.length) (dir_mod hu.pos) (dir_mod hu.pos)).2
  rw [dir_en ht hu ha hb, Nat.mul_comm, Nat.mul_add_div hu.pos, Nat.div_eq_of_lt h2, Nat.add_zero]
theorem dir_snd (ht : Sh t) (hu : Sh u) {a b : Nat} (ha : a < t.length * u.length) (hb : b < t.length * u.length) : en (dirL t u) a b % u.length = en u (a % u.length) (b % u.length) := by
  have h2 := (hu.ent (x := a % u.length) (y := b % u.length) (dir_mod hu.pos) (dir_mod hu.pos)).2
  rw [dir_en ht hu ha hb, Nat.mul_comm, Nat.mul_add_mod, Nat.mod_eq_of_lt h2]
end
def kerL (n : Nat) (f : Nat → Nat) : List Int := canon ((List.range n).map fun a => (f a : Int))
theorem kerL_ker {n : Nat} {f : Nat → Nat} {a b : Nat} (ha : a < n) (hb : b < n) : kerP (kerL n f) a b ↔ f a = f b := by
  unfold kerP kerL
  rw [canon_eq_iff (d := 0) (by simpa using ha) (by simpa using hb)]
  simp [List.getD, ha, hb]
  omega
theorem kerL_cg {d : List (List Int)} (hd : Semi d) {f : Nat → Nat} (h : ∀ x y s, x < d.length → y < d.length → s < d.length → f x = f y → f (en d s x) = f (en d s y) ∧ f (en d x s) = f (en d y s)) : IsCg d (kerL d.length f) 0 := by
  have hS := hd.toSh
  refine ⟨hd, by unfold kerL; rw [canon_length]; simp, ⟨by unfold kerL; rw [canon_length]; simp; have := hS.most; omega, canon_idem _⟩, by decide, fun x y s hx hy hs e => ?_⟩
  have k := h x y s hx hy hs ((kerL_ker hx hy).1 e)
  exact ⟨fun _ => (kerL_ker (hS.ent hs hx).2 (hS.ent hs hy).2).2 k.1, fun _ => (kerL_ker (hS.ent hx hs).2 (hS.ent hy hs).2).2 k.2⟩
theorem min_below {t : List (List Int)} : ∀ (k : Nat) (q : List Int), t.length - classN q ≤ k → IsCg t q 0 → Joins t.length q → ∃ m, MinC t m ∧ Sub t.length m q := by
  intro k
  induction k with
  | zero =>
    intro q hk hq hj
    have hle : classN q ≤ t.length := by rw [← hq.len]; exact firsts_le _
    obtain ⟨x, y, hx, hy, hne, e⟩ := hj
    exact absurd ((cls_disc hq.pt).1 (by omega) x y hx hy e) hne
  | succ k ih =>
    intro q hk hq hj
    by_cases hm : MinC t q
    · exact ⟨q, hm, fun _ _ _ _ e => e⟩
    · have : ∃ q', IsCg t q' 0 ∧ Joins t.length q' ∧ Sub t.length q' q ∧ ¬ Sub t.length q q' := Classical.byContradiction fun hno => hm ⟨hq, hj, fun q' h1 h2 h3 => Classical.byContradiction fun h4 => hno ⟨q', h1, h2, h3, h4⟩⟩
      obtain ⟨q', h1, h2, h3, h4⟩ := this
      have hc := same_count hq.val.2 h1.val.2 (by rw [hq.len, h1.len]) (fun x y hx hy e => h3 x y (by rw [← hq.len]; exact hx) (by rw [← hq.len]; exact hy) e)
      have hlt : classN q < classN q' := Nat.lt_of_le_of_ne hc.1 fun e => h4 (by rw [hc.2 e]; exact fun _ _ _ _ e => e)
      obtain ⟨m, hm1, hm2⟩ := ih q' (by omega) h1 h2
      exact ⟨m, hm1, fun x y hx hy e => h3 x y hx hy (hm2 x y hx hy e)⟩
theorem irr_sub {t : List (List Int)} {q : List Int} (h : Irr t) (hq : IsCg t q 0) (hj : Joins t.length q) : Sub t.length ((minsL t).getD 0 []) q := by
  obtain ⟨m, hm, hs⟩ := min_below _ q (Nat.le_refl _) hq hj
  obtain ⟨i, hi, rfl⟩ := mem_getD [] ((mins_mem h.1 m).2 hm)
  have : i = 0 := by have := h.2; omega
  subst this; exact hs
theorem dir_irr {t u : List (List Int)} (ht : Semi t) (hu : Semi u) (hn : t.length * u.length ≤ 400) (h2 : 2 ≤ t.length) (h3 : 2 ≤ u.length) : ¬ Irr (dirL t u) := fun h => by
  have hT := ht.toSh
  have hU := hu.toSh
  have hl := dirL_len t u
  have h4 : 2 * 2 ≤ t.length * u.length := Nat.mul_le_mul h2 h3
  have h5 : 2 * u.length ≤ t.length * u.length := Nat.mul_le_mul_right _ h2
  have c1 : IsCg (dirL t u) (kerL (dirL t u).length fun a => a / u.length) 0 := kerL_cg h.1 fun x y s hx hy hs e => by
    rw [hl] at hx hy hs
    have e : x / u.length = y / u.length := e
    show en _ _ _ / _ = en _ _ _ / _ ∧ en _ _ _ / _ = en _ _ _ / _
    rw [dir_fst hT hU hs hx, dir_fst hT hU hs hy, dir_fst hT hU hx hs, dir_fst hT hU hy hs, e]
    exact ⟨rfl, rfl⟩
  have c2 : IsCg (dirL t u) (kerL (dirL t u).length fun a => a % u.length) 0 := kerL_cg h.1 fun x y s hx hy hs e => by
    rw [hl] at hx hy hs
    have e : x % u.length = y % u.length := e
    show en _ _ _ % _ = en _ _ _ % _ ∧ en _ _ _ % _ = en _ _ _ % _
    rw [dir_snd hT hU hs hx, dir_snd hT hU hs hy, dir_snd hT hU hx hs, dir_snd hT hU hy hs, e]
    exact ⟨rfl, rfl⟩
  have j1 : Joins (dirL t u).length (kerL (dirL t u).length fun a => a / u.length) := ⟨0, 1, by omega, by omega, by omega, (kerL_ker (by omega) (by omega)).2 (by show 0 / _ = 1 / _; rw [Nat.div_eq_of_lt (by omega), Nat.div_eq_of_lt (by omega)])⟩
  have j2 : Joins (dirL t u).length (kerL (dirL t u).length fun a => a % u.length) := ⟨0, u.length, by omega, by omega, by omega, (kerL_ker (by omega) (by omega)).2 (by show 0 % _ = _ % _; rw [Nat.mod_self, Nat.zero_mod])⟩
  have s1 := irr_sub h c1 j1
  have s2 := irr_sub h c2 j2
  obtain ⟨x, y, hx, hy, hne, e⟩ := ((mins_mem h.1 _).1 (getD_mem (d := []) (l := minsL (dirL t u)) (i := 0) (by have := h.2; omega))).jo
  exact hne (dir_eq (m := u.length) ((kerL_ker hx hy).1 (s1 x y hx hy e)) ((kerL_ker hx hy).1 (s2 x y hx hy e)))
theorem dec_disc {t R : List (List Int)} (h : DecOk t R) : Disc t.length fun x y => ∀ p ∈ R, kerP p x y := fun x y hx hy e => by
  have hn : t.length ≤ 4096 := by have := h.chk.semi.most; omega
  have hpt : ∀ p ∈ R, Pt t.length p := fun p hp => (h.chk.cg p hp).pt
  exact (cls_disc (Pt.mtL hn hpt)).1 h.chk.meet x y hx hy ((mtL_ker hn hx hy hpt).2 e)
def pulL (N : Nat) (p : List Int) (f : Nat → Nat) (c : Nat) : List Int := (List.range c).map fun a => p.getD (f a) 0
theorem pul_len (N : Nat) (p : List Int) (f : Nat → Nat) (c : Nat) : (pulL N p f c).length = c := by simp [pulL]
theorem pul_succ (N : Nat) (p : List Int) (f : Nat → Nat) (c : Nat) : pulL N p f (c + 1) = pulL N p f c ++ [p.getD (f c) 0] := by simp [pulL, List.range_succ]
theorem pul_ker {N : Nat} {p : List Int} {f : Nat → Nat} {a b : Nat} (ha : a < N) (hb : b < N) : kerP (canon (pulL N p f N)) a b ↔ kerP p (f a) (f b) := by
  unfold kerP
  rw [canon_eq_iff (d := 0) (by rw [pul_len]; exact ha) (by rw [pul_len]; exact hb)]
  simp [pulL, List.getD, ha, hb]
theorem pul_pt {N : Nat} (hN : N ≤ 4096) {p : List Int} {f : Nat → Nat} : Pt N (canon (pulL N p f N)) :=
  ⟨by rw [canon_length, pul_len], by rw [canon_length, pul_len]; exact hN, canon_idem _⟩
structure PrdI (N : Nat) (A B : List (List Int)) (f g : Nat → Nat) (i j : Nat) (m : List Int) : Prop where
  pt : Pt N m
  ker : ∀ a b, a < N → b < N → (kerP m a b ↔ (∀ k, k < i → kerP (A.getD k []) (f a) (f b)) ∧ ∀ k, k < j → kerP (B.getD k []) (g a) (g b))
theorem PrdI.start {N : Nat} (hN : N ≤ 4096) {A B : List (List Int)} {f g : Nat → Nat} : PrdI N A B f g 0 0 (List.replicate N 0) :=
  ⟨Pt.triv hN, fun a b _ _ => ⟨fun _ => ⟨fun k h => absurd h (Nat.not_lt_zero _), fun k h => absurd h (Nat.not_lt_zero _)⟩, fun _ => triv_ker N a b⟩⟩
theorem PrdI.fst {N : Nat} (hN : N ≤ 4096) {A B : List (List Int)} {f g : Nat → Nat} {i j : Nat} {m : List Int} (h : PrdI N A B f g i j m) : PrdI N A B f g (i + 1) j (mtP m (canon (pulL N (A.getD i []) f N))) := by
  refine ⟨h.pt.mt (pul_pt hN), fun a b ha hb => ?_⟩
  rw [mtP_ker h.pt (pul_pt hN) ha hb, h.ker a b ha hb, pul_ker ha hb]
  exact ⟨fun ⟨⟨h1, h2⟩, h3⟩ => ⟨fun k hk => if e : k = i then e ▸ h3 else h1 k (by omega), h2⟩, fun ⟨h1, h2⟩ => ⟨⟨fun k hk => h1 k (by omega), h2⟩, h1 i (by omega)⟩⟩
theorem PrdI.snd {N : Nat} (hN : N ≤ 4096) {A B : List (List Int)} {f g : Nat → Nat} {i j : Nat} {m : List Int} (h : PrdI N A B f g i j m) : PrdI N A B f g i (j + 1) (mtP m (canon (pulL N (B.getD j []) g N))) := by
  refine ⟨h.pt.mt (pul_pt hN), fun a b ha hb => ?_⟩
  rw [mtP_ker h.pt (pul_pt hN) ha hb, h.ker a b ha hb, pul_ker ha hb]
  exact ⟨fun ⟨⟨h1, h2⟩, h3⟩ => ⟨h1, fun k hk => if e : k = j then e ▸ h3 else h2 k (by omega)⟩, fun ⟨h1, h2⟩ => ⟨⟨h1, fun k hk => h2 k (by omega)⟩, h2 j (by omega)⟩⟩
theorem PrdI.done {t u A B : List (List Int)} (hA : DecOk t A) (hB : DecOk u B) {m : List Int} (h : PrdI (t.length * u.length) A B (fun a => a / u.length) (fun a => a % u.length) A.length B.length m) : classN m = t.length * u.length := by
  refine (cls_disc h.pt).2 fun a b ha hb e => ?_
  have k := (h.ker a b ha hb).1 e
  have hu := hB.chk.semi.pos
  refine dir_eq (m := u.length) (dec_disc hA _ _ (dir_div ha) (dir_div hb) fun p hp => ?_) (dec_disc hB _ _ (dir_mod hu) (dir_mod hu) fun p hp => ?_)
  · obtain ⟨j, hj, rfl⟩ := mem_getD [] hp; exact k.1 j hj
  · obtain ⟨j, hj, rfl⟩ := mem_getD [] hp; exact k.2 j hj
end Go.Proofs.Ytkbhgnbnnbengaa
end
section
/- The statement SubdirectProducts: the walk. -/
namespace Go.Proofs.Ytkbhgnbnnbengaa
open Go Go.AM
set_option maxRecDepth 100000
set_option maxHeartbeats 2000000 in
theorem sdPrd_fn (t u : List (List Int)) : QF 7 [.ro (.rows .i64 t), .ro (.rows .i64 u)] (.bool (.lit true)) := mkQ Try.func7 (by decide +kernel) rfl (Nat.le_of_ble_eq_true rfl) fun _ => by
  refine Or.inl (cq (small22_fn t 3) (And.intro rfl (And.intro rfl trivial)) ?_)
  refine And.intro (fun _ => ?_) (fun h1 => ?_)
  · refine Or.inl (cq awake22_fn trivial ?_)
    exact And.intro rfl trivial
  have h1 : (!decide ((t.length : Int) ≤ 3 ∧ validV t = 0)) = false := h1
  have h1 : (t.length : Int) ≤ 3 ∧ validV t = 0 := by simpa using h1
  have ht := valid_zero.1 h1.2
  have htn := h1.1
  refine Or.inl (cq (small22_fn u 3) (And.intro rfl (And.intro rfl trivial)) ?_)
  refine And.intro (fun _ => ?_) (fun h2 => ?_)
  · refine Or.inl (cq awake22_fn trivial ?_)
    exact And.intro rfl trivial
  have h2 : (!decide ((u.length : Int) ≤ 3 ∧ validV u = 0)) = false := h2
  have h2 : (u.length : Int) ≤ 3 ∧ validV u = 0 := by simpa using h2
  have hu := valid_zero.1 h2.2
  have hun := h2.1
  refine And.intro (fun _ => ?_) (fun h3 => ?_)
  · refine Or.inl (cq awake22_fn trivial ?_)
    exact And.intro rfl trivial
  have h3 : 2 ≤ (t.length : Int) := h3
  refine And.intro (fun _ => ?_) (fun h4 => ?_)
  · refine Or.inl (cq awake22_fn trivial ?_)
    exact And.intro rfl trivial
  have h4 : 2 ≤ (u.length : Int) := h4
  have h9 : t.length * u.length ≤ 3 * 3 := Nat.mul_le_mul (by omega) (by omega)
  have hN : ((t.length * u.length : Nat) : Int) = (t.length : Int) * (u.length : Int) := Int.natCast_mul ..
  have hdl := dirL_len t u
  have hdi := dir_irr ht hu (by omega) (by omega) (by omega)
  refine Or.inl (cq (direct_fn t u ht hu (by omega)) (And.intro rfl (And.intro rfl trivial)) ?_)
  refine Or.inl (cq (sirr0_fn (dirL t u) hdi (fun _ => by omega)) (And.intro rfl trivial) ?_)
  refine Or.inr (Or.inr (ce (dec_fn t ht (by omega)) (And.intro rfl trivial) ?_))
  intro A hA
  have hA : DecOk t A := hA
  refine Or.inr (Or.inr (ce (dec_fn u hu (by omega)) (And.intro rfl trivial) ?_))
  intro B hB
  have hB : DecOk u B := hB
  have hAf := hA.chk.few
  have hBf := hB.chk.few
  have hAp : ∀ p ∈ A, p.length = t.length := fun p hp => (hA.chk.cg p hp).len
  have hBp : ∀ p ∈ B, p.length = u.length := fun p hp => (hB.chk.cg p hp).len
  refine And.intro (fun h => absurd rfl h) (fun _ => ?_)
  refine And.intro (fun h => absurd rfl h) (fun _ => ?_)
  refine And.intro (by omega) ?_
  refine And.intro (fun h5 => ?_) (fun _ => ?_)
  · have h5 : ¬ ((dirL t u).length : Int) = (t.length : Int) * (u.length : Int) := h5
    omega
  refine Or.inl (cq (ptriv_fn (dirL t u).length (by omega)) (And.intro rfl trivial) ?_)
  refine Exists.intro [12, 79, 10079, 10105] <| lp2 (fun (i : Nat) (m : List Int) => [(82, .int .i64 i), (12, .ro (.ints .i64 m))]) (fun _ _ => []) (fun i m => i ≤ A.length ∧ PrdI (t.length * u.length) A B (fun a => a / u.length) (fun a => a % u.length) i 0 m) (fun i _ => A.length - i) 0 (List.replicate (dirL t u).length 0) ⟨Nat.zero_le _, hdl ▸ PrdI.start (by omega)⟩ (by repeat' first | refine And.intro ?_ ?_ | exact True.intro | (show (_ : Int) = (_ : Int); omega) | omega | exact rfl | (simp only [RO.len]; omega)) ?_
  rintro i m ⟨hi, hI⟩
  refine And.intro (fun h6 => ?_) (fun h6 => ?_)
  · have h6 : (i : Int) < (A.length : Int) := h6
    have hil : i < A.length := by omega
    have hpl := hAp _ (getD_mem (d := []) hil)
    refine And.intro (by omega) ?_
    refine Exists.intro [] <| lp (X := Nat) (fun c => [(88, .int .i64 c), (15, .vec 100)]) (fun c => [(100, .vec 0 (.ints .i64 (pulL (t.length * u.length) (A.getD i []) (fun a => a / u.length) c)) [])]) (fun c => c ≤ (dirL t u).length) (fun c => (dirL t u).length - c) 0 (Nat.zero_le _) (by repeat' first | refine And.intro ?_ ?_ | exact True.intro | (show (_ : Int) = (_ : Int); omega) | omega | exact rfl | (simp only [RO.len]; omega)) ?_
    rintro c hc
    refine And.intro (fun h7 => ?_) (fun h7 => ?_)
    · have h7 : (c : Int) < ((dirL t u).length : Int) := h7
      have hcl : c < t.length * u.length := by omega
      have hu0 : 0 < u.length := by omega
      have hdv := dir_div (t := t) (u := u) hcl
      have hcd : (c : Int) / (u.length : Int) = ((c / u.length : Nat) : Int) := (Int.natCast_ediv ..).symm
      have he : pulL (t.length * u.length) (A.getD i []) (fun a => a / u.length) c ++ [(A.getD i []).getD ((c : Int) / (u.length : Int)).toNat 0] = pulL (t.length * u.length) (A.getD i []) (fun a => a / u.length) (c + 1) := by
        rw [pul_succ, hcd, Int.toNat_natCast]
      have hlen : (pulL (t.length * u.length) (A.getD i []) (fun a => a / u.length) c ++ [(A.getD i []).getD ((c : Int) / (u.length : Int)).toNat 0]).length = c + 1 := by rw [he, pul_len]
      refine And.intro (by omega) ?_
      refine And.intro (show 0 ≤ (c : Int) / (u.length : Int) ∧ (c : Int) / (u.length : Int) < ((A.getD i []).length : Int) from ⟨by rw [hcd]; exact Int.natCast_nonneg _, by rw [hcd, hpl]; exact Int.ofNat_lt.2 hdv⟩) ?_
      refine And.intro (show ((pulL (t.length * u.length) (A.getD i []) (fun a => a / u.length) c ++ [(A.getD i []).getD ((c : Int) / (u.length : Int)).toNat 0]).length : Int) ≤ 17592186044416 by omega) ?_
      refine And.intro (by omega) ?_
      exact nx (c + 1) (show c + 1 ≤ (dirL t u).length by omega) (show (dirL t u).length - (c + 1) < (dirL t u).length - c by omega) (by repeat' first | refine And.intro ?_ ?_ | exact True.intro | exact congrArg (RO.ints .i64) he | omega | exact rfl)
    · have h7 : ((dirL t u).length : Int) ≤ (c : Int) := h7
      have hce : c = t.length * u.length := by omega
      have hcan := Canonical_fn (pulL (t.length * u.length) (A.getD i []) (fun a => a / u.length) c)
      rw [if_pos (by rw [pul_len]; omega)] at hcan
      refine Or.inl (cq hcan (And.intro rfl trivial) ?_)
      subst hce
      have hI2 := hI.fst (by omega)
      refine Or.inl (cq (pmt_fn hI.pt (pul_pt (by omega))) (And.intro rfl (And.intro rfl trivial)) ?_)
      refine And.intro (by omega) ?_
      exact nx (i + 1, mtP m (canon (pulL (t.length * u.length) (A.getD i []) (fun a => a / u.length) (t.length * u.length)))) ⟨by omega, hI2⟩ (show A.length - (i + 1) < A.length - i by omega) (by repeat' first | refine And.intro ?_ ?_ | exact True.intro | (show (_ : Int) = (_ : Int); omega) | omega | exact rfl | (simp only [RO.len]; omega))
  · have h6 : (A.length : Int) ≤ (i : Int) := h6
    have hie : i = A.length := by omega
    subst hie
    refine Exists.intro [12, 10132] <| lp2 (fun (j : Nat) (m : List Int) => [(109, .int .i64 j), (12, .ro (.ints .i64 m))]) (fun _ _ => []) (fun j m => j ≤ B.length ∧ PrdI (t.length * u.length) A B (fun a => a / u.length) (fun a => a % u.length) A.length j m) (fun j _ => B.length - j) 0 m ⟨Nat.zero_le _, hI⟩ (by repeat' first | refine And.intro ?_ ?_ | exact True.intro | (show (_ : Int) = (_ : Int); omega) | omega | exact rfl | (simp only [RO.len]; omega)) ?_
    rintro j m2 ⟨hj, hJ⟩
    refine And.intro (fun h6 => ?_) (fun h6 => ?_)
    · have h6 : (j : Int) < (B.length : Int) := h6
      have hjl : j < B.length := by omega
      have hpl := hBp _ (getD_mem (d := []) hjl)
      refine And.intro (by omega) ?_
      refine Exists.intro [] <| lp (X := Nat) (fun c => [(115, .int .i64 c), (19, .vec 127)]) (fun c => [(127, .vec 0 (.ints .i64 (pulL (t.length * u.length) (B.getD j []) (fun a => a % u.length) c)) [])]) (fun c => c ≤ (dirL t u).length) (fun c => (dirL t u).length - c) 0 (Nat.zero_le _) (by repeat' first | refine And.intro ?_ ?_ | exact True.intro | (show (_ : Int) = (_ : Int); omega) | omega | exact rfl | (simp only [RO.len]; omega)) ?_
      rintro c hc
      refine And.intro (fun h7 => ?_) (fun h7 => ?_)
      · have h7 : (c : Int) < ((dirL t u).length : Int) := h7
        have hcl : c < t.length * u.length := by omega
        have hu0 : 0 < u.length := by omega
        have hdv := dir_mod (u := u) (a := c) hu0
        have hcd : (c : Int) % (u.length : Int) = ((c % u.length : Nat) : Int) := (Int.natCast_emod ..).symm
        have he : pulL (t.length * u.length) (B.getD j []) (fun a => a % u.length) c ++ [(B.getD j []).getD ((c : Int) % (u.length : Int)).toNat 0] = pulL (t.length * u.length) (B.getD j []) (fun a => a % u.length) (c + 1) := by
          rw [pul_succ, hcd, Int.toNat_natCast]
        have hlen : (pulL (t.length * u.length) (B.getD j []) (fun a => a % u.length) c ++ [(B.getD j []).getD ((c : Int) % (u.length : Int)).toNat 0]).length = c + 1 := by rw [he, pul_len]
        refine Or.inl (And.intro (by omega) ?_)
        refine And.intro (show 0 ≤ (c : Int) % (u.length : Int) ∧ (c : Int) % (u.length : Int) < ((B.getD j []).length : Int) from ⟨by rw [hcd]; exact Int.natCast_nonneg _, by rw [hcd, hpl]; exact Int.ofNat_lt.2 hdv⟩) ?_
        refine And.intro (show ((pulL (t.length * u.length) (B.getD j []) (fun a => a % u.length) c ++ [(B.getD j []).getD ((c : Int) % (u.length : Int)).toNat 0]).length : Int) ≤ 17592186044416 by omega) ?_
        refine And.intro (by omega) ?_
        exact nx (c + 1) (show c + 1 ≤ (dirL t u).length by omega) (show (dirL t u).length - (c + 1) < (dirL t u).length - c by omega) (by repeat' first | refine And.intro ?_ ?_ | exact True.intro | exact congrArg (RO.ints .i64) he | omega | exact rfl)
      · have h7 : ((dirL t u).length : Int) ≤ (c : Int) := h7
        have hce : c = t.length * u.length := by omega
        have hcan := Canonical_fn (pulL (t.length * u.length) (B.getD j []) (fun a => a % u.length) c)
        rw [if_pos (by rw [pul_len]; omega)] at hcan
        refine Or.inl (cq hcan (And.intro rfl trivial) ?_)
        subst hce
        have hJ2 := hJ.snd (by omega)
        refine Or.inl (cq (pmt_fn hJ.pt (pul_pt (by omega))) (And.intro rfl (And.intro rfl trivial)) ?_)
        refine And.intro (by omega) ?_
        exact nx (j + 1, mtP m2 (canon (pulL (t.length * u.length) (B.getD j []) (fun a => a % u.length) (t.length * u.length)))) ⟨by omega, hJ2⟩ (show B.length - (j + 1) < B.length - j by omega) (by repeat' first | refine And.intro ?_ ?_ | exact True.intro | (show (_ : Int) = (_ : Int); omega) | omega | exact rfl | (simp only [RO.len]; omega))
    · have h6 : (B.length : Int) ≤ (j : Int) := h6
      have hje : j = B.length := by omega
      subst hje
      have hcp := pcount_fn m2
      rw [if_pos hJ.pt.2, PrdI.done hA hB hJ] at hcp
      refine Or.inl (cq hcp (And.intro rfl trivial) ?_)
      refine And.intro (fun _ => ?_) (fun h8 => ?_)
      · refine Or.inl (cq awake22_fn trivial ?_)
        exact And.intro rfl trivial
      · have h8 : ¬ ((t.length * u.length : Nat) : Int) = ((dirL t u).length : Int) := h8
        omega
end Go.Proofs.Ytkbhgnbnnbengaa
end
section
/- From contracts to the given statements: how the arguments read, before and after. -/
namespace Go.Proofs.Ytkbhgnbnnbengaa
open Go Go.AM
open Go.ChangeShapes Go.WideShapes Go.ChangeAt Go.RowKit Go.Deep
def noM : Msk := fun _ _ => False
section
variable {H : Type} {enc : TypeId × Value → H} {P : Program} {w : World}
theorem wf_in {k : IntKind} {n : Int} (h : (Lit.int k n).wf = true) : inK k n := by
  simp only [Lit.wf, Bool.and_eq_true, decide_eq_true_eq] at h
  exact h
theorem weight_mem {e : TypeId} {d : DataW H} {x : Nat} : ∀ {l : List (DataW H)}, d ∈ l → x ∈ d.weights P e → x ∈ DataW.weightsAll P e l
  | [], h, _ => by cases h
  | c :: l, h, hx => by
    simp only [DataW.weightsAll, List.mem_append]
    rcases List.mem_cons.1 h with rfl | h
    · exact .inl hx
    · exact .inr (weight_mem h hx)
theorem rows_rep {t e q : TypeId} {n : Nat} {v : Value} {y : DataW H × List MemPlace} (ht : P.underlying t = some (.slice e)) (he : P.underlying e = some (.slice q)) (hq : P.underlying q = some (.int .i64)) (ce : P.cellsOf e = 1) (cq : P.cellsOf q = 1)
    (be : 1 ≤ P.bytesOf e) (bq : 1 ≤ P.bytesOf q) (h : DataW.trod enc P w 0 (fun _ => true) true n t [v] = some y) (hw : ∀ x ∈ y.1.weights P t, x ≤ reachBytes) : ∃ l, RepC noEnv w noM (.ro (.rows .i64 l)) v := by
  have hrb : reachBytes = 140737488351232 := rfl
  rcases open_int_rows ht he hq ce cq h with ⟨hv, _⟩ | ⟨a, len, cap, A, L, C, Z, hv, _, hl, hm, hy, hrows⟩
  · obtain rfl : v = .slice none 0 0 := by simpa using hv
    exact ⟨[], Nat.zero_le _, none, 0, rfl, Nat.le_refl _, .inl rfl⟩
  · obtain rfl : v = .slice (some a) len cap := by simpa using hv
    subst hy
    have hlen : len * P.bytesOf e ≤ reachBytes := by
      have := hw ((len + (cap - len)) * P.bytesOf e) (by simp [DataW.weights, ht])
      exact Nat.le_trans (Nat.mul_le_mul_right _ (by omega)) this
    have hlen1 : len ≤ reachBytes := Nat.le_trans (by have := Nat.mul_le_mul_left len be; omega) hlen
    have hL : ∀ r, r < len → L r ≤ reachBytes := fun r hr => by
      obtain ⟨_, h1, h2, h3, _, h4, _⟩ := hrows r (by omega)
      cases hA : A r with
      | none => have := h4 hA; omega
      | some a' =>
        have hx : (L r + ((Z r).length - L r)) * P.bytesOf q ≤ reachBytes := by
          refine hw _ ?_
          simp only [DataW.weights, ht, List.mem_cons, List.mem_append]
          refine .inr (.inl (weight_mem (d := intRow .i64 (A r) (L r) (Z r)) (List.mem_map.2 ⟨r, List.mem_range.2 hr, rfl⟩) ?_))
          rw [hA]
          simp [intRow, DataW.weights, he, lits]
          left
          rw [Nat.min_eq_left (by omega)]
        have h5 : L r * 1 ≤ (L r + ((Z r).length - L r)) * P.bytesOf q := Nat.mul_le_mul (by omega) bq
        omega
    refine ⟨(List.range len).map fun r => (Z r).take (L r), ?_⟩
    have hll : (RO.rows .i64 ((List.range len).map fun r => (Z r).take (L r))).len = len := by simp [RO.len]
    refine ⟨by rw [hll]; exact Nat.le_trans hlen1 (by rw [hrb]; decide), some a, cap, by rw [hll], by rw [hll]; exact hl, ?_⟩
    by_cases h0 : len = 0
    · exact .inl (by rw [RO.cells, hll, h0, Nat.zero_mul])
    have hcell0 := (hrows 0 (by omega)).1
    obtain ⟨b, off, spot⟩ := a
    have hspot : spot = none := by simpa [Addr.add] using World.cell?_spot hcell0
    subst hspot
    refine .inr ⟨b, off, rfl, fun r hr => ?_⟩
    have hr : r < len := by simpa [RO.cells, hll, RO.sz] using hr
    obtain ⟨h1, h2, h3, h4, h5, h6, h7⟩ := hrows r (by omega)
    refine ⟨.slice (A r) (L r) (C r), by rw [← add_plain]; exact h1, fun hh => hh, ?_⟩
    have hget : ((List.range len).map fun r => (Z r).take (L r)).getD r [] = (Z r).take (L r) := by simp [List.getD, hr]
    show SlI w noM .i64 (((List.range len).map fun r => (Z r).take (L r)).getD r []) _
    rw [hget]
    have hzl : ((Z r).take (L r)).length = L r := by rw [List.length_take]; omega
    refine ⟨by rw [hzl]; have := hL r hr; simp only [LB]; omega, A r, C r, by rw [hzl], by rw [hzl]; exact h2, ?_⟩
    by_cases hl0 : L r = 0
    · exact .inl (by rw [hzl, hl0])
    cases hA : A r with
    | none => have := h6 hA; omega
    | some a' =>
      obtain ⟨h8, h9⟩ := h7 a' hA
      obtain ⟨b', off', spot'⟩ := a'
      have hspot : spot' = none := by simpa [Addr.add] using World.cell?_spot (h9 0 (by omega))
      subst hspot
      refine .inr ⟨b', off', rfl, fun c hc => ?_⟩
      rw [hzl] at hc
      have hg2 : ((Z r).take (L r)).getD c 0 = (Z r).getD c 0 := by simp [List.getD, hc]
      refine ⟨.int .i64 ((Z r).getD c 0), by rw [← add_plain]; exact h9 c (by omega), fun hh => hh, by rw [hg2], ?_⟩
      rw [hg2]
      refine wf_in (h5 _ ?_)
      have : c < (Z r).length := by omega
      simp [List.getD, this]
theorem stp_heap {W W' : World} (hs : Stp (fun _ _ => False) W W') {b : Nat} (hb : b < W.heap.size) : W'.heap[b]? = W.heap[b]? := by
  rcases hs.2 b hb with h | ⟨cs, cs', ty, h1, h2, h3, h4⟩ | ⟨_, _, _, _, _, _, h⟩
  · exact h
  · rw [h1, h2]
    have : cs' = cs := Array.ext_getElem? fun i => h4 i (by simp)
    rw [this]
  · exact h.elim
theorem stp_trod {t : TypeId} (hl : laidOutB P = true) (hr : P.readableRec t = true) (hrow : t < P.types.size) {W W' : World} {v : Value} {d : DataW H} {ps : List MemPlace}
    (h : DataW.Trod enc P W 0 (fun _ => true) true t v d ps) (hs : Stp (fun _ _ => False) W W') (hlt : ∀ x ∈ ps, x.block < W.heap.size) (sp : Nat → Bool) (hsp : ∀ x ∈ ps, sp x.block = true) :
    DataW.Trod enc P W' 0 sp true t v d ps :=
  WideElems.Trod_stays hl hr hrow h (fun x hx => by
    have hb := hlt x hx
    cases x with
    | cell b o => exact World.cell?_of_block (w := W) (stp_heap hs hb)
    | map b => exact stp_heap hs hb) hsp
theorem stp_kept {W W' : World} (hs : Stp (fun _ _ => False) W W') (may : MemPlace → Prop) : W.keptBut W' may := by
  refine ⟨hs.3.1.1, hs.3.1.2, fun i hi => ?_⟩
  rw [stp_heap hs hi]
  cases W.heap[i]? with
  | none => exact rfl
  | some o => cases o <;> first | exact ⟨rfl, rfl, rfl, fun _ _ => rfl⟩ | exact .inr ⟨rfl, rfl⟩ | exact rfl
theorem each_mem : ∀ {ts : List TypeId} {ds : List (DataW H)} {j : Nat} {t : TypeId} {d : DataW H} {x : Nat}, ts[j]? = some t → ds[j]? = some d → x ∈ d.weights P t → x ∈ DataW.weightsEach P ts ds
  | [], _, j, _, _, _, h, _, _ => by simp at h
  | _ :: _, [], j, _, _, _, _, h, _ => by simp at h
  | t :: ts, d :: ds, 0, t', d', x, h1, h2, hx => by
    simp at h1 h2
    subst h1; subst h2
    simp [DataW.weightsEach, hx]
  | t :: ts, d :: ds, j + 1, t', d', x, h1, h2, hx => by
    have := each_mem (ts := ts) (ds := ds) (j := j) (by simpa using h1) (by simpa using h2) hx
    simp [DataW.weightsEach, this]
theorem rows_arg {t e q : TypeId} {r : Reach} {b0 : Nat} {v : Value} {d : DataW H} {p : List MemPlace} (ht : P.underlying t = some (.slice e)) (he : P.underlying e = some (.slice q)) (hq : P.underlying q = some (.int .i64)) (ce : P.cellsOf e = 1) (cq : P.cellsOf q = 1)
    (be : 1 ≤ P.bytesOf e) (bq : 1 ≤ P.bytesOf q) (hv : Value.okWide P w r b0 t v) (h : DataW.Trod enc P w 0 (fun _ => true) true t v d p) (hw : ∀ x ∈ d.weights P t, x ≤ reachBytes) : ∃ l, RepT noEnv w noM (.ro (.rows .i64 l)) v := by
  obtain ⟨a, len, cap, rfl⟩ := okWide_slice ht hv
  obtain ⟨fuel, hf⟩ := h
  exact rows_rep ht he hq ce cq be bq (y := (d, p)) hf hw
end
end Go.Proofs.Ytkbhgnbnnbengaa
end
