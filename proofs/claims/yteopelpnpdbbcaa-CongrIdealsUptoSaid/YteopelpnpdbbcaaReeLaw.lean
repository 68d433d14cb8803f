import Derived.Test.YteopelpnpdbbcaaCgSyn
import Derived.Test.YteopelpnpdbbcaaIdeal
import Derived.Test.YteopelpnpdbbcaaCollLaw
import Derived.Test.YteopelpnpdbbcaaJoin
import Derived.Test.YteopelpnpdbbcaaRefCgL
section
/- congr.Rees: its contract. -/
namespace Go.Proofs.Yteopelpnpdbbcaa
open Go Go.AM
set_option maxRecDepth 100000
/-- The labels of an ideal's congruence. -/
def reI (n : Nat) (l : List Int) : List Int := (List.range n).map fun x => if ((x : Nat) : Int) ∈ l then l.getD 0 0 else (x : Int)
theorem reI_len (n : Nat) (l : List Int) : (reI n l).length = n := by simp [reI]
theorem reI_get {n : Nat} {l : List Int} {x : Nat} (h : x < n) : (reI n l).getD x 0 = if ((x : Nat) : Int) ∈ l then l.getD 0 0 else (x : Int) := by simp [reI, List.getD, h]
theorem reI_iff {n : Nat} {l : List Int} (hp : 0 < l.length) (hl : ∀ x ∈ l, 0 ≤ x ∧ x < (n : Int)) {x y : Nat} (hx : x < n) (hy : y < n) : (reI n l).getD x 0 = (reI n l).getD y 0 ↔ x = y ∨ ((x : Int) ∈ l ∧ (y : Int) ∈ l) := by
  have h0 : l.getD 0 0 ∈ l := getD_mem hp
  rw [reI_get hx, reI_get hy]
  by_cases e1 : (x : Int) ∈ l <;> by_cases e2 : (y : Int) ∈ l
  · rw [if_pos e1, if_pos e2]; exact ⟨fun _ => Or.inr ⟨e1, e2⟩, fun _ => rfl⟩
  · rw [if_pos e1, if_neg e2]
    exact ⟨fun e => absurd (e ▸ h0) e2, fun e => Or.elim e (fun e3 => absurd (e3 ▸ e1) e2) fun e3 => absurd e3.2 e2⟩
  · rw [if_neg e1, if_pos e2]
    exact ⟨fun e => absurd (e ▸ h0) e1, fun e => Or.elim e (fun e3 => absurd (e3 ▸ e2) e1) fun e3 => absurd e3.1 e1⟩
  · rw [if_neg e1, if_neg e2]
    exact ⟨fun e => Or.inl (by omega), fun e => Or.elim e (fun e3 => by rw [e3]) fun e3 => absurd e3.1 e1⟩
theorem crees_k (t : List (List Int)) (l : List Int) (hs : Semi t) (hl : IdL t l) : fnK TY SP Try.f30 [.ro (.rows .i64 t), .ro (.ints .i64 l)] (.new (.ints .i64 (canon (reI t.length l)))) := by
  have hmost := hs.most
  have hp := hl.1
  have hin := hl.2.2.1
  have hrc := rest_count hl
  have hz : ((List.replicate (t.length : Int).toNat (0 : Int)).length : Int) = t.length := by simp
  refine Or.inl (cq (iIsIdeal_fn t hs l) (And.intro rfl (And.intro rfl trivial)) ?_)
  refine And.intro (fun h1 => ?_) (fun _ => ?_)
  · have h1 : (!idB t l) = true := h1
    rw [idB_true.2 hl] at h1; exact absurd h1 (by decide)
  refine And.intro (by omega) ?_
  refine And.intro (by omega) ?_
  refine Exists.intro [] <| lp2 (fun (x : Nat) (_ : List Int) => [(18, .int .i64 x)]) (fun _ L => [(15, .vec 0 (.ints .i64 L) [])]) (fun x L => x ≤ t.length ∧ L.length = t.length ∧ ∀ y, y < x → L.getD y 0 = y) (fun x _ => t.length - x) 0 (List.replicate t.length 0) ⟨Nat.zero_le _, by simp, fun y h => absurd h (Nat.not_lt_zero _)⟩ (by repeat' first | refine And.intro ?_ ?_ | exact True.intro | (show (_ : Int) = (_ : Int); omega) | omega | exact rfl | (simp only [RO.len]; omega)) ?_
  rintro x L ⟨hx, hL, hLy⟩
  refine And.intro (fun h2 => ?_) (fun h2 => ?_)
  · have h2 : (x : Int) < ((List.replicate (t.length : Int).toNat (0 : Int)).length : Int) := h2
    rw [hz] at h2
    refine And.intro (by omega) ?_
    refine And.intro (by omega) ?_
    refine And.intro (by omega) ?_
    refine nx (x + 1, L.set x x) ⟨show x + 1 ≤ t.length by omega, by rw [List.length_set]; exact hL, fun y hy => ?_⟩ (show t.length - (x + 1) < t.length - x by omega) (by repeat' first | refine And.intro ?_ ?_ | exact True.intro | (show (_ : Int) = (_ : Int); omega) | omega | exact rfl | (simp only [RO.len]; omega))
    by_cases e : y = x
    · subst e; exact getD_set_eq (by omega)
    · rw [getD_set_ne (Ne.symm e)]; exact hLy y (by omega)
  · have h2 : ((List.replicate (t.length : Int).toNat (0 : Int)).length : Int) ≤ (x : Int) := h2
    rw [hz] at h2
    refine Exists.intro [] <| lp2 (fun (i : Nat) (_ : List Int) => [(28, .int .i64 i)]) (fun _ L => [(15, .vec 0 (.ints .i64 L) [])]) (fun i L => i ≤ l.length ∧ L.length = t.length ∧ ∀ y, y < t.length → L.getD y 0 = if (y : Int) ∈ l.take i then l.getD 0 0 else (y : Int)) (fun i _ => l.length - i) 0 L ⟨Nat.zero_le _, hL, fun y hy => by rw [List.take_zero, if_neg (by simp)]; exact hLy y (by omega)⟩ (by repeat' first | refine And.intro ?_ ?_ | exact True.intro | (show (_ : Int) = (_ : Int); omega) | omega | exact rfl | (simp only [RO.len]; omega)) ?_
    rintro i M ⟨hi, hM, hMy⟩
    refine And.intro (fun h3 => ?_) (fun h3 => ?_)
    · have h3 : (i : Int) < (l.length : Int) := h3
      have hil : i < l.length := by omega
      have hm := hin _ (getD_mem (d := 0) hil)
      refine And.intro (by omega) ?_
      refine And.intro (by omega) ?_
      refine And.intro (show 0 ≤ l.getD i 0 ∧ l.getD i 0 < (M.length : Int) by omega) ?_
      refine And.intro (show ((0 : Nat) : Int) ≤ l.getD i 0 by omega) ?_
      refine And.intro (by omega) ?_
      refine nx (i + 1, M.set (l.getD i 0).toNat (l.getD 0 0)) ⟨show i + 1 ≤ l.length by omega, by rw [List.length_set]; exact hM, fun y hy => ?_⟩ (show l.length - (i + 1) < l.length - i by omega) (by repeat' first | refine And.intro ?_ ?_ | exact True.intro | (show (_ : Int) = (_ : Int); omega) | omega | exact rfl | (simp only [RO.len]; omega))
      have htk : l.take (i + 1) = l.take i ++ [l.getD i 0] := by
        rw [List.take_add_one, List.getElem?_eq_getElem hil]; simp [List.getD, hil]
      rw [htk]
      by_cases e : y = (l.getD i 0).toNat
      · rw [e, getD_set_eq (by omega), if_pos (by rw [Int.toNat_of_nonneg hm.1]; simp)]
      · rw [getD_set_ne (Ne.symm e), hMy y hy]
        by_cases e2 : (y : Int) ∈ l.take i
        · rw [if_pos e2, if_pos (List.mem_append_left _ e2)]
        · rw [if_neg e2, if_neg]
          intro h4
          refine Or.elim (List.mem_append.1 h4) e2 fun h5 => ?_
          rw [List.mem_singleton] at h5
          exact e (by omega)
    · have h3 : (l.length : Int) ≤ (i : Int) := h3
      have e : M = reI t.length l := ext_getD 0 (by rw [reI_len]; exact hM) fun y hy => by
        rw [hMy y (by omega), reI_get (by omega), List.take_of_length_le (by omega)]
      have ec : (if M.length ≤ 4096 then canon M else []) = canon (reI t.length l) := by rw [if_pos (by omega), e]
      refine Or.inl (cq (Canonical_fn M) (And.intro rfl trivial) ?_)
      rw [ec]
      exact And.intro (And.intro (by omega) rfl) trivial
theorem crees_fn (t : List (List Int)) (l : List Int) (hs : Semi t) (hl : IdL t l) : QF 30 [.ro (.rows .i64 t), .ro (.ints .i64 l)] (.new (.ints .i64 (canon (reI t.length l)))) := mkQ Try.func30 (by decide +kernel) rfl (Nat.le_of_ble_eq_true rfl) fun _ => crees_k t l hs hl
end Go.Proofs.Yteopelpnpdbbcaa
end
section
/- The congruences of ideals: how many classes, and their join: plain laws. -/
namespace Go.Proofs.Yteopelpnpdbbcaa
theorem cN_eq {t : List (List Int)} {l : List Int} {x y : Nat} (hx : x < t.length) (hy : y < t.length) : cN t l x = cN t l y ↔ x = y ∨ ((x : Int) ∈ l ∧ (y : Int) ∈ l) := by
  constructor
  · intro e
    cases h : setI l x with
    | true => exact Or.inr ⟨setI_iff.1 h, setI_iff.1 (cN_zero.1 (by rw [← e]; exact cN_in h))⟩
    | false =>
      have h2 : setI l y = false := by
        cases h2 : setI l y with
        | false => rfl
        | true =>
          have := cN_zero.1 (e.trans (cN_in h2))
          rw [h] at this; cases this
      have k1 := (cls_out hx h).2
      have k2 := (cls_out hy h2).2
      exact Or.inl (by rw [← k1, ← k2, e])
  · intro e
    refine Or.elim e (fun e => by rw [e]) fun e => ?_
    rw [cN_in (setI_iff.2 e.1), cN_in (setI_iff.2 e.2)]
theorem ree_canon {t : List (List Int)} {l : List Int} (hl : IdL t l) : canon (reI t.length l) = canon (clsQ t l) := by
  refine canon_congr (d := 0) (e := 0) (by rw [reI_len, clsQ_len]) fun i j hi hj => ?_
  rw [reI_len] at hi hj
  rw [reI_iff hl.1 hl.2.2.1 hi hj, clsQ_get hi, clsQ_get hj, clsV_n, clsV_n, ← cN_eq hi hj]
  omega
/-- As many classes as the quotient by the ideal has elements. -/
theorem ree_count {t : List (List Int)} {l : List Int} (hl : IdL t l) : classN (canon (reI t.length l)) = (restQ t l).length := by
  rw [ree_canon hl, classN_canonG 0]
  refine Nat.le_antisymm ?_ ?_
  · have := nodup_sub (A := firsts (clsQ t l)) (B := (List.range (restQ t l).length).map fun i : Nat => (i : Int)) (firsts_nodup _) fun x hx => by
      obtain ⟨i, hi, rfl⟩ := mem_getD 0 (mem_firsts.1 hx)
      rw [clsQ_len] at hi
      rw [clsQ_get hi, clsV_n]
      exact List.mem_map.2 ⟨cN t l i, List.mem_range.2 (cN_lt hi), rfl⟩
    simpa using this
  · have := nodup_sub (A := (List.range (restQ t l).length).map fun i : Nat => (i : Int)) (B := firsts (clsQ t l)) (by
      refine List.Pairwise.map _ (fun a b (h : a ≠ b) => ?_) List.nodup_range
      omega) fun x hx => by
      obtain ⟨i, hi, rfl⟩ := List.mem_map.1 hx
      have hi := List.mem_range.1 hi
      have hr := rN_lt hl hi
      refine mem_firsts.2 ?_
      have e : (clsQ t l).getD (rN t l i) 0 = (i : Int) := by rw [clsQ_get hr, clsV_n, cls_rest hl hi]
      show (i : Int) ∈ clsQ t l
      rw [← e]; exact getD_mem (by rw [clsQ_len]; exact hr)
    simpa using this
/-- The join of two ideals' congruences is that of their union. -/
theorem ree_join {t : List (List Int)} {a b c : List Int} (hS : Sh t) (ha : IdL t a) (hb : IdL t b) (hc : IdL t c) (h : ∀ x : Nat, x < t.length → ((x : Int) ∈ c ↔ (x : Int) ∈ a ∨ (x : Int) ∈ b)) : joP t.length (canon (reI t.length a)) (canon (reI t.length b)) = canon (reI t.length c) := by
  rw [← joP_canon]
  have hrel : ∀ {l : List Int}, IdL t l → ∀ {x y : Nat}, x < t.length → y < t.length → ((canon (reI t.length l)).getD x 0 = (canon (reI t.length l)).getD y 0 ↔ x = y ∨ ((x : Int) ∈ l ∧ (y : Int) ∈ l)) := fun {l} hl {x y} hx hy => by
    rw [canon_eq_iff (d := 0) (by rw [reI_len]; exact hx) (by rw [reI_len]; exact hy), reI_iff hl.1 hl.2.2.1 hx hy]
  refine canon_congr (d := 0) (e := 0) (by rw [joP_len, reI_len]) fun i j hi hj => ?_
  rw [joP_len] at hi hj
  rw [joP_iff hi hj, reI_iff hc.1 hc.2.2.1 hi hj]
  have a0 := ha.2.2.1 _ (getD_mem (d := 0) ha.1)
  have b0 := hb.2.2.1 _ (getD_mem (d := 0) hb.1)
  have am : setI a (a.getD 0 0).toNat = true := setI_iff.2 (by rw [Int.toNat_of_nonneg a0.1]; exact getD_mem ha.1)
  have bm : setI b (b.getD 0 0).toNat = true := setI_iff.2 (by rw [Int.toNat_of_nonneg b0.1]; exact getD_mem hb.1)
  have ez := hS.ent (x := (a.getD 0 0).toNat) (y := (b.getD 0 0).toNat) (by omega) (by omega)
  have za := setI_iff.1 (ha.2.2.2 _ (b.getD 0 0).toNat (by omega) (by omega) am).1
  have zb := setI_iff.1 (hb.2.2.2 _ (a.getD 0 0).toNat (by omega) (by omega) bm).2
  have key : ∀ x : Nat, x < t.length → (x : Int) ∈ c → Eg (JoR t.length (canon (reI t.length a)) (canon (reI t.length b))) x (en t (a.getD 0 0).toNat (b.getD 0 0).toNat) := fun x hx hxc =>
    Or.elim ((h x hx).1 hxc) (fun e => .rel ⟨hx, ez.2, Or.inl ((hrel ha hx ez.2).2 (Or.inr ⟨e, za⟩))⟩) fun e => .rel ⟨hx, ez.2, Or.inr ((hrel hb hx ez.2).2 (Or.inr ⟨e, zb⟩))⟩
  constructor
  · intro e
    refine e.least (Q := fun x y => x = y ∨ ((x : Int) ∈ c ∧ (y : Int) ∈ c)) (fun _ => Or.inl rfl) (fun x y e => Or.elim e (fun e => Or.inl e.symm) fun e => Or.inr ⟨e.2, e.1⟩) (fun x y z e e' => ?_) fun x y e => ?_
    · refine Or.elim e (fun e => by rw [e]; exact e') fun e => Or.elim e' (fun e2 => Or.inr (by rw [← e2]; exact e)) fun e2 => Or.inr ⟨e.1, e2.2⟩
    · refine Or.elim e.2.2 (fun e2 => ?_) fun e2 => ?_
      · exact Or.elim ((hrel ha e.1 e.2.1).1 e2) Or.inl fun e3 => Or.inr ⟨(h x e.1).2 (Or.inl e3.1), (h y e.2.1).2 (Or.inl e3.2)⟩
      · exact Or.elim ((hrel hb e.1 e.2.1).1 e2) Or.inl fun e3 => Or.inr ⟨(h x e.1).2 (Or.inr e3.1), (h y e.2.1).2 (Or.inr e3.2)⟩
  · intro e
    exact Or.elim e (fun e => by rw [e]; exact .refl _) fun e => (key i hi e.1).trans (key j hj e.2).symm
/-- It is a congruence. -/
theorem ree_is {t : List (List Int)} {l : List Int} (hs : Semi t) (hl : IdL t l) : IsCg t (canon (reI t.length l)) 0 := by
  have hS := hs.toSh
  have hmost := hs.most
  have hlen : (canon (reI t.length l)).length = t.length := by rw [canon_length, reI_len]
  have hrel : ∀ {x y : Nat}, x < t.length → y < t.length → ((canon (reI t.length l)).getD x 0 = (canon (reI t.length l)).getD y 0 ↔ x = y ∨ ((x : Int) ∈ l ∧ (y : Int) ∈ l)) := fun {x y} hx hy => by
    rw [canon_eq_iff (d := 0) (by rw [reI_len]; exact hx) (by rw [reI_len]; exact hy), reI_iff hl.1 hl.2.2.1 hx hy]
  refine ⟨hs, hlen, ⟨by omega, canon_idem _⟩, ⟨by omega, by omega⟩, fun x y s hx hy hsl e => ?_⟩
  have e := (hrel hx hy).1 e
  refine ⟨fun _ => (hrel (hS.ent hsl hx).2 (hS.ent hsl hy).2).2 ?_, fun _ => (hrel (hS.ent hx hsl).2 (hS.ent hy hsl).2).2 ?_⟩
  · exact Or.elim e (fun e => Or.inl (by rw [e])) fun e => Or.inr ⟨setI_iff.1 (hl.2.2.2 x s hx hsl (setI_iff.2 e.1)).2, setI_iff.1 (hl.2.2.2 y s hy hsl (setI_iff.2 e.2)).2⟩
  · exact Or.elim e (fun e => Or.inl (by rw [e])) fun e => Or.inr ⟨setI_iff.1 (hl.2.2.2 x s hx hsl (setI_iff.2 e.1)).1, setI_iff.1 (hl.2.2.2 y s hy hsl (setI_iff.2 e.2)).1⟩
/-- The ideal of two lists at once. -/
theorem two_app {t : List (List Int)} (h : Semi t) {g m : List Int} {x : Nat} : (x : Int) ∈ ascV t.length (twoF t (setI (g ++ m))) ↔ (x : Int) ∈ ascV t.length (twoF t (setI g)) ∨ (x : Int) ∈ ascV t.length (twoF t (setI m)) := by
  have e : ∀ l : List Int, (x : Int) ∈ ascV t.length (twoF t (setI l)) ↔ x < t.length ∧ ∃ y, y < t.length ∧ setI l y = true ∧ inJB t y x = true := fun l => by
    rw [ascV_mem]
    constructor
    · intro ⟨i, hi, hf, e⟩
      have e : x = i := by omega
      rw [e]; exact ⟨hi, (twoF_iff h).1 hf⟩
    · intro ⟨hx, hy⟩
      exact ⟨x, hx, (twoF_iff h).2 hy, rfl⟩
  rw [e, e, e]
  constructor
  · intro ⟨hx, y, hy, hs, hj⟩
    rw [setI_iff, List.mem_append, ← setI_iff, ← setI_iff] at hs
    exact Or.elim hs (fun hs => Or.inl ⟨hx, y, hy, hs, hj⟩) fun hs => Or.inr ⟨hx, y, hy, hs, hj⟩
  · intro e
    exact Or.elim e (fun ⟨hx, y, hy, hs, hj⟩ => ⟨hx, y, hy, by rw [setI_iff, List.mem_append, ← setI_iff, ← setI_iff]; exact Or.inl hs, hj⟩) fun ⟨hx, y, hy, hs, hj⟩ => ⟨hx, y, hy, by rw [setI_iff, List.mem_append, ← setI_iff, ← setI_iff]; exact Or.inr hs, hj⟩
end Go.Proofs.Yteopelpnpdbbcaa
end
