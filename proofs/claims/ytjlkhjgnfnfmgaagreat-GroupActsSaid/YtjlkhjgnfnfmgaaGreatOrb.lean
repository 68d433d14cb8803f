import Derived.Shelf.SlSortCmp.Whole1
import Derived.Test.YtjlkhjgnfnfmgaaGreatLay
import Derived.Test.YtjlkhjgnfnfmgaaGreatEqvLaw
import Derived.Test.YtjlkhjgnfnfmgaaGreatPerm
import Derived.Test.YtjlkhjgnfnfmgaaGreatPermLaw
import Derived.Test.YtjlkhjgnfnfmgaaGreatRefGreen
import Derived.Test.YtjlkhjgnfnfmgaaGreatAmRet
section
/- slices.SortFunc over rows of integers: from the shelf's contract to the abstract machine's. -/
namespace Go.Proofs.YtjlkhjgnfnfmgaaGreat
open Go Go.AM Go.Sort Go.Lib
def RowV (w : World) (M : Msk) : Type := { v : Value // ∃ m : List Int, SlI w M .i64 m v }
instance (w : World) (M : Msk) : Inhabited (RowV w M) := ⟨⟨.slice none 0 0, [], Nat.zero_le _, none, 0, rfl, Nat.le_refl _, .inl rfl⟩⟩
end Go.Proofs.YtjlkhjgnfnfmgaaGreat
end
section
/- Lists of permutations; group.Generate: contracts. -/
namespace Go.Proofs.YtjlkhjgnfnfmgaaGreat
open Go Go.AM
set_option maxRecDepth 100000
def pmsP (l : List (List Int)) (n : Int) : Prop := ∀ f ∈ l, (f.length : Int) = n ∧ prmP f
noncomputable def pmsB (l : List (List Int)) (n : Int) : Bool := @decide (pmsP l n) (Classical.propDecidable _)
theorem pmsB_true {l : List (List Int)} {n : Int} : pmsB l n = true ↔ pmsP l n := by unfold pmsB; exact @decide_eq_true_iff _ (Classical.propDecidable _)
theorem pmsB_false {l : List (List Int)} {n : Int} : pmsB l n = false ↔ ¬ pmsP l n := by unfold pmsB; exact @decide_eq_false_iff_not _ (Classical.propDecidable _)
theorem gpms_k (l : List (List Int)) (n : Int) (hl : l.length ≤ 140737488355328) : fnK TY SP Tryz.f39 [.ro (.rows .i64 l), .int .i64 n] (.bool (.v (pmsB l n))) := by
  have no : ¬ pmsP l n → (BE.lit false).val = (BE.v (pmsB l n)).val := fun h => (pmsB_false.2 h).symm
  refine Exists.intro [] <| lp (X := Nat) (fun i => [(9, .int .i64 i)]) (fun _ => []) (fun i => i ≤ l.length ∧ ∀ j, j < i → ((l.getD j []).length : Int) = n ∧ prmP (l.getD j [])) (fun i => l.length - i) 0 ⟨Nat.zero_le _, fun j h => absurd h (Nat.not_lt_zero _)⟩ (by repeat' first | refine And.intro ?_ ?_ | exact True.intro | (show (_ : Int) = (_ : Int); omega) | omega | exact rfl | (simp only [RO.len]; omega)) ?_
  rintro i ⟨hi, hI⟩
  refine And.intro (fun h1 => ?_) (fun h1 => ?_)
  · have h1 : (i : Int) < (l.length : Int) := h1
    have hm := getD_mem (d := []) (l := l) (i := i) (by omega)
    refine And.intro (by omega) ?_
    refine And.intro (fun h2 => ?_) (fun h2 => ?_)
    · have h2 : ¬ ((l.getD i []).length : Int) = n := h2
      exact And.intro (no fun h => h2 (h _ hm).1) trivial
    have h2 : ((l.getD i []).length : Int) = n := h2
    refine Or.inl (cq (tperm_fn (l.getD i [])) (And.intro rfl trivial) ?_)
    refine And.intro (fun h3 => ?_) (fun h3 => ?_)
    · have h3 : (!prmB (l.getD i [])) = true := h3
      refine And.intro (no fun h => ?_) trivial
      rw [prmB_true.2 (h _ hm).2] at h3; cases h3
    have h3 : (!prmB (l.getD i [])) = false := h3
    refine And.intro (by omega) ?_
    refine nx (i + 1) ⟨by omega, fun j hj => ?_⟩ (show l.length - (i + 1) < l.length - i by omega) (by repeat' first | refine And.intro ?_ ?_ | exact True.intro | (show (_ : Int) = (_ : Int); omega) | omega | exact rfl | (simp only [RO.len]; omega))
    by_cases e : j = i
    · subst e; exact ⟨h2, prmB_true.1 (by simpa using h3)⟩
    · exact hI j (by omega)
  · have h1 : (l.length : Int) ≤ (i : Int) := h1
    refine And.intro ?_ trivial
    refine (pmsB_true.2 fun f hf => ?_).symm
    obtain ⟨j, hj, rfl⟩ := mem_getD [] hf
    exact hI j (by omega)
theorem gpms_fn (l : List (List Int)) (n : Int) : QF 39 [.ro (.rows .i64 l), .int .i64 n] (.bool (.v (pmsB l n))) := mkQ Tryz.func39 (by decide +kernel) rfl (Nat.le_of_ble_eq_true rfl) fun hf => gpms_k l n hf.1.1
end Go.Proofs.YtjlkhjgnfnfmgaaGreat
end
section
/- Plain: orbits and blocks of permutations. -/
namespace Go.Proofs.YtjlkhjgnfnfmgaaGreat
open Go Go.AM
def imN (f : List Int) (a : Nat) : Nat := (f.getD a 0).toNat
theorem Perm.im {n : Nat} {f : List Int} (hf : Perm n f) {a : Nat} (ha : a < n) : imN f a < n ∧ f.getD a 0 = (imN f a : Int) := by
  have := hf.at ha
  unfold imN; omega
def OrR (n : Nat) (F : List (List Int)) (a b : Nat) : Prop := a < n ∧ ∃ f ∈ F, b = imN f a
noncomputable def orbP (n : Nat) (F : List (List Int)) : List Int := eqP n (OrR n F)
inductive Bg (n : Nat) (F : List (List Int)) (R : Nat → Nat → Prop) : Nat → Nat → Prop
  | rel {a b : Nat} (h : R a b) : Bg n F R a b
  | refl (a : Nat) : Bg n F R a a
  | symm {a b : Nat} (h : Bg n F R a b) : Bg n F R b a
  | trans {a b c : Nat} (h : Bg n F R a b) (h' : Bg n F R b c) : Bg n F R a c
  | map {a b : Nat} {f : List Int} (hf : f ∈ F) (ha : a < n) (hb : b < n) (h : Bg n F R a b) : Bg n F R (imN f a) (imN f b)
def ptR (x y : Nat) (a b : Nat) : Prop := a = x ∧ b = y
noncomputable def blkP (n : Nat) (F : List (List Int)) (x y : Nat) : List Int := eqP n (Bg n F (ptR x y))
theorem bg_eg {n : Nat} {F : List (List Int)} {R : Nat → Nat → Prop} {a b : Nat} : Eg (Bg n F R) a b ↔ Bg n F R a b :=
  ⟨fun e => e.least .refl (fun _ _ => .symm) (fun _ _ _ => .trans) fun _ _ h => h, .rel⟩
theorem Bg.least {n : Nat} {F : List (List Int)} {R Q : Nat → Nat → Prop} (hr : ∀ a, Q a a) (hs : ∀ a b, Q a b → Q b a) (ht : ∀ a b c, Q a b → Q b c → Q a c) (h : ∀ a b, R a b → Q a b) (hm : ∀ f ∈ F, ∀ a b, a < n → b < n → Q a b → Q (imN f a) (imN f b)) {a b : Nat} (e : Bg n F R a b) : Q a b := by
  induction e with
  | rel h1 => exact h _ _ h1
  | refl a => exact hr a
  | symm _ ih => exact hs _ _ ih
  | trans _ _ i1 i2 => exact ht _ _ _ i1 i2
  | map hf ha hb _ ih => exact hm _ hf _ _ ha hb ih
section
variable {n x y : Nat} {F : List (List Int)} {c : List Int} {V W : List (Int × Int)}
def CW (n : Nat) (c : List Int) (W : List (Int × Int)) (a b : Nat) : Prop := a < n ∧ b < n ∧ (c.getD a 0 = c.getD b 0 ∨ ((a : Int), (b : Int)) ∈ W)
structure BkI (n : Nat) (F : List (List Int)) (x y : Nat) (c : List Int) (W : List (Int × Int)) : Prop where
  len : c.length = n
  so : ∀ a b, a < n → b < n → c.getD a 0 = c.getD b 0 → Bg n F (ptR x y) a b
  ws : ∀ q ∈ W, ((0 ≤ q.1 ∧ q.1 < (n : Int)) ∧ 0 ≤ q.2 ∧ q.2 < (n : Int)) ∧ Bg n F (ptR x y) q.1.toNat q.2.toNat
  co : ∀ f ∈ F, ∀ a b, a < n → b < n → c.getD a 0 = c.getD b 0 → Eg (CW n c W) (imN f a) (imN f b)
  xy : Eg (CW n c W) x y
theorem BkI.start (hx : x < n) (hy : y < n) : BkI n F x y (disI n) [((x : Int), (y : Int))] :=
  ⟨disI_len n, fun a b ha hb e => by rw [disI_get ha, disI_get hb] at e; obtain rfl : a = b := by omega
                                     exact .refl _,
    fun q hq => by rw [List.mem_singleton] at hq; subst hq; exact ⟨⟨by show 0 ≤ (x : Int) ∧ (x : Int) < n; omega, by show 0 ≤ (y : Int) ∧ (y : Int) < n; omega⟩, .rel ⟨rfl, rfl⟩⟩,
    fun f _ a b ha hb e => by rw [disI_get ha, disI_get hb] at e; obtain rfl : a = b := by omega
                              exact .refl _,
    .rel ⟨hx, hy, .inr (List.mem_singleton.2 rfl)⟩⟩
theorem BkI.skip {q : Int × Int} (h : BkI n F x y c (V ++ [q])) (e : c.getD q.1.toNat 0 = c.getD q.2.toNat 0) : BkI n F x y c V := by
  have up : ∀ {a b}, Eg (CW n c (V ++ [q])) a b → Eg (CW n c V) a b := fun hab => hab.mono fun a b ⟨ha, hb, hm⟩ => .rel ⟨ha, hb, hm.elim .inl fun hm => (List.mem_append.1 hm).elim .inr fun hm => .inl (by rw [List.mem_singleton] at hm; subst hm; exact e)⟩
  exact ⟨h.len, h.so, fun q' hq => h.ws q' (List.mem_append_left _ hq), fun f hf a b ha hb e => up (h.co f hf a b ha hb e), up h.xy⟩
theorem BkI.take (hF : ∀ f ∈ F, Perm n f) {q : Int × Int} (h : BkI n F x y c (V ++ [q])) :
    BkI n F x y (mrgL c q.2.toNat q.1.toNat) (V ++ F.map fun f => (f.getD q.1.toNat 0, f.getD q.2.toNat 0)) := by
  obtain ⟨hq, hqb⟩ := h.ws q (List.mem_append_right _ (List.mem_singleton.2 rfl))
  have hK : KerOf n c fun a b => a < n ∧ b < n ∧ c.getD a 0 = c.getD b 0 :=
    ⟨h.len, fun a b ha hb => ⟨fun e => .rel ⟨ha, hb, e⟩, fun e => e.least (Q := fun a b => c.getD a 0 = c.getD b 0) (fun _ => rfl) (fun _ _ h => h.symm) (fun _ _ _ h h' => h.trans h') fun _ _ h => h.2.2⟩⟩
  have ha : q.1.toNat < n := by omega
  have hb : q.2.toNat < n := by omega
  have hM := hK.mrg hb ha
  have ker : ∀ {a b}, c.getD a 0 = c.getD b 0 → a < n → b < n → (mrgL c q.2.toNat q.1.toNat).getD a 0 = (mrgL c q.2.toNat q.1.toNat).getD b 0 := fun e ha hb => (hM.2 _ _ ha hb).2 (.rel (.inl ⟨ha, hb, e⟩))
  have up : ∀ {a b}, Eg (CW n c (V ++ [q])) a b → Eg (CW n (mrgL c q.2.toNat q.1.toNat) (V ++ F.map fun f => (f.getD q.1.toNat 0, f.getD q.2.toNat 0))) a b := fun hab => hab.mono fun a b ⟨h1, h2, hm⟩ => .rel ⟨h1, h2, hm.elim (fun e => .inl (ker e h1 h2)) fun hm => (List.mem_append.1 hm).elim (fun hm => .inr (List.mem_append_left _ hm)) fun hm => .inl (by
    rw [List.mem_singleton] at hm
    have e1 : q.1.toNat = a := by rw [← hm]; rfl
    have e2 : q.2.toNat = b := by rw [← hm]; rfl
    exact (hM.2 _ _ h1 h2).2 (.symm (.rel (.inr ⟨e2.symm, e1.symm⟩))))⟩
  refine ⟨by rw [mrgL_len]; exact h.len, fun a b ha' hb' e => ?_, fun q' hq' => ?_, fun f hf a b ha' hb' e => ?_, up h.xy⟩
  · refine ((hM.2 a b ha' hb').1 e).least .refl (fun _ _ => .symm) (fun _ _ _ => .trans) fun u v huv => ?_
    rcases huv with ⟨h1, h2, h3⟩ | ⟨h1, h2⟩
    · exact h.so u v h1 h2 h3
    · rw [h1, h2]; exact .symm hqb
  · rcases List.mem_append.1 hq' with hq' | hq'
    · exact h.ws q' (List.mem_append_left _ hq')
    · obtain ⟨f, hf, rfl⟩ := List.mem_map.1 hq'
      exact ⟨⟨(hF f hf).at ha, (hF f hf).at hb⟩, .map hf ha hb hqb⟩
  · refine Eg.least (Q := fun u v => Eg _ (imN f u) (imN f v)) (fun _ => .refl _) (fun _ _ => .symm) (fun _ _ _ => .trans) (fun u v huv => ?_) ((hM.2 a b ha' hb').1 e)
    rcases huv with ⟨h1, h2, h3⟩ | ⟨h1, h2⟩
    · exact up (h.co f hf u v h1 h2 h3)
    · have i1 := (hF f hf).im ha
      have i2 := (hF f hf).im hb
      rw [h1, h2]
      exact .symm (.rel ⟨i1.1, i2.1, .inr (List.mem_append_right _ (List.mem_map.2 ⟨f, hf, by rw [i1.2, i2.2]⟩))⟩)
theorem BkI.done (h : BkI n F x y c []) (hF : ∀ f ∈ F, Perm n f) (hx : x < n) (hy : y < n) : canon c = blkP n F x y := by
  have dn : ∀ {a b}, Eg (CW n c []) a b → c.getD a 0 = c.getD b 0 := fun e => e.least (Q := fun a b => c.getD a 0 = c.getD b 0) (fun _ => rfl) (fun _ _ h => h.symm) (fun _ _ _ h h' => h.trans h') fun _ _ h => h.2.2.elim id fun h => absurd h List.not_mem_nil
  refine eqP_of ⟨h.len, fun a b ha hb => ?_⟩
  rw [bg_eg]
  refine ⟨h.so a b ha hb, fun e => ?_⟩
  exact e.least (Q := fun a b => c.getD a 0 = c.getD b 0) (fun _ => rfl) (fun _ _ h => h.symm) (fun _ _ _ h h' => h.trans h') (fun a b hab => by rw [hab.1, hab.2]; exact dn h.xy) fun f hf a b ha hb hab => dn (h.co f hf a b ha hb hab)
structure BrI (n : Nat) (F : List (List Int)) (x y : Nat) (c : List Int) : Prop where
  len : c.length = n
  so : ∀ a b, a < n → b < n → c.getD a 0 = c.getD b 0 → Bg n F (ptR x y) a b
  xy : c.getD x 0 = c.getD y 0
theorem BrI.mrg (h : BrI n F x y c) {a b : Nat} (ha : a < n) (hb : b < n) (hx : x < n) (hy : y < n) (e : Bg n F (ptR x y) a b) : BrI n F x y (mrgL c a b) := by
  have hK : KerOf n c fun a b => a < n ∧ b < n ∧ c.getD a 0 = c.getD b 0 :=
    ⟨h.len, fun a b ha hb => ⟨fun e => .rel ⟨ha, hb, e⟩, fun e => e.least (Q := fun a b => c.getD a 0 = c.getD b 0) (fun _ => rfl) (fun _ _ h => h.symm) (fun _ _ _ h h' => h.trans h') fun _ _ h => h.2.2⟩⟩
  have hM := hK.mrg ha hb
  refine ⟨by rw [mrgL_len]; exact h.len, fun u v hu hv e' => ?_, (hM.2 x y hx hy).2 (.rel (.inl ⟨hx, hy, h.xy⟩))⟩
  refine ((hM.2 u v hu hv).1 e').least .refl (fun _ _ => .symm) (fun _ _ _ => .trans) fun u v huv => ?_
  rcases huv with ⟨h1, h2, h3⟩ | ⟨h1, h2⟩
  · exact h.so u v h1 h2 h3
  · rw [h1, h2]; exact e
theorem BrI.start (hx : x < n) (hy : y < n) : BrI n F x y (mrgL (disI n) x y) := by
  have hK : KerOf n (disI n) fun _ _ => False := KerOf.dis fun _ _ h => h
  have hM := hK.mrg hx hy
  refine ⟨by rw [mrgL_len, disI_len], fun u v hu hv e' => ?_, (hM.2 x y hx hy).2 (.rel (.inr ⟨rfl, rfl⟩))⟩
  refine ((hM.2 u v hu hv).1 e').least .refl (fun _ _ => .symm) (fun _ _ _ => .trans) fun u v huv => ?_
  rcases huv with h | ⟨h1, h2⟩
  · exact h.elim
  · exact .rel ⟨h1, h2⟩
theorem BrI.done (h : BrI n F x y c) (hc : ∀ f ∈ F, ∀ i j, i < n → j < i → c.getD i 0 = c.getD j 0 → c.getD (imN f i) 0 = c.getD (imN f j) 0) : canon c = blkP n F x y := by
  refine eqP_of ⟨h.len, fun a b ha hb => ?_⟩
  rw [bg_eg]
  refine ⟨h.so a b ha hb, fun e => ?_⟩
  refine e.least (Q := fun a b => c.getD a 0 = c.getD b 0) (fun _ => rfl) (fun _ _ h => h.symm) (fun _ _ _ h h' => h.trans h') (fun a b hab => by rw [hab.1, hab.2]; exact h.xy) fun f hf a b ha hb hab => ?_
  rcases Nat.lt_trichotomy a b with h1 | h1 | h1
  · exact (hc f hf b a hb h1 hab.symm).symm
  · rw [h1]
  · exact hc f hf a b ha h1 hab
end
end Go.Proofs.YtjlkhjgnfnfmgaaGreat
end
section
/- The forest of partition: root, union, partition; FromPairs; Discrete: contracts. -/
namespace Go.Proofs.YtjlkhjgnfnfmgaaGreat
open Go Go.AM
set_option maxRecDepth 100000
theorem froot_fn (n : Nat) (p : List Int) (r : Nat → Nat) (i : Nat) (h : Fo n p r) (hi : i < n) (hn : n ≤ 4096) : MF 141 [.vec 1000, .int .i64 i] [(1000, .vec 0 (.ints .i64 p) [])] (.int .i64 (r i : Nat)) [(1000, .vec 0 (.ints .i64 (fndL (i + 1) p i)) [])] := mkM Tryz.func141 (by decide +kernel) rfl (Nat.le_of_ble_eq_true rfl) fun _ => by
  refine Exists.intro [] <| lp2 (fun (j : Nat) (_ : List Int) => [(1, .int .i64 j)]) (fun _ q => [(1000, .vec 0 (.ints .i64 q) [])]) (fun j q => j < n ∧ Fo n q r ∧ r j = r i ∧ fndL (j + 1) q j = fndL (i + 1) p i) (fun j _ => j) i p ⟨hi, h, rfl, rfl⟩ (by repeat' first | refine And.intro ?_ ?_ | exact True.intro | (show (_ : Int) = (_ : Int); omega) | omega | exact rfl | (simp only [RO.len]; omega)) ?_
  rintro j q ⟨hj, hq, hr, hf⟩
  have hjl := hq.len
  have hle := hq.le j hj
  have hgg := hq.le (q.getD j 0).toNat (by omega)
  refine And.intro (by omega) ?_
  refine And.intro (fun h1 => ?_) (fun h1 => ?_)
  · have h1 : q.getD j 0 ≠ (j : Int) := h1
    have hl := half_lt hq hj h1
    have hqh := hq.half hj
    have hlh := hqh.le j hj
    have hlen := hqh.len
    refine And.intro (by omega) ?_
    refine And.intro (show 0 ≤ q.getD j 0 ∧ q.getD j 0 < (q.length : Int) by omega) ?_
    refine And.intro (by omega) ?_
    refine And.intro (by omega) ?_
    refine And.intro (show 0 ≤ (j : Int) ∧ (j : Int) < ((q.set j (q.getD (q.getD j 0).toNat 0)).length : Int) by rw [List.length_set]; omega) ?_
    have ej : (((halfL q j).getD j 0).toNat : Int) = (halfL q j).getD j 0 := by omega
    refine nx (((halfL q j).getD j 0).toNat, halfL q j) ⟨by omega, hqh, (hqh.par j hj).trans hr, ?_⟩ hl (by repeat' first | refine And.intro ?_ ?_ | exact True.intro | exact ej.symm | exact rfl | repeat' first | refine And.intro ?_ ?_ | exact True.intro | (show (_ : Int) = (_ : Int); omega) | omega | exact rfl | (simp only [RO.len]; omega))
    rw [← hf, fndL.eq_2 q j j, if_neg h1]
    exact fndL_fuel _ _ hqh (by omega) (by omega) (by omega)
  · have h1 : q.getD j 0 = (j : Int) := h1
    refine And.intro ?_ ?_
    · refine And.intro (And.intro (by omega) ?_) trivial
      rw [← hf]; unfold fndL; rw [if_pos h1]
    · show (j : Int) = (r i : Nat)
      rw [← hr, hq.fix j hj h1]
theorem funion_fn (n : Nat) (p : List Int) (r : Nat → Nat) (i j : Nat) (h : Fo n p r) (hi : i < n) (hj : j < n) (hn : n ≤ 4096) : MF 95 [.vec 1000, .int .i64 i, .int .i64 j] [(1000, .vec 0 (.ints .i64 p) [])] (.tup []) [(1000, .vec 0 (.ints .i64 (ufL r p i j)) [])] := mkM Tryz.func95 (by decide +kernel) rfl (Nat.le_of_ble_eq_true rfl) fun _ => by
  have h1 := fndL_fo (i + 1) h hi
  refine Or.inr (Or.inl (cm [] [(1000, 1000)] (froot_fn n p r i h hi hn) ?_))
  refine And.intro (by repeat' first | refine And.intro ?_ ?_ | exact True.intro | (show (_ : Int) = (_ : Int); omega) | omega | exact rfl | (simp only [RO.len]; omega)) ?_
  refine Or.inr (Or.inl (cm [] [(1000, 1000)] (froot_fn n (fndL (i + 1) p i) r j h1 hj hn) ?_))
  refine And.intro (by repeat' first | refine And.intro ?_ ?_ | exact True.intro | (show (_ : Int) = (_ : Int); omega) | omega | exact rfl | (simp only [RO.len]; omega)) ?_
  have h2 := fndL_fo (j + 1) h1 hj
  have hl := h2.len
  have ri := h.rlt hi
  have rj := h.rlt hj
  refine And.intro (by omega) ?_
  refine And.intro (by omega) ?_
  refine And.intro (And.intro (And.intro (by omega) ?_) trivial) trivial
  refine congrArg (RO.ints .i64) ?_
  unfold ufL
  rw [show (max (r i : Int) (r j : Int)).toNat = max (r i) (r j) by omega, show min (r i : Int) (r j : Int) = ((min (r i) (r j) : Nat) : Int) by omega]
theorem fpart_fn (n : Nat) (p : List Int) (r : Nat → Nat) (h : Fo n p r) (hn : n ≤ 4096) : MF 96 [.vec 1000] [(1000, .vec 0 (.ints .i64 p) [])] (.vec 21) [(21, .vec 0 (.ints .i64 (canon (rtL n r))) []), (1000, .vec 0 (.ints .i64 (fndA p n)) [])] := mkM Tryz.func96 (by decide +kernel) rfl (Nat.le_of_ble_eq_true rfl) fun _ => by
  have hpl := h.len
  refine And.intro (by omega) ?_
  refine And.intro (by omega) ?_
  refine Exists.intro [] <| lp2 (fun (k : Nat) (_ : List Int) => [(10, .int .i64 k)]) (fun k L => [(1000, .vec 0 (.ints .i64 (fndA p k)) []), (7, .vec 0 (.ints .i64 L) [])]) (fun k L => k ≤ n ∧ L.length = n ∧ ∀ j, j < k → L.getD j 0 = (r j : Int)) (fun k _ => n - k) 0 (List.replicate n 0) ⟨Nat.zero_le _, by simp, by omega⟩ (by repeat' first | refine And.intro ?_ ?_ | exact True.intro | (show (_ : Int) = (_ : Int); omega) | omega | exact rfl | (simp; omega)) ?_
  rintro k L ⟨hk, hL, hj⟩
  have hfo := fndA_fo h k hk
  have hfl := hfo.len
  refine And.intro (fun h1 => ?_) (fun h1 => ?_)
  · have h1 : (k : Int) < (p.length : Int) := h1
    have hkl : k < n := by omega
    refine Or.inr (Or.inl (cm [] [(1000, 1000)] (froot_fn n (fndA p k) r k hfo hkl hn) ?_))
    refine And.intro (by repeat' first | refine And.intro ?_ ?_ | exact True.intro | (show (_ : Int) = (_ : Int); omega) | omega | exact rfl | (simp only [RO.len]; omega)) ?_
    refine And.intro (by omega) ?_
    refine And.intro (by omega) ?_
    refine And.intro (by omega) ?_
    refine nx (k + 1, L.set k (r k : Int)) ⟨by omega, by rw [List.length_set]; exact hL, fun j hj' => ?_⟩ (show n - (k + 1) < n - k by omega) (by repeat' first | refine And.intro ?_ ?_ | exact True.intro | (show (_ : Int) = (_ : Int); omega) | omega | exact rfl | (simp only [RO.len]; omega))
    by_cases e : j = k
    · subst e; rw [getD_set_eq (by omega)]
    · rw [getD_set_ne (Ne.symm e)]; exact hj j (by omega)
  · have h1 : (p.length : Int) ≤ (k : Int) := h1
    obtain rfl : k = n := by omega
    have eL : L = rtL k r := ext_getD 0 (by rw [rtL_len]; exact hL) fun x hx => by rw [hj x (by omega), rtL_get (by omega)]
    subst eL
    refine Or.inl (cq (canonI_fn (rtL k r) (by rw [rtL_len]; omega)) (And.intro rfl trivial) ?_)
    exact And.intro (And.intro (And.intro (by omega) rfl) (And.intro (And.intro (by omega) rfl) trivial)) (And.intro (by omega) (And.intro trivial trivial))
theorem pdis_fn (n : Nat) (hn : n ≤ 4096) : QF 140 [.int .i64 n] (.new (.ints .i64 (disI n))) := mkQ Tryz.func140 (by decide +kernel) rfl (Nat.le_of_ble_eq_true rfl) fun _ => by
  refine And.intro (fun h1 => absurd (show (n : Int) < 0 from h1) (by omega)) (fun _ => ?_)
  refine And.intro (fun h1 => absurd (show (4096 : Int) < (n : Int) from h1) (by omega)) (fun _ => ?_)
  refine And.intro (by omega) ?_
  refine And.intro (by omega) ?_
  refine Exists.intro [] <| lp2 (fun (k : Nat) (_ : List Int) => [(14, .int .i64 k)]) (fun _ L => [(12, .vec 0 (.ints .i64 L) [])]) (fun k L => k ≤ n ∧ L.length = n ∧ ∀ j, j < k → L.getD j 0 = (j : Int)) (fun k _ => n - k) 0 (List.replicate n 0) ⟨Nat.zero_le _, by simp, by omega⟩ (by repeat' first | refine And.intro ?_ ?_ | exact True.intro | (show (_ : Int) = (_ : Int); omega) | omega | exact rfl | (simp; omega)) ?_
  rintro k L ⟨hk, hL, hj⟩
  refine And.intro (fun h1 => ?_) (fun h1 => ?_)
  · have h1 : (k : Int) < (n : Int) := h1
    have hkl : k < n := by omega
    refine And.intro (show 0 ≤ (k : Int) ∧ (k : Int) < (L.length : Int) by omega) ?_
    refine And.intro (by omega) ?_
    refine And.intro (by omega) ?_
    refine nx (k + 1, L.set k (k : Int)) ⟨by omega, by rw [List.length_set]; exact hL, fun j hj' => ?_⟩ (show n - (k + 1) < n - k by omega) (by repeat' first | refine And.intro ?_ ?_ | exact True.intro | (show (_ : Int) = (_ : Int); omega) | omega | exact rfl | (simp only [RO.len]; omega))
    by_cases e : j = k
    · subst e; rw [getD_set_eq (by omega)]
    · rw [getD_set_ne (Ne.symm e)]; exact hj j (by omega)
  · have h1 : (n : Int) ≤ (k : Int) := h1
    refine And.intro (And.intro (by omega) ?_) trivial
    refine congrArg (RO.ints .i64) (ext_getD 0 (by rw [disI_len]; exact hL) fun j hj' => ?_)
    rw [hj j (by omega), disI_get (by omega)]
theorem fnew_fn (n : Nat) (hn : n ≤ 4096) : QF 94 [.int .i64 n] (.new (.ints .i64 (disI n))) := mkQ Tryz.func94 (by decide +kernel) rfl (Nat.le_of_ble_eq_true rfl) fun _ => by
  refine Or.inl (cq (pdis_fn n hn) (And.intro rfl trivial) ?_)
  exact And.intro (And.intro (by omega) rfl) trivial
theorem prR_snoc : ∀ (l : List (Int × Int)) (r : Nat → Nat) (x : Int × Int), prR r (l ++ [x]) = ufR (prR r l) x.1.toNat x.2.toNat
  | [], _, _ => rfl
  | _ :: l, _, x => prR_snoc l _ x
theorem fpairs_k (n : Nat) (hn : n ≤ 4096) (l : List (Int × Int)) (hll : l.length ≤ 140737488355328) (hl : ∀ x ∈ l, 0 ≤ x.1 ∧ x.1 < (n : Int) ∧ 0 ≤ x.2 ∧ x.2 < (n : Int)) : fnK TY SP Tryz.f48 [.int .i64 n, .ro (.pairs l)] (.new (.ints .i64 (canon (rtL n (prR id l))))) := by
  refine And.intro (fun h1 => absurd (show (n : Int) < 0 from h1) (by omega)) (fun _ => ?_)
  refine And.intro (fun h1 => absurd (show (4096 : Int) < (n : Int) from h1) (by omega)) (fun _ => ?_)
  refine Or.inl (cq (fnew_fn n hn) (And.intro rfl trivial) ?_)
  refine Exists.intro [] <| lp2 (fun (k : Nat) (_ : List Int) => [(18, .int .i64 k)]) (fun _ p => [(15, .vec 0 (.ints .i64 p) [])]) (fun k p => k ≤ l.length ∧ Fo n p (prR id (l.take k))) (fun k _ => l.length - k) 0 (disI n) ⟨Nat.zero_le _, by rw [List.take_zero]; exact Fo.dis n⟩ (by repeat' first | refine And.intro ?_ ?_ | exact True.intro | (show (_ : Int) = (_ : Int); omega) | omega | exact rfl | (simp only [RO.len]; omega)) ?_
  rintro k p ⟨hk, hp⟩
  have hpl := hp.len
  refine And.intro (fun h1 => ?_) (fun h1 => ?_)
  · have h1 : (k : Int) < (l.length : Int) := h1
    have hkl : k < l.length := by omega
    have hx := hl (l.getD k (0, 0)) (getD_mem hkl)
    have e1 : ((l.getD k (0, 0)).1.toNat : Int) = (l.getD k (0, 0)).1 := by omega
    have e2 : ((l.getD k (0, 0)).2.toNat : Int) = (l.getD k (0, 0)).2 := by omega
    have funion := funion_fn n p (prR id (l.take k)) (l.getD k (0, 0)).1.toNat (l.getD k (0, 0)).2.toNat hp (by omega) (by omega) hn
    rw [e1, e2] at funion
    have n10 : ¬ (1 : Int) = ((0 : Nat) : Int) := by omega
    have n01 : ¬ (0 : Int) = ((0 + 1 : Nat) : Int) := by omega
    refine And.intro (by omega) ?_
    refine And.intro (by omega) ?_
    refine And.intro (fun _ => ?_) (And.intro (fun h => absurd h n01) trivial)
    refine And.intro (by omega) ?_
    refine And.intro (fun h => absurd h n10) (And.intro (fun _ => ?_) trivial)
    refine And.intro (fun h4 => ?_) (fun _ => ?_)
    · have h4 : min (l.getD k (0, 0)).1 (l.getD k (0, 0)).2 < 0 := h4
      omega
    refine And.intro (by omega) ?_
    refine And.intro (fun _ => ?_) (And.intro (fun h => absurd h n01) trivial)
    refine And.intro (by omega) ?_
    refine And.intro (fun h => absurd h n10) (And.intro (fun _ => ?_) trivial)
    refine And.intro (fun h4 => ?_) (fun _ => ?_)
    · have h4 : (n : Int) ≤ max (l.getD k (0, 0)).1 (l.getD k (0, 0)).2 := h4
      omega
    refine And.intro (by omega) ?_
    refine And.intro (fun _ => ?_) (And.intro (fun h => absurd h n01) trivial)
    refine And.intro (by omega) ?_
    refine And.intro (fun h => absurd h n10) (And.intro (fun _ => ?_) trivial)
    refine Or.inr (Or.inl (cm [] [(1000, 15)] funion ?_))
    refine And.intro (by repeat' first | refine And.intro ?_ ?_ | exact True.intro | (show (_ : Int) = (_ : Int); omega) | omega | exact rfl | (simp only [RO.len]; omega)) ?_
    refine And.intro (by omega) ?_
    refine nx (k + 1, ufL (prR id (l.take k)) p (l.getD k (0, 0)).1.toNat (l.getD k (0, 0)).2.toNat) ⟨by omega, ?_⟩ (show l.length - (k + 1) < l.length - k by omega) (by repeat' first | refine And.intro ?_ ?_ | exact True.intro | (show (_ : Int) = (_ : Int); omega) | omega | exact rfl | (simp only [RO.len]; omega))
    rw [List.take_add_one, List.getElem?_eq_getElem hkl]
    rw [show (some l[k]).toList = [l[k]] from rfl, prR_snoc]
    have eg : l[k] = l.getD k (0, 0) := by rw [List.getD_eq_getElem?_getD, List.getElem?_eq_getElem hkl]; rfl
    rw [eg]
    exact hp.union (by omega) (by omega)
  · have h1 : (l.length : Int) ≤ (k : Int) := h1
    rw [List.take_of_length_le (by omega)] at hp
    refine Or.inr (Or.inl (cm [] [(1000, 15), (21, 301)] (fpart_fn n p (prR id l) hp hn) ?_))
    refine And.intro (by repeat' first | refine And.intro ?_ ?_ | exact True.intro | (show (_ : Int) = (_ : Int); omega) | omega | exact rfl | (simp only [RO.len]; omega)) ?_
    exact And.intro (And.intro (by omega) rfl) trivial
theorem fpairs_fn (n : Nat) (hn : n ≤ 4096) (l : List (Int × Int)) (hl : ∀ x ∈ l, 0 ≤ x.1 ∧ x.1 < (n : Int) ∧ 0 ≤ x.2 ∧ x.2 < (n : Int)) : QF 48 [.int .i64 n, .ro (.pairs l)] (.new (.ints .i64 (canon (rtL n (prR id l))))) := mkQ Tryz.func48 (by decide +kernel) rfl (Nat.le_of_ble_eq_true rfl) fun hf => fpairs_k n hn l hf.2.1.1 hl
end Go.Proofs.YtjlkhjgnfnfmgaaGreat
end
section
/- Orbits and blocks of permutations: contracts. -/
namespace Go.Proofs.YtjlkhjgnfnfmgaaGreat
open Go Go.AM
set_option maxRecDepth 100000
structure ObI (F : List (List Int)) (i k : Nat) (l : List (Int × Int)) : Prop where
  mem : ∀ q, q ∈ l ↔ (∃ a, a < i ∧ ∃ f ∈ F, q = ((a : Int), f.getD a 0)) ∨ ∃ k', k' < k ∧ q = ((i : Int), (F.getD k' []).getD i 0)
  len : l.length ≤ i * F.length + k
def MtI (F : List (List Int)) (i k : Nat) (B : List Bool) : Prop := B.length = 32 ∧ ∀ z, z < 32 → (B.getD z false = true ↔ ∃ k', k' < k ∧ (F.getD k' []).getD i 0 = (z : Int))
theorem ObI.start (F : List (List Int)) : ObI F 0 0 [] := ⟨fun q => ⟨fun h => absurd h List.not_mem_nil, fun h => h.elim (fun ⟨a, h, _⟩ => absurd h (Nat.not_lt_zero _)) (fun ⟨a, h, _⟩ => absurd h (Nat.not_lt_zero _))⟩, by simp⟩
theorem MtI.start (F : List (List Int)) (i : Nat) : MtI F i 0 (List.replicate 32 false) := ⟨List.length_replicate, fun z _ => Iff.intro (fun h => by rw [getD_rep] at h; cases h) (fun ⟨k, h, _⟩ => absurd h (Nat.not_lt_zero _))⟩
theorem ObI.row {F : List (List Int)} {i : Nat} {l : List (Int × Int)} (h : ObI F i F.length l) : ObI F (i + 1) 0 l := by
  refine ⟨fun q => (h.mem q).trans ⟨?_, ?_⟩, by have := h.len; rw [Nat.succ_mul]; omega⟩
  · rintro (⟨a, ha, f, hf, e⟩ | ⟨k, hk, e⟩)
    · exact .inl ⟨a, by omega, f, hf, e⟩
    · exact .inl ⟨i, by omega, _, getD_mem hk, e⟩
  · rintro (⟨a, ha, f, hf, e⟩ | ⟨k, hk, e⟩)
    · by_cases ea : a = i
      · subst ea
        obtain ⟨k, hk, rfl⟩ := mem_getD [] hf
        exact .inr ⟨k, hk, e⟩
      · exact .inl ⟨a, by omega, f, hf, e⟩
    · exact absurd hk (Nat.not_lt_zero _)
theorem ObI.add {F : List (List Int)} {i k : Nat} {l : List (Int × Int)} (h : ObI F i k l) : ObI F i (k + 1) (l ++ [((i : Int), (F.getD k []).getD i 0)]) := by
  refine ⟨fun q => ?_, by rw [List.length_append]; have := h.len; simp; omega⟩
  rw [List.mem_append, List.mem_singleton, h.mem q]
  constructor
  · rintro ((h1 | ⟨k', hk, e⟩) | e)
    · exact .inl h1
    · exact .inr ⟨k', by omega, e⟩
    · exact .inr ⟨k, by omega, e⟩
  · rintro (h1 | ⟨k', hk, e⟩)
    · exact .inl (.inl h1)
    · by_cases ek : k' = k
      · subst ek; exact .inr e
      · exact .inl (.inr ⟨k', by omega, e⟩)
theorem ObI.old {F : List (List Int)} {i k : Nat} {l : List (Int × Int)} (h : ObI F i k l) (hm : ∃ k', k' < k ∧ (F.getD k' []).getD i 0 = (F.getD k []).getD i 0) : ObI F i (k + 1) l := by
  obtain ⟨m, hmk, em⟩ := hm
  refine ⟨fun q => (h.mem q).trans ⟨?_, ?_⟩, by have := h.len; omega⟩
  · rintro (h1 | ⟨k', hk, e⟩)
    · exact .inl h1
    · exact .inr ⟨k', by omega, e⟩
  · rintro (h1 | ⟨k', hk, e⟩)
    · exact .inl h1
    · by_cases ek : k' = k
      · subst ek; exact .inr ⟨m, hmk, by rw [e, em]⟩
      · exact .inr ⟨k', by omega, e⟩
theorem MtI.add {F : List (List Int)} {i k z : Nat} {B : List Bool} (h : MtI F i k B) (hz : z < 32) (e : (F.getD k []).getD i 0 = (z : Int)) : MtI F i (k + 1) (B.set z true) := by
  refine ⟨by rw [List.length_set]; exact h.1, fun y hy => ?_⟩
  by_cases ey : y = z
  · subst ey
    rw [getD_set_eq (by rw [h.1]; exact hy)]
    exact ⟨fun _ => ⟨k, by omega, e⟩, fun _ => rfl⟩
  · rw [getD_set_ne (Ne.symm ey), h.2 y hy]
    constructor
    · rintro ⟨k', hk, e'⟩; exact ⟨k', by omega, e'⟩
    · rintro ⟨k', hk, e'⟩
      by_cases ek : k' = k
      · subst ek; omega
      · exact ⟨k', by omega, e'⟩
theorem MtI.old {F : List (List Int)} {i k z : Nat} {B : List Bool} (h : MtI F i k B) (hz : z < 32) (e : (F.getD k []).getD i 0 = (z : Int)) (hm : B.getD z false = true) : MtI F i (k + 1) B := by
  refine ⟨h.1, fun y hy => (h.2 y hy).trans ⟨fun ⟨k', hk, e'⟩ => ⟨k', by omega, e'⟩, fun ⟨k', hk, e'⟩ => ?_⟩⟩
  by_cases ek : k' = k
  · subst ek
    obtain rfl : y = z := by omega
    exact (h.2 y hy).1 hm
  · exact ⟨k', by omega, e'⟩
set_option maxHeartbeats 4000000 in
theorem gorb_fn (F : List (List Int)) (n : Nat) (h1 : 1 ≤ n) (h2 : n ≤ 32) (hF : pmsP F n) (hl : F.length ≤ 10) : QF 14 [.ro (.rows .i64 F), .int .i64 n] (.new (.ints .i64 (orbP n F))) := mkQ Tryz.func14 (by decide +kernel) rfl (Nat.le_of_ble_eq_true rfl) fun _ => by
  refine And.intro (fun h => absurd (show (n : Int) < 1 from h) (by omega)) (fun _ => ?_)
  refine And.intro (fun h => absurd (show 32 < (n : Int) from h) (by omega)) (fun _ => ?_)
  refine Or.inl (cq (gpms_fn F n) (And.intro rfl (And.intro rfl trivial)) ?_)
  refine And.intro (fun h => ?_) (fun _ => ?_)
  · have h : (!pmsB F n) = true := h
    rw [pmsB_true.2 hF] at h; cases h
  refine And.intro (by omega) ?_
  refine And.intro (by omega) ?_
  have hpm : ∀ f ∈ F, Perm n f := fun f hf => by
    have := hF f hf
    have e : f.length = n := by omega
    exact e ▸ this.2.perm
  refine Exists.intro [23] <| lp2 (fun (i : Nat) (_ : List (Int × Int)) => [(25, .int .i64 i), (5, .vec 23)]) (fun _ l => [(23, .vec 0 (.pairs l) [])]) (fun i l => i ≤ n ∧ ObI F i 0 l) (fun i _ => n - i) 0 [] ⟨Nat.zero_le _, ObI.start F⟩ (by repeat' first | refine And.intro ?_ ?_ | exact True.intro | (show (_ : Int) = (_ : Int); omega) | omega | exact rfl | (simp only [RO.len]; omega)) ?_
  rintro i l ⟨hi, hI⟩
  refine And.intro (fun h3 => ?_) (fun h3 => ?_)
  · have h3 : (i : Int) < (n : Int) := h3
    have hin : i < n := by omega
    refine Exists.intro [] <| lp3 (fun (k : Nat) (_ : List (Int × Int)) (_ : List Bool) => [(30, .int .i64 k), (5, .vec 23)]) (fun _ l B => [(23, .vec 0 (.pairs l) []), (7, .vec 0 (.bools B) [])]) (fun k l B => k ≤ F.length ∧ ObI F i k l ∧ MtI F i k B) (fun k _ _ => F.length - k) 0 l (List.replicate 32 false) ⟨Nat.zero_le _, hI, MtI.start F i⟩ (by repeat' first | refine And.intro ?_ ?_ | exact True.intro | (show (_ : Int) = (_ : Int); omega) | omega | exact rfl | (simp only [RO.len]; omega)) ?_
    rintro k l B ⟨hk, hO, hM⟩
    refine And.intro (fun h4 => ?_) (fun h4 => ?_)
    · have h4 : (k : Int) < (F.length : Int) := h4
      have hkl : k < F.length := by omega
      have hp := hpm _ (getD_mem (d := []) hkl)
      have hat := hp.at hin
      have hlen := hp.len
      have hB := hM.1
      have hol := hO.len
      have hmul : i * F.length ≤ 320 := Nat.le_trans (Nat.mul_le_mul (by omega : i ≤ 32) hl) (by omega)
      have him := hp.im hin
      have hlt : imN (F.getD k []) i < 32 := by omega
      have e0 : ((F.getD k []).getD i 0).toNat = imN (F.getD k []) i := rfl
      have hix : (0 : Int) = 0 ∧ (0 ≤ (F.getD k []).getD i 0 ∧ (F.getD k []).getD i 0 < ((32 : Nat) : Int)) ∧ (F.getD k []).getD i 0 < (B.length : Int) := ⟨rfl, by omega, by omega⟩
      refine And.intro (by omega) ?_
      refine And.intro (show 0 ≤ (i : Int) ∧ (i : Int) < ((F.getD k []).length : Int) by omega) ?_
      refine And.intro hix ?_
      refine And.intro (fun h5 => ?_) (fun h5 => ?_)
      · refine And.intro (show 0 ≤ (i : Int) ∧ (i : Int) < ((F.getD k []).length : Int) by omega) ?_
        refine And.intro hix ?_
        refine And.intro (by simp only [Int.toNat_natCast]; omega) ?_
        refine And.intro (show 0 ≤ (i : Int) ∧ (i : Int) < ((F.getD k []).length : Int) by omega) ?_
        refine And.intro (by simp; omega) ?_
        refine And.intro (by omega) ?_
        exact nx (k + 1, l ++ [((i : Int), (F.getD k []).getD i 0)], B.set (imN (F.getD k []) i) true) ⟨by omega, hO.add, hM.add hlt him.2⟩ (show F.length - (k + 1) < F.length - k by omega) (by repeat' first | refine And.intro ?_ ?_ | exact True.intro | (show (_ : Int) = (_ : Int); omega) | omega | exact rfl | (simp only [RO.len]; omega))
      · have h5 : (!B.getD (imN (F.getD k []) i) false) = false := h5
        have h5 : B.getD (imN (F.getD k []) i) false = true := by simpa using h5
        have hex : ∃ k', k' < k ∧ (F.getD k' []).getD i 0 = (F.getD k []).getD i 0 := by
          obtain ⟨k', hk', e⟩ := (hM.2 _ hlt).1 h5
          exact ⟨k', hk', by omega⟩
        refine And.intro (by omega) ?_
        exact nx (k + 1, l, B) ⟨by omega, hO.old hex, hM.old hlt him.2 h5⟩ (show F.length - (k + 1) < F.length - k by omega) (by repeat' first | refine And.intro ?_ ?_ | exact True.intro | (show (_ : Int) = (_ : Int); omega) | omega | exact rfl | (simp only [RO.len]; omega))
    · have h4 : (F.length : Int) ≤ (k : Int) := h4
      have hke : k = F.length := by omega
      subst hke
      refine And.intro (by omega) ?_
      exact nx (i + 1, l) ⟨by omega, hO.row⟩ (show n - (i + 1) < n - i by omega) (by repeat' first | refine And.intro ?_ ?_ | exact True.intro | (show (_ : Int) = (_ : Int); omega) | omega | exact rfl | (simp only [RO.len]; omega))
  · have h3 : (n : Int) ≤ (i : Int) := h3
    have hie : i = n := by omega
    subst hie
    have hW : inW i l := fun q hq => by
      rcases (hI.mem q).1 hq with ⟨a, ha, f, hf, rfl⟩ | ⟨k, hk, _⟩
      · have := (hpm f hf).at ha
        exact ⟨⟨by show 0 ≤ (a : Int); omega, by show (a : Int) < i; omega⟩, this⟩
      · exact absurd hk (Nat.not_lt_zero _)
    have he : eqP i (relP l) = orbP i F := by
      unfold orbP
      congr 1
      funext a b
      refine propext ⟨fun h => ?_, fun h => ?_⟩
      · rcases (hI.mem _).1 h with ⟨a', ha, f, hf, e⟩ | ⟨k, hk, _⟩
        · injection e with e1 e2
          obtain rfl : a = a' := by omega
          exact ⟨ha, f, hf, by have := ((hpm f hf).im ha).2; unfold imN; omega⟩
        · exact absurd hk (Nat.not_lt_zero _)
      · obtain ⟨ha, f, hf, rfl⟩ := h
        exact (hI.mem _).2 (.inl ⟨a, ha, f, hf, by rw [((hpm f hf).im ha).2]⟩)
    refine Or.inl (cq (fpairs_fn i (by omega) l (fun x hx => by have := hW x hx; exact ⟨this.1.1, this.1.2, this.2.1, this.2.2⟩)) (And.intro rfl (And.intro rfl trivial)) ?_)
    refine And.intro (And.intro (by omega) ?_) trivial
    exact congrArg (RO.ints .i64) ((pairs_eqP hW).trans he)
def ActP (F : List (List Int)) (n : Int) : Prop := (1 ≤ n ∧ n ≤ 32) ∧ pmsP F n
theorem gorbN_fn (F : List (List Int)) (n : Int) (h : ¬ ActP F n) : QF 14 [.ro (.rows .i64 F), .int .i64 n] .nils := mkQ Tryz.func14 (by decide +kernel) rfl (Nat.le_of_ble_eq_true rfl) fun _ => by
  refine And.intro (fun _ => And.intro trivial trivial) (fun h1 => ?_)
  have h1 : 1 ≤ n := h1
  refine And.intro (fun _ => And.intro trivial trivial) (fun h2 => ?_)
  have h2 : n ≤ 32 := h2
  refine Or.inl (cq (gpms_fn F n) (And.intro rfl (And.intro rfl trivial)) ?_)
  refine And.intro (fun _ => And.intro trivial trivial) (fun h3 => ?_)
  have h3 : (!pmsB F n) = false := h3
  rw [Bool.not_eq_false'] at h3
  exact absurd ⟨⟨h1, h2⟩, pmsB_true.1 h3⟩ h
end Go.Proofs.YtjlkhjgnfnfmgaaGreat
end
