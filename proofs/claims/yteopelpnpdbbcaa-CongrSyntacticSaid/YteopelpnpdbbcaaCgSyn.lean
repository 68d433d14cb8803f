/- Package congr: the coarsest congruence in a partition: contract. -/
import Derived.Test.YteopelpnpdbbcaaCgSpl
import Derived.Test.YteopelpnpdbbcaaCgGen
import Derived.Test.YteopelpnpdbbcaaClone
import Derived.Test.YteopelpnpdbbcaaPart
import Derived.Test.YteopelpnpdbbcaaQuoLaw
namespace Go.Proofs.Yteopelpnpdbbcaa
open Go Go.AM
set_option maxRecDepth 100000
theorem csq_k (t : List (List Int)) (h : Sh t) : fnK TY SP Try.f103 [.ro (.rows .i64 t)] (.bool (.lit true)) := by
  have hmost := h.most
  have hpos := h.pos
  refine And.intro (fun h1 => absurd (show (t.length : Int) = 0 from h1) (by omega)) (fun _ => ?_)
  refine And.intro (fun h1 => absurd (show (400 : Int) < (t.length : Int) from h1) (by omega)) (fun _ => ?_)
  refine Exists.intro [] <| lp (X := Nat) (fun x => [(17, .int .i64 x)]) (fun _ => []) (fun x => x ≤ t.length) (fun x => t.length - x) 0 (Nat.zero_le _) (by repeat' first | refine And.intro ?_ ?_ | exact True.intro | (show (_ : Int) = (_ : Int); omega) | omega | exact rfl | (simp only [RO.len]; omega)) ?_
  intro x hx
  refine And.intro (fun h1 => ?_) (fun h1 => ?_)
  · have h1 : (x : Int) < (t.length : Int) := h1
    have hxl : x < t.length := by omega
    have r1 := h.len hxl
    refine And.intro (by omega) ?_
    refine And.intro (fun h2 => absurd (show ((t.getD x []).length : Int) = (t.length : Int) by rw [r1]) h2) (fun _ => ?_)
    refine Exists.intro [] <| lp (X := Nat) (fun y => [(28, .int .i64 y)]) (fun _ => []) (fun y => y ≤ t.length) (fun y => t.length - y) 0 (Nat.zero_le _) (by repeat' first | refine And.intro ?_ ?_ | exact True.intro | (show (_ : Int) = (_ : Int); omega) | omega | exact rfl | (simp only [RO.len]; omega)) ?_
    intro y hy
    refine And.intro (fun h3 => ?_) (fun h3 => ?_)
    · have h3 : (y : Int) < ((t.getD x []).length : Int) := h3
      have e1 := h.ent hxl (y := y) (by omega)
      refine And.intro (by omega) ?_
      refine And.intro (fun h4 => absurd (show (t.getD x []).getD y 0 < 0 from h4) (by omega)) (fun _ => ?_)
      refine And.intro (fun h4 => absurd (show (t.length : Int) ≤ (t.getD x []).getD y 0 from h4) (by omega)) (fun _ => ?_)
      refine And.intro (by omega) ?_
      exact nx (y + 1) (show y + 1 ≤ _ by omega) (show t.length - (y + 1) < t.length - y by omega) (by repeat' first | refine And.intro ?_ ?_ | exact True.intro | (show (_ : Int) = (_ : Int); omega) | omega | exact rfl | (simp only [RO.len]; omega))
    · have h3 : ((t.getD x []).length : Int) ≤ (y : Int) := h3
      refine And.intro (by omega) ?_
      exact nx (x + 1) (show x + 1 ≤ _ by omega) (show t.length - (x + 1) < t.length - x by omega) (by repeat' first | refine And.intro ?_ ?_ | exact True.intro | (show (_ : Int) = (_ : Int); omega) | omega | exact rfl | (simp only [RO.len]; omega))
  · exact And.intro rfl trivial
theorem csq_fn (t : List (List Int)) (h : Sh t) : QF 103 [.ro (.rows .i64 t)] (.bool (.lit true)) := mkQ Try.func103 (by decide +kernel) rfl (Nat.le_of_ble_eq_true rfl) fun _ => csq_k t h
/-! ### Plain: the splitting comes to an end -/
section
variable {t : List (List Int)} {p c c0 s im : List Int} {rnd rnd0 : Int} {M L : List Int} {gens : List Int} {i : Nat}
theorem cg_of_gens (hs : Semi t) (hg : Spans t gens) (h : ∀ g ∈ gens, ∀ x y, x < t.length → y < t.length → c.getD x 0 = c.getD y 0 → c.getD (en t g.toNat x) 0 = c.getD (en t g.toNat y) 0 ∧ c.getD (en t x g.toNat) 0 = c.getD (en t y g.toNat) 0) : Cg t c 0 := by
  have hS := hs.toSh
  have key : ∀ {s : Nat}, Mk t gens s → s < t.length ∧ ∀ x y, x < t.length → y < t.length → c.getD x 0 = c.getD y 0 → c.getD (en t s x) 0 = c.getD (en t s y) 0 ∧ c.getD (en t x s) 0 = c.getD (en t y s) 0 := fun {s} m => by
    induction m with
    | gen hm => exact ⟨by have := hg.el _ hm; omega, h _ hm⟩
    | mul ha hb i1 i2 =>
      refine ⟨(hS.ent i1.1 i2.1).2, fun x y hx hy e => ⟨?_, ?_⟩⟩
      · rw [assoc3 hs.assoc i1.1 i2.1 hx, assoc3 hs.assoc i1.1 i2.1 hy]
        exact (i1.2 _ _ (hS.ent i2.1 hx).2 (hS.ent i2.1 hy).2 (i2.2 x y hx hy e).1).1
      · rw [← assoc3 hs.assoc hx i1.1 i2.1, ← assoc3 hs.assoc hy i1.1 i2.1]
        exact (i2.2 _ _ (hS.ent hx i1.1).2 (hS.ent hy i1.1).2 (i1.2 x y hx hy e).2).2
  exact fun x y s hx hy hsl e => ⟨fun _ => ((key (hg.all s hsl)).2 x y hx hy e).1, fun _ => ((key (hg.all s hsl)).2 x y hx hy e).2⟩
/-- A partition between the greatest congruence and p. -/
structure CoB (t : List (List Int)) (p c : List Int) : Prop where
  cl : c.length = t.length
  cn : canon c = c
  ref : ∀ x y, x < t.length → y < t.length → c.getD x 0 = c.getD y 0 → p.getD x 0 = p.getD y 0
  syn : ∀ x y, x < t.length → y < t.length → Syn t p x y → c.getD x 0 = c.getD y 0
/-- After i generators, from c0 on. -/
structure CoG (t : List (List Int)) (p c0 c : List Int) (gens : List Int) (i : Nat) : Prop extends CoB t p c where
  fin : ∀ x y, x < t.length → y < t.length → c.getD x 0 = c.getD y 0 → c0.getD x 0 = c0.getD y 0
  st : ∀ g ∈ gens.take i, ∀ x y, x < t.length → y < t.length → c.getD x 0 = c.getD y 0 → c0.getD (en t g.toNat x) 0 = c0.getD (en t g.toNat y) 0 ∧ c0.getD (en t x g.toNat) 0 = c0.getD (en t y g.toNat) 0
theorem CoG.start (h : CoB t p c) : CoG t p c c gens 0 := ⟨h, fun _ _ _ _ e => e, fun g hg => by simp at hg⟩
/-- Both splits of a generator. -/
theorem CoG.next (hs : Semi t) (hg : ∀ g ∈ gens, 0 ≤ g ∧ g < (t.length : Int)) (h : CoG t p c0 c gens i) (hi : i < gens.length) {a b : List Int} (ha : ∀ x, x < t.length → (a.getD x 0).toNat = en t (gens.getD i 0).toNat x) (hb : ∀ x, x < t.length → (b.getD x 0).toNat = en t x (gens.getD i 0).toNat) :
    CoG t p c0 (spC (spC c a) b) gens (i + 1) := by
  have hS := hs.toSh
  have hgr := hg _ (getD_mem (d := 0) hi)
  have hgl : (gens.getD i 0).toNat < t.length := by omega
  have hcl := h.cl
  have l1 : (spC c a).length = t.length := by rw [spC_len]; exact hcl
  have l2 : (spC (spC c a) b).length = t.length := by rw [spC_len]; exact l1
  have k1 : ∀ x y, x < t.length → y < t.length → ((spC c a).getD x 0 = (spC c a).getD y 0 ↔ c.getD x 0 = c.getD y 0 ∧ c.getD (en t (gens.getD i 0).toNat x) 0 = c.getD (en t (gens.getD i 0).toNat y) 0) := fun x y hx hy => by
    rw [spC_iff (by omega) (by omega), ha x hx, ha y hy]
  have k2 : ∀ x y, x < t.length → y < t.length → ((spC (spC c a) b).getD x 0 = (spC (spC c a) b).getD y 0 ↔ (spC c a).getD x 0 = (spC c a).getD y 0 ∧ (spC c a).getD (en t x (gens.getD i 0).toNat) 0 = (spC c a).getD (en t y (gens.getD i 0).toNat) 0) := fun x y hx hy => by
    rw [spC_iff (by omega) (by omega), hb x hx, hb y hy]
  have down : ∀ x y, x < t.length → y < t.length → (spC (spC c a) b).getD x 0 = (spC (spC c a) b).getD y 0 → c.getD x 0 = c.getD y 0 ∧ c.getD (en t (gens.getD i 0).toNat x) 0 = c.getD (en t (gens.getD i 0).toNat y) 0 ∧ c.getD (en t x (gens.getD i 0).toNat) 0 = c.getD (en t y (gens.getD i 0).toNat) 0 := fun x y hx hy e => by
    have e1 := (k2 x y hx hy).1 e
    have e2 := (k1 x y hx hy).1 e1.1
    have e3 := (k1 _ _ (hS.ent hx hgl).2 (hS.ent hy hgl).2).1 e1.2
    exact ⟨e2.1, e2.2, e3.1⟩
  refine ⟨⟨l2, spC_canon _ _, fun x y hx hy e => h.ref x y hx hy (down x y hx hy e).1, fun x y hx hy e => ?_⟩, fun x y hx hy e => h.fin x y hx hy (down x y hx hy e).1, fun g hgm x y hx hy e => ?_⟩
  · have up : ∀ x y, x < t.length → y < t.length → Syn t p x y → (spC c a).getD x 0 = (spC c a).getD y 0 := fun x y hx hy e =>
      (k1 x y hx hy).2 ⟨h.syn x y hx hy e, h.syn _ _ (hS.ent hgl hx).2 (hS.ent hgl hy).2 (syn_cg hs hx hy hgl e).1⟩
    exact (k2 x y hx hy).2 ⟨up x y hx hy e, up _ _ (hS.ent hx hgl).2 (hS.ent hy hgl).2 (syn_cg hs hx hy hgl e).2⟩
  · have hd := down x y hx hy e
    rw [take_get (d := 0) hi] at hgm
    rcases List.mem_append.1 hgm with hgm | hgm
    · exact h.st g hgm x y hx hy hd.1
    · rw [List.mem_singleton] at hgm
      subst hgm
      exact ⟨h.fin _ _ (hS.ent hgl hx).2 (hS.ent hgl hy).2 hd.2.1, h.fin _ _ (hS.ent hx hgl).2 (hS.ent hy hgl).2 hd.2.2⟩
/-- All generators done, and no class more: the greatest congruence. -/
theorem CoG.done (hs : Semi t) (hg : Spans t gens) (h : CoG t p c0 c gens i) (h0 : CoB t p c0) (hi : gens.length ≤ i) : classN c0 ≤ classN c ∧ (classN c0 = classN c → c = synP t p) := by
  have hc := same_count h0.cn h.cn (by rw [h0.cl, h.cl]) (fun x y hx hy e => h.fin x y (by rw [h0.cl] at hx; exact hx) (by rw [h0.cl] at hy; exact hy) e)
  refine ⟨hc.1, fun e => ?_⟩
  have e := hc.2 e
  have hst := h.st
  rw [List.take_of_length_le hi] at hst
  rw [← e] at hst
  rw [← h.cn]
  exact synP_of hs h.cl h.ref h.syn (cg_of_gens hs hg hst)
end
abbrev un7 {A B C D E F G : Type} {γ : Sort _} (f : A → B → C → D → E → F → G → γ) (p : A × B × C × D × E × F × G) : γ := match p with | (a, b, c, d, e, g, h) => f a b c d e g h
theorem lp7 {A B C D E5 F6 G7 : Type} (U : A → B → C → D → E5 → F6 → G7 → List (Nat × AV)) (V : A → B → C → D → E5 → F6 → G7 → Store) (ok : A → B → C → D → E5 → F6 → G7 → Prop) (μ : A → B → C → D → E5 → F6 → G7 → Nat) (a0 : A) (b0 : B) (c0 : C) (d0 : D) (e0 : E5) (f0 : F6) (g0 : G7) {E Bd : (Y : Type) → (Y → List (Nat × AV)) → (Y → Store) → (Y → Prop) → (Y → Nat) → Y → Prop}
    (h0 : ok a0 b0 c0 d0 e0 f0 g0) (h1 : E (A × B × C × D × E5 × F6 × G7) (un7 U) (un7 V) (un7 ok) (un7 μ) (a0, b0, c0, d0, e0, f0, g0)) (h2 : ∀ a b c d e f g, ok a b c d e f g → Bd (A × B × C × D × E5 × F6 × G7) (un7 U) (un7 V) (un7 ok) (un7 μ) (a, b, c, d, e, f, g)) :
    ∃ (X : Type) (U : X → List (Nat × AV)) (V : X → Store) (ok : X → Prop) (μ : X → Nat) (x0 : X), (ok x0 ∧ E X U V ok μ x0) ∧ ∀ x, ok x → Bd X U V ok μ x :=
  ⟨A × B × C × D × E5 × F6 × G7, un7 U, un7 V, un7 ok, un7 μ, (a0, b0, c0, d0, e0, f0, g0), ⟨h0, h1⟩, fun (a, b, c, d, e, f, g) h => h2 a b c d e f g h⟩
def b0 (b : Bool) : Nat := match b with | true => 0 | false => 1
set_option maxHeartbeats 2000000 in
theorem ccoa_k (t : List (List Int)) (p : List Int) (hs : Semi t) (hl : p.length = t.length) (hv : validP p) : fnK TY SP Try.f54 [.ro (.rows .i64 t), .ro (.ints .i64 p)] (.new (.ints .i64 (synP t p))) := by
  have hS := hs.toSh
  have hmost := hs.most
  refine Or.inl (cq (csq_fn t hS) (And.intro rfl trivial) ?_)
  refine And.intro (fun h1 => absurd (show (p.length : Int) = (t.length : Int) by omega) h1) (fun _ => ?_)
  refine Or.inl (cq (pvalid_fn p) (And.intro rfl trivial) ?_)
  refine And.intro (fun h2 => ?_) (fun _ => ?_)
  · have h2 : (!decide (validP p)) = true := h2
    rw [decide_eq_true hv] at h2; cases h2
  have hnn : (t.length : Int) * (t.length : Int) = ((t.length * t.length : Nat) : Int) := by rw [Int.natCast_mul]
  have hn2 : t.length * t.length ≤ 160000 := Nat.mul_le_mul (show t.length ≤ 400 from hmost) hmost
  refine Or.inl ?_
  refine Exists.intro [false, false, false, false, false, false, false, false, false, false, false, false, false, false, true] (And.intro (by decide +kernel) ?_)
  refine cq (cloneI_fn p (by omega)) (And.intro rfl trivial) ?_
  refine And.intro (by omega) ?_
  refine And.intro (by omega) ?_
  refine And.intro (by omega) ?_
  refine And.intro (by omega) ?_
  refine And.intro (by omega) ?_
  refine And.intro (by omega) ?_
  refine And.intro (by omega) ?_
  refine And.intro (by omega) ?_
  refine Or.inl (cq (pcount_fn p) (And.intro rfl trivial) ?_)
  refine Or.inr (Or.inr (ce (cgens_fn t hS) (And.intro rfl trivial) ?_))
  intro gens hg
  refine And.intro (by omega) ?_
  refine And.intro (by omega) ?_
  have ecn : (if validP p then ((classN p : Nat) : Int) else 0) = (classN p : Nat) := if_pos hv
  have hpos := hS.pos
  have hcp : 0 < classN p := cls_some hS hl
  have zr : ∀ n, ∀ x ∈ List.replicate n (0 : Int), x = 0 := fun n x hx => List.eq_of_mem_replicate hx
  have zg : ∀ (n x : Nat), (List.replicate n (0 : Int)).getD x 0 = 0 := fun n x => by simp only [List.getD, List.getElem?_replicate]; split <;> rfl
  have hB0 : CoB t p p := ⟨hl, hv.2, fun _ _ _ _ e => e, fun _ _ _ _ e => e.own⟩
  have hQ0 : SpQ p (List.replicate (t.length : Int).toNat 0) 0 (List.replicate ((t.length : Int) * (t.length : Int)).toNat 0) (List.replicate ((t.length : Int) * (t.length : Int)).toNat 0) (List.replicate (t.length : Int).toNat 0) :=
    ⟨by omega, by simp; omega, fun x hx => by
      obtain ⟨j, hj, rfl⟩ := mem_getD 0 hx
      have := cls_lt hv.2 hj
      have hle : classN p ≤ p.length := firsts_le p
      omega, by simp; omega, fun x hx => by rw [zg]; omega, by rw [List.length_replicate, hnn, Int.toNat_natCast, hl], by rw [List.length_replicate, hnn, Int.toNat_natCast, hl], fun x hx => by rw [zr _ x hx]; omega, fun x hx => by rw [zr _ x hx]; omega, by omega⟩
  refine Exists.intro [] <| lp7 (fun (b : Int) (_ _ : List Int) (_ : Int) (_ _ _ : List Int) => [(9, .int .i64 b)]) (fun _ c s rnd M L im => [(6, .box [.vec 31, .vec 33, .int .i64 (classN c : Nat), .int .i64 rnd, .vec 37, .vec 41]), (31, .vec 0 (.ints .i64 c) []), (33, .vec 0 (.ints .i64 s) []), (37, .vec 0 (.ints .i64 M) []), (41, .vec 0 (.ints .i64 L) []), (49, .vec 0 (.ints .i64 im) [])]) (fun b c s rnd M L im => SpQ c s rnd M L im ∧ CoB t p c ∧ (b ≠ (classN c : Int) → rnd ≤ 800 * (classN c : Int)) ∧ (b = (classN c : Int) → c = synP t p)) (fun b c _ _ _ _ _ => 2 * (t.length - classN c) + b0 (decide (b = (classN c : Int)))) 0 p _ 0 _ _ _ ⟨hQ0, hB0, fun _ => by omega, fun h => by omega⟩ (by repeat' first | refine And.intro ?_ ?_ | exact True.intro | exact ecn | (show (_ : Int) = (_ : Int); omega) | omega | exact rfl) ?_
  rintro b c s rnd M L im ⟨hQ, hB, hrb, hbs⟩
  have hcl := hB.cl
  have hcle : classN c ≤ t.length := by rw [← hcl]; exact firsts_le c
  refine And.intro (fun h1 => ?_) (fun h1 => ?_)
  · have h1 : b ≠ (classN c : Int) := h1
    have hr1 := hrb h1
    refine Exists.intro [] <| lp7 (fun (i : Nat) (_ _ : List Int) (_ : Int) (_ _ _ : List Int) => [(58, .int .i64 i)]) (fun _ d s2 rd M2 L2 im2 => [(6, .box [.vec 31, .vec 33, .int .i64 (classN d : Nat), .int .i64 rd, .vec 37, .vec 41]), (31, .vec 0 (.ints .i64 d) []), (33, .vec 0 (.ints .i64 s2) []), (37, .vec 0 (.ints .i64 M2) []), (41, .vec 0 (.ints .i64 L2) []), (49, .vec 0 (.ints .i64 im2) [])]) (fun i d s2 rd M2 L2 im2 => i ≤ gens.length ∧ SpQ d s2 rd M2 L2 im2 ∧ CoG t p c d gens i ∧ rd ≤ rnd + 2 * (i : Int)) (fun i _ _ _ _ _ _ => gens.length - i) 0 c s rnd M L im ⟨Nat.zero_le _, hQ, CoG.start hB, by omega⟩ (by repeat' first | refine And.intro ?_ ?_ | exact True.intro | (show (_ : Int) = (_ : Int); omega) | omega | exact rfl | (simp only [RO.len]; omega)) ?_
    rintro i d s2 rd M2 L2 im2 ⟨hi, hQ2, hG, hrd⟩
    have hdl := hG.cl
    have hdn : classN d ≤ t.length := by rw [← hdl]; exact firsts_le d
    refine And.intro (fun h2 => ?_) (fun h2 => ?_)
    · have h2 : (i : Int) < (gens.length : Int) := h2
      have hil : i < gens.length := by omega
      have hgr := hg.1.el _ (getD_mem (d := 0) hil)
      have hgl : (gens.getD i 0).toNat < t.length := by omega
      have r1 := hS.len hgl
      have ha : ∀ x, x < t.length → ((t.getD (gens.getD i 0).toNat []).getD x 0).toNat = en t (gens.getD i 0).toNat x := fun x hx => rfl
      have hai : ∀ x, x < d.length → 0 ≤ (t.getD (gens.getD i 0).toNat []).getD x 0 ∧ (t.getD (gens.getD i 0).toNat []).getD x 0 < (d.length : Int) := fun x hx => by have := hS.ent hgl (y := x) (by omega); omega
      have hQa : SpQ d s2 rd M2 L2 (t.getD (gens.getD i 0).toNat []) := { hQ2 with il := by omega, iin := hai }
      refine And.intro (by omega) ?_
      refine And.intro (show 0 ≤ gens.getD i 0 ∧ gens.getD i 0 < (t.length : Int) by omega) ?_
      refine And.intro (show im2.length = (t.getD (gens.getD i 0).toNat []).length by rw [r1, ← hdl]; exact hQ2.il) ?_
      refine Or.inr (Or.inl (cm [] [(1000, 6), (1001, 31), (1002, 33), (1003, 37), (1004, 41), (1005, 49)] (csplit_fn d s2 (classN d : Nat) rd M2 L2 (t.getD (gens.getD i 0).toNat []) hQa) ?_))
      refine And.intro (by repeat' first | refine And.intro ?_ ?_ | exact True.intro | (show (_ : Int) = (_ : Int); omega) | omega | exact rfl | (simp only [RO.len]; omega)) ?_
      refine Exists.intro [] <| lp2 (fun (x : Nat) (_ : List Int) => [(72, .int .i64 x)]) (fun _ I => [(49, .vec 0 (.ints .i64 I) [])]) (fun x I => x ≤ t.length ∧ I.length = t.length ∧ ∀ x', x' < x → I.getD x' 0 = (t.getD x' []).getD (gens.getD i 0).toNat 0) (fun x _ => t.length - x) 0 (t.getD (gens.getD i 0).toNat []) ⟨Nat.zero_le _, r1, fun x h => absurd h (Nat.not_lt_zero _)⟩ (by repeat' first | refine And.intro ?_ ?_ | exact True.intro | (show (_ : Int) = (_ : Int); omega) | omega | exact rfl | (simp only [RO.len]; omega)) ?_
      rintro x I ⟨hx, hIl, hI⟩
      refine And.intro (fun h3 => ?_) (fun h3 => ?_)
      · have h3 : (x : Int) < (t.length : Int) := h3
        have hxl : x < t.length := by omega
        have r2 := hS.len hxl
        refine And.intro (by omega) ?_
        refine And.intro (show 0 ≤ gens.getD i 0 ∧ gens.getD i 0 < ((t.getD x []).length : Int) by omega) ?_
        refine And.intro (show 0 ≤ (x : Int) ∧ (x : Int) < (I.length : Int) by omega) ?_
        refine And.intro (by omega) ?_
        refine And.intro (by omega) ?_
        refine nx (x + 1, I.set x ((t.getD x []).getD (gens.getD i 0).toNat 0)) ⟨by omega, by rw [List.length_set]; exact hIl, fun x' hx' => ?_⟩ (show t.length - (x + 1) < t.length - x by omega) (by repeat' first | refine And.intro ?_ ?_ | exact True.intro | (show (_ : Int) = (_ : Int); omega) | omega | exact rfl | (simp only [RO.len]; omega))
        by_cases e : x' = x
        · subst e; rw [getD_set_eq (by omega)]
        · rw [getD_set_ne (Ne.symm e)]; exact hI x' (by omega)
      · have h3 : (t.length : Int) ≤ (x : Int) := h3
        have hb : ∀ y, y < t.length → (I.getD y 0).toNat = en t y (gens.getD i 0).toNat := fun y hy => by rw [hI y (by omega)]; rfl
        have hbi : ∀ y, y < d.length → 0 ≤ I.getD y 0 ∧ I.getD y 0 < (d.length : Int) := fun y hy => by
          rw [hI y (by omega)]
          have := hS.ent (x := y) (y := (gens.getD i 0).toNat) (by omega) hgl
          omega
        have hQb := hQa.next (im2 := I) (by omega) (by omega) hbi
        have hQc := hQb.next (im2 := I) (by omega) (by rw [spC_len]; omega) (fun y hy => by rw [spC_len] at hy ⊢; exact hbi y hy)
        refine Or.inr (Or.inl (cm [] [(1000, 6), (1001, 33), (1002, 31), (1003, 37), (1004, 41), (1005, 49)] (csplit_fn (spC d (t.getD (gens.getD i 0).toNat [])) d (classN (spC d (t.getD (gens.getD i 0).toNat [])) : Nat) (rd + 1) (spM d (t.getD (gens.getD i 0).toNat []) (rd + 1) M2 L2 d.length).1 (spM d (t.getD (gens.getD i 0).toNat []) (rd + 1) M2 L2 d.length).2 I hQb) ?_))
        refine And.intro (by repeat' first | refine And.intro ?_ ?_ | exact True.intro | (show (_ : Int) = (_ : Int); omega) | omega | exact rfl | (simp only [RO.len]; omega)) ?_
        refine And.intro (by omega) ?_
        exact nx (i + 1, spC (spC d (t.getD (gens.getD i 0).toNat [])) I, spC d (t.getD (gens.getD i 0).toNat []), rd + 1 + 1, _, _, I) ⟨by omega, hQc, hG.next hs hg.1.el hil ha hb, by omega⟩ (show gens.length - (i + 1) < gens.length - i by omega) (by repeat' first | refine And.intro ?_ ?_ | exact True.intro | (show (_ : Int) = (_ : Int); omega) | omega | exact rfl | (simp only [RO.len]; omega))
    · have h2 : (gens.length : Int) ≤ (i : Int) := h2
      have hdn2 := hG.done hs hg.1 hB (by omega)
      refine nx ((classN c : Int), d, s2, rd, M2, L2, im2) ⟨hQ2, hG.toCoB, fun h4 => by omega, fun h4 => hdn2.2 (by omega)⟩ ?_ (by repeat' first | refine And.intro ?_ ?_ | exact True.intro | (show (_ : Int) = (_ : Int); omega) | omega | exact rfl | (simp only [RO.len]; omega))
      show 2 * (t.length - classN d) + b0 (decide ((classN c : Int) = (classN d : Int))) < 2 * (t.length - classN c) + b0 (decide (b = (classN c : Int)))
      rw [decide_eq_false h1]
      show _ < 2 * (t.length - classN c) + 1
      by_cases e : classN c = classN d
      · rw [decide_eq_true (by omega)]
        show 2 * (t.length - classN d) + 0 < _
        omega
      · rw [decide_eq_false (by omega)]
        show 2 * (t.length - classN d) + 1 < _
        omega
  · have h1 : b = (classN c : Int) := h1
    refine And.intro (And.intro (by omega) ?_) trivial
    show RO.ints .i64 c = _
    rw [hbs h1]
theorem ccoa_fn (t : List (List Int)) (p : List Int) (hs : Semi t) (hl : p.length = t.length) (hv : validP p) : QF 54 [.ro (.rows .i64 t), .ro (.ints .i64 p)] (.new (.ints .i64 (synP t p))) := mkQ Try.func54 (by decide +kernel) rfl (Nat.le_of_ble_eq_true rfl) fun _ => ccoa_k t p hs hl hv
end Go.Proofs.Yteopelpnpdbbcaa
