import Derived.Test.YtpanlghofeebhaaEqvLaw
import Derived.Test.YtpanlghofeebhaaAmRet
import Derived.Test.YtpanlghofeebhaaSgpLaw
import Derived.Test.YtpanlghofeebhaaGroup
import Derived.Test.YtpanlghofeebhaaRefRees
section
/- More idioms of stepping: loops with five to nine things that change. -/
namespace Go.Proofs.Ytpanlghofeebhaa
open Go Go.AM
abbrev un5 {A B C D E : Type} {γ : Sort _} (f : A → B → C → D → E → γ) (p : A × B × C × D × E) : γ := match p with | (a, b, c, d, e) => f a b c d e
abbrev un6 {A B C D E F : Type} {γ : Sort _} (f : A → B → C → D → E → F → γ) (p : A × B × C × D × E × F) : γ := match p with | (a, b, c, d, e, g) => f a b c d e g
theorem lp5 {A B C D E5 : Type} (U : A → B → C → D → E5 → List (Nat × AV)) (V : A → B → C → D → E5 → Store) (ok : A → B → C → D → E5 → Prop) (μ : A → B → C → D → E5 → Nat) (a0 : A) (b0 : B) (c0 : C) (d0 : D) (e0 : E5) {E Bd : (Y : Type) → (Y → List (Nat × AV)) → (Y → Store) → (Y → Prop) → (Y → Nat) → Y → Prop}
    (h0 : ok a0 b0 c0 d0 e0) (h1 : E (A × B × C × D × E5) (un5 U) (un5 V) (un5 ok) (un5 μ) (a0, b0, c0, d0, e0)) (h2 : ∀ a b c d e, ok a b c d e → Bd (A × B × C × D × E5) (un5 U) (un5 V) (un5 ok) (un5 μ) (a, b, c, d, e)) :
    ∃ (X : Type) (U : X → List (Nat × AV)) (V : X → Store) (ok : X → Prop) (μ : X → Nat) (x0 : X), (ok x0 ∧ E X U V ok μ x0) ∧ ∀ x, ok x → Bd X U V ok μ x :=
  ⟨A × B × C × D × E5, un5 U, un5 V, un5 ok, un5 μ, (a0, b0, c0, d0, e0), ⟨h0, h1⟩, fun (a, b, c, d, e) h => h2 a b c d e h⟩
theorem lp6 {A B C D E5 F6 : Type} (U : A → B → C → D → E5 → F6 → List (Nat × AV)) (V : A → B → C → D → E5 → F6 → Store) (ok : A → B → C → D → E5 → F6 → Prop) (μ : A → B → C → D → E5 → F6 → Nat) (a0 : A) (b0 : B) (c0 : C) (d0 : D) (e0 : E5) (f0 : F6) {E Bd : (Y : Type) → (Y → List (Nat × AV)) → (Y → Store) → (Y → Prop) → (Y → Nat) → Y → Prop}
    (h0 : ok a0 b0 c0 d0 e0 f0) (h1 : E (A × B × C × D × E5 × F6) (un6 U) (un6 V) (un6 ok) (un6 μ) (a0, b0, c0, d0, e0, f0)) (h2 : ∀ a b c d e f, ok a b c d e f → Bd (A × B × C × D × E5 × F6) (un6 U) (un6 V) (un6 ok) (un6 μ) (a, b, c, d, e, f)) :
    ∃ (X : Type) (U : X → List (Nat × AV)) (V : X → Store) (ok : X → Prop) (μ : X → Nat) (x0 : X), (ok x0 ∧ E X U V ok μ x0) ∧ ∀ x, ok x → Bd X U V ok μ x :=
  ⟨A × B × C × D × E5 × F6, un6 U, un6 V, un6 ok, un6 μ, (a0, b0, c0, d0, e0, f0), ⟨h0, h1⟩, fun (a, b, c, d, e, f) h => h2 a b c d e f h⟩
abbrev un7 {A B C D E F G : Type} {γ : Sort _} (f : A → B → C → D → E → F → G → γ) (p : A × B × C × D × E × F × G) : γ := match p with | (a, b, c, d, e, g, h) => f a b c d e g h
theorem lp7 {A B C D E5 F6 G7 : Type} (U : A → B → C → D → E5 → F6 → G7 → List (Nat × AV)) (V : A → B → C → D → E5 → F6 → G7 → Store) (ok : A → B → C → D → E5 → F6 → G7 → Prop) (μ : A → B → C → D → E5 → F6 → G7 → Nat) (a0 : A) (b0 : B) (c0 : C) (d0 : D) (e0 : E5) (f0 : F6) (g0 : G7) {E Bd : (Y : Type) → (Y → List (Nat × AV)) → (Y → Store) → (Y → Prop) → (Y → Nat) → Y → Prop}
    (h0 : ok a0 b0 c0 d0 e0 f0 g0) (h1 : E (A × B × C × D × E5 × F6 × G7) (un7 U) (un7 V) (un7 ok) (un7 μ) (a0, b0, c0, d0, e0, f0, g0)) (h2 : ∀ a b c d e f g, ok a b c d e f g → Bd (A × B × C × D × E5 × F6 × G7) (un7 U) (un7 V) (un7 ok) (un7 μ) (a, b, c, d, e, f, g)) :
    ∃ (X : Type) (U : X → List (Nat × AV)) (V : X → Store) (ok : X → Prop) (μ : X → Nat) (x0 : X), (ok x0 ∧ E X U V ok μ x0) ∧ ∀ x, ok x → Bd X U V ok μ x :=
  ⟨A × B × C × D × E5 × F6 × G7, un7 U, un7 V, un7 ok, un7 μ, (a0, b0, c0, d0, e0, f0, g0), ⟨h0, h1⟩, fun (a, b, c, d, e, f, g) h => h2 a b c d e f g h⟩
abbrev un8 {T0 T1 T2 T3 T4 T5 T6 T7 : Type} {γ : Sort _} (q : T0 → T1 → T2 → T3 → T4 → T5 → T6 → T7 → γ) (p : T0 × T1 × T2 × T3 × T4 × T5 × T6 × T7) : γ := match p with | (a, b, c, d, e, f, g, h) => q a b c d e f g h
theorem lp8 {T0 T1 T2 T3 T4 T5 T6 T7 : Type} (U : T0 → T1 → T2 → T3 → T4 → T5 → T6 → T7 → List (Nat × AV)) (V : T0 → T1 → T2 → T3 → T4 → T5 → T6 → T7 → Store) (ok : T0 → T1 → T2 → T3 → T4 → T5 → T6 → T7 → Prop) (μ : T0 → T1 → T2 → T3 → T4 → T5 → T6 → T7 → Nat) (a0 : T0) (b0 : T1) (c0 : T2) (d0 : T3) (e0 : T4) (f0 : T5) (g0 : T6) (h0 : T7) {EE Bd : (Y : Type) → (Y → List (Nat × AV)) → (Y → Store) → (Y → Prop) → (Y → Nat) → Y → Prop}
    (q0 : ok a0 b0 c0 d0 e0 f0 g0 h0) (q1 : EE (T0 × T1 × T2 × T3 × T4 × T5 × T6 × T7) (un8 U) (un8 V) (un8 ok) (un8 μ) (a0, b0, c0, d0, e0, f0, g0, h0)) (q2 : ∀ a b c d e f g h, ok a b c d e f g h → Bd (T0 × T1 × T2 × T3 × T4 × T5 × T6 × T7) (un8 U) (un8 V) (un8 ok) (un8 μ) (a, b, c, d, e, f, g, h)) :
    ∃ (X : Type) (U : X → List (Nat × AV)) (V : X → Store) (ok : X → Prop) (μ : X → Nat) (x0 : X), (ok x0 ∧ EE X U V ok μ x0) ∧ ∀ x, ok x → Bd X U V ok μ x :=
  ⟨T0 × T1 × T2 × T3 × T4 × T5 × T6 × T7, un8 U, un8 V, un8 ok, un8 μ, (a0, b0, c0, d0, e0, f0, g0, h0), ⟨q0, q1⟩, fun (a, b, c, d, e, f, g, h) hh => q2 a b c d e f g h hh⟩
abbrev un9 {T0 T1 T2 T3 T4 T5 T6 T7 T8 : Type} {γ : Sort _} (q : T0 → T1 → T2 → T3 → T4 → T5 → T6 → T7 → T8 → γ) (p : T0 × T1 × T2 × T3 × T4 × T5 × T6 × T7 × T8) : γ := match p with | (a, b, c, d, e, f, g, h, i) => q a b c d e f g h i
theorem lp9 {T0 T1 T2 T3 T4 T5 T6 T7 T8 : Type} (U : T0 → T1 → T2 → T3 → T4 → T5 → T6 → T7 → T8 → List (Nat × AV)) (V : T0 → T1 → T2 → T3 → T4 → T5 → T6 → T7 → T8 → Store) (ok : T0 → T1 → T2 → T3 → T4 → T5 → T6 → T7 → T8 → Prop) (μ : T0 → T1 → T2 → T3 → T4 → T5 → T6 → T7 → T8 → Nat) (a0 : T0) (b0 : T1) (c0 : T2) (d0 : T3) (e0 : T4) (f0 : T5) (g0 : T6) (h0 : T7) (i0 : T8) {EE Bd : (Y : Type) → (Y → List (Nat × AV)) → (Y → Store) → (Y → Prop) → (Y → Nat) → Y → Prop}
    (q0 : ok a0 b0 c0 d0 e0 f0 g0 h0 i0) (q1 : EE (T0 × T1 × T2 × T3 × T4 × T5 × T6 × T7 × T8) (un9 U) (un9 V) (un9 ok) (un9 μ) (a0, b0, c0, d0, e0, f0, g0, h0, i0)) (q2 : ∀ a b c d e f g h i, ok a b c d e f g h i → Bd (T0 × T1 × T2 × T3 × T4 × T5 × T6 × T7 × T8) (un9 U) (un9 V) (un9 ok) (un9 μ) (a, b, c, d, e, f, g, h, i)) :
    ∃ (X : Type) (U : X → List (Nat × AV)) (V : X → Store) (ok : X → Prop) (μ : X → Nat) (x0 : X), (ok x0 ∧ EE X U V ok μ x0) ∧ ∀ x, ok x → Bd X U V ok μ x :=
  ⟨T0 × T1 × T2 × T3 × T4 × T5 × T6 × T7 × T8, un9 U, un9 V, un9 ok, un9 μ, (a0, b0, c0, d0, e0, f0, g0, h0, i0), ⟨q0, q1⟩, fun (a, b, c, d, e, f, g, h, i) hh => q2 a b c d e f g h i hh⟩
theorem all4 {T0 T1 T2 T3 : Type} {P : T0 × T1 × T2 × T3 → Prop} (q : ∀ a b c d, P (a, b, c, d)) : ∀ z, P z := fun (a, b, c, d) => q a b c d
theorem all7 {T0 T1 T2 T3 T4 T5 T6 : Type} {P : T0 × T1 × T2 × T3 × T4 × T5 × T6 → Prop} (q : ∀ a b c d e f g, P (a, b, c, d, e, f, g)) : ∀ z, P z := fun (a, b, c, d, e, f, g) => q a b c d e f g
theorem schShr {TY : List TyE} {F : Go.AM.Spec} {ops : List Oper} {t : Sch} {T0 T : List AV} {S0 S : Store} {Q : List AV → Store → Prop} (h : ∀ K : List AV → Store → Prop, K T S → schK TY F ops t T0 S0 K) (hq : Q T S) : schK TY F ops t T0 S0 Q := h Q hq
end Go.Proofs.Ytpanlghofeebhaa
end
section
/- Package congr: generators: contract. -/
namespace Go.Proofs.Ytpanlghofeebhaa
open Go Go.AM
set_option maxRecDepth 100000
structure GnS (t : List (List Int)) (x : Nat) (G R : List Int) (I : List Bool) (D : List Int) : Prop where
  il : I.length = t.length
  dl : D.length = t.length
  mks : ∀ z, I.getD z false = true → Mk t G z
  lo : ∀ z, z < x → I.getD z false = true
  gs : ∀ g ∈ G, 0 ≤ g ∧ g < (t.length : Int)
  gl : G.length ≤ x
  rs : ∀ y ∈ R, (0 ≤ y ∧ y < (t.length : Int)) ∧ I.getD y.toNat false = true
  rn : R.Nodup
  dd : ∀ z, 0 ≤ D.getD z 0 ∧ D.getD z 0 ≤ (G.length : Int)
section
variable {t : List (List Int)} {x : Nat} {G R : List Int} {I : List Bool} {D : List Int}
theorem GnS.rl (h : GnS t x G R I D) : R.length ≤ t.length := nodup_len h.rn fun y hy => (h.rs y hy).1
theorem GnS.start (t : List (List Int)) : GnS t 0 [] [] (List.replicate t.length false) (List.replicate t.length 0) := by
  refine ⟨by simp, by simp, fun z hz => ?_, fun z hz => absurd hz (Nat.not_lt_zero _), fun _ h => (nomatch h), Nat.le_refl _, fun _ h => (nomatch h), .nil, fun z => ?_⟩
  · simp [List.getD, List.getElem?_replicate] at hz
    split at hz <;> simp at hz
  · have : (List.replicate t.length (0 : Int)).getD z 0 = 0 := by
      simp only [List.getD, List.getElem?_replicate]
      split <;> rfl
    rw [this]; simp
theorem set_true {I : List Bool} {x z : Nat} (h : (I.set x true).getD z false = true) : z = x ∨ I.getD z false = true := by
  by_cases e : z = x
  · exact .inl e
  · rw [getD_set_ne (Ne.symm e)] at h; exact .inr h
theorem keep_true {I : List Bool} {x z : Nat} (h : I.getD z false = true) : (I.set x true).getD z false = true := by
  by_cases e : x = z
  · subst e
    have hl : x < I.length := Nat.lt_of_not_le fun hl => by
      rw [List.getD, List.getElem?_eq_none hl] at h; cases h
    exact getD_set_eq hl
  · rw [getD_set_ne e]; exact h
theorem GnS.gen (h : GnS t x G R I D) (hx : x < t.length) (hn : I.getD x false = false) : GnS t (x + 1) (G ++ [(x : Int)]) (R ++ [(x : Int)]) (I.set x true) D := by
  have hil := h.il
  refine ⟨by rw [List.length_set]; exact h.il, h.dl, fun z hz => ?_, fun z hz => ?_, fun g hg => ?_, by have := h.gl; simp; omega, fun y hy => ?_, ?_, fun z => by have := h.dd z; rw [List.length_append, List.length_singleton]; omega⟩
  · rcases set_true hz with rfl | hz
    · have := Mk.gen (t := t) (gens := G ++ [(z : Int)]) (g := (z : Int)) (by simp)
      simpa using this
    · exact (h.mks z hz).mono fun a ha => List.mem_append_left _ ha
  · by_cases e : z = x
    · subst e; exact getD_set_eq (by omega)
    · exact keep_true (h.lo z (by omega))
  · rcases List.mem_append.1 hg with hg | hg
    · exact h.gs g hg
    · rw [List.mem_singleton] at hg; omega
  · rcases List.mem_append.1 hy with hy | hy
    · exact ⟨(h.rs y hy).1, keep_true (h.rs y hy).2⟩
    · rw [List.mem_singleton] at hy
      subst hy
      exact ⟨by omega, by rw [Int.toNat_natCast]; exact getD_set_eq (by omega)⟩
  · rw [List.nodup_append]
    refine ⟨h.rn, by simp, fun a ha b hb => ?_⟩
    rw [List.mem_singleton] at hb
    subst hb
    rintro rfl
    have := (h.rs _ ha).2
    rw [Int.toNat_natCast, hn] at this; cases this
theorem GnS.skip (h : GnS t x G R I D) (hx : x < t.length) (hn : I.getD x false = true) : GnS t (x + 1) G R I D :=
  ⟨h.il, h.dl, h.mks, fun z hz => by
    by_cases e : z = x
    · subst e; exact hn
    · exact h.lo z (by omega), h.gs, by have := h.gl; omega, h.rs, h.rn, h.dd⟩
theorem GnS.push (h : GnS t x G R I D) (hs : Sh t) {y g : Int} (hy : y ∈ R) (hg : g ∈ G) (hn : I.getD (en t y.toNat g.toNat) false = false) : GnS t x G (R ++ [(en t y.toNat g.toNat : Int)]) (I.set (en t y.toNat g.toNat) true) D := by
  have hyr := h.rs y hy
  have hgr := h.gs g hg
  have hlt := (hs.ent (x := y.toNat) (y := g.toNat) (by omega) (by omega)).2
  have hil := h.il
  refine ⟨by rw [List.length_set]; exact h.il, h.dl, fun z hz => ?_, fun z hz => keep_true (h.lo z hz), h.gs, h.gl, fun a ha => ?_, ?_, h.dd⟩
  · rcases set_true hz with rfl | hz
    · exact .mul (h.mks _ hyr.2) (.gen hg)
    · exact h.mks z hz
  · rcases List.mem_append.1 ha with ha | ha
    · exact ⟨(h.rs a ha).1, keep_true (h.rs a ha).2⟩
    · rw [List.mem_singleton] at ha
      subst ha
      exact ⟨by omega, by rw [Int.toNat_natCast]; exact getD_set_eq (by omega)⟩
  · rw [List.nodup_append]
    refine ⟨h.rn, by simp, fun a ha b hb => ?_⟩
    rw [List.mem_singleton] at hb
    subst hb
    rintro rfl
    have := (h.rs _ ha).2
    rw [Int.toNat_natCast, hn] at this; cases this
theorem GnS.step (h : GnS t x G R I D) {y : Nat} (hy : y < t.length) (hd : D.getD y 0 < (G.length : Int)) : GnS t x G R I (D.set y (D.getD y 0 + 1)) := by
  have hdl := h.dl
  refine ⟨h.il, by rw [List.length_set]; exact h.dl, h.mks, h.lo, h.gs, h.gl, h.rs, h.rn, fun z => ?_⟩
  by_cases e : y = z
  · subst e; rw [getD_set_eq (by omega)]; have := h.dd y; omega
  · rw [getD_set_ne e]; exact h.dd z
theorem GnS.done (h : GnS t x G R I D) (hx : t.length ≤ x) : Spans t G := ⟨h.gs, fun z hz => h.mks z (h.lo z (by omega))⟩
end
set_option maxHeartbeats 1000000 in
theorem cgens_fn (t : List (List Int)) (h : Sh t) : EF 90 [.ro (.rows .i64 t)] (fun l : List Int => .new (.ints .i64 l)) (fun l => Spans t l ∧ l.length ≤ t.length) := mkE Try.func90 (by decide +kernel) rfl (Nat.le_of_ble_eq_true rfl) fun _ => by
  have hmost := h.most
  refine And.intro (by omega) ?_
  refine And.intro (by omega) ?_
  refine And.intro (by omega) ?_
  refine And.intro (by omega) ?_
  refine Exists.intro [] <| lp5 (fun (x : Nat) (_ _ : List Int) (_ : List Bool) (_ : List Int) => [(19, .int .i64 x), (3, .vec 32), (4, .vec 36)]) (fun _ G R I D => [(32, .vec 0 (.ints .i64 G) []), (36, .vec 0 (.ints .i64 R) []), (13, .vec 0 (.bools I) []), (16, .vec 0 (.ints .i64 D) [])]) (fun x G R I D => x ≤ t.length ∧ GnS t x G R I D) (fun x _ _ _ _ => t.length - x) 0 [] [] (List.replicate t.length false) (List.replicate t.length 0) ⟨Nat.zero_le _, GnS.start t⟩ (by repeat' first | refine And.intro ?_ ?_ | exact True.intro | (show (_ : Int) = (_ : Int); omega) | omega | exact rfl | (simp only [RO.len]; omega)) ?_
  rintro x G R I D ⟨hx, hg⟩
  have il := hg.il
  have dl := hg.dl
  have gl := hg.gl
  have rl := hg.rl
  refine And.intro (fun h1 => ?_) (fun h1 => ?_)
  · have h1 : (x : Int) < (t.length : Int) := h1
    refine And.intro (show 0 ≤ (x : Int) ∧ (x : Int) < (I.length : Int) by omega) ?_
    refine And.intro (fun h2 => ?_) (fun h2 => ?_)
    · have h2 : I.getD x false = true := h2
      refine And.intro (by omega) ?_
      exact nx (x + 1, G, R, I, D) ⟨by omega, hg.skip (by omega) h2⟩ (show t.length - (x + 1) < t.length - x by omega) (by repeat' first | refine And.intro ?_ ?_ | exact True.intro | (show (_ : Int) = (_ : Int); omega) | omega | exact rfl | (simp only [RO.len]; omega))
    · have h2 : I.getD x false = false := h2
      refine And.intro (show 0 ≤ (x : Int) ∧ (x : Int) < (I.length : Int) by omega) ?_
      refine And.intro (by omega) ?_
      refine And.intro (by simp; omega) ?_
      refine And.intro (by simp; omega) ?_
      refine Exists.intro [36] <| lp4 (fun (i : Nat) (_ : List Int) (_ : List Bool) (_ : List Int) => [(8, .int .i64 i), (4, .vec 36)]) (fun _ R I D => [(36, .vec 0 (.ints .i64 R) []), (13, .vec 0 (.bools I) []), (16, .vec 0 (.ints .i64 D) [])]) (fun i R I D => i ≤ R.length ∧ GnS t (x + 1) (G ++ [(x : Int)]) R I D) (fun i _ _ _ => t.length - i) 0 (R ++ [(x : Int)]) (I.set x true) D ⟨Nat.zero_le _, hg.gen (by omega) h2⟩ (by repeat' first | refine And.intro ?_ ?_ | exact True.intro | (show (_ : Int) = (_ : Int); omega) | omega | exact rfl | (simp only [RO.len]; omega)) ?_
      rintro i R1 I1 D1 ⟨hi, hg1⟩
      have il1 := hg1.il
      have dl1 := hg1.dl
      have rl1 := hg1.rl
      have gl1 : (G ++ [(x : Int)]).length = G.length + 1 := by simp
      refine And.intro (fun h3 => ?_) (fun h3 => ?_)
      · have h3 : (i : Int) < (R1.length : Int) := h3
        have hy1 := (hg1.rs _ (getD_mem (d := 0) (i := i) (l := R1) (by omega))).1
        refine And.intro (show 0 ≤ (i : Int) ∧ (i : Int) < (R1.length : Int) by omega) ?_
        have hymem : R1.getD i 0 ∈ R1 := getD_mem (by omega)
        obtain ⟨y, hyd⟩ : ∃ y, R1.getD i 0 = y := ⟨_, rfl⟩
        rw [hyd] at hymem hy1
        refine Exists.intro [9, 36, 38, 43, 45, 46] <| lp3 (fun (_ : List Int) (_ : List Bool) (_ : List Int) => [(4, .vec 36), (9, .int .i64 y)]) (fun R I D => [(36, .vec 0 (.ints .i64 R) []), (13, .vec 0 (.bools I) []), (16, .vec 0 (.ints .i64 D) [])]) (fun R I D => i < R.length ∧ y ∈ R ∧ GnS t (x + 1) (G ++ [(x : Int)]) R I D) (fun _ _ D => G.length + 1 - (D.getD y.toNat 0).toNat) R1 I1 D1 ⟨by omega, hymem, hg1⟩ (by repeat' first | refine And.intro ?_ ?_ | exact True.intro | exact hyd | (show (_ : Int) = (_ : Int); omega) | omega | exact rfl | (simp only [RO.len]; omega)) ?_
        rintro R2 I2 D2 ⟨hi2, hr2, hg2⟩
        have il2 := hg2.il
        have dl2 := hg2.dl
        have rl2 := hg2.rl
        have hd := hg2.dd y.toNat
        have hyl : y.toNat < t.length := by omega
        refine And.intro (show 0 ≤ y ∧ y < (D2.length : Int) by omega) ?_
        refine And.intro (fun h4 => ?_) (fun h4 => ?_)
        · have h4 : D2.getD y.toNat 0 < ((G ++ [(x : Int)]).length : Int) := h4
          have hgm : (G ++ [(x : Int)]).getD (D2.getD y.toNat 0).toNat 0 ∈ (G ++ [(x : Int)]) := getD_mem (by omega)
          have hgr := hg2.gs _ hgm
          have hdn : (D2.getD y.toNat 0).toNat < (G ++ [(x : Int)]).length := by omega
          have e1 := h.ent (x := y.toNat) (y := ((G ++ [(x : Int)]).getD (D2.getD y.toNat 0).toNat 0).toNat) (by omega) (by omega)
          have r1 := h.len (x := y.toNat) (by omega)
          refine Or.inl ?_
          refine Exists.intro [false, false, false, false, false, false, false, false, false, false, false, false, false, false] (And.intro (by decide +kernel) ?_)
          refine And.intro (show 0 ≤ y ∧ y < (t.length : Int) by omega) ?_
          refine And.intro (show 0 ≤ y ∧ y < (D2.length : Int) by omega) ?_
          refine And.intro (show 0 ≤ D2.getD y.toNat 0 ∧ D2.getD y.toNat 0 < ((G ++ [(x : Int)]).length : Int) by omega) ?_
          refine And.intro (show 0 ≤ (G ++ [(x : Int)]).getD (D2.getD y.toNat 0).toNat 0 ∧ (G ++ [(x : Int)]).getD (D2.getD y.toNat 0).toNat 0 < ((t.getD y.toNat []).length : Int) by omega) ?_
          have hz : 0 ≤ (t.getD y.toNat []).getD ((G ++ [(x : Int)]).getD (D2.getD y.toNat 0).toNat 0).toNat 0 ∧ (t.getD y.toNat []).getD ((G ++ [(x : Int)]).getD (D2.getD y.toNat 0).toNat 0).toNat 0 < (I2.length : Int) := by omega
          have hzn : ((t.getD y.toNat []).getD ((G ++ [(x : Int)]).getD (D2.getD y.toNat 0).toNat 0).toNat 0).toNat = en t y.toNat ((G ++ [(x : Int)]).getD (D2.getD y.toNat 0).toNat 0).toNat := by omega
          have hst : ∀ {R3 : List Int} {I3 : List Bool}, GnS t (x + 1) (G ++ [(x : Int)]) R3 I3 D2 → GnS t (x + 1) (G ++ [(x : Int)]) R3 I3 (D2.set y.toNat (D2.getD y.toNat 0 + 1)) := fun hh => hh.step hyl h4
          have hms : G.length + 1 - ((D2.set y.toNat (D2.getD y.toNat 0 + 1)).getD y.toNat 0).toNat < G.length + 1 - (D2.getD y.toNat 0).toNat := by
            rw [getD_set_eq (by omega)]; omega
          refine And.intro hz ?_
          refine And.intro (fun h5 => ?_) (fun h5 => ?_)
          · have h5 : (!I2.getD ((t.getD y.toNat []).getD ((G ++ [(x : Int)]).getD (D2.getD y.toNat 0).toNat 0).toNat 0).toNat false) = true := h5
            rw [Bool.not_eq_true', hzn] at h5
            have hp := hg2.push h hr2 hgm h5
            rw [← hzn, Int.toNat_of_nonneg hz.1] at hp
            have hpl := hp.rl
            refine And.intro hz ?_
            refine And.intro hz.1 ?_
            refine And.intro (show (((R2 ++ [(t.getD y.toNat []).getD ((G ++ [(x : Int)]).getD (D2.getD y.toNat 0).toNat 0).toNat 0]).length : Nat) : Int) ≤ 17592186044416 by omega) ?_
            refine And.intro (show 0 ≤ y ∧ y < (D2.length : Int) by omega) ?_
            refine And.intro (show -9223372036854775808 ≤ D2.getD y.toNat 0 + 1 ∧ D2.getD y.toNat 0 + 1 ≤ 9223372036854775807 by omega) ?_
            refine And.intro (show 0 ≤ y ∧ y < (D2.length : Int) by omega) ?_
            refine And.intro (show ((0 : Nat) : Int) ≤ y by omega) ?_
            exact nx (R2 ++ [(t.getD y.toNat []).getD ((G ++ [(x : Int)]).getD (D2.getD y.toNat 0).toNat 0).toNat 0], I2.set ((t.getD y.toNat []).getD ((G ++ [(x : Int)]).getD (D2.getD y.toNat 0).toNat 0).toNat 0).toNat true, D2.set y.toNat (D2.getD y.toNat 0 + 1)) ⟨by simp; omega, List.mem_append_left _ hr2, hst hp⟩ hms (by repeat' first | refine And.intro ?_ ?_ | exact True.intro | (show (_ : Int) = (_ : Int); omega) | omega | exact rfl | (simp only [RO.len]; omega))
          · refine And.intro (show 0 ≤ y ∧ y < (D2.length : Int) by omega) ?_
            refine And.intro (show -9223372036854775808 ≤ D2.getD y.toNat 0 + 1 ∧ D2.getD y.toNat 0 + 1 ≤ 9223372036854775807 by omega) ?_
            refine And.intro (show 0 ≤ y ∧ y < (D2.length : Int) by omega) ?_
            refine And.intro (show ((0 : Nat) : Int) ≤ y by omega) ?_
            exact nx (R2, I2, D2.set y.toNat (D2.getD y.toNat 0 + 1)) ⟨hi2, hr2, hst hg2⟩ hms (by repeat' first | refine And.intro ?_ ?_ | exact True.intro | (show (_ : Int) = (_ : Int); omega) | omega | exact rfl | (simp only [RO.len]; omega))
        · refine And.intro (by omega) ?_
          exact nx (i + 1, R2, I2, D2) ⟨by omega, hg2⟩ (show t.length - (i + 1) < t.length - i by omega) (by repeat' first | refine And.intro ?_ ?_ | exact True.intro | (show (_ : Int) = (_ : Int); omega) | omega | exact rfl | (simp only [RO.len]; omega))
      · refine And.intro (by omega) ?_
        exact nx (x + 1, G ++ [(x : Int)], R1, I1, D1) ⟨by omega, hg1⟩ (show t.length - (x + 1) < t.length - x by omega) (by repeat' first | refine And.intro ?_ ?_ | exact True.intro | (show (_ : Int) = (_ : Int); omega) | omega | exact rfl | (simp only [RO.len]; omega))
  · have h1 : (t.length : Int) ≤ (x : Int) := h1
    refine Exists.intro G (And.intro ⟨hg.done (by omega), by omega⟩ ?_)
    exact And.intro (And.intro (by omega) rfl) trivial
end Go.Proofs.Ytpanlghofeebhaa
end
section
/- slices.Clone of integers: contract. -/
namespace Go.Proofs.Ytpanlghofeebhaa
open Go Go.AM
set_option maxRecDepth 100000
theorem cloneI_fn (l : List Int) (hl : l.length ≤ 4096) : QF 126 [.ro (.ints .i64 l)] (.new (.ints .i64 l)) := mkQ Try.func126 (by decide +kernel) rfl (Nat.le_of_ble_eq_true rfl) fun _ => by
  refine And.intro (fun h1 => ?_) ?_
  · exact And.intro h1 trivial
  · refine And.intro (by simp; omega) ?_
    exact And.intro ⟨by omega, by simp⟩ trivial
end Go.Proofs.Ytpanlghofeebhaa
end
section
/- Plain: the greatest congruence in a partition; how the splitter of congr makes it. -/
namespace Go.Proofs.Ytpanlghofeebhaa
open Go Go.AM
section
variable {t : List (List Int)} {p : List Int}
structure Syn (t : List (List Int)) (p : List Int) (x y : Nat) : Prop where
  own : p.getD x 0 = p.getD y 0
  one : ∀ u, u < t.length → p.getD (en t u x) 0 = p.getD (en t u y) 0 ∧ p.getD (en t x u) 0 = p.getD (en t y u) 0
  two : ∀ u v, u < t.length → v < t.length → p.getD (en t (en t u x) v) 0 = p.getD (en t (en t u y) v) 0
theorem Syn.refl (x : Nat) : Syn t p x x := ⟨rfl, fun _ _ => ⟨rfl, rfl⟩, fun _ _ _ _ => rfl⟩
theorem Syn.symm {x y : Nat} (h : Syn t p x y) : Syn t p y x := ⟨h.own.symm, fun u hu => ⟨(h.one u hu).1.symm, (h.one u hu).2.symm⟩, fun u v hu hv => (h.two u v hu hv).symm⟩
theorem Syn.trans {x y z : Nat} (h : Syn t p x y) (h' : Syn t p y z) : Syn t p x z :=
  ⟨h.own.trans h'.own, fun u hu => ⟨(h.one u hu).1.trans (h'.one u hu).1, (h.one u hu).2.trans (h'.one u hu).2⟩, fun u v hu hv => (h.two u v hu hv).trans (h'.two u v hu hv)⟩
noncomputable def synB (t : List (List Int)) (p : List Int) (x y : Nat) : Bool := @decide (Syn t p x y) (Classical.propDecidable _)
theorem synB_true {x y : Nat} : synB t p x y = true ↔ Syn t p x y := by unfold synB; exact @decide_eq_true_iff _ (Classical.propDecidable _)
theorem syn_pre (t : List (List Int)) (p : List Int) : Pre t.length (synB t p) :=
  pre_of (fun x _ => synB_true.2 (.refl x)) fun _ _ _ _ _ _ h h' => synB_true.2 ((synB_true.1 h).trans (synB_true.1 h'))
noncomputable def synP (t : List (List Int)) (p : List Int) : List Int := clsL t.length (synB t p)
theorem synP_len : (synP t p).length = t.length := clsL_len _ _
theorem synP_canon : canon (synP t p) = synP t p := canon_idem _
theorem synP_iff {a b : Nat} (ha : a < t.length) (hb : b < t.length) : (synP t p).getD a 0 = (synP t p).getD b 0 ↔ Syn t p a b := by
  unfold synP
  rw [clsL_iff (syn_pre t p) ha hb, synB_true, synB_true]
  exact ⟨fun h => h.1, fun h => ⟨h, h.symm⟩⟩
theorem syn_cg (h : Semi t) {x y s : Nat} (hx : x < t.length) (hy : y < t.length) (hs : s < t.length) (e : Syn t p x y) : Syn t p (en t s x) (en t s y) ∧ Syn t p (en t x s) (en t y s) := by
  have hS := h.toSh
  have a3 := fun {x y z : Nat} => assoc3 h.assoc (x := x) (y := y) (z := z)
  refine ⟨⟨(e.one s hs).1, fun u hu => ⟨?_, ?_⟩, fun u v hu hv => ?_⟩, ⟨(e.one s hs).2, fun u hu => ⟨?_, ?_⟩, fun u v hu hv => ?_⟩⟩
  · rw [← a3 hu hs hx, ← a3 hu hs hy]; exact (e.one _ (hS.ent hu hs).2).1
  · exact e.two s u hs hu
  · rw [← a3 hu hs hx, ← a3 hu hs hy]; exact e.two _ v (hS.ent hu hs).2 hv
  · rw [← a3 hu hx hs, ← a3 hu hy hs]; exact e.two u s hu hs
  · rw [a3 hx hs hu, a3 hy hs hu]; exact (e.one _ (hS.ent hs hu).2).2
  · rw [← a3 hu hx hs, ← a3 hu hy hs, a3 (hS.ent hu hx).2 hs hv, a3 (hS.ent hu hy).2 hs hv]; exact e.two u _ hu (hS.ent hs hv).2
theorem synP_cg (h : Semi t) : Cg t (synP t p) 0 := fun x y s hx hy hs e => by
  have hS := h.toSh
  have := syn_cg (p := p) h hx hy hs ((synP_iff hx hy).1 e)
  exact ⟨fun _ => (synP_iff (hS.ent hs hx).2 (hS.ent hs hy).2).2 this.1, fun _ => (synP_iff (hS.ent hx hs).2 (hS.ent hy hs).2).2 this.2⟩
theorem synP_valid (hs : Sh t) : validP (synP t p) := ⟨by rw [synP_len]; have := hs.most; omega, synP_canon⟩
theorem synP_is (h : Semi t) : IsCg t (synP t p) 0 := ⟨h, synP_len, synP_valid h.toSh, ⟨by omega, by omega⟩, synP_cg h⟩
theorem syn_great (hs : Sh t) {q : List Int} (hq : Cg t q 0) (hr : ∀ x y, x < t.length → y < t.length → q.getD x 0 = q.getD y 0 → p.getD x 0 = p.getD y 0) {x y : Nat} (hx : x < t.length) (hy : y < t.length) (e : q.getD x 0 = q.getD y 0) : Syn t p x y := by
  have l := fun {x y s : Nat} (hx : x < t.length) (hy : y < t.length) (hs : s < t.length) e => (hq x y s hx hy hs e).1 (by decide)
  have r := fun {x y s : Nat} (hx : x < t.length) (hy : y < t.length) (hs : s < t.length) e => (hq x y s hx hy hs e).2 (by decide)
  exact ⟨hr x y hx hy e, fun u hu => ⟨hr _ _ (hs.ent hu hx).2 (hs.ent hu hy).2 (l hx hy hu e), hr _ _ (hs.ent hx hu).2 (hs.ent hy hu).2 (r hx hy hu e)⟩,
    fun u v hu hv => hr _ _ (hs.ent (hs.ent hu hx).2 hv).2 (hs.ent (hs.ent hu hy).2 hv).2 (r (hs.ent hu hx).2 (hs.ent hu hy).2 hv (l hx hy hu e))⟩
theorem synP_of (h : Semi t) {c : List Int} (hl : c.length = t.length) (h1 : ∀ x y, x < t.length → y < t.length → c.getD x 0 = c.getD y 0 → p.getD x 0 = p.getD y 0) (h2 : ∀ x y, x < t.length → y < t.length → Syn t p x y → c.getD x 0 = c.getD y 0) (h3 : Cg t c 0) : canon c = synP t p := by
  refine ker_clsL (syn_pre t p) hl fun a b ha hb => ?_
  rw [synB_true, synB_true]
  exact ⟨fun e => ⟨syn_great h.toSh h3 h1 ha hb e, (syn_great h.toSh h3 h1 ha hb e).symm⟩, fun e => h2 a b ha hb e.1⟩
theorem synP_congr (hs : Sh t) {q : List Int} (h : ∀ x y, x < t.length → y < t.length → (p.getD x 0 = p.getD y 0 ↔ q.getD x 0 = q.getD y 0)) : synP t p = synP t q := by
  have key : ∀ {p q : List Int}, (∀ x y, x < t.length → y < t.length → (p.getD x 0 = p.getD y 0 ↔ q.getD x 0 = q.getD y 0)) → ∀ a b, a < t.length → b < t.length → Syn t p a b → Syn t q a b := fun {p q} h a b ha hb e =>
    ⟨(h a b ha hb).1 e.own, fun u hu => ⟨(h _ _ (hs.ent hu ha).2 (hs.ent hu hb).2).1 (e.one u hu).1, (h _ _ (hs.ent ha hu).2 (hs.ent hb hu).2).1 (e.one u hu).2⟩,
      fun u v hu hv => (h _ _ (hs.ent (hs.ent hu ha).2 hv).2 (hs.ent (hs.ent hu hb).2 hv).2).1 (e.two u v hu hv)⟩
  rw [← synP_canon (p := p), ← synP_canon (p := q)]
  refine ker_canon synP_len synP_len fun a b ha hb => ?_
  rw [synP_iff ha hb, synP_iff ha hb]
  exact ⟨key h a b ha hb, key (fun x y hx hy => (h x y hx hy).symm) a b ha hb⟩
end
/-! ### The splitter -/
section
variable {α : Type} [DecidableEq α]
def idxD (l : List α) (q : α) : Nat := l.idxOf q
theorem firsts_in {l : List α} {x : α} (h : x ∈ l) : firsts (l ++ [x]) = firsts l := by rw [firsts_snoc, if_pos h]
theorem firsts_out {l : List α} {x : α} (h : x ∉ l) : firsts (l ++ [x]) = firsts l ++ [x] := by rw [firsts_snoc, if_neg h]
theorem canon_in {l : List α} {d : α} {i : Nat} (h : i < l.length) (hm : l.getD i d ∈ l.take i) : (canon l).getD i 0 = (idxD (firsts (l.take i)) (l.getD i d) : Nat) := by rw [canon_at (d := d) h, if_pos hm]; rfl
theorem canon_out {l : List α} {d : α} {i : Nat} (h : i < l.length) (hm : l.getD i d ∉ l.take i) : (canon l).getD i 0 = ((firsts (l.take i)).length : Nat) := by rw [canon_at (d := d) h, if_neg hm]
theorem idxD_in {l m : List α} {q : α} (h : q ∈ l) : idxD (l ++ m) q = idxD l q := by unfold idxD; rw [List.idxOf_append, if_pos h]
theorem idxD_out {l : List α} {q : α} (h : q ∉ l) : idxD (l ++ [q]) q = l.length := by unfold idxD; rw [List.idxOf_append, if_neg h]; simp
end
def spP (c im : List Int) : List (Int × Int) := (List.range c.length).map fun x => (c.getD x 0, c.getD (im.getD x 0).toNat 0)
def spC (c im : List Int) : List Int := canon (spP c im)
theorem spP_len (c im : List Int) : (spP c im).length = c.length := by simp [spP]
theorem spC_len (c im : List Int) : (spC c im).length = c.length := by unfold spC; rw [canon_length, spP_len]
theorem spP_get {c im : List Int} {x : Nat} (h : x < c.length) : (spP c im).getD x (0, 0) = (c.getD x 0, c.getD (im.getD x 0).toNat 0) := by simp [spP, List.getD, h]
theorem spC_iff {c im : List Int} {x y : Nat} (hx : x < c.length) (hy : y < c.length) : (spC c im).getD x 0 = (spC c im).getD y 0 ↔ c.getD x 0 = c.getD y 0 ∧ c.getD (im.getD x 0).toNat 0 = c.getD (im.getD y 0).toNat 0 := by
  unfold spC
  rw [canon_eq_iff (d := (0, 0)) (by rw [spP_len]; exact hx) (by rw [spP_len]; exact hy), spP_get hx, spP_get hy, Prod.mk.injEq]
def spF (c im : List Int) (k : Nat) : List (Int × Int) := firsts ((spP c im).take k)
def codN (n : Nat) (q : Int × Int) : Nat := (q.1 * n + q.2).toNat
def spM (c im : List Int) (round : Int) (M L : List Int) : Nat → List Int × List Int
  | 0 => (M, L)
  | k + 1 => if (spM c im round M L k).1.getD (codN c.length ((spP c im).getD k (0, 0))) 0 = round then spM c im round M L k
    else ((spM c im round M L k).1.set (codN c.length ((spP c im).getD k (0, 0))) round, (spM c im round M L k).2.set (codN c.length ((spP c im).getD k (0, 0))) ((spF c im k).length : Int))
theorem cod_inj {n : Nat} {q q' : Int × Int} (h : 0 ≤ q.1 ∧ 0 ≤ q.2 ∧ q.2 < (n : Int)) (h' : 0 ≤ q'.1 ∧ 0 ≤ q'.2 ∧ q'.2 < (n : Int)) (e : codN n q = codN n q') : q = q' := by
  unfold codN at e
  have p1 : 0 ≤ q.1 * (n : Int) := Int.mul_nonneg h.1 (by omega)
  have p2 : 0 ≤ q'.1 * (n : Int) := Int.mul_nonneg h'.1 (by omega)
  have e : q.1 * (n : Int) + q.2 = q'.1 * (n : Int) + q'.2 := by omega
  have hn : (n : Int) ≠ 0 := by omega
  have e1 : (q.1 * (n : Int) + q.2) / (n : Int) = q.1 := by
    rw [Int.add_comm, Int.add_mul_ediv_right _ _ hn, Int.ediv_eq_zero_of_lt h.2.1 h.2.2]; omega
  have e2 : (q'.1 * (n : Int) + q'.2) / (n : Int) = q'.1 := by
    rw [Int.add_comm, Int.add_mul_ediv_right _ _ hn, Int.ediv_eq_zero_of_lt h'.2.1 h'.2.2]; omega
  have e3 : q.1 = q'.1 := by rw [← e1, ← e2, e]
  rw [e3] at e
  exact Prod.ext e3 (by omega)
structure SpI (c im : List Int) (round : Int) (M L : List Int) (k : Nat) : Prop where
  lm : M.length = c.length * c.length
  ll : L.length = c.length * c.length
  hi : ∀ x ∈ M, x ≤ round
  lo : ∀ x ∈ M, 0 ≤ x
  lab : ∀ x ∈ L, 0 ≤ x ∧ x ≤ (c.length : Int)
  mar : ∀ q : Int × Int, 0 ≤ q.1 → q.1 < (c.length : Int) → 0 ≤ q.2 → q.2 < (c.length : Int) → (M.getD (codN c.length q) 0 = round ↔ q ∈ (spP c im).take k)
  la : ∀ q : Int × Int, q ∈ (spP c im).take k → L.getD (codN c.length q) 0 = (idxD (spF c im k) q : Nat)
section
variable {c im : List Int} {round : Int} {M L : List Int} {k : Nat}
theorem cod_lt {n : Nat} {q : Int × Int} (h1 : 0 ≤ q.1) (h2 : q.1 < (n : Int)) (h3 : 0 ≤ q.2) (h4 : q.2 < (n : Int)) : codN n q < n * n ∧ (codN n q : Int) = q.1 * n + q.2 := by
  unfold codN
  have p1 : 0 ≤ q.1 * (n : Int) := Int.mul_nonneg h1 (by omega)
  have p2 : q.1 * (n : Int) ≤ ((n : Int) - 1) * n := Int.mul_le_mul_of_nonneg_right (by omega) (by omega)
  rw [Int.sub_mul] at p2
  have : ((n * n : Nat) : Int) = (n : Int) * n := by exact Int.natCast_mul n n
  omega
theorem SpI.start (hm : M.length = c.length * c.length) (hl : L.length = c.length * c.length) (hlt : ∀ x ∈ M, x < round) (hlo : ∀ x ∈ M, 0 ≤ x) (hL : ∀ x ∈ L, 0 ≤ x ∧ x ≤ (c.length : Int)) : SpI c im round M L 0 := by
  refine ⟨hm, hl, fun x hx => by have := hlt x hx; omega, hlo, hL, fun q h1 h2 h3 h4 => ?_, fun q h => by simp at h⟩
  have := hlt _ (getD_mem (d := 0) (i := codN c.length q) (l := M) (by rw [hm]; exact (cod_lt h1 h2 h3 h4).1))
  simp only [List.take_zero, List.not_mem_nil, iff_false]
  omega
theorem spP_in (hc : ∀ x ∈ c, 0 ≤ x ∧ x < (c.length : Int)) (him : ∀ x, x < c.length → 0 ≤ im.getD x 0 ∧ im.getD x 0 < (c.length : Int)) {q : Int × Int} (h : q ∈ spP c im) : (0 ≤ q.1 ∧ q.1 < (c.length : Int)) ∧ 0 ≤ q.2 ∧ q.2 < (c.length : Int) := by
  obtain ⟨x, hx, rfl⟩ := mem_getD (0, 0) h
  rw [spP_len] at hx
  rw [spP_get hx]
  have := him x hx
  exact ⟨hc _ (getD_mem hx), hc _ (getD_mem (by omega))⟩
theorem SpI.next (hc : ∀ x ∈ c, 0 ≤ x ∧ x < (c.length : Int)) (him : ∀ x, x < c.length → 0 ≤ im.getD x 0 ∧ im.getD x 0 < (c.length : Int)) (hr : 0 ≤ round) (h : SpI c im round (spM c im round M L k).1 (spM c im round M L k).2 k) (hk : k < c.length) :
    SpI c im round (spM c im round M L (k + 1)).1 (spM c im round M L (k + 1)).2 (k + 1) ∧ (spM c im round M L (k + 1)).2.getD (codN c.length ((spP c im).getD k (0, 0))) 0 = (spC c im).getD k 0 ∧
      ((spM c im round M L k).1.getD (codN c.length ((spP c im).getD k (0, 0))) 0 = round → spF c im (k + 1) = spF c im k) ∧ ((spM c im round M L k).1.getD (codN c.length ((spP c im).getD k (0, 0))) 0 ≠ round → (spF c im (k + 1)).length = (spF c im k).length + 1) := by
  have hkl : k < (spP c im).length := by rw [spP_len]; exact hk
  have hq := spP_in hc him (getD_mem (d := (0, 0)) hkl)
  have htk := take_get (d := ((0 : Int), (0 : Int))) hkl
  have hcan := canon_in (d := ((0 : Int), (0 : Int))) hkl
  have hcan' := canon_out (d := ((0 : Int), (0 : Int))) hkl
  have hmk := h.mar _ hq.1.1 hq.1.2 hq.2.1 hq.2.2
  have hcod := cod_lt hq.1.1 hq.1.2 hq.2.1 hq.2.2
  have hF : (spP c im).getD k (0, 0) ∈ (spP c im).take k → spF c im (k + 1) = spF c im k := fun h => by
    show firsts ((spP c im).take (k + 1)) = _
    rw [htk, firsts_in h]; rfl
  have hF' : (spP c im).getD k (0, 0) ∉ (spP c im).take k → spF c im (k + 1) = spF c im k ++ [(spP c im).getD k (0, 0)] := fun h => by
    show firsts ((spP c im).take (k + 1)) = _
    rw [htk, firsts_out h]; rfl
  have hFl : (spF c im k).length ≤ c.length := by
    have := firsts_le ((spP c im).take k)
    rw [List.length_take, spP_len] at this
    unfold spF; omega
  have hsub : ∀ q : Int × Int, q ∈ (spP c im).take k → (0 ≤ q.1 ∧ q.1 < (c.length : Int)) ∧ 0 ≤ q.2 ∧ q.2 < (c.length : Int) := fun q h => spP_in hc him (List.mem_of_mem_take h)
  revert hcan hcan' hmk hcod hF hF'
  generalize hqk : (spP c im).getD k (0, 0) = qk at *
  intro hcan hcan' hmk hcod hF hF'
  by_cases e : (spM c im round M L k).1.getD (codN c.length qk) 0 = round
  · have hin := hmk.1 e
    have e1 : spM c im round M L (k + 1) = spM c im round M L k := by
      show (if _ then _ else _) = _
      rw [hqk, if_pos e]
    have hF := hF hin
    have hcan := hcan hin
    rw [e1]
    have hm : ∀ q, q ∈ (spP c im).take (k + 1) ↔ q ∈ (spP c im).take k := fun q => by
      rw [htk, List.mem_append, List.mem_singleton]
      exact ⟨fun h => h.elim id fun h => h ▸ hin, .inl⟩
    refine ⟨⟨h.lm, h.ll, h.hi, h.lo, h.lab, fun q h1 h2 h3 h4 => (h.mar q h1 h2 h3 h4).trans (hm q).symm, fun q hq => ?_⟩, ?_, fun _ => hF, fun h => absurd e h⟩
    · rw [hF]; exact h.la q ((hm q).1 hq)
    · unfold spC; rw [h.la _ hin]; exact hcan.symm
  · have hin : ¬ qk ∈ (spP c im).take k := fun h => e (hmk.2 h)
    have e1 : spM c im round M L (k + 1) = ((spM c im round M L k).1.set (codN c.length qk) round, (spM c im round M L k).2.set (codN c.length qk) ((spF c im k).length : Int)) := by
      show (if _ then _ else _) = _
      rw [hqk, if_neg e]
    have hF := hF' hin
    have hcan := hcan' hin
    rw [e1]
    have hm : ∀ q, q ∈ (spP c im).take (k + 1) ↔ q ∈ (spP c im).take k ∨ q = qk := fun q => by
      rw [htk, List.mem_append, List.mem_singleton]
    have hlm := h.lm
    have hll := h.ll
    have hset : ∀ (l : List Int) (v : Int), l.length = c.length * c.length → ∀ q : Int × Int, 0 ≤ q.1 → q.1 < (c.length : Int) → 0 ≤ q.2 → q.2 < (c.length : Int) → (l.set (codN c.length qk) v).getD (codN c.length q) 0 = if q = qk then v else l.getD (codN c.length q) 0 := fun l v hl q h1 h2 h3 h4 => by
      by_cases e2 : q = qk
      · subst e2; rw [getD_set_eq (by rw [hl]; exact hcod.1), if_pos rfl]
      · rw [getD_set_ne (fun e3 => e2 (cod_inj ⟨h1, h3, h4⟩ ⟨hq.1.1, hq.2.1, hq.2.2⟩ e3.symm)), if_neg e2]
    refine ⟨⟨by rw [List.length_set]; exact hlm, by rw [List.length_set]; exact hll, fun x hx => ?_, fun x hx => ?_, fun x hx => ?_, fun q h1 h2 h3 h4 => ?_, fun q hqm => ?_⟩, ?_, fun h => absurd h e, fun _ => by rw [hF]; simp⟩
    · rcases List.mem_or_eq_of_mem_set hx with hx | rfl
      · exact h.hi x hx
      · omega
    · rcases List.mem_or_eq_of_mem_set hx with hx | rfl
      · exact h.lo x hx
      · omega
    · rcases List.mem_or_eq_of_mem_set hx with hx | rfl
      · exact h.lab x hx
      · omega
    · rw [hset _ _ hlm q h1 h2 h3 h4, hm]
      by_cases e2 : q = qk
      · rw [if_pos e2]; exact ⟨fun _ => .inr e2, fun _ => rfl⟩
      · rw [if_neg e2, h.mar q h1 h2 h3 h4]; exact ⟨.inl, fun h => h.elim id fun h => absurd h e2⟩
    · have hr : (0 ≤ q.1 ∧ q.1 < (c.length : Int)) ∧ 0 ≤ q.2 ∧ q.2 < (c.length : Int) := ((hm q).1 hqm).elim (hsub q) fun h => h ▸ hq
      rw [hset _ _ hll q hr.1.1 hr.1.2 hr.2.1 hr.2.2, hF]
      by_cases e2 : q = qk
      · subst e2
        rw [if_pos rfl, idxD_out (l := spF c im k) (fun h => hin (mem_firsts.1 h))]
      · rw [if_neg e2]
        have hm2 := ((hm q).1 hqm).elim id fun h => absurd h e2
        rw [h.la q hm2, idxD_in (l := spF c im k) (mem_firsts.2 hm2)]
    · rw [hset _ _ hll qk hq.1.1 hq.1.2 hq.2.1 hq.2.2, if_pos rfl]
      unfold spC; exact hcan.symm
theorem SpI.upto (hc : ∀ x ∈ c, 0 ≤ x ∧ x < (c.length : Int)) (him : ∀ x, x < c.length → 0 ≤ im.getD x 0 ∧ im.getD x 0 < (c.length : Int)) (hr : 0 ≤ round) (h : SpI c im round M L 0) : ∀ k, k ≤ c.length → SpI c im round (spM c im round M L k).1 (spM c im round M L k).2 k
  | 0, _ => h
  | k + 1, hk => (SpI.next hc him hr (SpI.upto hc him hr h k (by omega)) (by omega)).1
end
/-! ### Counting -/
theorem canon_idemG {α : Type} [DecidableEq α] (d : α) (l : List α) : canon (canon l) = canon l :=
  canon_congr (d := 0) (e := d) (canon_length l) fun i j hi hj => by
    rw [canon_length] at hi hj
    exact canon_eq_iff hi hj
theorem classN_canonG {α : Type} [DecidableEq α] (d : α) (l : List α) : classN (canon l) = (firsts l).length := by
  have hv := valid_range (canon_idemG d l)
  have h1 : classN (canon l) ≤ (firsts l).length := by
    rcases Nat.eq_zero_or_pos (classN (canon l)) with e | e
    · omega
    · have hm := (hv ((classN (canon l) : Int) - 1)).1 ⟨by omega, by omega⟩
      obtain ⟨i, hi, hx⟩ := mem_getD 0 hm
      rw [canon_length] at hi
      have := canon_lt hi
      omega
  have h2 : (firsts l).length ≤ classN (canon l) := by
    rcases Nat.eq_zero_or_pos (firsts l).length with e | e
    · omega
    · have hm : (firsts l)[(firsts l).length - 1] ∈ l := mem_firsts.1 (List.getElem_mem _)
      have hx : (((firsts l).length - 1 : Nat) : Int) ∈ canon l := by
        unfold canon
        refine List.mem_map.2 ⟨_, hm, ?_⟩
        rw [(firsts_nodup l).idxOf_getElem]
      have := (hv _).2 hx
      omega
  omega
theorem spF_all (c im : List Int) : (spF c im c.length).length = classN (spC c im) := by
  unfold spF spC
  rw [List.take_of_length_le (by rw [spP_len]; exact Nat.le_refl _), classN_canonG (0, 0)]
theorem spC_canon (c im : List Int) : canon (spC c im) = spC c im := canon_idemG (0, 0) _
theorem same_count {c d : List Int} (hc : canon c = c) (hd : canon d = d) (hl : c.length = d.length) (hr : ∀ x y, x < c.length → y < c.length → d.getD x 0 = d.getD y 0 → c.getD x 0 = c.getD y 0) : classN c ≤ classN d ∧ (classN c = classN d → d = c) := by
  have hle : ∀ i, i ≤ c.length → (firsts (c.take i)).length ≤ (firsts (d.take i)).length ∧ ((firsts (c.take i)).length = (firsts (d.take i)).length → ∀ x y, x < i → y < i → c.getD x 0 = c.getD y 0 → d.getD x 0 = d.getD y 0) := by
    intro i
    induction i with
    | zero => intro _; exact ⟨by simp [firsts], fun _ x y hx => absurd hx (Nat.not_lt_zero _)⟩
    | succ i ih =>
      intro hi
      have ih := ih (by omega)
      have tc := take_get (d := (0 : Int)) (l := c) (i := i) (by omega)
      have td := take_get (d := (0 : Int)) (l := d) (i := i) (by omega)
      have memt : ∀ {l : List Int} {v : Int}, i < l.length → (v ∈ l.take i ↔ ∃ j, j < i ∧ l.getD j 0 = v) := fun {l v} hil => by
        constructor
        · intro h
          obtain ⟨j, hj, he⟩ := mem_getD 0 h
          rw [List.length_take] at hj
          have hji : j < i := by omega
          exact ⟨j, hji, by rw [← he]; simp [List.getD, hji]⟩
        · rintro ⟨j, hj, rfl⟩
          have : (l.take i).getD j 0 = l.getD j 0 := by simp [List.getD, hj]
          rw [← this]; exact getD_mem (by rw [List.length_take]; omega)
      rw [tc, td, firsts_snoc, firsts_snoc]
      by_cases h1 : d.getD i 0 ∈ d.take i
      · obtain ⟨j, hj, he⟩ := (memt (by omega)).1 h1
        have h2 : c.getD i 0 ∈ c.take i := (memt (by omega)).2 ⟨j, hj, hr j i (by omega) (by omega) he⟩
        rw [if_pos h1, if_pos h2]
        refine ⟨ih.1, fun e x y hx hy hxy => ?_⟩
        have hcj := hr j i (by omega) (by omega) he
        have step : ∀ z, z < i → c.getD z 0 = c.getD i 0 → d.getD z 0 = d.getD i 0 := fun z hz hzi => (ih.2 e z j hz hj (hzi.trans hcj.symm)).trans he
        rcases Nat.lt_or_ge x i with hxi | hxi <;> rcases Nat.lt_or_ge y i with hyi | hyi
        · exact ih.2 e x y hxi hyi hxy
        · obtain rfl : y = i := by omega
          exact step x hxi hxy
        · obtain rfl : x = i := by omega
          exact (step y hyi hxy.symm).symm
        · obtain rfl : x = i := by omega
          obtain rfl : y = x := by omega
          rfl
      · rw [if_neg h1]
        by_cases h2 : c.getD i 0 ∈ c.take i
        · rw [if_pos h2, List.length_append, List.length_singleton]
          exact ⟨by omega, fun e => by omega⟩
        · rw [if_neg h2]
          simp only [List.length_append, List.length_singleton]
          refine ⟨by omega, fun e x y hx hy hxy => ?_⟩
          have ih2 := ih.2 (by omega)
          have no : ∀ z, z < i → c.getD z 0 ≠ c.getD i 0 := fun z hz hzi => h2 ((memt (by omega)).2 ⟨z, hz, hzi⟩)
          rcases Nat.lt_or_ge x i with hxi | hxi <;> rcases Nat.lt_or_ge y i with hyi | hyi
          · exact ih2 x y hxi hyi hxy
          · obtain rfl : y = i := by omega
            exact absurd hxy (no x hxi)
          · obtain rfl : x = i := by omega
            exact absurd hxy.symm (no y hyi)
          · obtain rfl : x = i := by omega
            obtain rfl : y = x := by omega
            rfl
  have := hle c.length (Nat.le_refl _)
  rw [List.take_length, hl, List.take_length] at this
  refine ⟨this.1, fun e => ?_⟩
  rw [← hc, ← hd]
  exact (canon_congr (d := 0) (e := 0) hl fun i j hi hj => ⟨fun h => this.2 e i j (by omega) (by omega) h, fun h => hr i j hi hj h⟩).symm
end Go.Proofs.Ytpanlghofeebhaa
end
