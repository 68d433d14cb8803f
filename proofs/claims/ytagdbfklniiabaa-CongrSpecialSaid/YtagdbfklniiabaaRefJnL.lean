import Derived.Test.YtagdbfklniiabaaIdpLaw
import Derived.Test.YtagdbfklniiabaaRefCgG
import Derived.Test.YtagdbfklniiabaaClone
import Derived.Test.YtagdbfklniiabaaSdApLaw
import Derived.Test.YtagdbfklniiabaaSgpLaw
import Derived.Test.YtagdbfklniiabaaReesLaw
section
/- Plain: the greatest congruence that keeps idempotents apart. -/
namespace Go.Proofs.Ytagdbfklniiabaa
open Go Go.AM
section
variable {t : List (List Int)} {p : List Int}
def idmP (t : List (List Int)) (x : Nat) : Prop := en t x x = x
noncomputable def ipN (t : List (List Int)) (x : Nat) : Nat := @dite _ (∃ k, idmP t (pwN t x k)) (Classical.propDecidable _) (fun h => pwN t x (Classical.choose h)) fun _ => x
theorem ip_of (h : Semi t) {x k : Nat} (hx : x < t.length) (e : idmP t (pwN t x k)) : ipN t x = pwN t x k := by
  have hex : ∃ k, idmP t (pwN t x k) := ⟨k, e⟩
  have e1 : ipN t x = pwN t x (Classical.choose hex) := dif_pos hex
  rw [e1]
  exact pw_uni h hx (Classical.choose_spec hex) e
theorem ip_ex (h : Semi t) {x : Nat} (hx : x < t.length) : ∃ k, k < t.length ∧ idmP t (pwN t x k) ∧ ipN t x = pwN t x k := by
  obtain ⟨k, hk, e⟩ := pw_idem h hx
  exact ⟨k, hk, e, ip_of h hx e⟩
theorem ip_lt (h : Semi t) {x : Nat} (hx : x < t.length) : ipN t x < t.length := by
  obtain ⟨k, _, _, e⟩ := ip_ex h hx
  rw [e]; exact pwN_lt h hx k
theorem ip_idm (h : Semi t) {x : Nat} (hx : x < t.length) : idmP t (ipN t x) := by
  obtain ⟨k, _, e1, e⟩ := ip_ex h hx
  rw [e]; exact e1
theorem ip_self (h : Semi t) {x : Nat} (hx : x < t.length) (e : idmP t x) : ipN t x = x := ip_of (k := 0) h hx e
noncomputable def ipL (t : List (List Int)) : List Int := (List.range t.length).map fun x => (ipN t x : Int)
theorem ipL_len : (ipL t).length = t.length := by simp [ipL]
theorem ipL_get {x : Nat} (h : x < t.length) : (ipL t).getD x 0 = (ipN t x : Int) := by simp [ipL, List.getD, h]
def Sep (t : List (List Int)) (p : List Int) : Prop := ∀ x y, x < t.length → y < t.length → idmP t x → idmP t y → p.getD x 0 = p.getD y 0 → x = y
noncomputable def sepB (t : List (List Int)) (p : List Int) : Bool := @decide (Sep t p) (Classical.propDecidable _)
theorem sepB_true : sepB t p = true ↔ Sep t p := by unfold sepB; exact @decide_eq_true_iff _ (Classical.propDecidable _)
theorem sepB_false : sepB t p = false ↔ ¬ Sep t p := by unfold sepB; exact @decide_eq_false_iff_not _ (Classical.propDecidable _)
theorem pw_cg (h : Semi t) (hp : Cg t p 0) {x y : Nat} (hx : x < t.length) (hy : y < t.length) (e : p.getD x 0 = p.getD y 0) : ∀ k, p.getD (pwN t x k) 0 = p.getD (pwN t y k) 0
  | 0 => e
  | k + 1 => ((hp _ _ x (pwN_lt h hx k) (pwN_lt h hy k) hx (pw_cg h hp hx hy e k)).2 (by decide)).trans ((hp x y _ hx hy (pwN_lt h hy k) e).1 (by decide))
theorem sep_iff (h : Semi t) (hp : Cg t p 0) : Sep t p ↔ Sub t.length p (ipL t) := by
  constructor
  · intro hs x y hx hy e
    rw [ipL_get hx, ipL_get hy]
    obtain ⟨a, _, ea, e1⟩ := ip_ex h hx
    obtain ⟨b, _, eb, e2⟩ := ip_ex h hy
    have k1 := pw_pow h hx ea b
    have k2 := pw_pow h hy eb a
    have k3 : b + a * (b + 1) = a + b * (a + 1) := by rw [Nat.mul_add, Nat.mul_add, Nat.mul_comm a b]; omega
    rw [k3] at k2
    have := pw_cg h hp hx hy e (a + b * (a + 1))
    rw [k1, k2, ← e1, ← e2] at this
    rw [hs _ _ (ip_lt h hx) (ip_lt h hy) (ip_idm h hx) (ip_idm h hy) this]
  · intro hs x y hx hy ix iy e
    have := hs x y hx hy e
    rw [ipL_get hx, ipL_get hy, ip_self h hx ix, ip_self h hy iy] at this
    omega
noncomputable def sepP (t : List (List Int)) : List Int := synP t (ipL t)
theorem sepP_is (h : Semi t) : IsCg t (sepP t) 0 := synP_is h
theorem sepP_sep (h : Semi t) : Sep t (sepP t) := (sep_iff h (sepP_is h).cg).2 fun _ _ hx hy e => ((synP_iff hx hy).1 e).own
theorem sep_sub (h : Semi t) (hp : Cg t p 0) : Sep t p ↔ Sub t.length p (sepP t) := by
  constructor
  · intro hs x y hx hy e
    exact (synP_iff hx hy).2 (syn_great h.toSh hp (fun a b ha hb e => (sep_iff h hp).1 hs a b ha hb e) hx hy e)
  · intro hs x y hx hy ix iy e
    exact sepP_sep h x y hx hy ix iy (hs x y hx hy e)
noncomputable def sepJ (t : List (List Int)) : Nat → List Int
  | 0 => disI t.length
  | k + 1 => match sepB t ((prnL t).getD k []) with | true => joP t.length (sepJ t k) ((prnL t).getD k []) | false => sepJ t k
theorem sepJ_is (h : Semi t) : ∀ k, k ≤ (prnL t).length → IsCg t (sepJ t k) 0
  | 0, _ => dis_cg h
  | k + 1, hk => by
    have ih := sepJ_is h k (by omega)
    unfold sepJ
    split
    · obtain ⟨x, y, _, _, e⟩ := mem_prnL.1 (getD_mem (d := []) (l := prnL t) (i := k) (by omega))
      exact joP_cg ih (e ▸ prnG_is h x y)
    · exact ih
theorem sepJ_step (h : Semi t) {k : Nat} (hk : k < (prnL t).length) : Sub t.length (sepJ t k) (sepJ t (k + 1)) := by
  show Sub _ _ (match sepB t ((prnL t).getD k []) with | true => joP t.length (sepJ t k) ((prnL t).getD k []) | false => sepJ t k)
  split
  · exact fun x y hx hy e => (joP_iff hx hy).2 (.rel ⟨hx, hy, .inl e⟩)
  · exact fun _ _ _ _ e => e
theorem sepJ_mono (h : Semi t) {j : Nat} : ∀ k, j ≤ k → k ≤ (prnL t).length → Sub t.length (sepJ t j) (sepJ t k)
  | 0, hj, _ => by obtain rfl : j = 0 := by omega
                   exact fun _ _ _ _ e => e
  | k + 1, hj, hk => by
    by_cases e : j = k + 1
    · subst e; exact fun _ _ _ _ e => e
    · exact fun x y hx hy e => sepJ_step h (by omega) x y hx hy (sepJ_mono h k (by omega) (by omega) x y hx hy e)
theorem sepJ_sub (h : Semi t) : ∀ k, k ≤ (prnL t).length → Sub t.length (sepJ t k) (sepP t)
  | 0, _ => fun x y hx hy e => by rw [dis_ker hx hy e]
  | k + 1, hk => by
    have ih := sepJ_sub h k (by omega)
    unfold sepJ
    split
    · rename_i hb
      obtain ⟨a, b, _, _, e⟩ := mem_prnL.1 (getD_mem (d := []) (l := prnL t) (i := k) (by omega))
      have hq := (sep_sub h (e ▸ prnG_is h a b : IsCg t ((prnL t).getD k []) 0).cg).1 (sepB_true.1 hb)
      intro x y hx hy e
      have e := (joP_iff hx hy).1 e
      exact Eg.least (Q := fun a b => (sepP t).getD a 0 = (sepP t).getD b 0) (fun _ => rfl) (fun _ _ h => h.symm) (fun _ _ _ h h' => h.trans h') (fun a b ⟨ha, hb, h⟩ => h.elim (ih a b ha hb) (hq a b ha hb)) e
    · exact ih
theorem sepJ_done (h : Semi t) : sepJ t (prnL t).length = sepP t := by
  have hJ := sepJ_is h _ (Nat.le_refl _)
  have hP := sepP_is h
  refine sub_eq hJ.len hP.len hJ.val.2 hP.val.2 (sepJ_sub h _ (Nat.le_refl _)) fun x y hx hy e => ?_
  have key : ∀ x y, y < x → x < t.length → (sepP t).getD x 0 = (sepP t).getD y 0 → (sepJ t (prnL t).length).getD x 0 = (sepJ t (prnL t).length).getD y 0 := fun x y hxy hx e => by
    have hm : prnG t x y ∈ prnL t := mem_prnL.2 ⟨x, y, hxy, hx, rfl⟩
    obtain ⟨i, hi, ei⟩ := mem_getD [] hm
    have hsp := (sep_sub h (prnG_is h x y).cg).2 (prnG_sub hP e)
    have h1 : (sepJ t (i + 1)).getD x 0 = (sepJ t (i + 1)).getD y 0 := by
      have hb : sepB t ((prnL t).getD i []) = true := sepB_true.2 (ei ▸ hsp)
      unfold sepJ; rw [hb]
      exact (joP_iff hx (by omega)).2 (.rel ⟨hx, by omega, .inr (by rw [ei]; exact prnG_eq hx (by omega))⟩)
    exact sepJ_mono h (prnL t).length (by omega) (Nat.le_refl _) x y hx (by omega) h1
  by_cases hxy : x = y
  · rw [hxy]
  · by_cases h1 : y < x
    · exact key x y h1 hx e
    · exact (key y x (by omega) hy e.symm).symm
end
end Go.Proofs.Ytagdbfklniiabaa
end
section
/- Package ideal: its contracts (sets, generated ideals, the kernel). -/
namespace Go.Proofs.Ytagdbfklniiabaa
open Go Go.AM
set_option maxRecDepth 100000
theorem marked_k (n : Nat) (l : List Int) (hn : n ≤ 400) (hl : ∀ x ∈ l, 0 ≤ x ∧ x < (n : Int)) (hll : l.length ≤ 140737488355328) : fnK TY SP Try.f103 [.int .i64 n, .ro (.ints .i64 l)] (.new (.bools (setB n (setI l)))) := by
  refine And.intro (by omega) ?_
  refine And.intro (by omega) ?_
  refine Exists.intro [] <| lp2 (fun (i : Nat) (_ : List Bool) => [(12, .int .i64 i)]) (fun _ r => [(9, .vec 0 (.bools r) [])]) (fun i r => i ≤ l.length ∧ r.length = n ∧ ∀ x, x < n → (r.getD x false = true ↔ (x : Int) ∈ l.take i)) (fun i _ => l.length - i) 0 (List.replicate n false) ⟨Nat.zero_le _, by simp, fun x hx => by rw [rep_false]; simp⟩ (by repeat' first | refine And.intro ?_ ?_ | exact True.intro | (show (_ : Int) = (_ : Int); omega) | omega | exact rfl | (simp only [RO.len]; omega)) ?_
  rintro i r ⟨hi, hr, hs⟩
  refine And.intro (fun h1 => ?_) (fun h1 => ?_)
  · have hil : i < l.length := by omega
    have hm := hl _ (getD_mem (d := 0) hil)
    refine And.intro (by omega) ?_
    refine And.intro (show 0 ≤ l.getD i 0 ∧ l.getD i 0 < (r.length : Int) by omega) ?_
    refine And.intro (show (0 : Int) ≤ l.getD i 0 by omega) ?_
    refine And.intro (by omega) ?_
    have hnx := set_iff hr hs (i := (l.getD i 0).toNat) (by omega)
    refine nx (i + 1, r.set (l.getD i 0).toNat true) ⟨by omega, hnx.1, fun x hx => ?_⟩ (show l.length - (i + 1) < l.length - i by omega) (by repeat' first | refine And.intro ?_ ?_ | exact True.intro | (show (_ : Int) = (_ : Int); omega) | omega | exact rfl | (simp only [RO.len]; omega))
    rw [hnx.2 x hx, take_snoc (d := 0) hil, List.mem_append, List.mem_singleton]
    exact or_congr Iff.rfl ⟨fun h => by omega, fun h => by omega⟩
  · refine And.intro ?_ trivial
    refine And.intro rfl ?_
    exact congrArg RO.bools (setB_ofP hr fun x hx => by rw [hs x hx, List.take_of_length_le (by omega), setI_iff])
theorem marked_fn (n : Nat) (l : List Int) (hn : n ≤ 400) (hl : ∀ x ∈ l, 0 ≤ x ∧ x < (n : Int)) : QF 103 [.int .i64 n, .ro (.ints .i64 l)] (.new (.bools (setB n (setI l)))) := mkQ Try.func103 (by decide +kernel) rfl (Nat.le_of_ble_eq_true rfl) fun hf => marked_k n l hn hl hf.2.1.1
theorem isIdeal_k (t : List (List Int)) (h : Sh t) (l : List Int) (hll : l.length ≤ 140737488355328) : fnK TY SP Try.f73 [.ro (.rows .i64 t), .ro (.ints .i64 l)] (.bool (.v (idB t l))) := by
  have hmost := h.most
  refine Exists.intro [] <| lp (X := Nat) (fun i => [(13, .int .i64 i)]) (fun _ => []) (fun i => AscTo t l i) (fun i => l.length - i) 0 .start (by repeat' first | refine And.intro ?_ ?_ | exact True.intro | (show (_ : Int) = (_ : Int); omega) | omega | exact rfl | (simp only [RO.len]; omega)) ?_
  intro i H
  have hi := H.le
  refine And.intro (fun h1 => ?_) (fun h1 => ?_)
  · have hil : i < l.length := by omega
    have no : ¬ (0 ≤ l.getD i 0 ∧ l.getD i 0 < (t.length : Int)) → false = idB t l := fun hn => (idB_false.2 fun hh => hn (hh.2.2.1 _ (getD_mem hil))).symm
    refine And.intro (by omega) ?_
    refine And.intro (fun h2 => ?_) (fun h2 => ?_)
    · have h2 : l.getD i 0 < 0 := h2
      exact And.intro (no (by omega)) trivial
    · have h2 : 0 ≤ l.getD i 0 := h2
      refine And.intro (fun h3 => ?_) (fun h3 => ?_)
      · have h3 : (t.length : Int) ≤ l.getD i 0 := h3
        exact And.intro (no (by omega)) trivial
      · have h3 : l.getD i 0 < (t.length : Int) := h3
        refine And.intro (fun h4 => ?_) (fun h4 => ?_)
        · refine And.intro (by omega) ?_
          refine And.intro (by omega) ?_
          have e1 : ((i : Int) - 1).toNat = i - 1 := by omega
          refine And.intro (fun h5 => ?_) (fun h5 => ?_)
          · have h5 : l.getD i 0 ≤ l.getD ((i : Int) - 1).toNat 0 := h5
            rw [e1] at h5
            refine And.intro ?_ trivial
            refine (idB_false.2 fun hh => ?_).symm
            have := hh.2.1 (i - 1) (by omega)
            rw [show i - 1 + 1 = i by omega] at this
            omega
          · have h5 : l.getD ((i : Int) - 1).toNat 0 < l.getD i 0 := h5
            rw [e1] at h5
            refine And.intro (by omega) ?_
            exact nx (i + 1) (H.next hil h2 h3 fun _ => h5) (show l.length - (i + 1) < l.length - i by omega) (by repeat' first | refine And.intro ?_ ?_ | exact True.intro | (show (_ : Int) = (_ : Int); omega) | omega | exact rfl | (simp only [RO.len]; omega))
        · refine And.intro (by omega) ?_
          exact nx (i + 1) (H.next hil h2 h3 fun _ => by omega) (show l.length - (i + 1) < l.length - i by omega) (by repeat' first | refine And.intro ?_ ?_ | exact True.intro | (show (_ : Int) = (_ : Int); omega) | omega | exact rfl | (simp only [RO.len]; omega))
  · obtain ⟨hasc, hin⟩ := H.done (by omega)
    refine Or.inl (cq (marked_fn t.length l (by omega) hin) (And.intro rfl (And.intro rfl trivial)) ?_)
    have hsl := setB_len t.length (setI l)
    refine Exists.intro [] <| lp (X := Nat) (fun i => [(46, .int .i64 i)]) (fun _ => [(43, .vec 0 (.bools (setB t.length (setI l))) [])]) (fun i => i ≤ l.length ∧ ∀ j, j < i → ∀ s, s < t.length → setI l (en t (l.getD j 0).toNat s) = true ∧ setI l (en t s (l.getD j 0).toNat) = true) (fun i => l.length - i) 0 ⟨Nat.zero_le _, fun j hj => absurd hj (Nat.not_lt_zero _)⟩ (by repeat' first | refine And.intro ?_ ?_ | exact True.intro | (show (_ : Int) = (_ : Int); omega) | omega | exact rfl | (simp only [RO.len]; omega)) ?_
    rintro i ⟨hi2, hs⟩
    refine And.intro (fun h2 => ?_) (fun h2 => ?_)
    · have hil : i < l.length := by omega
      have hx := hin _ (getD_mem (d := 0) hil)
      have hxn : (l.getD i 0).toNat < t.length := by omega
      have hmem : setI l (l.getD i 0).toNat = true := setI_iff.2 (by rw [Int.toNat_of_nonneg hx.1]; exact getD_mem hil)
      refine And.intro (by omega) ?_
      refine Exists.intro [] <| lp (X := Nat) (fun s => [(52, .int .i64 s)]) (fun _ => [(43, .vec 0 (.bools (setB t.length (setI l))) [])]) (fun s => s ≤ t.length ∧ ∀ s', s' < s → setI l (en t (l.getD i 0).toNat s') = true ∧ setI l (en t s' (l.getD i 0).toNat) = true) (fun s => t.length - s) 0 ⟨Nat.zero_le _, fun j hj => absurd hj (Nat.not_lt_zero _)⟩ (by repeat' first | refine And.intro ?_ ?_ | exact True.intro | (show (_ : Int) = (_ : Int); omega) | omega | exact rfl | (simp only [RO.len]; omega)) ?_
      rintro s ⟨hsn, hss⟩
      refine And.intro (fun h3 => ?_) (fun h3 => ?_)
      · have hsl2 : s < t.length := by omega
        have r1 := h.len hxn
        have r2 := h.len hsl2
        have e1 := h.ent hxn hsl2
        have e2 := h.ent hsl2 hxn
        refine And.intro (show 0 ≤ l.getD i 0 ∧ l.getD i 0 < (t.length : Int) by omega) ?_
        refine And.intro (show 0 ≤ (s : Int) ∧ (s : Int) < ((t.getD (l.getD i 0).toNat []).length : Int) by omega) ?_
        refine And.intro (show 0 ≤ (t.getD (l.getD i 0).toNat []).getD s 0 ∧ (t.getD (l.getD i 0).toNat []).getD s 0 < ((setB t.length (setI l)).length : Int) by omega) ?_
        refine And.intro (fun h4 => ?_) (fun h4 => ?_)
        · have h4 : (!(setB t.length (setI l)).getD (en t (l.getD i 0).toNat s) false) = true := h4
          rw [setB_get e1.2] at h4
          refine And.intro ?_ trivial
          refine (idB_false.2 fun hh => ?_).symm
          have := (hh.2.2.2 _ s hxn hsl2 hmem).1
          rw [this] at h4; cases h4
        · have h4 : (!(setB t.length (setI l)).getD (en t (l.getD i 0).toNat s) false) = false := h4
          rw [setB_get e1.2] at h4
          refine And.intro ⟨by omega, show (s : Int) < (t.length : Int) by omega⟩ ?_
          refine And.intro (show 0 ≤ l.getD i 0 ∧ l.getD i 0 < ((t.getD s []).length : Int) by omega) ?_
          refine And.intro (show 0 ≤ (t.getD s []).getD (l.getD i 0).toNat 0 ∧ (t.getD s []).getD (l.getD i 0).toNat 0 < ((setB t.length (setI l)).length : Int) by omega) ?_
          refine And.intro (fun h5 => ?_) (fun h5 => ?_)
          · have h5 : (!(setB t.length (setI l)).getD (en t s (l.getD i 0).toNat) false) = true := h5
            rw [setB_get e2.2] at h5
            refine And.intro ?_ trivial
            refine (idB_false.2 fun hh => ?_).symm
            have := (hh.2.2.2 _ s hxn hsl2 hmem).2
            rw [this] at h5; cases h5
          · have h5 : (!(setB t.length (setI l)).getD (en t s (l.getD i 0).toNat) false) = false := h5
            rw [setB_get e2.2] at h5
            refine And.intro (by omega) ?_
            refine nx (s + 1) ⟨by omega, fun s' hs' => ?_⟩ (show t.length - (s + 1) < t.length - s by omega) (by repeat' first | refine And.intro ?_ ?_ | exact True.intro | (show (_ : Int) = (_ : Int); omega) | omega | exact rfl | (simp only [RO.len]; omega))
            by_cases e : s' = s
            · subst e; exact ⟨by simpa using h4, by simpa using h5⟩
            · exact hss s' (by omega)
      · refine And.intro (by omega) ?_
        refine nx (i + 1) ⟨by omega, fun j hj => ?_⟩ (show l.length - (i + 1) < l.length - i by omega) (by repeat' first | refine And.intro ?_ ?_ | exact True.intro | (show (_ : Int) = (_ : Int); omega) | omega | exact rfl | (simp only [RO.len]; omega))
        by_cases e : j = i
        · subst e; exact fun s' hs' => hss s' (by omega)
        · exact hs j (by omega)
    · refine And.intro ?_ trivial
      show decide ((0 : Int) < (l.length : Int)) = idB t l
      have hidf : IdF t (setI l) := fun x s hx hs' hm => by
        obtain ⟨j, hj, e⟩ := mem_getD 0 (setI_iff.1 hm)
        have := hs j (by omega) s hs'
        rw [e, Int.toNat_natCast] at this
        exact this
      by_cases h0 : 0 < l.length
      · rw [idB_true.2 ⟨h0, hasc, hin, hidf⟩]
        exact decide_eq_true (by omega)
      · rw [idB_false.2 fun hh => h0 hh.1]
        exact decide_eq_false (by omega)
theorem isIdeal_fn (t : List (List Int)) (h : Sh t) (l : List Int) : QF 73 [.ro (.rows .i64 t), .ro (.ints .i64 l)] (.bool (.v (idB t l))) := mkQ Try.func73 (by decide +kernel) rfl (Nat.le_of_ble_eq_true rfl) fun hf => isIdeal_k t h l hf.2.1.1
theorem iIsIdeal_fn (t : List (List Int)) (h : Semi t) (l : List Int) : QF 34 [.ro (.rows .i64 t), .ro (.ints .i64 l)] (.bool (.v (idB t l))) := mkQ Try.func34 (by decide +kernel) rfl (Nat.le_of_ble_eq_true rfl) fun _ => by
  refine Or.inl (cq (valid_fn t) (And.intro rfl trivial) ?_)
  refine And.intro (fun h1 => ?_) (fun h1 => absurd (valid_zero.2 h) h1)
  refine Or.inl (cq (isIdeal_fn t h.toSh l) (And.intro rfl (And.intro rfl trivial)) ?_)
  exact And.intro rfl trivial
theorem iIsIdeal_no (t : List (List Int)) (h : ¬ Semi t) (l : List Int) : QF 34 [.ro (.rows .i64 t), .ro (.ints .i64 l)] (.bool (.lit false)) := mkQ Try.func34 (by decide +kernel) rfl (Nat.le_of_ble_eq_true rfl) fun _ => by
  refine Or.inl (cq (valid_fn t) (And.intro rfl trivial) ?_)
  refine And.intro (fun h1 => absurd (valid_zero.1 h1) h) (fun _ => ?_)
  exact And.intro rfl trivial
end Go.Proofs.Ytagdbfklniiabaa
end
section
/- congr.Rees: its contract. -/
namespace Go.Proofs.Ytagdbfklniiabaa
open Go Go.AM
set_option maxRecDepth 100000
def reI (n : Nat) (l : List Int) : List Int := (List.range n).map fun x => if ((x : Nat) : Int) ∈ l then l.getD 0 0 else (x : Int)
theorem reI_len (n : Nat) (l : List Int) : (reI n l).length = n := by simp [reI]
theorem reI_get {n : Nat} {l : List Int} {x : Nat} (h : x < n) : (reI n l).getD x 0 = if ((x : Nat) : Int) ∈ l then l.getD 0 0 else (x : Int) := by simp [reI, List.getD, h]
theorem reI_iff {n : Nat} {l : List Int} (hp : 0 < l.length) (hl : ∀ x ∈ l, 0 ≤ x ∧ x < (n : Int)) {x y : Nat} (hx : x < n) (hy : y < n) : (reI n l).getD x 0 = (reI n l).getD y 0 ↔ x = y ∨ ((x : Int) ∈ l ∧ (y : Int) ∈ l) := by
  have h0 : l.getD 0 0 ∈ l := getD_mem hp
  rw [reI_get hx, reI_get hy]
  by_cases e1 : (x : Int) ∈ l <;> by_cases e2 : (y : Int) ∈ l
  · rw [if_pos e1, if_pos e2]; exact ⟨fun _ => Or.inr ⟨e1, e2⟩, fun _ => rfl⟩
  · rw [if_pos e1, if_neg e2]
    exact ⟨fun e => absurd (e ▸ h0) e2, fun e => Or.elim e (fun e3 => absurd (e3 ▸ e1) e2) fun e3 => absurd e3.2 e2⟩
  · rw [if_neg e1, if_pos e2]
    exact ⟨fun e => absurd (e ▸ h0) e1, fun e => Or.elim e (fun e3 => absurd (e3 ▸ e2) e1) fun e3 => absurd e3.1 e1⟩
  · rw [if_neg e1, if_neg e2]
    exact ⟨fun e => Or.inl (by omega), fun e => Or.elim e (fun e3 => by rw [e3]) fun e3 => absurd e3.1 e1⟩
theorem crees_fn (t : List (List Int)) (l : List Int) (hs : Semi t) (hl : IdL t l) : QF 9 [.ro (.rows .i64 t), .ro (.ints .i64 l)] (.new (.ints .i64 (canon (reI t.length l)))) := mkQ Try.func9 (by decide +kernel) rfl (Nat.le_of_ble_eq_true rfl) fun _ => by
  have hmost := hs.most
  have hp := hl.1
  have hin := hl.2.2.1
  have hrc := rest_count hl
  have hz : ((List.replicate (t.length : Int).toNat (0 : Int)).length : Int) = t.length := by simp
  refine Or.inl (cq (iIsIdeal_fn t hs l) (And.intro rfl (And.intro rfl trivial)) ?_)
  refine And.intro (fun h1 => ?_) (fun _ => ?_)
  · have h1 : (!idB t l) = true := h1
    rw [idB_true.2 hl] at h1; exact absurd h1 (by decide)
  refine And.intro (by omega) ?_
  refine And.intro (by omega) ?_
  refine Exists.intro [] <| lp2 (fun (x : Nat) (_ : List Int) => [(18, .int .i64 x)]) (fun _ L => [(15, .vec 0 (.ints .i64 L) [])]) (fun x L => x ≤ t.length ∧ L.length = t.length ∧ ∀ y, y < x → L.getD y 0 = y) (fun x _ => t.length - x) 0 (List.replicate t.length 0) ⟨Nat.zero_le _, by simp, fun y h => absurd h (Nat.not_lt_zero _)⟩ (by repeat' first | refine And.intro ?_ ?_ | exact True.intro | (show (_ : Int) = (_ : Int); omega) | omega | exact rfl | (simp only [RO.len]; omega)) ?_
  rintro x L ⟨hx, hL, hLy⟩
  refine And.intro (fun h2 => ?_) (fun h2 => ?_)
  · have h2 : (x : Int) < ((List.replicate (t.length : Int).toNat (0 : Int)).length : Int) := h2
    rw [hz] at h2
    refine And.intro (by omega) ?_
    refine And.intro (by omega) ?_
    refine And.intro (by omega) ?_
    refine nx (x + 1, L.set x x) ⟨show x + 1 ≤ t.length by omega, by rw [List.length_set]; exact hL, fun y hy => ?_⟩ (show t.length - (x + 1) < t.length - x by omega) (by repeat' first | refine And.intro ?_ ?_ | exact True.intro | (show (_ : Int) = (_ : Int); omega) | omega | exact rfl | (simp only [RO.len]; omega))
    by_cases e : y = x
    · subst e; exact getD_set_eq (by omega)
    · rw [getD_set_ne (Ne.symm e)]; exact hLy y (by omega)
  · have h2 : ((List.replicate (t.length : Int).toNat (0 : Int)).length : Int) ≤ (x : Int) := h2
    rw [hz] at h2
    refine Exists.intro [] <| lp2 (fun (i : Nat) (_ : List Int) => [(28, .int .i64 i)]) (fun _ L => [(15, .vec 0 (.ints .i64 L) [])]) (fun i L => i ≤ l.length ∧ L.length = t.length ∧ ∀ y, y < t.length → L.getD y 0 = if (y : Int) ∈ l.take i then l.getD 0 0 else (y : Int)) (fun i _ => l.length - i) 0 L ⟨Nat.zero_le _, hL, fun y hy => by rw [List.take_zero, if_neg (by simp)]; exact hLy y (by omega)⟩ (by repeat' first | refine And.intro ?_ ?_ | exact True.intro | (show (_ : Int) = (_ : Int); omega) | omega | exact rfl | (simp only [RO.len]; omega)) ?_
    rintro i M ⟨hi, hM, hMy⟩
    refine And.intro (fun h3 => ?_) (fun h3 => ?_)
    · have h3 : (i : Int) < (l.length : Int) := h3
      have hil : i < l.length := by omega
      have hm := hin _ (getD_mem (d := 0) hil)
      refine And.intro (by omega) ?_
      refine And.intro (by omega) ?_
      refine And.intro (show 0 ≤ l.getD i 0 ∧ l.getD i 0 < (M.length : Int) by omega) ?_
      refine And.intro (show ((0 : Nat) : Int) ≤ l.getD i 0 by omega) ?_
      refine And.intro (by omega) ?_
      refine nx (i + 1, M.set (l.getD i 0).toNat (l.getD 0 0)) ⟨show i + 1 ≤ l.length by omega, by rw [List.length_set]; exact hM, fun y hy => ?_⟩ (show l.length - (i + 1) < l.length - i by omega) (by repeat' first | refine And.intro ?_ ?_ | exact True.intro | (show (_ : Int) = (_ : Int); omega) | omega | exact rfl | (simp only [RO.len]; omega))
      have htk : l.take (i + 1) = l.take i ++ [l.getD i 0] := by
        rw [List.take_add_one, List.getElem?_eq_getElem hil]; simp [List.getD, hil]
      rw [htk]
      by_cases e : y = (l.getD i 0).toNat
      · rw [e, getD_set_eq (by omega), if_pos (by rw [Int.toNat_of_nonneg hm.1]; simp)]
      · rw [getD_set_ne (Ne.symm e), hMy y hy]
        by_cases e2 : (y : Int) ∈ l.take i
        · rw [if_pos e2, if_pos (List.mem_append_left _ e2)]
        · rw [if_neg e2, if_neg]
          intro h4
          refine Or.elim (List.mem_append.1 h4) e2 fun h5 => ?_
          rw [List.mem_singleton] at h5
          exact e (by omega)
    · have h3 : (l.length : Int) ≤ (i : Int) := h3
      have e : M = reI t.length l := ext_getD 0 (by rw [reI_len]; exact hM) fun y hy => by
        rw [hMy y (by omega), reI_get (by omega), List.take_of_length_le (by omega)]
      have ec : (if M.length ≤ 4096 then canon M else []) = canon (reI t.length l) := by rw [if_pos (by omega), e]
      refine Or.inl (cq (Canonical_fn M) (And.intro rfl trivial) ?_)
      rw [ec]
      exact And.intro (And.intro (by omega) rfl) trivial
theorem creesN_fn (t : List (List Int)) (l : List Int) (h : ¬ (Semi t ∧ IdL t l)) : QF 9 [.ro (.rows .i64 t), .ro (.ints .i64 l)] .nils := mkQ Try.func9 (by decide +kernel) rfl (Nat.le_of_ble_eq_true rfl) fun _ => by
  by_cases hs : Semi t
  · refine Or.inl (cq (iIsIdeal_fn t hs l) (And.intro rfl (And.intro rfl trivial)) ?_)
    refine And.intro (fun _ => And.intro trivial trivial) (fun h1 => ?_)
    have h1 : (!idB t l) = false := h1
    rw [Bool.not_eq_false'] at h1
    exact absurd ⟨hs, idB_true.1 h1⟩ h
  · refine Or.inl (cq (iIsIdeal_no t hs l) (And.intro rfl (And.intro rfl trivial)) ?_)
    exact And.intro trivial trivial
end Go.Proofs.Ytagdbfklniiabaa
end
section
/- Plain: how the reference joins partitions, and makes the congruence of an ideal. -/
namespace Go.Proofs.Ytagdbfklniiabaa
open Go Go.AM
def JnR (n : Nat) (p q : List Int) (i a b : Nat) : Prop := a < n ∧ b < n ∧ (p.getD a 0 = p.getD b 0 ∨ (q.getD a 0 = q.getD b 0 ∧ a < i ∧ b < i))
section
variable {n i j : Nat} {p q o : List Int}
theorem JnR.start (hp : p.length = n) : KerOf n p (JnR n p q 0) :=
  ⟨hp, fun a b ha hb => ⟨fun e => .rel ⟨ha, hb, .inl e⟩, fun e => Eg.least (Q := fun a b => p.getD a 0 = p.getD b 0) (fun _ => rfl) (fun _ _ h => h.symm) (fun _ _ _ h h' => h.trans h') (fun a b ⟨_, _, h⟩ => h.elim id fun h => absurd h.2.1 (Nat.not_lt_zero _)) e⟩⟩
theorem JnR.no (h : KerOf n o (JnR n p q i)) (hno : ∀ j, j < i → q.getD i 0 ≠ q.getD j 0) : KerOf n o (JnR n p q (i + 1)) := by
  refine h.congr (fun a b ⟨ha, hb, h⟩ => .rel ⟨ha, hb, h.imp id fun h => ⟨h.1, by omega, by omega⟩⟩) fun a b ⟨ha, hb, h⟩ => ?_
  rcases h with h | ⟨h1, h2, h3⟩
  · exact .rel ⟨ha, hb, .inl h⟩
  · by_cases e1 : a = i
    · by_cases e2 : b = i
      · rw [e1, e2]; exact .refl _
      · subst e1; exact absurd h1 (hno b (by omega))
    · by_cases e2 : b = i
      · subst e2; exact absurd h1.symm (hno a (by omega))
      · exact .rel ⟨ha, hb, .inr ⟨h1, by omega, by omega⟩⟩
theorem JnR.yes (h : KerOf n o (JnR n p q i)) (hi : i < n) (hj : j < i) (e : q.getD i 0 = q.getD j 0) : KerOf n (mrgL o i j) (JnR n p q (i + 1)) := by
  refine (h.mrg hi (show j < n by omega)).congr (fun a b h => ?_) fun a b ⟨ha, hb, h⟩ => ?_
  · rcases h with ⟨ha, hb, h⟩ | ⟨rfl, rfl⟩
    · exact .rel ⟨ha, hb, h.imp id fun h => ⟨h.1, by omega, by omega⟩⟩
    · exact .rel ⟨hi, by omega, .inr ⟨e, by omega, by omega⟩⟩
  · have ij : Eg (orP (JnR n p q i) i j) i j := .rel (.inr ⟨rfl, rfl⟩)
    have up : ∀ {a b}, a < n → b < n → q.getD a 0 = q.getD b 0 → a < i → b < i → Eg (orP (JnR n p q i) i j) a b := fun ha hb h1 h2 h3 => .rel (.inl ⟨ha, hb, .inr ⟨h1, h2, h3⟩⟩)
    rcases h with h | ⟨h1, h2, h3⟩
    · exact .rel (.inl ⟨ha, hb, .inl h⟩)
    · by_cases e1 : a = i
      · by_cases e2 : b = i
        · rw [e1, e2]; exact .refl _
        · subst e1; exact ij.trans (up (by omega) hb (e.symm.trans h1) hj (by omega))
      · by_cases e2 : b = i
        · subst e2; exact (up ha (by omega) (h1.trans e) (by omega) hj).trans ij.symm
        · exact up ha hb h1 (by omega) (by omega)
theorem JnR.done (h : KerOf n o (JnR n p q n)) : canon o = joP n p q := by
  refine ker_clsL (jo_pre n p q) h.1 fun a b ha hb => ?_
  rw [joB_true, joB_true, h.2 a b ha hb]
  have e : Eg (JnR n p q n) a b ↔ Eg (JoR n p q) a b := ⟨Eg.mono fun a b ⟨ha, hb, h⟩ => .rel ⟨ha, hb, h.imp id fun h => h.1⟩, Eg.mono fun a b ⟨ha, hb, h⟩ => .rel ⟨ha, hb, h.imp id fun h => ⟨h, ha, hb⟩⟩⟩
  exact ⟨fun h => ⟨e.1 h, (e.1 h).symm⟩, fun h => e.2 h.1⟩
end
def RsR (l : List Int) (k a b : Nat) : Prop := ∃ j, j < k ∧ a = (l.getD 0 0).toNat ∧ b = (l.getD j 0).toNat
theorem RsR.next {n k : Nat} {l o : List Int} (h : KerOf n o (RsR l k)) (h0 : (l.getD 0 0).toNat < n) (hk : (l.getD k 0).toNat < n) : KerOf n (mrgL o (l.getD 0 0).toNat (l.getD k 0).toNat) (RsR l (k + 1)) := by
  refine (h.mrg h0 hk).congr (fun a b h => ?_) fun a b ⟨j, hj, h1, h2⟩ => ?_
  · rcases h with ⟨j, hj, h1, h2⟩ | ⟨h1, h2⟩
    · exact .rel ⟨j, by omega, h1, h2⟩
    · exact .rel ⟨k, by omega, h1, h2⟩
  · by_cases e : j = k
    · subst e; exact .rel (.inr ⟨h1, h2⟩)
    · exact .rel (.inl ⟨j, by omega, h1, h2⟩)
theorem RsR.done {n : Nat} {l o : List Int} (hp : 0 < l.length) (hl : ∀ x ∈ l, 0 ≤ x ∧ x < (n : Int)) (h : KerOf n o (RsR l l.length)) : canon o = canon (reI n l) := by
  refine ker_canon h.1 (reI_len n l) fun a b ha hb => ?_
  rw [h.2 a b ha hb, reI_iff hp hl ha hb]
  constructor
  · intro e
    refine Eg.least (Q := fun a b => a = b ∨ ((a : Int) ∈ l ∧ (b : Int) ∈ l)) (fun _ => .inl rfl) (fun a b h => h.elim (fun e => .inl e.symm) fun h => .inr ⟨h.2, h.1⟩) (fun a b c h h' => ?_) (fun a b ⟨j, hj, h1, h2⟩ => ?_) e
    · rcases h with rfl | h
      · exact h'
      · rcases h' with rfl | h'
        · exact .inr h
        · exact .inr ⟨h.1, h'.2⟩
    · have m0 := getD_mem (d := 0) hp
      have mj := getD_mem (d := 0) hj
      have b0 := hl _ m0
      have bj := hl _ mj
      exact .inr ⟨by rw [h1, Int.toNat_of_nonneg b0.1]; exact m0, by rw [h2, Int.toNat_of_nonneg bj.1]; exact mj⟩
  · have one : ∀ {a : Nat}, (a : Int) ∈ l → Eg (RsR l l.length) (l.getD 0 0).toNat a := fun {a} hm => by
      obtain ⟨j, hj, e⟩ := mem_getD 0 hm
      exact .rel ⟨j, hj, rfl, by rw [e]; rfl⟩
    rintro (rfl | ⟨h1, h2⟩)
    · exact .refl _
    · exact (one h1).symm.trans (one h2)
end Go.Proofs.Ytagdbfklniiabaa
end
