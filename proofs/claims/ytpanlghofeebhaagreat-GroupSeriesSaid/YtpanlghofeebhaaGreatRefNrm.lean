import Derived.Test.YtpanlghofeebhaaGreatJhTab
import Derived.Test.YtpanlghofeebhaaGreatCmp
/- The reference of all normal subgroups: contract. -/
namespace Go.Proofs.YtpanlghofeebhaaGreat
open Go Go.AM
set_option maxRecDepth 100000
structure OneI (t : List (List Int)) (A : List (List Int)) (k : Nat) : Prop where
  kle : k ≤ t.length
  srt : Srt cmpS A
  mem : ∀ a, a ∈ A ↔ ∃ x, x < k ∧ a = cloL t [(x : Int)]
structure JnI (t : List (List Int)) (ones A0 : List (List Int)) (i j : Nat) (A : List (List Int)) : Prop where
  srt : Srt cmpS A
  ns : ∀ a ∈ A, NS t a
  sub : ∀ a ∈ A0, a ∈ A
  jn : ∀ a b, (a < i ∨ (a = i ∧ b < j)) → b < ones.length → jnL t (A0.getD a []) (ones.getD b []) ∈ A
section
variable {t : List (List Int)}
theorem one_in {x : Nat} (hx : x < t.length) : inT t [(x : Int)] := fun y hy => by rw [List.mem_singleton] at hy; omega
theorem OneI.ns (h : Grp t) {A : List (List Int)} {k : Nat} (H : OneI t A k) : ∀ a ∈ A, NS t a := fun a ha => by
  obtain ⟨x, hx, rfl⟩ := (H.mem a).1 ha
  exact clo_ns h (one_in (by have := H.kle; omega))
theorem ns_le (h : Grp t) (hn : t.length ≤ 16) {A : List (List Int)} (hs : Srt cmpS A) (hA : ∀ a ∈ A, NS t a) : A.length ≤ 1941 := few_subs h hn (fun a ha => (hA a ha).cl) (hs.nodup cmpS_tot)
theorem OneI.start : OneI t [] 0 := ⟨Nat.zero_le _, List.Pairwise.nil, fun a => ⟨fun h => (by cases h), fun ⟨x, hx, _⟩ => absurd hx (Nat.not_lt_zero _)⟩⟩
theorem OneI.next {A : List (List Int)} {k : Nat} (H : OneI t A k) (hk : k < t.length) : OneI t (insC cmpS A (cloL t [(k : Int)])) (k + 1) :=
  ⟨hk, insC_srt cmpS_tot H.srt, fun a => by
    rw [insC_mem, H.mem]
    constructor
    · rintro (rfl | ⟨x, hx, rfl⟩)
      · exact ⟨k, by omega, rfl⟩
      · exact ⟨x, by omega, rfl⟩
    · rintro ⟨x, hx, rfl⟩
      by_cases e : x = k
      · rw [e]; exact .inl rfl
      · exact .inr ⟨x, by omega, rfl⟩⟩
theorem JnI.start {ones A0 : List (List Int)} (hs : Srt cmpS A0) (hns : ∀ a ∈ A0, NS t a) : JnI t ones A0 0 0 A0 := ⟨hs, hns, fun _ h => h, fun a b hab => by omega⟩
theorem JnI.next (h : Grp t) {ones A0 A : List (List Int)} {i j : Nat} (H : JnI t ones A0 i j A) (h0 : ∀ a ∈ A0, NS t a) (h1 : ∀ a ∈ ones, NS t a) (hi : i < A0.length) (hj : j < ones.length) : JnI t ones A0 i (j + 1) (insC cmpS A (jnL t (A0.getD i []) (ones.getD j []))) := by
  refine ⟨insC_srt cmpS_tot H.srt, fun a ha => ?_, fun a ha => insC_mem.2 (.inr (H.sub a ha)), fun a b hab hb => ?_⟩
  · rcases insC_mem.1 ha with rfl | ha
    · exact jn_ns h (h0 _ (getD_mem hi)) (h1 _ (getD_mem hj))
    · exact H.ns a ha
  · by_cases e : a = i ∧ b = j
    · rw [e.1, e.2]; exact insC_mem.2 (.inl rfl)
    · exact insC_mem.2 (.inr (H.jn a b (by omega) hb))
theorem JnI.row {ones A0 A : List (List Int)} {i j : Nat} (H : JnI t ones A0 i j A) (hj : ones.length ≤ j) : JnI t ones A0 (i + 1) 0 A :=
  ⟨H.srt, H.ns, H.sub, fun a b hab hb => H.jn a b (by omega) hb⟩
theorem JnI.done (h : Grp t) {ones A0 A : List (List Int)} {i j k : Nat} (H : JnI t ones A0 i j A) (H1 : OneI t ones k) (hk : t.length ≤ k) (hsub : ∀ a ∈ ones, a ∈ A0) (hs0 : Srt cmpS A0) (hi : A0.length ≤ i) (hlen : A.length = A0.length) : A = nsL t := by
  have hkl := H1.kle
  have hAA : ∀ a, a ∈ A ↔ a ∈ A0 := fun a => by
    have hnd := hs0.nodup cmpS_tot
    refine ⟨fun ha => Classical.byContradiction fun hno => ?_, H.sub a⟩
    have := (List.nodup_cons.2 ⟨hno, hnd⟩ : (a :: A0).Nodup).length_le_of_subset (l₂ := A) fun b hb => (List.mem_cons.1 hb).elim (fun e => e ▸ ha) (H.sub b)
    rw [List.length_cons] at this; omega
  refine sorted_uniq cmpS_tot H.srt (nsL_srt t) fun l => ?_
  rw [nsL_mem]
  refine ⟨H.ns l, ns_all h H.ns ?_ (fun a ha x hx => ?_) l⟩
  · have h1 : cloL t [((oneN t : Nat) : Int)] = [(oneN t : Int)] := asc_mem_ext (clo_ns h (one_in h.one.1)).cl (one_ns h).cl fun x hx => by
      refine ⟨(one_ns h).has_clo h (fun y hy => hy) x hx, fun hm => ?_⟩
      have : x = oneN t := by have := setI_iff.1 hm; rw [List.mem_singleton] at this; omega
      rw [this]; exact (clo_ns h (one_in h.one.1)).cl.one h
    rw [← h1]
    exact H.sub _ (hsub _ ((H1.mem _).2 ⟨oneN t, by have := h.one.1; omega, rfl⟩))
  · obtain ⟨i', hi', rfl⟩ := mem_getD [] ((hAA a).1 ha)
    obtain ⟨j', hj', hv⟩ := mem_getD [] ((H1.mem _).2 ⟨x, by omega, rfl⟩)
    rw [← hv]
    exact H.jn i' j' (by omega) hj'
end
set_option maxHeartbeats 1000000 in
theorem rNrms_fn (t : List (List Int)) (h : Grp t) (hn : t.length ≤ 16) : QF 39 [.ro (.rows .i64 t)] (.ro (.rows .i64 (nsL t))) := mkQ Tryz.func39 (by decide +kernel) rfl (Nat.le_of_ble_eq_true rfl) fun _ => by
  have hs := h.toSh
  refine Exists.intro [] <| lp2 (fun (k : Nat) (A : List (List Int)) => [(14, .int .i64 k), (3, .ro (.rows .i64 A))]) (fun _ _ => []) (fun k A => OneI t A k) (fun k _ => t.length - k) 0 [] .start (by repeat' first | refine And.intro ?_ ?_ | exact True.intro | (show (_ : Int) = (_ : Int); omega) | omega | exact rfl | (simp only [RO.len]; omega)) ?_
  intro k ones H1
  have hones := ns_le h hn H1.srt (H1.ns h)
  have hkle := H1.kle
  refine And.intro (fun h1 => ?_) (fun h1 => ?_)
  · have hk : k < t.length := by omega
    refine Or.inl (cq (rClo_fn t [(k : Int)] h (one_in hk) (by simp)) (And.intro rfl (And.intro rfl trivial)) ?_)
    refine Or.inl (cq (insert_fn ones (cloL t [(k : Int)]) (by omega) H1.srt) (And.intro rfl (And.intro rfl trivial)) ?_)
    refine And.intro (by omega) ?_
    exact nx (k + 1, insC cmpS ones (cloL t [(k : Int)])) (H1.next hk) (show t.length - (k + 1) < t.length - k by omega) (by repeat' first | refine And.intro ?_ ?_ | exact True.intro | (show (_ : Int) = (_ : Int); omega) | omega | exact rfl | (simp only [RO.len]; omega))
  · have h1 : (t.length : Int) ≤ (k : Int) := h1
    refine Exists.intro [] <| lp2 (fun (A : List (List Int)) (g : Bool) => [(5, .ro (.rows .i64 A)), (6, .bool (.v g))]) (fun _ _ => []) (fun A g => Srt cmpS A ∧ (∀ a ∈ A, NS t a) ∧ (∀ a ∈ ones, a ∈ A) ∧ (g = false → A = nsL t)) (fun A g => 2 * (2000 - A.length) + g.toNat) ones true ⟨H1.srt, H1.ns h, fun _ hh => hh, fun hh => by cases hh⟩ (by repeat' first | refine And.intro ?_ ?_ | exact True.intro | (show (_ : Int) = (_ : Int); omega) | omega | exact rfl | (simp only [RO.len]; omega)) ?_
    rintro A0 g ⟨hs0, hA0, hsub, hg⟩
    have hl0 := ns_le h hn hs0 hA0
    refine And.intro (fun h2 => ?_) (fun h2 => ?_)
    · have h2 : g = true := h2
      refine And.intro (fun h3 => ?_) (fun h3 => ?_)
      · refine Exists.intro [] <| lp2 (fun (i : Nat) (A : List (List Int)) => [(35, .int .i64 i), (5, .ro (.rows .i64 A))]) (fun _ _ => []) (fun i A => i ≤ A0.length ∧ JnI t ones A0 i 0 A) (fun i _ => A0.length - i) 0 A0 ⟨Nat.zero_le _, .start hs0 hA0⟩ (by repeat' first | refine And.intro ?_ ?_ | exact True.intro | (show (_ : Int) = (_ : Int); omega) | omega | exact rfl | (simp only [RO.len]; omega)) ?_
        rintro i A ⟨hi, hA⟩
        refine And.intro (fun h4 => ?_) (fun h4 => ?_)
        · have h4 : (i : Int) < (A0.length : Int) := h4
          have hil : i < A0.length := by omega
          refine And.intro (by omega) ?_
          refine Exists.intro [] <| lp2 (fun (j : Nat) (A : List (List Int)) => [(41, .int .i64 j), (5, .ro (.rows .i64 A))]) (fun _ _ => []) (fun j A => j ≤ ones.length ∧ JnI t ones A0 i j A) (fun j _ => ones.length - j) 0 A ⟨Nat.zero_le _, hA⟩ (by repeat' first | refine And.intro ?_ ?_ | exact True.intro | (show (_ : Int) = (_ : Int); omega) | omega | exact rfl | (simp only [RO.len]; omega)) ?_
          rintro j A ⟨hj, hA⟩
          have hlA := ns_le h hn hA.srt hA.ns
          refine And.intro (fun h5 => ?_) (fun h5 => ?_)
          · have h5 : (j : Int) < (ones.length : Int) := h5
            have hjl : j < ones.length := by omega
            have na := hA0 _ (getD_mem (d := []) hil)
            have nb := H1.ns h _ (getD_mem (d := []) hjl)
            have la := ascV_len t.length (setI (A0.getD i []))
            have lb := ascV_len t.length (setI (ones.getD j []))
            rw [na.cl.self] at la
            rw [nb.cl.self] at lb
            refine And.intro (by omega) ?_
            refine And.intro (fun h6 => ?_) (fun h6 => ?_)
            · refine And.intro (by show ((([] : List Int) ++ A0.getD i []).length : Int) ≤ 17592186044416; rw [List.nil_append]; omega) ?_
              refine And.intro (by show ((([] : List Int) ++ A0.getD i [] ++ ones.getD j []).length : Int) ≤ 17592186044416; rw [List.nil_append, List.length_append]; omega) ?_
              refine Or.inl (cq (rgen_fn t (A0.getD i [] ++ ones.getD j []) hs fun x hx => (List.mem_append.1 hx).elim (na.cl.ins x) (nb.cl.ins x)) (And.intro rfl (And.intro rfl trivial)) ?_)
              refine Or.inl (cq (insert_fn A (jnL t (A0.getD i []) (ones.getD j [])) (by omega) hA.srt) (And.intro rfl (And.intro rfl trivial)) ?_)
              refine And.intro (by omega) ?_
              exact nx (j + 1, insC cmpS A (jnL t (A0.getD i []) (ones.getD j []))) ⟨by omega, hA.next h hA0 (H1.ns h) hil hjl⟩ (show ones.length - (j + 1) < ones.length - j by omega) (by repeat' first | refine And.intro ?_ ?_ | exact True.intro | (show (_ : Int) = (_ : Int); omega) | omega | exact rfl | (simp only [RO.len]; omega))
            · exfalso
              have h6 : (2000 : Int) < (A.length : Int) := h6
              omega
          · have h5 : (ones.length : Int) ≤ (j : Int) := h5
            refine And.intro (by omega) ?_
            exact nx (i + 1, A) ⟨by omega, hA.row (by omega)⟩ (show A0.length - (i + 1) < A0.length - i by omega) (by repeat' first | refine And.intro ?_ ?_ | exact True.intro | (show (_ : Int) = (_ : Int); omega) | omega | exact rfl | (simp only [RO.len]; omega))
        · have h4 : (A0.length : Int) ≤ (i : Int) := h4
          have hlA := ns_le h hn hA.srt hA.ns
          have hle : A0.length ≤ A.length := (hs0.nodup cmpS_tot).length_le_of_subset hA.sub
          refine nx (A, decide ((A0.length : Int) < (A.length : Int))) ⟨hA.srt, hA.ns, fun a ha => hA.sub a (hsub a ha), fun hh => ?_⟩ ?_ (by repeat' first | refine And.intro ?_ ?_ | exact True.intro | (show (_ : Int) = (_ : Int); omega) | omega | exact rfl | (simp only [RO.len]; omega))
          · have hh := of_decide_eq_false hh
            exact hA.done h H1 (by omega) hsub hs0 (by omega) (by omega)
          · show 2 * (2000 - A.length) + (decide ((A0.length : Int) < (A.length : Int))).toNat < 2 * (2000 - A0.length) + g.toNat
            rw [h2]
            by_cases hlt : (A0.length : Int) < (A.length : Int)
            · rw [decide_eq_true hlt]; simp; omega
            · rw [decide_eq_false hlt]; simp; omega
      · exfalso
        have h3 : (2000 : Int) < (A0.length : Int) := h3
        omega
    · have h2 : g = false := h2
      refine And.intro ?_ trivial
      exact congrArg (RO.rows .i64) (hg h2)
end Go.Proofs.YtpanlghofeebhaaGreat
