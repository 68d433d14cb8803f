/- The reference of all ideals: the walk. -/
import Derived.Test.YtdmfhcppdpcceaaIdealsLaw
import Derived.Test.YtdmfhcppdpcceaaRefIdeal
import Derived.Test.YtdmfhcppdpcceaaCmp
namespace Go.Proofs.Ytdmfhcppdpcceaa
open Go Go.AM
set_option maxRecDepth 100000

/-- What the list of the first k elements' unions keeps. -/
structure RefInv (t : List (List Int)) (A : List (List Int)) (k : Nat) : Prop where
  kle : k ≤ t.length
  srt : Srt cmpS A
  ids : ∀ a ∈ A, IdL t a
  base : ∀ x, x < k → prL t x ∈ A
  clos : ∀ a ∈ A, ∀ x, x < k → unL t.length a (prL t x) ∈ A
theorem RefInv.start {t : List (List Int)} : RefInv t [] 0 := ⟨Nat.zero_le _, List.Pairwise.nil, fun _ h => (by cases h), fun x hx => absurd hx (Nat.not_lt_zero _), fun _ h => (by cases h)⟩
theorem RefInv.len {t : List (List Int)} {A : List (List Int)} {k : Nat} (H : RefInv t A k) (hn : t.length ≤ 9) : A.length ≤ 512 := ids_le (H.srt.nodup cmpS_tot) H.ids hn
/-- The same within a round. -/
structure RefIn (t : List (List Int)) (A0 A : List (List Int)) (k j : Nat) : Prop where
  jle : j ≤ A0.length
  srt : Srt cmpS A
  mem : ∀ a, a ∈ A ↔ a ∈ A0 ∨ a = prL t k ∨ ∃ j', j' < j ∧ a = unL t.length (A0.getD j' []) (prL t k)
theorem RefIn.ids {t : List (List Int)} (h : Semi t) {A0 A : List (List Int)} {k j : Nat} (H0 : RefInv t A0 k) (hk : k < t.length) (H : RefIn t A0 A k j) : ∀ a ∈ A, IdL t a := fun a ha => by
  rcases (H.mem a).1 ha with ha | rfl | ⟨j', hj', rfl⟩
  · exact H0.ids a ha
  · exact prL_id h hk
  · exact unL_id h.toSh (H0.ids _ (getD_mem (by have := H.jle; omega))) (prL_id h hk)
theorem RefIn.start {t : List (List Int)} {A0 : List (List Int)} {k : Nat} (H0 : RefInv t A0 k) : RefIn t A0 (insC cmpS A0 (prL t k)) k 0 :=
  ⟨Nat.zero_le _, insC_srt cmpS_tot H0.srt, fun a => by
    rw [insC_mem]
    constructor
    · rintro (h | h)
      · exact .inr (.inl h)
      · exact .inl h
    · rintro (h | h | ⟨j', hj', _⟩)
      · exact .inr h
      · exact .inl h
      · exact absurd hj' (Nat.not_lt_zero _)⟩
theorem RefIn.next {t : List (List Int)} {A0 A : List (List Int)} {k j : Nat} (H : RefIn t A0 A k j) (hj : j < A0.length) : RefIn t A0 (insC cmpS A (unL t.length (A0.getD j []) (prL t k))) k (j + 1) :=
  ⟨hj, insC_srt cmpS_tot H.srt, fun a => by
    rw [insC_mem, H.mem]
    constructor
    · rintro (h | h | h | ⟨j', hj', h⟩)
      · exact .inr (.inr ⟨j, by omega, h⟩)
      · exact .inl h
      · exact .inr (.inl h)
      · exact .inr (.inr ⟨j', by omega, h⟩)
    · rintro (h | h | ⟨j', hj', h⟩)
      · exact .inr (.inl h)
      · exact .inr (.inr (.inl h))
      · by_cases e : j' = j
        · rw [e] at h; exact .inl h
        · exact .inr (.inr (.inr ⟨j', by omega, h⟩))⟩
theorem un_set {n : Nat} {a b : List Int} {y : Nat} (hy : y < n) : setI (unL n a b) y = (setI a y || setI b y) := unL_set hy
theorem RefIn.done {t : List (List Int)} (h : Semi t) {A0 A : List (List Int)} {k j : Nat} (H0 : RefInv t A0 k) (hk : k < t.length) (H : RefIn t A0 A k j) (hj : A0.length ≤ j) : RefInv t A (k + 1) := by
  have third : ∀ a ∈ A0, unL t.length a (prL t k) ∈ A := fun a ha => by
    obtain ⟨j', hj', rfl⟩ := mem_getD [] ha
    exact (H.mem _).2 (.inr (.inr ⟨j', by omega, rfl⟩))
  have self : ∀ {a}, IdL t a → ∀ {f : Nat → Bool}, (∀ y, y < t.length → f y = setI a y) → ascV t.length f = a := fun {a} ha {f} hf => by
    rw [ascV_congr hf]; exact ha.self
  have hpr := prL_id h hk
  refine ⟨hk, H.srt, H.ids h H0 hk, fun x hx => ?_, fun b hb x hx => ?_⟩
  · by_cases e : x = k
    · rw [e]; exact (H.mem _).2 (.inr (.inl rfl))
    · exact (H.mem _).2 (.inl (H0.base x (by omega)))
  · rcases (H.mem b).1 hb with hb | rfl | ⟨j', hj', rfl⟩
    · by_cases e : x = k
      · rw [e]; exact third b hb
      · exact (H.mem _).2 (.inl (H0.clos b hb x (by omega)))
    · by_cases e : x = k
      · have : unL t.length (prL t k) (prL t x) = prL t k := self hpr fun y _ => by rw [e, Bool.or_self]
        rw [this]; exact (H.mem _).2 (.inr (.inl rfl))
      · have : unL t.length (prL t k) (prL t x) = unL t.length (prL t x) (prL t k) := unL_ext fun y _ => Bool.or_comm _ _
        rw [this]; exact third _ (H0.base x (by omega))
    · have ha := getD_mem (d := ([] : List Int)) (show j' < A0.length by have := H.jle; omega)
      by_cases e : x = k
      · have : unL t.length (unL t.length (A0.getD j' []) (prL t k)) (prL t x) = unL t.length (A0.getD j' []) (prL t k) := unL_ext fun y hy => by rw [un_set hy, e]; cases setI (A0.getD j' []) y <;> simp
        rw [this]; exact third _ ha
      · have : unL t.length (unL t.length (A0.getD j' []) (prL t k)) (prL t x) = unL t.length (unL t.length (A0.getD j' []) (prL t x)) (prL t k) := unL_ext fun y hy => by
          rw [un_set hy, un_set hy]; cases setI (A0.getD j' []) y <;> cases setI (prL t k) y <;> simp
        rw [this]; exact third _ (H0.clos _ ha x (by omega))
theorem RefInv.all {t : List (List Int)} {A : List (List Int)} {k : Nat} (H : RefInv t A k) (h : Semi t) (hk : t.length ≤ k) : A = idsL t := by
  have hkl := H.kle
  exact sorted_uniq cmpS_tot H.srt (idsL_srt t) fun l => by
    rw [idsL_mem]
    exact ⟨H.ids l, all_of_closed h (fun x hx => H.base x (by omega)) (fun a ha x hx => H.clos a ha x (by omega)) l⟩

set_option maxHeartbeats 1000000 in
theorem rIdeals_k (t : List (List Int)) (h : Semi t) (hn : t.length ≤ 9) : fnK TY SP Try.f17 [.ro (.rows .i64 t)] (.ro (.rows .i64 (idsL t))) := by
  refine Exists.intro [] <| lp2 (fun (k : Nat) (A : List (List Int)) => [(11, .int .i64 k), (3, .ro (.rows .i64 A))]) (fun _ _ => []) (fun k A => RefInv t A k) (fun k _ => t.length - k) 0 [] .start (by repeat' first | refine And.intro ?_ ?_ | exact True.intro | (show (_ : Int) = (_ : Int); omega) | omega | exact rfl | (simp only [RO.len]; omega)) ?_
  intro k A0 H0
  have hA0 := H0.len hn
  have hkle := H0.kle
  refine And.intro (fun h1 => ?_) (fun h1 => ?_)
  · have hk : k < t.length := by omega
    have hin : inT t [(k : Int)] := fun y hy => by rw [List.mem_singleton] at hy; omega
    refine Or.inl (cq (rTwo_fn t [(k : Int)] h hin) (And.intro rfl (And.intro rfl trivial)) ?_)
    refine Or.inl (cq (insert_fn A0 (prL t k) (by omega) H0.srt) (And.intro rfl (And.intro rfl trivial)) ?_)
    refine Exists.intro [] <| lp2 (fun (j : Nat) (A : List (List Int)) => [(24, .int .i64 j), (3, .ro (.rows .i64 A))]) (fun _ _ => []) (fun j A => RefIn t A0 A k j) (fun j _ => A0.length - j) 0 (insC cmpS A0 (prL t k)) (.start H0) (by repeat' first | refine And.intro ?_ ?_ | exact True.intro | (show (_ : Int) = (_ : Int); omega) | omega | exact rfl | (simp only [RO.len]; omega)) ?_
    intro j A H
    have hA : A.length ≤ 512 := ids_le (H.srt.nodup cmpS_tot) (H.ids h H0 hk) hn
    have hjle := H.jle
    refine And.intro (fun h2 => ?_) (fun h2 => ?_)
    · have hj : j < A0.length := by omega
      refine And.intro (by omega) ?_
      refine And.intro (fun h3 => ?_) (fun h3 => by omega)
      refine Or.inl (cq (rset_fn (A0.getD j []) t.length (by omega)) (And.intro rfl (And.intro rfl trivial)) ?_)
      refine Or.inl (cq (rset_fn (prL t k) t.length (by omega)) (And.intro rfl (And.intro rfl trivial)) ?_)
      refine Or.inl (cq (ror_fn t.length (setI (A0.getD j [])) (setI (prL t k)) (by omega)) (And.intro rfl (And.intro rfl trivial)) ?_)
      refine Or.inl (cq (members_fn (setB t.length fun x => setI (A0.getD j []) x || setI (prL t k) x) (by rw [setB_len]; omega)) (And.intro rfl trivial) ?_)
      refine Or.inl (cq (insert_fn A (unL t.length (A0.getD j []) (prL t k)) (by omega) H.srt) (And.intro rfl (And.intro rfl trivial)) ?_)
      refine And.intro (by omega) ?_
      exact nx (j + 1, insC cmpS A (unL t.length (A0.getD j []) (prL t k))) (H.next hj) (show A0.length - (j + 1) < A0.length - j by omega) (by repeat' first | refine And.intro ?_ ?_ | exact True.intro | (show (_ : Int) = (_ : Int); omega) | omega | exact rfl | (simp only [RO.len]; omega))
    · refine And.intro (by omega) ?_
      exact nx (k + 1, A) (H.done h H0 hk (by omega)) (show t.length - (k + 1) < t.length - k by omega) (by repeat' first | refine And.intro ?_ ?_ | exact True.intro | (show (_ : Int) = (_ : Int); omega) | omega | exact rfl | (simp only [RO.len]; omega))
  · exact And.intro (congrArg (RO.rows .i64) (H0.all h (by omega))) trivial
theorem rIdeals_fn (t : List (List Int)) (h : Semi t) (hn : t.length ≤ 9) : QF 17 [.ro (.rows .i64 t)] (.ro (.rows .i64 (idsL t))) := mkQ Try.func17 (by decide +kernel) rfl (Nat.le_of_ble_eq_true rfl) fun _ => rIdeals_k t h hn
end Go.Proofs.Ytdmfhcppdpcceaa
