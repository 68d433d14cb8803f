import Derived.Test.YtpanlghofeebhaaSgpLaw
import Derived.Test.YtpanlghofeebhaaSynLaw
section
/- Strongly connected components by depth-first search: the invariant, plain. -/
namespace Go.Proofs.Ytpanlghofeebhaa
inductive Rc (d : Nat) (tg : Nat → Nat → Int) : Nat → Nat → Prop
  | refl (v : Nat) : Rc d tg v v
  | step {v w k x : Nat} : Rc d tg v w → k < d → tg w k = (x : Int) → Rc d tg v x
section
variable {N d : Nat} {tg : Nat → Nat → Int} {G : Nat → Prop}
theorem Rc.trans {a b c : Nat} (h : Rc d tg a b) (h2 : Rc d tg b c) : Rc d tg a c := by
  induction h2 with
  | refl => exact h
  | step _ hk ht ih => exact ih.step hk ht
def upd {α : Type} (f : Nat → α) (i : Nat) (x : α) : Nat → α := fun v => if v = i then x else f v
theorem upd_eq {α : Type} {f : Nat → α} {i : Nat} {x : α} : upd f i x i = x := if_pos rfl
theorem upd_ne {α : Type} {f : Nat → α} {i v : Nat} {x : α} (h : v ≠ i) : upd f i x v = f v := if_neg h
structure Cl (d : Nat) (tg : Nat → Nat → Int) (G : Nat → Prop) (c : Nat → Int) (comps : List (List Nat)) (lv : List Bool) : Prop where
  dom : ∀ v, 0 ≤ c v → G v ∧ c v < (comps.length : Int)
  lvl : lv.length = comps.length
  mem : ∀ (i v : Nat), i < comps.length → (v ∈ comps.getD i [] ↔ c v = (i : Int))
  ne : ∀ i, i < comps.length → comps.getD i [] ≠ []
  nd : ∀ i, i < comps.length → (comps.getD i []).Nodup
  edge : ∀ v k (w : Nat), 0 ≤ c v → k < d → tg v k = (w : Int) → 0 ≤ c w ∧ c w ≤ c v
  mutu : ∀ v w, 0 ≤ c v → c v = c w → Rc d tg v w
  lvs : ∀ i : Nat, i < comps.length → (lv.getD i false = true ↔ ∃ v k w : Nat, c v = (i : Int) ∧ k < d ∧ tg v k = (w : Int) ∧ c w ≠ c v)
def Dn : List (Nat × Nat) → Nat → Nat → Prop
  | [], _, _ => True
  | p :: r, v, k => (p.1 = v → k < p.2) ∧ ∀ q ∈ r, q.1 = v → k + 1 < q.2
def Tr (tg : Nat → Nat → Int) : List (Nat × Nat) → Prop
  | p :: q :: r => (1 ≤ q.2 ∧ tg q.1 (q.2 - 1) = (p.1 : Int)) ∧ Tr tg (q :: r)
  | _ => True
structure Tj (d : Nat) (tg : Nat → Nat → Int) (G : Nat → Prop) (o l c : Nat → Int) (e : Nat → Bool) (path : List (Nat × Nat)) (stk : List Nat) (comps : List (List Nat)) (lv : List Bool) (cnt : Nat) : Prop extends Cl d tg G c comps lv where
  o0 : ∀ v, 0 ≤ o v ∧ o v ≤ (cnt : Int)
  od : ∀ v, 0 < o v → G v
  inj : ∀ v w, 0 < o v → o v = o w → v = w
  sur : ∀ k : Nat, 1 ≤ k → k ≤ cnt → ∃ v, o v = (k : Int)
  co : ∀ v, 0 ≤ c v → 0 < o v
  st : ∀ v, v ∈ stk ↔ (0 < o v ∧ c v < 0)
  srt : stk.Pairwise (fun a b => o b < o a)
  pst : ∀ p ∈ path, (0 < o p.1 ∧ c p.1 < 0) ∧ p.2 ≤ d
  psrt : path.Pairwise (fun p q => o q.1 < o p.1)
  tree : Tr tg path
  bot : ∀ v, 0 < o v → c v < 0 → ∃ p ∈ path, o p.1 ≤ o v
  low : ∀ v, 0 < o v → c v < 0 → l v ≤ o v ∧ ∃ u, (0 < o u ∧ c u < 0) ∧ o u = l v ∧ Rc d tg v u
  fin : ∀ v, 0 < o v → c v < 0 → (∀ p ∈ path, p.1 ≠ v) → l v < o v
  anc : ∀ p ∈ path, ∀ v, 0 < o v → c v < 0 → o p.1 ≤ o v → (∀ q ∈ path, o q.1 ≤ o v → o q.1 ≤ o p.1) → Rc d tg p.1 v ∧ l p.1 ≤ l v
  edg : ∀ v k (w : Nat), 0 < o v → c v < 0 → Dn path v k → k < d → tg v k = (w : Int) → 0 < o w ∧ ((0 ≤ c w ∧ e v = true) ∨ (c w < 0 ∧ l v ≤ o w ∧ ∀ q ∈ path, o q.1 ≤ o v ∨ o w < o q.1))
  ext : ∀ v, 0 < o v → c v < 0 → e v = true → ∃ k w : Nat, k < d ∧ tg v k = (w : Int) ∧ 0 ≤ c w
  ex0 : ∀ v, o v = 0 → e v = false
theorem Tj.start : Tj d tg G (fun _ => 0) (fun _ => 0) (fun _ => -1) (fun _ => false) [] [] [] [] 0 :=
  { dom := fun v h => by omega
    lvl := rfl, mem := fun i v h => absurd h (Nat.not_lt_zero _), ne := fun i h => absurd h (Nat.not_lt_zero _), nd := fun i h => absurd h (Nat.not_lt_zero _)
    edge := fun v k w h => by omega
    mutu := fun v w h => by omega
    lvs := fun i h => absurd h (Nat.not_lt_zero _)
    o0 := fun v => ⟨Int.le_refl _, Int.le_refl _⟩, od := fun v h => absurd h (Int.lt_irrefl _), inj := fun v w h => absurd h (Int.lt_irrefl _), sur := fun k h1 h2 => by omega
    co := fun v h => by omega
    st := fun v => ⟨fun h => absurd h List.not_mem_nil, fun h => absurd h.1 (Int.lt_irrefl _)⟩, srt := List.Pairwise.nil, pst := fun p h => absurd h List.not_mem_nil, psrt := List.Pairwise.nil, tree := trivial
    bot := fun v h => absurd h (Int.lt_irrefl _), low := fun v h => absurd h (Int.lt_irrefl _), fin := fun v h => absurd h (Int.lt_irrefl _), anc := fun p h => absurd h List.not_mem_nil
    edg := fun v k w h => absurd h (Int.lt_irrefl _), ext := fun v h => absurd h (Int.lt_irrefl _), ex0 := fun _ _ => rfl }
variable {o l c : Nat → Int} {e : Nat → Bool} {path rest : List (Nat × Nat)} {stk : List Nat} {comps : List (List Nat)} {lv : List Bool} {cnt : Nat}
theorem Tj.top {v k : Nat} (h : Tj d tg G o l c e ((v, k) :: rest) stk comps lv cnt) : ∀ q ∈ (v, k) :: rest, o q.1 ≤ o v := fun q hq => by
  rcases List.mem_cons.1 hq with rfl | hq
  · exact Int.le_refl _
  · exact Int.le_of_lt (List.rel_of_pairwise_cons h.psrt hq)
theorem Tj.edgeUp {v k : Nat} (h : Tj d tg G o l c e ((v, k) :: rest) stk comps lv cnt) (hk : k < d) {l' : Nat → Int} {e' : Nat → Bool}
    (hl : ∀ u, u ≠ v → l' u = l u) (hlv : l' v ≤ l v) (he : ∀ u, u ≠ v → e' u = e u) (hev : e v = true → e' v = true)
    (hlw : ∃ u, (0 < o u ∧ c u < 0) ∧ o u = l' v ∧ Rc d tg v u)
    (hex : e' v = true → ∃ k w : Nat, k < d ∧ tg v k = (w : Int) ∧ 0 ≤ c w)
    (hw : ∀ w : Nat, tg v k = (w : Int) → 0 < o w ∧ ((0 ≤ c w ∧ e' v = true) ∨ (c w < 0 ∧ l' v ≤ o w))) :
    Tj d tg G o l' c e' ((v, k + 1) :: rest) stk comps lv cnt := by
  have htop := h.top
  have hv := h.pst _ (List.mem_cons_self ..)
  have mm : ∀ {P : Nat → Prop}, (∀ p ∈ (v, k + 1) :: rest, P p.1) → ∀ p ∈ (v, k) :: rest, P p.1 := fun hP p hp => by
    rcases List.mem_cons.1 hp with rfl | hp
    · exact hP (v, k + 1) (List.mem_cons_self ..)
    · exact hP _ (List.mem_cons_of_mem _ hp)
  have m2 : ∀ {P : Nat → Prop}, (∀ p ∈ (v, k) :: rest, P p.1) → ∀ p ∈ (v, k + 1) :: rest, P p.1 := fun hP p hp => by
    rcases List.mem_cons.1 hp with rfl | hp
    · exact hP (v, k) (List.mem_cons_self ..)
    · exact hP _ (List.mem_cons_of_mem _ hp)
  have hll : ∀ u, l' u ≤ l u := fun u => by by_cases e1 : u = v; · rw [e1]; exact hlv
                                            · rw [hl u e1]; exact Int.le_refl _
  refine { h with pst := fun p hp => ?_, psrt := ?_, tree := ?_, bot := fun u h1 h2 => ?_, low := fun u h1 h2 => ?_, fin := fun u h1 h2 h3 => ?_, anc := fun p hp u h1 h2 h3 h4 => ?_, edg := fun u j w h1 h2 h3 h4 h5 => ?_, ext := fun u h1 h2 h3 => ?_, ex0 := fun u h1 => ?_ }
  · rcases List.mem_cons.1 hp with rfl | hp
    · exact ⟨hv.1, hk⟩
    · exact h.pst p (List.mem_cons_of_mem _ hp)
  · have := List.pairwise_cons.1 h.psrt
    exact List.pairwise_cons.2 ⟨fun q hq => this.1 q hq, this.2⟩
  · have := h.tree
    cases rest with
    | nil => trivial
    | cons q r => exact this
  · obtain ⟨p, hp, h3⟩ := h.bot u h1 h2
    rcases List.mem_cons.1 hp with rfl | hp
    · exact ⟨_, List.mem_cons_self .., h3⟩
    · exact ⟨_, List.mem_cons_of_mem _ hp, h3⟩
  · have h3 := h.low u h1 h2
    by_cases e1 : u = v
    · subst e1; exact ⟨Int.le_trans hlv h3.1, hlw⟩
    · rw [hl u e1]; exact h3
  · have e1 : u ≠ v := fun e1 => h3 _ (List.mem_cons_self ..) e1.symm
    rw [hl u e1]
    exact h.fin u h1 h2 (mm (P := fun x => x ≠ u) h3)
  · have h5 := mm (P := fun x => o x ≤ o u → o x ≤ o p.1) h4
    rcases List.mem_cons.1 hp with rfl | hp
    · have h6 := h.anc _ (List.mem_cons_self ..) u h1 h2 h3 h5
      refine ⟨h6.1, ?_⟩
      by_cases e1 : u = v
      · subst e1; exact Int.le_refl _
      · rw [hl u e1]; exact Int.le_trans hlv h6.2
    · have h6 := h.anc _ (List.mem_cons_of_mem _ hp) u h1 h2 h3 h5
      have h7 : o p.1 < o v := List.rel_of_pairwise_cons h.psrt hp
      have e1 : u ≠ v := fun e1 => by
        subst e1
        have h8 : o u ≤ o p.1 := h5 _ (List.mem_cons_self ..) (Int.le_refl _)
        omega
      have e2 : p.1 ≠ v := fun e2 => by rw [e2] at h7; omega
      rw [hl _ e1, hl _ e2]
      exact h6
  · by_cases hjk : u = v ∧ j = k
    · obtain ⟨rfl, rfl⟩ := hjk
      obtain ⟨h6, h7⟩ := hw w h5
      refine ⟨h6, h7.imp id fun h7 => ⟨h7.1, h7.2, m2 (P := fun x => o x ≤ o u ∨ o w < o x) fun q hq => .inl (htop q hq)⟩⟩
    · have h6 : Dn ((v, k) :: rest) u j := ⟨fun e1 => by have h8 := h3.1 e1; have e1 : v = u := e1; have h8 : j < k + 1 := h8; show j < k; omega, h3.2⟩
      obtain ⟨h7, h8⟩ := h.edg u j w h1 h2 h6 h4 h5
      refine ⟨h7, h8.imp (fun h8 => ⟨h8.1, ?_⟩) fun h8 => ⟨h8.1, Int.le_trans (hll u) h8.2.1, m2 (P := fun x => o x ≤ o u ∨ o w < o x) h8.2.2⟩⟩
      by_cases e1 : u = v
      · rw [e1] at h8 ⊢; exact hev h8.2
      · rw [he u e1]; exact h8.2
  · by_cases e1 : u = v
    · subst e1; exact hex h3
    · rw [he u e1] at h3; exact h.ext u h1 h2 h3
  · have e1 : u ≠ v := fun e1 => by subst e1; have := hv.1.1; dsimp only at this; omega
    rw [he u e1]; exact h.ex0 u h1
theorem Tj.none {v k : Nat} (h : Tj d tg G o l c e ((v, k) :: rest) stk comps lv cnt) (hk : k < d) (ht : tg v k < 0) : Tj d tg G o l c e ((v, k + 1) :: rest) stk comps lv cnt :=
  have hv := h.pst _ (List.mem_cons_self ..)
  h.edgeUp hk (fun _ _ => rfl) (Int.le_refl _) (fun _ _ => rfl) id (h.low v hv.1.1 hv.1.2).2 (h.ext v hv.1.1 hv.1.2) fun w hw => by omega
theorem Tj.back {v k w : Nat} (h : Tj d tg G o l c e ((v, k) :: rest) stk comps lv cnt) (hk : k < d) (ht : tg v k = (w : Int)) (h1 : o w ≠ 0) (h2 : c w < 0) : Tj d tg G o (upd l v (min (l v) (o w))) c e ((v, k + 1) :: rest) stk comps lv cnt := by
  have hv := h.pst _ (List.mem_cons_self ..)
  have ho := h.o0 w
  have hlo := h.low v hv.1.1 hv.1.2
  refine h.edgeUp hk (fun _ hu => upd_ne hu) (by rw [upd_eq]; omega) (fun _ _ => rfl) id ?_ (h.ext v hv.1.1 hv.1.2) fun w' hw => ?_
  · rw [upd_eq]
    by_cases e1 : l v ≤ o w
    · rw [Int.min_eq_left e1]; exact hlo.2
    · rw [Int.min_eq_right (by omega)]; exact ⟨w, ⟨by omega, h2⟩, rfl, (Rc.refl v).step hk ht⟩
  · obtain rfl : w' = w := by rw [ht] at hw; omega
    exact ⟨by omega, .inr ⟨h2, by rw [upd_eq]; omega⟩⟩
theorem Tj.away {v k w : Nat} (h : Tj d tg G o l c e ((v, k) :: rest) stk comps lv cnt) (hk : k < d) (ht : tg v k = (w : Int)) (h2 : 0 ≤ c w) : Tj d tg G o l c (upd e v true) ((v, k + 1) :: rest) stk comps lv cnt := by
  have hv := h.pst _ (List.mem_cons_self ..)
  refine h.edgeUp hk (fun _ _ => rfl) (Int.le_refl _) (fun _ hu => upd_ne hu) (fun _ => upd_eq) (h.low v hv.1.1 hv.1.2).2 (fun _ => ⟨k, w, hk, ht, h2⟩) fun w' hw => ?_
  obtain rfl : w' = w := by rw [ht] at hw; omega
  exact ⟨h.co _ h2, .inl ⟨h2, upd_eq⟩⟩
theorem Tj.enter {v : Nat} (h : Tj d tg G o l c e path stk comps lv cnt) (hv : G v) (hov : o v = 0)
    {path' : List (Nat × Nat)} (hp : (path = [] ∧ path' = []) ∨ ∃ p k rest, path = (p, k) :: rest ∧ k < d ∧ tg p k = (v : Int) ∧ path' = (p, k + 1) :: rest) :
    Tj d tg G (upd o v ((cnt + 1 : Nat) : Int)) (upd l v ((cnt + 1 : Nat) : Int)) c e ((v, 0) :: path') (v :: stk) comps lv (cnt + 1) := by
  have ho : ∀ u, u ≠ v → upd o v ((cnt + 1 : Nat) : Int) u = o u := fun u hu => upd_ne hu
  have hc : c v < 0 := by
    by_cases h1 : 0 ≤ c v
    · have := h.co v h1; omega
    · omega
  have hne : ∀ {u}, 0 < o u → u ≠ v := fun h1 e1 => by subst e1; omega
  have m1 : ∀ {P : Nat → Prop}, (∀ p ∈ path, P p.1) → ∀ p ∈ path', P p.1 := fun hP p hp1 => by
    rcases hp with ⟨_, rfl⟩ | ⟨q, k, rest, rfl, _, _, rfl⟩
    · cases hp1
    · rcases List.mem_cons.1 hp1 with rfl | hp1
      · exact hP (q, k) (List.mem_cons_self ..)
      · exact hP _ (List.mem_cons_of_mem _ hp1)
  have m2 : ∀ {P : Nat → Prop}, (∀ p ∈ path', P p.1) → ∀ p ∈ path, P p.1 := fun hP p hp1 => by
    rcases hp with ⟨rfl, _⟩ | ⟨q, k, rest, rfl, _, _, rfl⟩
    · cases hp1
    · rcases List.mem_cons.1 hp1 with rfl | hp1
      · exact hP (q, k + 1) (List.mem_cons_self ..)
      · exact hP _ (List.mem_cons_of_mem _ hp1)
  have mp : ∀ p ∈ path', 0 < o p.1 ∧ c p.1 < 0 := m1 (P := fun x => 0 < o x ∧ c x < 0) fun p hp1 => (h.pst p hp1).1
  have hov' : upd o v ((cnt + 1 : Nat) : Int) v = ((cnt + 1 : Nat) : Int) := upd_eq
  have pos : ∀ {u}, 0 < upd o v ((cnt + 1 : Nat) : Int) u → u ≠ v → 0 < o u := fun h1 h2 => by rwa [ho _ h2] at h1
  refine { h.toCl with o0 := fun u => ?_, od := fun u h1 => ?_, inj := fun u w h1 h2 => ?_, sur := fun k h1 h2 => ?_, co := fun u h1 => ?_, st := fun u => ?_, srt := ?_, pst := fun p hp1 => ?_, psrt := ?_, tree := ?_, bot := fun u h1 h2 => ?_, low := fun u h1 h2 => ?_, fin := fun u h1 h2 h3 => ?_, anc := fun p hp1 u h1 h2 h3 h4 => ?_, edg := fun u j w h1 h2 h3 h4 h5 => ?_, ext := fun u h1 h2 h3 => ?_, ex0 := fun u h1 => ?_ }
  · by_cases e1 : u = v
    · subst e1; rw [hov']; omega
    · rw [ho u e1]; have := h.o0 u; omega
  · by_cases e1 : u = v
    · subst e1; exact hv
    · exact h.od u (pos h1 e1)
  · have h3 := h.o0 u; have h4 := h.o0 w
    by_cases e1 : u = v <;> by_cases e2 : w = v
    · rw [e1, e2]
    · subst e1; rw [hov', ho w e2] at h2; omega
    · subst e2; rw [hov', ho u e1] at h2; omega
    · rw [ho u e1, ho w e2] at h2; exact h.inj u w (pos h1 e1) h2
  · by_cases e1 : k = cnt + 1
    · exact ⟨v, by rw [hov', e1]⟩
    · obtain ⟨u, hu⟩ := h.sur k h1 (by omega)
      exact ⟨u, by rw [ho u (hne (by omega))]; exact hu⟩
  · have := h.co u h1; rw [ho u (hne this)]; exact this
  · constructor
    · intro hu
      rcases List.mem_cons.1 hu with rfl | hu
      · exact ⟨by rw [hov']; omega, hc⟩
      · have := (h.st u).1 hu
        exact ⟨by rw [ho u (hne this.1)]; exact this.1, this.2⟩
    · intro hu
      by_cases e1 : u = v
      · rw [e1]; exact List.mem_cons_self ..
      · exact List.mem_cons_of_mem _ ((h.st u).2 ⟨pos hu.1 e1, hu.2⟩)
  · refine List.pairwise_cons.2 ⟨fun u hu => ?_, h.srt.imp_of_mem fun {a b} ha hb hab => ?_⟩
    · have := (h.st u).1 hu
      rw [ho u (hne this.1), hov']
      have := h.o0 u; omega
    · rw [ho a (hne ((h.st a).1 ha).1), ho b (hne ((h.st b).1 hb).1)]; exact hab
  · rcases List.mem_cons.1 hp1 with rfl | hp1
    · exact ⟨⟨by show 0 < upd o v _ v; rw [hov']; omega, hc⟩, Nat.zero_le _⟩
    · have h1 := mp p hp1
      refine ⟨⟨by rw [ho _ (hne h1.1)]; exact h1.1, h1.2⟩, ?_⟩
      rcases hp with ⟨_, rfl⟩ | ⟨q, k, rest, rfl, hk, _, rfl⟩
      · cases hp1
      · rcases List.mem_cons.1 hp1 with rfl | hp1
        · exact hk
        · exact (h.pst p (List.mem_cons_of_mem _ hp1)).2
  · refine List.pairwise_cons.2 ⟨fun p hp1 => ?_, ?_⟩
    · have h1 := mp p hp1
      show upd o v _ p.1 < upd o v _ v
      rw [ho _ (hne h1.1), hov']
      have := h.o0 p.1; omega
    · have h1 : path'.Pairwise (fun p q => o q.1 < o p.1) := by
        rcases hp with ⟨_, rfl⟩ | ⟨q, k, rest, rfl, hk, _, rfl⟩
        · exact List.Pairwise.nil
        · have := List.pairwise_cons.1 h.psrt
          exact List.pairwise_cons.2 ⟨fun q hq => this.1 q hq, this.2⟩
      exact h1.imp_of_mem fun {a b} ha hb hab => by rw [ho _ (hne (mp a ha).1), ho _ (hne (mp b hb).1)]; exact hab
  · rcases hp with ⟨_, rfl⟩ | ⟨q, k, rest, rfl, hk, ht, rfl⟩
    · trivial
    · refine ⟨⟨by omega, ht⟩, ?_⟩
      have := h.tree
      cases rest with
      | nil => trivial
      | cons q r => exact this
  · by_cases e1 : u = v
    · exact ⟨_, List.mem_cons_self .., by subst e1; exact Int.le_refl _⟩
    · obtain ⟨p, hp1, h3⟩ := h.bot u (pos h1 e1) h2
      have h6 : ∃ p ∈ path', o p.1 ≤ o u := by
        rcases hp with ⟨rfl, _⟩ | ⟨q, k, rest, rfl, hk, ht, rfl⟩
        · cases hp1
        · rcases List.mem_cons.1 hp1 with rfl | hp1
          · exact ⟨_, List.mem_cons_self .., h3⟩
          · exact ⟨_, List.mem_cons_of_mem _ hp1, h3⟩
      obtain ⟨p, hp1, h3⟩ := h6
      exact ⟨p, List.mem_cons_of_mem _ hp1, by rw [ho _ (hne (mp p hp1).1), ho _ e1]; exact h3⟩
  · by_cases e1 : u = v
    · subst e1
      rw [hov', upd_eq]
      exact ⟨Int.le_refl _, u, ⟨by rw [hov']; omega, hc⟩, hov', .refl u⟩
    · obtain ⟨h3, u2, h4, h5, h6⟩ := h.low u (pos h1 e1) h2
      rw [ho _ e1, upd_ne e1]
      exact ⟨h3, u2, ⟨by rw [ho _ (hne h4.1)]; exact h4.1, h4.2⟩, by rw [ho _ (hne h4.1)]; exact h5, h6⟩
  · have e1 : u ≠ v := fun e1 => h3 _ (List.mem_cons_self ..) e1.symm
    rw [ho _ e1, upd_ne e1]
    exact h.fin u (pos h1 e1) h2 (m2 (P := fun x => x ≠ u) fun p hp1 => h3 p (List.mem_cons_of_mem _ hp1))
  · rcases List.mem_cons.1 hp1 with rfl | hp1
    · have h3 : upd o v _ v ≤ upd o v _ u := h3
      rw [hov'] at h3
      by_cases e1 : u = v
      · subst e1; exact ⟨.refl _, Int.le_refl _⟩
      · rw [ho u e1] at h3; have := h.o0 u; omega
    · have h6 := mp p hp1
      have h7 := ho _ (hne h6.1)
      by_cases e1 : u = v
      · subst e1
        have h8 := h4 _ (List.mem_cons_self ..) (Int.le_refl _)
        have h8 : upd o u _ u ≤ upd o u _ p.1 := h8
        rw [h7, hov'] at h8
        have := h.o0 p.1; omega
      · rw [h7, ho u e1] at h3
        rw [upd_ne (hne h6.1), upd_ne e1]
        have h9 : ∃ q ∈ path, q.1 = p.1 := by
          rcases hp with ⟨_, rfl⟩ | ⟨q, k, rest, rfl, hk, ht, rfl⟩
          · cases hp1
          · rcases List.mem_cons.1 hp1 with rfl | hp1
            · exact ⟨_, List.mem_cons_self .., rfl⟩
            · exact ⟨_, List.mem_cons_of_mem _ hp1, rfl⟩
        obtain ⟨q, hq, h9⟩ := h9
        rw [← h9]
        refine h.anc q hq u (pos h1 e1) h2 (by rw [h9]; exact h3) ?_
        rw [h9]
        refine m2 (P := fun x => o x ≤ o u → o x ≤ o p.1) fun r hr h10 => ?_
        have h11 := h4 r (List.mem_cons_of_mem _ hr)
        rw [ho _ (hne (mp r hr).1), ho u e1, h7] at h11
        exact h11 h10
  · have e1 : u ≠ v := fun e1 => by
      subst e1
      have := h3.1 rfl
      exact absurd this (Nat.not_lt_zero _)
    have h6 : Dn path u j := by
      have h7 := h3.2
      rcases hp with ⟨rfl, _⟩ | ⟨q, k, rest, rfl, hk, ht, rfl⟩
      · trivial
      · exact ⟨fun e2 => by have h8 := h7 _ (List.mem_cons_self ..) e2; have h8 : j + 1 < k + 1 := h8; show j < k; omega, fun r hr => h7 r (List.mem_cons_of_mem _ hr)⟩
    obtain ⟨h7, h8⟩ := h.edg u j w (pos h1 e1) h2 h6 h4 h5
    have e2 := hne h7
    rw [ho w e2, ho u e1, upd_ne e1]
    refine ⟨h7, h8.imp id fun h8 => ⟨h8.1, h8.2.1, fun q hq => ?_⟩⟩
    rcases List.mem_cons.1 hq with rfl | hq
    · right
      show o w < upd o v _ v
      rw [hov']; have := h.o0 w; omega
    · rw [ho _ (hne (mp q hq).1)]
      exact m1 (P := fun x => o x ≤ o u ∨ o w < o x) h8.2.2 q hq
  · by_cases e1 : u = v
    · subst e1; rw [h.ex0 u hov] at h3; cases h3
    · exact h.ext u (pos h1 e1) h2 h3
  · by_cases e1 : u = v
    · subst e1; rw [hov'] at h1; omega
    · rw [ho u e1] at h1; exact h.ex0 u h1
theorem Dn.cons {v k : Nat} {rest : List (Nat × Nat)} {u j : Nat} (hvr : ∀ p ∈ rest, p.1 ≠ v) (h : Dn rest u j) (hj : u = v → j < k) :
    Dn ((v, k) :: rest) u j ∨ ∃ p r, rest = p :: r ∧ p.1 = u ∧ j + 1 = p.2 := by
  by_cases hv : u = v
  · exact .inl ⟨fun _ => hj hv, fun q hq e1 => absurd (e1.trans hv) (hvr q hq)⟩
  cases rest with
  | nil => exact .inl ⟨fun e1 => absurd e1.symm hv, fun q hq => absurd hq List.not_mem_nil⟩
  | cons p r =>
    by_cases e1 : p.1 = u ∧ j + 1 = p.2
    · exact .inr ⟨p, r, rfl, e1⟩
    · refine .inl ⟨fun e2 => absurd e2.symm hv, fun q hq e2 => ?_⟩
      rcases List.mem_cons.1 hq with rfl | hq
      · have := h.1 e2
        have : ¬ (j + 1 = q.2) := fun e3 => e1 ⟨e2, e3⟩
        omega
      · exact h.2 q hq e2
def exUp (e : Nat → Bool) : List (Nat × Nat) → Nat → Bool
  | [], u => e u
  | p :: _, u => upd e p.1 true u
def seg (o c : Nat → Int) (v : Nat) (u : Nat) : Prop := (0 < o u ∧ c u < 0) ∧ o v ≤ o u
theorem Tj.close {v k : Nat} (h : Tj d tg G o l c e ((v, k) :: rest) stk comps lv cnt) (hk : d ≤ k) (hl : l v = o v)
    {stk' members : List Nat} {b : Bool} {c' : Nat → Int}
    (hm : ∀ u, u ∈ members ↔ seg o c v u) (hs : ∀ u, u ∈ stk' ↔ (u ∈ stk ∧ ¬ seg o c v u)) (hss : stk'.Pairwise (fun a b => o b < o a))
    (hb : b = true ↔ ∃ u ∈ members, e u = true)
    (hmn : members.Nodup) (hc1 : ∀ u, seg o c v u → c' u = (comps.length : Int)) (hc2 : ∀ u, ¬ seg o c v u → c' u = c u) :
    Tj d tg G o l c' (exUp e rest) rest stk' (comps ++ [members]) (lv ++ [b]) cnt := by
  have htop := h.top
  have hv := h.pst _ (List.mem_cons_self ..)
  have hvv : 0 < o v ∧ c v < 0 := hv.1
  have hsv : seg o c v v := ⟨hvv, Int.le_refl _⟩
  have hrest : ∀ p ∈ rest, o p.1 < o v := fun p hp => List.rel_of_pairwise_cons h.psrt hp
  have hrv : ∀ p ∈ rest, p.1 ≠ v := fun p hp e1 => by have := hrest p hp; rw [e1] at this; omega
  have hrs : ∀ p ∈ rest, ¬ seg o c v p.1 := fun p hp h1 => by have := hrest p hp; have := h1.2; omega
  have to : ∀ u, seg o c v u → Rc d tg v u ∧ l v ≤ l u := fun u hu => h.anc _ (List.mem_cons_self ..) u hu.1.1 hu.1.2 hu.2 fun q hq _ => htop q hq
  have fro : ∀ (n : Nat) (u : Nat), seg o c v u → o u ≤ o v + (n : Int) → Rc d tg u v := by
    intro n
    induction n with
    | zero => 
      intro u hu hle
      have : u = v := h.inj u v hu.1.1 (by have := hu.2; omega)
      rw [this]; exact .refl v
    | succ n ih =>
      intro u hu hle
      by_cases e1 : u = v
      · rw [e1]; exact .refl v
      · have h1 := h.fin u hu.1.1 hu.1.2 fun p hp e2 => by
          have h2 := htop p hp
          rw [e2] at h2
          exact e1 (h.inj u v hu.1.1 (by have := hu.2; omega))
        obtain ⟨h2, u2, h3, h4, h5⟩ := h.low u hu.1.1 hu.1.2
        have h6 := (to u hu).2
        exact h5.trans (ih u2 ⟨h3, by omega⟩ (by omega))
  have fro : ∀ u, seg o c v u → Rc d tg u v := fun u hu => fro (o u - o v).toNat u hu (by omega)
  have dn : ∀ u j, seg o c v u → j < d → Dn ((v, k) :: rest) u j := fun u j hu hj => ⟨fun _ => Nat.lt_of_lt_of_le hj hk, fun q hq e1 => by subst e1; exact absurd hu (hrs q hq)⟩
  have edgs : ∀ u j (w : Nat), seg o c v u → j < d → tg u j = (w : Int) → (0 ≤ c w ∧ e u = true) ∨ seg o c v w := fun u j w hu hj ht => by
    obtain ⟨h1, h2⟩ := h.edg u j w hu.1.1 hu.1.2 (dn u j hu hj) hj ht
    refine h2.imp id fun h2 => ⟨⟨h1, h2.1⟩, ?_⟩
    have := (to u hu).2
    have := h2.2.1
    omega
  have cs : ∀ u, 0 ≤ c u → ¬ seg o c v u := fun u h1 h2 => by have := h2.1.2; omega
  have ct : ∀ u, 0 ≤ c' u → seg o c v u ∨ (0 ≤ c u ∧ c' u = c u) := fun u h1 => by
    by_cases h2 : seg o c v u
    · exact .inl h2
    · exact .inr ⟨by rw [hc2 u h2] at h1; exact h1, hc2 u h2⟩
  have cneg : ∀ u, c' u < 0 → c u < 0 ∧ ¬ seg o c v u := fun u h1 => by
    by_cases h2 : seg o c v u
    · rw [hc1 u h2] at h1; omega
    · exact ⟨by rw [hc2 u h2] at h1; exact h1, h2⟩
  have lt : ∀ u, 0 < o u → c u < 0 → ¬ seg o c v u → o u < o v := fun u h1 h2 h3 => by
    by_cases h4 : o v ≤ o u
    · exact absurd ⟨⟨h1, h2⟩, h4⟩ h3
    · omega
  have gl : ∀ i, i < comps.length → (comps ++ [members]).getD i [] = comps.getD i [] := fun i hi => by simp [List.getD, List.getElem?_append_left hi]
  have gn : (comps ++ [members]).getD comps.length [] = members := by simp [List.getD]
  have ll : ∀ i, i < comps.length → (lv ++ [b]).getD i false = lv.getD i false := fun i hi => by simp [List.getD, List.getElem?_append_left (show i < lv.length by rw [h.lvl]; exact hi)]
  have ln : (lv ++ [b]).getD comps.length false = b := by rw [← h.lvl]; simp [List.getD]
  have lc : (comps ++ [members]).length = comps.length + 1 := by simp
  have hcl : Cl d tg G c' (comps ++ [members]) (lv ++ [b]) := by
    refine ⟨fun u h1 => ?_, by simp [h.lvl], fun i u hi => ?_, fun i hi => ?_, fun i hi => ?_, fun u j w h1 h2 h3 => ?_, fun u w h1 h2 => ?_, fun i hi => ?_⟩
    · rw [lc]
      rcases ct u h1 with h2 | h2
      · exact ⟨h.od u h2.1.1, by rw [hc1 u h2]; omega⟩
      · have := h.dom u h2.1
        exact ⟨this.1, by rw [h2.2]; omega⟩
    · rw [lc] at hi
      by_cases hi2 : i < comps.length
      · rw [gl i hi2, h.mem i u hi2]
        constructor
        · intro h1; rw [hc2 u (cs u (by omega))]; exact h1
        · intro h1
          rcases ct u (by omega) with h2 | h2
          · rw [hc1 u h2] at h1; omega
          · rw [← h2.2]; exact h1
      · obtain rfl : i = comps.length := by omega
        rw [gn, hm]
        constructor
        · exact hc1 u
        · intro h1
          rcases ct u (by omega) with h2 | h2
          · exact h2
          · have := h.dom u h2.1
            omega
    · rw [lc] at hi
      by_cases hi2 : i < comps.length
      · rw [gl i hi2]; exact h.ne i hi2
      · obtain rfl : i = comps.length := by omega
        rw [gn]
        intro h1
        have := (hm v).2 hsv
        rw [h1] at this; cases this
    · rw [lc] at hi
      by_cases hi2 : i < comps.length
      · rw [gl i hi2]; exact h.nd i hi2
      · obtain rfl : i = comps.length := by omega
        rw [gn]; exact hmn
    · rcases ct u h1 with h4 | h4
      · rw [hc1 u h4]
        rcases edgs u j w h4 h2 h3 with h5 | h5
        · rw [hc2 w (cs w h5.1)]
          have := h.dom w h5.1
          omega
        · rw [hc1 w h5]; omega
      · have h5 := h.edge u j w h4.1 h2 h3
        rw [hc2 w (cs w h5.1), h4.2]; exact h5
    · rcases ct u h1 with h3 | h3 <;> rcases ct w (by omega) with h4 | h4
      · exact (fro u h3).trans (to w h4).1
      · have := h.dom w h4.1
        rw [hc1 u h3] at h2; omega
      · have := h.dom u h3.1
        rw [hc1 w h4] at h2; omega
      · exact h.mutu u w h3.1 (by omega)
    · rw [lc] at hi
      by_cases hi2 : i < comps.length
      · rw [ll i hi2, h.lvs i hi2]
        constructor
        · rintro ⟨u, j, w, h1, h2, h3, h4⟩
          have h5 := h.edge u j w (by omega) h2 h3
          refine ⟨u, j, w, ?_, h2, h3, ?_⟩
          · rw [hc2 u (cs u (by omega))]; exact h1
          · rw [hc2 u (cs u (by omega)), hc2 w (cs w h5.1)]; exact h4
        · rintro ⟨u, j, w, h1, h2, h3, h4⟩
          rcases ct u (by omega) with h6 | h6
          · rw [hc1 u h6] at h1; omega
          · have h5 := h.edge u j w h6.1 h2 h3
            rw [h6.2, hc2 w (cs w h5.1)] at h4
            exact ⟨u, j, w, by omega, h2, h3, h4⟩
      · obtain rfl : i = comps.length := by omega
        rw [ln, hb]
        constructor
        · rintro ⟨u, h1, h2⟩
          have h3 := (hm u).1 h1
          obtain ⟨j, w, h4, h5, h6⟩ := h.ext u h3.1.1 h3.1.2 h2
          refine ⟨u, j, w, hc1 u h3, h4, h5, ?_⟩
          have := h.dom w h6
          rw [hc2 w (cs w h6), hc1 u h3]; omega
        · rintro ⟨u, j, w, h1, h2, h3, h4⟩
          have h5 : seg o c v u := by
            rcases ct u (by omega) with h6 | h6
            · exact h6
            · have := h.dom u h6.1; omega
          rcases edgs u j w h5 h2 h3 with h6 | h6
          · exact ⟨u, (hm u).2 h5, h6.2⟩
          · rw [hc1 u h5, hc1 w h6] at h4; exact absurd rfl h4
  refine { hcl with o0 := h.o0, od := h.od, inj := h.inj, sur := h.sur, co := fun u h1 => ?_, st := fun u => ?_, srt := hss, pst := fun p hp => ?_, psrt := (List.pairwise_cons.1 h.psrt).2, tree := ?_, bot := fun u h1 h2 => ?_, low := fun u h1 h2 => ?_, fin := fun u h1 h2 h3 => ?_, anc := fun p hp u h1 h2 h3 h4 => ?_, edg := fun u j w h1 h2 h3 h4 h5 => ?_, ext := fun u h1 h2 h3 => ?_, ex0 := fun u h1 => ?_ }
  · rcases ct u h1 with h2 | h2
    · exact h2.1.1
    · exact h.co u h2.1
  · rw [hs u, h.st u]
    constructor
    · rintro ⟨h1, h2⟩; exact ⟨h1.1, by rw [hc2 u h2]; exact h1.2⟩
    · rintro ⟨h1, h2⟩; have := cneg u h2; exact ⟨⟨h1, this.1⟩, this.2⟩
  · have h1 := h.pst p (List.mem_cons_of_mem _ hp)
    exact ⟨⟨h1.1.1, by rw [hc2 _ (hrs p hp)]; exact h1.1.2⟩, h1.2⟩
  · have := h.tree
    cases rest with
    | nil => trivial
    | cons q r => exact this.2
  · have h3 := cneg u h2
    have h4 := lt u h1 h3.1 h3.2
    obtain ⟨p, hp, h5⟩ := h.bot u h1 h3.1
    rcases List.mem_cons.1 hp with rfl | hp
    · have h5 : o v ≤ o u := h5; omega
    · exact ⟨p, hp, h5⟩
  · have h3 := cneg u h2
    have h4 := lt u h1 h3.1 h3.2
    obtain ⟨h5, u2, h6, h7, h8⟩ := h.low u h1 h3.1
    refine ⟨h5, u2, ⟨h6.1, ?_⟩, h7, h8⟩
    rw [hc2 u2 fun h9 => by have := h9.2; omega]; exact h6.2
  · have h4 := cneg u h2
    refine h.fin u h1 h4.1 fun p hp e1 => ?_
    rcases List.mem_cons.1 hp with rfl | hp
    · have e1 : v = u := e1
      subst e1; exact h4.2 hsv
    · exact h3 p hp e1
  · have h5 := cneg u h2
    have h6 := lt u h1 h5.1 h5.2
    refine h.anc p (List.mem_cons_of_mem _ hp) u h1 h5.1 h3 fun q hq h7 => ?_
    rcases List.mem_cons.1 hq with rfl | hq
    · have h7 : o v ≤ o u := h7; omega
    · exact h4 q hq h7
  · have h6 := cneg u h2
    have h7 := lt u h1 h6.1 h6.2
    have hex : e u = true → exUp e rest u = true := fun h8 => by
      cases rest with
      | nil => exact h8
      | cons p r => show upd e p.1 true u = true; unfold upd; split <;> first | rfl | exact h8
    rcases Dn.cons hrv h3 (k := k) (fun e1 => by subst e1; omega) with h8 | ⟨p, r, rfl, rfl, h9⟩
    · obtain ⟨h9, h10⟩ := h.edg u j w h1 h6.1 h8 h4 h5
      refine ⟨h9, ?_⟩
      rcases h10 with h10 | h10
      · exact .inl ⟨by rw [hc2 w (cs w h10.1)]; exact h10.1, hex h10.2⟩
      · have h11 : ¬ seg o c v w := fun h12 => by
          have h13 : o v ≤ o u ∨ o w < o v := h10.2.2 _ (List.mem_cons_self ..)
          have := h12.2
          omega
        exact .inr ⟨by rw [hc2 w h11]; exact h10.1, h10.2.1, fun q hq => h10.2.2 q (List.mem_cons_of_mem _ hq)⟩
    · have h10 : 1 ≤ p.2 ∧ tg p.1 (p.2 - 1) = (v : Int) := h.tree.1
      rw [← h9, Nat.add_sub_cancel, h5] at h10
      have e1 : w = v := by omega
      subst e1
      exact ⟨hvv.1, .inl ⟨by rw [hc1 w hsv]; omega, upd_eq⟩⟩
  · have h4 := cneg u h2
    have main : e u = true → ∃ k w : Nat, k < d ∧ tg u k = (w : Int) ∧ 0 ≤ c' w := fun h5 => by
      obtain ⟨j, w, h6, h7, h8⟩ := h.ext u h1 h4.1 h5
      exact ⟨j, w, h6, h7, by rw [hc2 w (cs w h8)]; exact h8⟩
    cases rest with
    | nil => exact main h3
    | cons p r =>
      by_cases e1 : u = p.1
      · have h10 : 1 ≤ p.2 ∧ tg p.1 (p.2 - 1) = (v : Int) := h.tree.1
        have h11 := (h.pst p (List.mem_cons_of_mem _ (List.mem_cons_self ..))).2
        exact ⟨p.2 - 1, v, by omega, by rw [e1]; exact h10.2, by rw [hc1 v hsv]; omega⟩
      · have h3 : upd e p.1 true u = true := h3
        rw [upd_ne e1] at h3
        exact main h3
  · cases rest with
    | nil => exact h.ex0 u h1
    | cons p r =>
      have h2 := h.pst p (List.mem_cons_of_mem _ (List.mem_cons_self ..))
      have e1 : u ≠ p.1 := fun e1 => by rw [e1] at h1; omega
      show upd e p.1 true u = false
      rw [upd_ne e1]; exact h.ex0 u h1
theorem Tj.fall {v k : Nat} (h : Tj d tg G o l c e ((v, k) :: rest) stk comps lv cnt) (hk : d ≤ k) (hl : l v ≠ o v) :
    ∃ p j r, rest = (p, j) :: r ∧ p ≠ v ∧ Tj d tg G o (upd l p (min (l p) (l v))) c e rest stk comps lv cnt := by
  have htop := h.top
  have hv := h.pst _ (List.mem_cons_self ..)
  have hvv : 0 < o v ∧ c v < 0 := hv.1
  have hrest : ∀ p ∈ rest, o p.1 < o v := fun p hp => List.rel_of_pairwise_cons h.psrt hp
  have hrv : ∀ p ∈ rest, p.1 ≠ v := fun p hp e1 => by have := hrest p hp; rw [e1] at this; omega
  obtain ⟨hlo, u0, hu0, hu1, hu2⟩ := h.low v hvv.1 hvv.2
  obtain ⟨q0, hq0, hq1⟩ := h.bot u0 hu0.1 hu0.2
  have hq2 : q0 ∈ rest := by
    rcases List.mem_cons.1 hq0 with rfl | hq0
    · have hq1 : o v ≤ o u0 := hq1; omega
    · exact hq0
  cases rest with
  | nil => cases hq2
  | cons pj r =>
    obtain ⟨p, j⟩ := pj
    have htr : 1 ≤ j ∧ tg p (j - 1) = (v : Int) := h.tree.1
    have hpp : (0 < o p ∧ c p < 0) ∧ j ≤ d := h.pst (p, j) (List.mem_cons_of_mem _ (List.mem_cons_self ..))
    have hpv : o p < o v := hrest (p, j) (List.mem_cons_self ..)
    have hne : p ≠ v := fun e1 => by rw [e1] at hpv; omega
    have rpv : Rc d tg p v := (Rc.refl p).step (k := j - 1) (by omega) htr.2
    have hps := (List.pairwise_cons.1 h.psrt).2
    have hll : ∀ u, upd l p (min (l p) (l v)) u ≤ l u := fun u => by
      by_cases e1 : u = p
      · rw [e1, upd_eq]; omega
      · rw [upd_ne e1]; exact Int.le_refl _
    refine ⟨p, j, r, rfl, hne, { h.toCl with o0 := h.o0, od := h.od, inj := h.inj, sur := h.sur, co := h.co, st := h.st, srt := h.srt, pst := fun q hq => h.pst q (List.mem_cons_of_mem _ hq), psrt := hps, tree := h.tree.2, bot := fun u h1 h2 => ?_, low := fun u h1 h2 => ?_, fin := fun u h1 h2 h3 => ?_, anc := fun q hq u h1 h2 h3 h4 => ?_, edg := fun u i w h1 h2 h3 h4 h5 => ?_, ext := h.ext, ex0 := h.ex0 }⟩
    · obtain ⟨q, hq, h3⟩ := h.bot u h1 h2
      rcases List.mem_cons.1 hq with rfl | hq
      · have h3 : o v ≤ o u := h3
        exact ⟨_, List.mem_cons_self .., by show o p ≤ o u; omega⟩
      · exact ⟨q, hq, h3⟩
    · have h3 := h.low u h1 h2
      by_cases e1 : u = p
      · subst e1
        rw [upd_eq]
        refine ⟨by omega, ?_⟩
        by_cases e2 : l u ≤ l v
        · rw [Int.min_eq_left e2]; exact h3.2
        · rw [Int.min_eq_right (by omega)]; exact ⟨u0, hu0, hu1, rpv.trans hu2⟩
      · rw [upd_ne e1]; exact h3
    · have e1 : u ≠ p := fun e1 => h3 _ (List.mem_cons_self ..) e1.symm
      rw [upd_ne e1]
      by_cases e2 : u = v
      · subst e2; omega
      · refine h.fin u h1 h2 fun q hq e3 => ?_
        rcases List.mem_cons.1 hq with rfl | hq
        · exact e2 e3.symm
        · exact h3 q hq e3
    · rcases List.mem_cons.1 hq with rfl | hq
      · have h3 : o p ≤ o u := h3
        show Rc d tg p u ∧ upd l p (min (l p) (l v)) p ≤ upd l p (min (l p) (l v)) u
        rw [upd_eq]
        by_cases e1 : o v ≤ o u
        · have h5 := h.anc _ (List.mem_cons_self ..) u h1 h2 e1 fun q hq _ => htop q hq
          have h6 : l v ≤ l u := h5.2
          have e2 : u ≠ p := fun e2 => by rw [e2] at e1; omega
          rw [upd_ne e2]
          exact ⟨rpv.trans h5.1, by omega⟩
        · have h5 := h.anc (p, j) (List.mem_cons_of_mem _ (List.mem_cons_self ..)) u h1 h2 h3 fun q hq h6 => by
            rcases List.mem_cons.1 hq with rfl | hq
            · exact absurd h6 e1
            · exact h4 q hq h6
          have h6 : l p ≤ l u := h5.2
          refine ⟨h5.1, ?_⟩
          by_cases e2 : u = p
          · rw [e2, upd_eq]; exact Int.le_refl _
          · rw [upd_ne e2]; omega
      · have h6 : o q.1 < o p := List.rel_of_pairwise_cons hps hq
        have h7 : o u < o p := by
          by_cases h8 : o p ≤ o u
          · have h9 : o p ≤ o q.1 := h4 _ (List.mem_cons_self ..) h8
            omega
          · omega
        rw [upd_ne (fun e1 => by rw [e1] at h6; omega), upd_ne (fun e1 => by rw [e1] at h7; omega)]
        refine h.anc q (List.mem_cons_of_mem _ (List.mem_cons_of_mem _ hq)) u h1 h2 h3 fun q' hq' h8 => ?_
        rcases List.mem_cons.1 hq' with rfl | hq'
        · have h8 : o v ≤ o u := h8; omega
        · exact h4 q' hq' h8
    · rcases Dn.cons hrv h3 (k := k) (fun e1 => by omega) with h8 | ⟨p', r', h6, rfl, h9⟩
      · obtain ⟨h9, h10⟩ := h.edg u i w h1 h2 h8 h4 h5
        exact ⟨h9, h10.imp id fun h10 => ⟨h10.1, Int.le_trans (hll u) h10.2.1, fun q hq => h10.2.2 q (List.mem_cons_of_mem _ hq)⟩⟩
      · cases h6
        have htr2 := htr.2
        have h9 : i + 1 = j := h9
        rw [← h9, Nat.add_sub_cancel] at htr2
        have h5 : tg p i = (w : Int) := h5
        have e1 : w = v := by rw [h5] at htr2; omega
        subst e1
        refine ⟨hvv.1, .inr ⟨hvv.2, ?_, fun q hq => .inl ?_⟩⟩
        · show upd l p _ p ≤ o w
          rw [upd_eq]; omega
        · rcases List.mem_cons.1 hq with rfl | hq
          · exact Int.le_refl _
          · exact Int.le_of_lt (List.rel_of_pairwise_cons hps hq)
theorem Tj.fin0 {o l c : Nat → Int} (h : Tj d tg G o l c e [] stk comps lv cnt) : stk = [] ∧ ∀ v, 0 < o v → 0 ≤ c v := by
  have h1 : ∀ v, 0 < o v → 0 ≤ c v := fun v h1 => by
    by_cases h2 : 0 ≤ c v
    · exact h2
    · obtain ⟨p, hp, _⟩ := h.bot v h1 (by omega)
      cases hp
  refine ⟨?_, h1⟩
  cases stk with
  | nil => rfl
  | cons a m =>
    have h2 := (h.st a).1 (List.mem_cons_self ..)
    have := h1 a h2.1
    omega
end
end Go.Proofs.Ytpanlghofeebhaa
end
section
/- The network of pairs: its edges; the search's state in memory (plain). -/
namespace Go.Proofs.Ytpanlghofeebhaa
open Go Go.AM
def prN (n a b : Nat) : Int := if a = b then -1 else ((min a b * n + max a b : Nat) : Int)
def tgA (t : List (List Int)) (z x k : Nat) : Nat := if k % 2 = 0 then en t z x else en t x z
def tgN (t : List (List Int)) (g : List Int) (v k : Nat) : Int := prN t.length (tgA t (g.getD (k / 2) 0).toNat (v / t.length) k) (tgA t (g.getD (k / 2) 0).toNat (v % t.length) k)
def Gp (n : Nat) (v : Nat) : Prop := v < n * n ∧ v / n < v % n
theorem gp_of {n x y : Nat} (h : x < y) (hy : y < n) : Gp n (x * n + y) ∧ (x * n + y) / n = x ∧ (x * n + y) % n = y := by
  have h1 : (x * n + y) / n = x := by rw [Nat.mul_comm, Nat.mul_add_div (by omega), Nat.div_eq_of_lt hy]; omega
  have h2 : (x * n + y) % n = y := by rw [Nat.mul_comm, Nat.mul_add_mod, Nat.mod_eq_of_lt hy]
  have h3 : x * n + n ≤ n * n := by
    have : (x + 1) * n ≤ n * n := Nat.mul_le_mul_right n (by omega)
    rw [Nat.succ_mul] at this; exact this
  exact ⟨⟨by omega, by rw [h1, h2]; exact h⟩, h1, h2⟩
theorem gp_le {n v : Nat} (h : Gp n v) : v / n < n ∧ v % n < n ∧ 0 < n := by
  have hn : 0 < n := by
    rcases Nat.eq_zero_or_pos n with h0 | h0
    · subst h0; have := h.1; omega
    · exact h0
  have h2 := Nat.mod_lt v hn
  have := h.2
  exact ⟨by omega, h2, hn⟩
section
variable {t : List (List Int)} {g : List Int} {v k : Nat}
theorem tg_gp (hs : Sh t) (hg : ∀ x ∈ g, 0 ≤ x ∧ x < (t.length : Int)) (hv : Gp t.length v) (hk : k < 2 * g.length) {w : Nat} (h : tgN t g v k = (w : Int)) : Gp t.length w := by
  have hz : (g.getD (k / 2) 0).toNat < t.length := by have := hg _ (getD_mem (d := 0) (i := k / 2) (l := g) (by omega)); omega
  obtain ⟨h1, h2, h3⟩ := gp_le hv
  have ha : tgA t (g.getD (k / 2) 0).toNat (v / t.length) k < t.length := by unfold tgA; split; exact (hs.ent hz h1).2; exact (hs.ent h1 hz).2
  have hb : tgA t (g.getD (k / 2) 0).toNat (v % t.length) k < t.length := by unfold tgA; split; exact (hs.ent hz h2).2; exact (hs.ent h2 hz).2
  unfold tgN prN at h
  split at h
  · omega
  · rename_i hne
    have e : w = min (tgA t (g.getD (k / 2) 0).toNat (v / t.length) k) (tgA t (g.getD (k / 2) 0).toNat (v % t.length) k) * t.length + max (tgA t (g.getD (k / 2) 0).toNat (v / t.length) k) (tgA t (g.getD (k / 2) 0).toNat (v % t.length) k) := by omega
    rw [e]
    exact (gp_of (by omega) (by omega)).1
theorem tg_neg (t : List (List Int)) (g : List Int) (v k : Nat) : tgN t g v k < 0 ∨ ∃ w : Nat, tgN t g v k = (w : Int) := by
  by_cases h : 0 ≤ tgN t g v k
  · exact .inr ⟨(tgN t g v k).toNat, by omega⟩
  · exact .inl (by omega)
end
/-! ### Lists as functions -/
def gIx (L : List Int) (v : Nat) : Int := L.getD v 0
def gC (L : List Int) (v : Nat) : Int := L.getD v (-1)
def gB (L : List Bool) (v : Nat) : Bool := L.getD v false
theorem gIx_set {L : List Int} {v : Nat} {x : Int} (h : v < L.length) : gIx (L.set v x) = upd (gIx L) v x := funext fun u => by
  unfold gIx upd
  split
  · rename_i e; subst e; exact getD_set_eq h
  · rename_i e; exact getD_set_ne (Ne.symm e)
theorem gC_set {L : List Int} {v : Nat} {x : Int} (h : v < L.length) : gC (L.set v x) = upd (gC L) v x := funext fun u => by
  unfold gC upd
  split
  · rename_i e; subst e; exact getD_set_eq h
  · rename_i e; exact getD_set_ne (Ne.symm e)
theorem gB_set {L : List Bool} {v : Nat} {x : Bool} (h : v < L.length) : gB (L.set v x) = upd (gB L) v x := funext fun u => by
  unfold gB upd
  split
  · rename_i e; subst e; exact getD_set_eq h
  · rename_i e; exact getD_set_ne (Ne.symm e)
theorem gC_in {L : List Int} {v : Nat} (h : v < L.length) : L.getD v 0 = gC L v := by unfold gC; rw [getD_eq h, getD_eq h]
def pthI (P : List (Nat × Nat)) : List (Int × Int) := (P.map fun p => ((p.1 : Int), (p.2 : Int))).reverse
def natI (K : List Nat) : List Int := K.map fun x : Nat => (x : Int)
def stkI (K : List Nat) : List Int := (natI K).reverse
def csI (C : List (List Nat)) : List (List Int) := C.map natI
theorem pth_len (P : List (Nat × Nat)) : (pthI P).length = P.length := by simp [pthI]
theorem stk_len (K : List Nat) : (stkI K).length = K.length := by simp [stkI, natI]
theorem nat_len (K : List Nat) : (natI K).length = K.length := by simp [natI]
theorem cs_len (C : List (List Nat)) : (csI C).length = C.length := by simp [csI]
theorem pth_cons (p : Nat × Nat) (P : List (Nat × Nat)) : pthI P ++ [((p.1 : Int), (p.2 : Int))] = pthI (p :: P) := by simp [pthI]
theorem stk_cons (v : Nat) (K : List Nat) : stkI K ++ [(v : Int)] = stkI (v :: K) := by simp [stkI, natI]
theorem cs_snoc (C : List (List Nat)) (m : List Nat) : csI C ++ [natI m] = csI (C ++ [m]) := by simp [csI]
theorem nat_get {K : List Nat} {i : Nat} (h : i < K.length) : (natI K).getD i 0 = ((K.getD i 0 : Nat) : Int) := by simp [natI, List.getD, h]
theorem pth_last (p : Nat × Nat) (P : List (Nat × Nat)) : (pthI (p :: P)).getD P.length (0, 0) = ((p.1 : Int), (p.2 : Int)) := by
  rw [← pth_cons]
  simp [List.getD, ← pth_len P]
theorem pth_set (p q : Nat × Nat) (P : List (Nat × Nat)) : (pthI (p :: P)).set P.length ((q.1 : Int), (q.2 : Int)) = pthI (q :: P) := by
  rw [← pth_cons, ← pth_cons, ← pth_len P, List.set_append_right _ _ (Nat.le_refl _)]
  simp
theorem pth_pop (p : Nat × Nat) (P : List (Nat × Nat)) : (pthI (p :: P)).take P.length = pthI P := by
  rw [← pth_cons, ← pth_len P]; simp
theorem stk_split (A : List Nat) (v : Nat) (B : List Nat) : stkI (A ++ v :: B) = stkI B ++ natI (v :: A.reverse) := by simp [stkI, natI]
theorem stk_at (A : List Nat) (v : Nat) (B : List Nat) {j : Nat} (hj : j ≤ A.length) : (stkI (A ++ v :: B)).getD (B.length + j) 0 = (((v :: A.reverse).getD j 0 : Nat) : Int) := by
  rw [stk_split, ← stk_len B]
  simp only [List.getD]
  rw [List.getElem?_append_right (by omega), Nat.add_sub_cancel_left]
  have := nat_get (K := v :: A.reverse) (i := j) (by simp; omega)
  simpa only [List.getD] using this
theorem stk_drop (A : List Nat) (v : Nat) (B : List Nat) : (stkI (A ++ v :: B)).drop B.length = natI (v :: A.reverse) := by
  rw [stk_split, ← stk_len B]; simp
theorem stk_take (A : List Nat) (v : Nat) (B : List Nat) : (stkI (A ++ v :: B)).take B.length = stkI B := by
  rw [stk_split, ← stk_len B]; simp
theorem desc_len {α : Type} {f : α → Int} {m : Nat} : ∀ {L : List α}, L.Pairwise (fun a b => f b < f a) → (∀ a ∈ L, 0 < f a ∧ f a ≤ (m : Int)) → L.length ≤ m := by
  intro L
  induction L generalizing m with
  | nil => intro _ _; exact Nat.zero_le _
  | cons a L ih =>
    intro hp hr
    have h1 := List.pairwise_cons.1 hp
    have h2 := hr a (List.mem_cons_self ..)
    have h3 := ih (m := (f a).toNat - 1) h1.2 fun b hb => by
      have := h1.1 b hb
      have := hr b (List.mem_cons_of_mem _ hb)
      omega
    simp only [List.length_cons]; omega
def setAll (c : List Int) (i : Nat) (ms : List Nat) : List Int := ms.foldl (fun c u => c.set u (i : Int)) c
theorem setAll_len (c : List Int) (i : Nat) (ms : List Nat) : (setAll c i ms).length = c.length := by
  unfold setAll
  induction ms generalizing c with
  | nil => rfl
  | cons a ms ih => rw [List.foldl_cons, ih, List.length_set]
theorem setAll_snoc (c : List Int) (i : Nat) (ms : List Nat) (u : Nat) : setAll c i (ms ++ [u]) = (setAll c i ms).set u (i : Int) := by unfold setAll; rw [List.foldl_append]; rfl
theorem setAll_get {c : List Int} {i : Nat} {ms : List Nat} (hm : ∀ u ∈ ms, u < c.length) (u : Nat) : gC (setAll c i ms) u = if u ∈ ms then (i : Int) else gC c u := by
  unfold setAll
  induction ms generalizing c with
  | nil => rfl
  | cons a ms ih =>
    rw [List.foldl_cons, ih fun u hu => by rw [List.length_set]; exact hm u (List.mem_cons_of_mem _ hu), gC_set (hm a (List.mem_cons_self ..))]
    by_cases h1 : u ∈ ms
    · rw [if_pos h1, if_pos (List.mem_cons_of_mem _ h1)]
    · rw [if_neg h1]
      by_cases h2 : u = a
      · subst h2; rw [if_pos (List.mem_cons_self ..), upd_eq]
      · rw [upd_ne h2, if_neg fun h3 => (List.mem_cons.1 h3).elim h2 h1]
def anyE (e : List Bool) (ms : List Nat) : Bool := ms.foldl (fun b u => b || gB e u) false
theorem anyE_snoc (e : List Bool) (ms : List Nat) (u : Nat) : anyE e (ms ++ [u]) = (anyE e ms || gB e u) := by unfold anyE; rw [List.foldl_append]; rfl
theorem anyE_iff {e : List Bool} {ms : List Nat} : anyE e ms = true ↔ ∃ u ∈ ms, gB e u = true := by
  have : ∀ (ms : List Nat) (b : Bool), ms.foldl (fun b u => b || gB e u) b = true ↔ b = true ∨ ∃ u ∈ ms, gB e u = true := fun ms => by
    induction ms with
    | nil => intro b; simp
    | cons a ms ih =>
      intro b
      rw [List.foldl_cons, ih, Bool.or_eq_true]
      constructor
      · rintro ((h | h) | ⟨u, h, h2⟩)
        · exact .inl h
        · exact .inr ⟨a, List.mem_cons_self .., h⟩
        · exact .inr ⟨u, List.mem_cons_of_mem _ h, h2⟩
      · rintro (h | ⟨u, h, h2⟩)
        · exact .inl (.inl h)
        · rcases List.mem_cons.1 h with rfl | h
          · exact .inl (.inr h2)
          · exact .inr ⟨u, h, h2⟩
  unfold anyE; rw [this]; simp
end Go.Proofs.Ytpanlghofeebhaa
end
section
/- The search through the network, as lists: what each step keeps (plain). -/
namespace Go.Proofs.Ytpanlghofeebhaa
section
variable {N d : Nat} {tg : Nat → Nat → Int} {G : Nat → Prop} {o l c : Nat → Int} {e : Nat → Bool} {path : List (Nat × Nat)} {stk : List Nat} {comps : List (List Nat)} {lv : List Bool} {cnt : Nat}
theorem nodup_map_range {α : Type} {f : Nat → α} {n : Nat} (h : ∀ a b, a < b → b < n → f a ≠ f b) : ((List.range n).map f).Nodup := by
  rw [List.nodup_iff_pairwise_ne, List.pairwise_map]
  refine List.Pairwise.imp_of_mem ?_ (List.pairwise_lt_range (n := n))
  intro a b _ hb hab
  exact h a b hab (List.mem_range.1 hb)
theorem Tj.cnt_le (h : Tj d tg G o l c e path stk comps lv cnt) (hG : ∀ v, G v → v < N) : cnt ≤ N ∧ ∀ v, G v → o v = 0 → cnt < N := by
  have hex : ∀ k : Nat, ∃ v, k < cnt → o v = ((k + 1 : Nat) : Int) := fun k => by
    by_cases hk : k < cnt
    · obtain ⟨v, hv⟩ := h.sur (k + 1) (by omega) (by omega)
      exact ⟨v, fun _ => hv⟩
    · exact ⟨0, fun hk' => absurd hk' hk⟩
  have hf : ∀ k, k < cnt → o (hex k).choose = ((k + 1 : Nat) : Int) := fun k hk => (hex k).choose_spec hk
  have hn : ((List.range cnt).map fun k => (hex k).choose).Nodup := nodup_map_range fun a b hab hb e1 => by
    have h1 := hf a (by omega)
    have h2 := hf b hb
    rw [e1, h2] at h1; omega
  have hs : ∀ x ∈ (List.range cnt).map fun k => (hex k).choose, 0 < o x ∧ x ∈ List.range N := fun x hx => by
    obtain ⟨k, hk, rfl⟩ := List.mem_map.1 hx
    have h1 := hf k (List.mem_range.1 hk)
    have h2 : 0 < o (hex k).choose := by rw [h1]; omega
    exact ⟨h2, List.mem_range.2 (hG _ (h.od _ h2))⟩
  refine ⟨by have := nodup_sub hn fun x hx => (hs x hx).2; simpa using this, fun v hv hov => ?_⟩
  have := nodup_sub (A := v :: (List.range cnt).map fun k => (hex k).choose) (B := List.range N) (List.nodup_cons.2 ⟨fun hm => by have := (hs v hm).1; omega, hn⟩) fun x hx => by
    rcases List.mem_cons.1 hx with rfl | hx
    · exact List.mem_range.2 (hG _ hv)
    · exact (hs x hx).2
  simp at this; omega
theorem Cl.num_le (h : Cl d tg G c comps lv) (hG : ∀ v, G v → v < N) : comps.length ≤ N := by
  have hex : ∀ i : Nat, ∃ v, i < comps.length → c v = (i : Int) := fun i => by
    by_cases hi : i < comps.length
    · cases hc : comps.getD i [] with
      | nil => exact absurd hc (h.ne i hi)
      | cons v r => exact ⟨v, fun _ => (h.mem i v hi).1 (by rw [hc]; exact List.mem_cons_self ..)⟩
    · exact ⟨0, fun hi' => absurd hi' hi⟩
  have hf : ∀ i, i < comps.length → c (hex i).choose = (i : Int) := fun i hi => (hex i).choose_spec hi
  have := nodup_sub (A := (List.range comps.length).map fun i => (hex i).choose) (B := List.range N) (nodup_map_range fun a b hab hb e1 => by
    have h1 := hf a (by omega)
    have h2 := hf b hb
    rw [e1, h2] at h1; omega) fun x hx => by
    obtain ⟨i, hi, rfl⟩ := List.mem_map.1 hx
    have h1 := hf i (List.mem_range.1 hi)
    exact List.mem_range.2 (hG _ (h.dom _ (by omega)).1)
  simpa using this
theorem Tj.lens (h : Tj d tg G o l c e path stk comps lv cnt) : path.length ≤ cnt ∧ stk.length ≤ cnt :=
  ⟨desc_len (f := fun p : Nat × Nat => o p.1) h.psrt fun p hp => ⟨(h.pst p hp).1.1, (h.o0 p.1).2⟩, desc_len (f := o) h.srt fun v hv => ⟨((h.st v).1 hv).1, (h.o0 v).2⟩⟩
end
def muN (N d : Nat) (P : List (Nat × Nat)) (m : Nat) : Nat := (N - m) * (d + 2) + (P.map fun p => d + 1 - p.2).sum
theorem muN_enter {N d m v p k : Nat} {r : List (Nat × Nat)} (hm : m < N) (hk : k < d) : muN N d ((v, 0) :: (p, k + 1) :: r) (m + 1) < muN N d ((p, k) :: r) m := by
  unfold muN
  have h1 : (N - m) * (d + 2) = (N - (m + 1)) * (d + 2) + (d + 2) := by
    rw [← Nat.succ_mul]; congr 1; omega
  simp only [List.map_cons, List.sum_cons]; omega
theorem muN_edge {N d m p k : Nat} {r : List (Nat × Nat)} (hk : k < d) : muN N d ((p, k + 1) :: r) m < muN N d ((p, k) :: r) m := by
  unfold muN; simp only [List.map_cons, List.sum_cons]; omega
theorem muN_pop {N d m p k : Nat} {r : List (Nat × Nat)} (hk : k ≤ d) : muN N d r m < muN N d ((p, k) :: r) m := by
  unfold muN; simp only [List.map_cons, List.sum_cons]; omega
structure Vs (t : List (List Int)) (g : List Int) (o l c : List Int) (e : List Bool) (P : List (Nat × Nat)) (K : List Nat) (C : List (List Nat)) (lv : List Bool) (m : Nat) : Prop where
  ol : o.length = t.length * t.length
  ll : l.length = t.length * t.length
  cl : c.length = t.length * t.length
  el : e.length = t.length * t.length
  tj : Tj (2 * g.length) (tgN t g) (Gp t.length) (gIx o) (gIx l) (gC c) (gB e) P K C lv m
section
variable {t : List (List Int)} {g o l c : List Int} {e : List Bool} {P r : List (Nat × Nat)} {K : List Nat} {C : List (List Nat)} {lv : List Bool} {m v k w : Nat}
theorem Vs.bnd (h : Vs t g o l c e P K C lv m) : m ≤ t.length * t.length ∧ (∀ v, Gp t.length v → gIx o v = 0 → m < t.length * t.length) ∧ P.length ≤ m ∧ K.length ≤ m ∧ C.length ≤ t.length * t.length ∧ lv.length = C.length := by
  have h1 := h.tj.cnt_le (N := t.length * t.length) fun v hv => hv.1
  have h2 := h.tj.lens
  exact ⟨h1.1, h1.2, h2.1, h2.2, h.tj.toCl.num_le fun v hv => hv.1, h.tj.lvl⟩
theorem Vs.gp (h : Vs t g o l c e ((v, k) :: r) K C lv m) : Gp t.length v ∧ v < t.length * t.length := by
  have h1 := h.tj.od _ (h.tj.pst _ (List.mem_cons_self ..)).1.1
  exact ⟨h1, h1.1⟩
theorem Vs.enter (h : Vs t g o l c e P K C lv m) (hv : Gp t.length v) (hov : gIx o v = 0) {P' : List (Nat × Nat)} (hp : (P = [] ∧ P' = []) ∨ ∃ p k rest, P = (p, k) :: rest ∧ k < 2 * g.length ∧ tgN t g p k = (v : Int) ∧ P' = (p, k + 1) :: rest) :
    Vs t g (o.set v ((m + 1 : Nat) : Int)) (l.set v ((m + 1 : Nat) : Int)) c e ((v, 0) :: P') (v :: K) C lv (m + 1) :=
  ⟨by rw [List.length_set]; exact h.ol, by rw [List.length_set]; exact h.ll, h.cl, h.el, by
    rw [gIx_set (by rw [h.ol]; exact hv.1), gIx_set (by rw [h.ll]; exact hv.1)]
    exact h.tj.enter hv hov hp⟩
theorem Vs.none (h : Vs t g o l c e ((v, k) :: r) K C lv m) (hk : k < 2 * g.length) (ht : tgN t g v k < 0) : Vs t g o l c e ((v, k + 1) :: r) K C lv m := ⟨h.ol, h.ll, h.cl, h.el, h.tj.none hk ht⟩
theorem Vs.back (h : Vs t g o l c e ((v, k) :: r) K C lv m) (hk : k < 2 * g.length) (ht : tgN t g v k = (w : Int)) (h1 : gIx o w ≠ 0) (h2 : gC c w < 0) : Vs t g o (l.set v (min (l.getD v 0) (o.getD w 0))) c e ((v, k + 1) :: r) K C lv m :=
  ⟨h.ol, by rw [List.length_set]; exact h.ll, h.cl, h.el, by
    rw [gIx_set (by rw [h.ll]; exact h.gp.2)]
    exact h.tj.back hk ht h1 h2⟩
theorem Vs.away (h : Vs t g o l c e ((v, k) :: r) K C lv m) (hk : k < 2 * g.length) (ht : tgN t g v k = (w : Int)) (h2 : 0 ≤ gC c w) : Vs t g o l c (e.set v true) ((v, k + 1) :: r) K C lv m :=
  ⟨h.ol, h.ll, h.cl, by rw [List.length_set]; exact h.el, by
    rw [gB_set (by rw [h.el]; exact h.gp.2)]
    exact h.tj.away hk ht h2⟩
theorem Vs.split (h : Vs t g o l c e ((v, k) :: r) K C lv m) : ∃ A B, K = A ++ v :: B ∧ v ∉ A ∧ (∀ u ∈ v :: A.reverse, u < c.length ∧ u < e.length) ∧ (∀ u, u ∈ v :: A.reverse ↔ seg (gIx o) (gC c) v u) ∧ (∀ u, u ∈ B ↔ (u ∈ K ∧ ¬ seg (gIx o) (gC c) v u)) ∧ B.Pairwise (fun a b => gIx o b < gIx o a) := by
  have hv := (h.tj.pst _ (List.mem_cons_self ..)).1
  have hv : 0 < gIx o v ∧ gC c v < 0 := hv
  obtain ⟨A, B, rfl⟩ := List.append_of_mem ((h.tj.st v).2 hv)
  have hsrt := List.pairwise_append.1 h.tj.srt
  have hB := List.pairwise_cons.1 hsrt.2.1
  have hA : ∀ u ∈ A, gIx o v < gIx o u := fun u hu => hsrt.2.2 u hu v (List.mem_cons_self ..)
  have hst := h.tj.st
  have hseg : ∀ u, u ∈ v :: A.reverse ↔ seg (gIx o) (gC c) v u := fun u => by
    constructor
    · intro hu
      rcases List.mem_cons.1 hu with rfl | hu
      · exact ⟨hv, Int.le_refl _⟩
      · have hu := List.mem_reverse.1 hu
        exact ⟨(hst u).1 (List.mem_append_left _ hu), Int.le_of_lt (hA u hu)⟩
    · intro hu
      rcases List.mem_append.1 ((hst u).2 hu.1) with h1 | h1
      · exact List.mem_cons_of_mem _ (List.mem_reverse.2 h1)
      · rcases List.mem_cons.1 h1 with rfl | h1
        · exact List.mem_cons_self ..
        · have := hB.1 u h1
          have := hu.2
          omega
  refine ⟨A, B, rfl, fun hm => absurd (hA v hm) (Int.lt_irrefl _), fun u hu => ?_, hseg, fun u => ?_, hB.2⟩
  · have h1 := h.tj.od u ((hseg u).1 hu).1.1
    rw [h.cl, h.el]; exact ⟨h1.1, h1.1⟩
  · rw [← hseg u]
    constructor
    · intro hu
      refine ⟨List.mem_append_right _ (List.mem_cons_of_mem _ hu), fun hm => ?_⟩
      have h1 := hB.1 u hu
      rcases List.mem_cons.1 hm with rfl | hm
      · omega
      · have := hA u (List.mem_reverse.1 hm); omega
    · rintro ⟨h1, h2⟩
      rcases List.mem_append.1 h1 with h1 | h1
      · exact absurd (List.mem_cons_of_mem _ (List.mem_reverse.2 h1)) h2
      · rcases List.mem_cons.1 h1 with rfl | h1
        · exact absurd (List.mem_cons_self ..) h2
        · exact h1
def exL (e : List Bool) : List (Nat × Nat) → List Bool
  | [] => e
  | p :: _ => e.set p.1 true
theorem Vs.close {A B : List Nat} (h : Vs t g o l c e ((v, k) :: r) (A ++ v :: B) C lv m) (hk : 2 * g.length ≤ k) (hl : l.getD v 0 = o.getD v 0)
    (hm : ∀ u, u ∈ v :: A.reverse ↔ seg (gIx o) (gC c) v u) (hb : ∀ u, u ∈ B ↔ (u ∈ A ++ v :: B ∧ ¬ seg (gIx o) (gC c) v u)) (hs : B.Pairwise (fun a b => gIx o b < gIx o a)) (hmem : ∀ u ∈ v :: A.reverse, u < c.length ∧ u < e.length) :
    Vs t g o l (setAll c C.length (v :: A.reverse)) (exL e r) r B (C ++ [v :: A.reverse]) (lv ++ [anyE e (v :: A.reverse)]) m := by
  have hnd : (v :: A.reverse).Nodup := by
    have h1 := (List.pairwise_append.1 h.tj.srt)
    have h2 : (A ++ [v]).Pairwise (fun a b => gIx o b < gIx o a) := List.pairwise_append.2 ⟨h1.1, List.pairwise_singleton _ _, fun a ha b hb => h1.2.2 a ha b (by rw [List.mem_singleton] at hb; subst hb; exact List.mem_cons_self ..)⟩
    have h4 : (A ++ [v]).reverse.Nodup := List.nodup_iff_pairwise_ne.2 (List.pairwise_reverse.2 (h2.imp fun hab e => by subst e; exact Int.lt_irrefl _ hab))
    rwa [List.reverse_append] at h4
  have hj := h.tj.close (c' := gC (setAll c C.length (v :: A.reverse))) hk hl hm hb hs anyE_iff hnd (fun u hu => by rw [setAll_get fun u hu => (hmem u hu).1, if_pos ((hm u).2 hu)]) (fun u hu => by rw [setAll_get fun u hu => (hmem u hu).1, if_neg fun h1 => hu ((hm u).1 h1)])
  refine ⟨h.ol, h.ll, by rw [setAll_len]; exact h.cl, ?_, ?_⟩
  · cases r with
    | nil => exact h.el
    | cons p r => show (e.set p.1 true).length = _; rw [List.length_set]; exact h.el
  · have e1 : gB (exL e r) = exUp (gB e) r := by
      cases r with
      | nil => rfl
      | cons p r =>
        have h1 := h.tj.od _ (h.tj.pst p (List.mem_cons_of_mem _ (List.mem_cons_self ..))).1.1
        show gB (e.set p.1 true) = fun u => upd (gB e) p.1 true u
        rw [gB_set (by rw [h.el]; exact h1.1)]
    rw [e1]; exact hj
theorem Vs.fall (h : Vs t g o l c e ((v, k) :: r) K C lv m) (hk : 2 * g.length ≤ k) (hl : l.getD v 0 ≠ o.getD v 0) : ∃ p j r2, r = (p, j) :: r2 ∧ p ≠ v ∧ p < t.length * t.length ∧ Vs t g o (l.set p (min (l.getD p 0) (l.getD v 0))) c e r K C lv m := by
  obtain ⟨p, j, r2, rfl, hne, hj⟩ := h.tj.fall hk hl
  have h1 := h.tj.od _ (h.tj.pst (p, j) (List.mem_cons_of_mem _ (List.mem_cons_self ..))).1.1
  refine ⟨p, j, r2, rfl, hne, h1.1, h.ol, by rw [List.length_set]; exact h.ll, h.cl, h.el, ?_⟩
  rw [gIx_set (by rw [h.ll]; exact h1.1)]
  exact hj
end
def VOk (t : List (List Int)) (g o0 : List Int) (v : Nat) (o l c : List Int) (e : List Bool) (C : List (List Nat)) (lv : List Bool) (m : Nat) : Prop :=
  Vs t g o l c e [] [] C lv m ∧ (∀ u, gIx o0 u ≠ 0 → gIx o u ≠ 0) ∧ gIx o v ≠ 0
end Go.Proofs.Ytpanlghofeebhaa
end
section
/- Minimal congruences out of the network of pairs (plain). -/
namespace Go.Proofs.Ytpanlghofeebhaa
open Go Go.AM
theorem snoc_ind {α : Type} {P : List α → Prop} (h0 : P []) (h1 : ∀ l a, P l → P (l ++ [a])) (l : List α) : P l := by
  have : ∀ m : List α, P m.reverse := fun m => by
    induction m with
    | nil => exact h0
    | cons a m ih => rw [List.reverse_cons]; exact h1 _ _ ih
  have := this l.reverse
  rwa [List.reverse_reverse] at this
def endsL (n : Nat) (ms : List Nat) : List (Int × Int) := ms.map fun v => (((v / n : Nat) : Int), ((v % n : Nat) : Int))
theorem mem_ends {n : Nat} {ms : List Nat} {a b : Nat} : relP (endsL n ms) a b ↔ ∃ v ∈ ms, v / n = a ∧ v % n = b := by
  unfold relP endsL
  rw [List.mem_map]
  constructor
  · rintro ⟨v, hv, e⟩
    have := Prod.mk.inj e
    exact ⟨v, hv, by omega, by omega⟩
  · rintro ⟨v, hv, rfl, rfl⟩; exact ⟨v, hv, rfl⟩
def snS (n : Nat) (ms : List Nat) : (Nat → Nat) × List (Int × Int) := ms.foldl (fun s v => (jnR s.1 (v / n) (v % n), if s.1 (v / n) = s.1 (v % n) then s.2 else s.2 ++ [(((v / n : Nat) : Int), ((v % n : Nat) : Int))])) (id, [])
theorem snS_snoc (n : Nat) (ms : List Nat) (v : Nat) : snS n (ms ++ [v]) = (jnR (snS n ms).1 (v / n) (v % n), if (snS n ms).1 (v / n) = (snS n ms).1 (v % n) then (snS n ms).2 else (snS n ms).2 ++ [(((v / n : Nat) : Int), ((v % n : Nat) : Int))]) := by unfold snS; rw [List.foldl_append]; rfl
def snP (n : Nat) (ms : List Nat) : List Int := (ms.foldl (fun (s : (Nat → Nat) × List Int) v => (jnR s.1 (v / n) (v % n), jnP s.1 s.2 (v / n) (v % n))) (id, disI n)).2
theorem snP_fst (n : Nat) (ms : List Nat) : (ms.foldl (fun (s : (Nat → Nat) × List Int) v => (jnR s.1 (v / n) (v % n), jnP s.1 s.2 (v / n) (v % n))) (id, disI n)).1 = (snS n ms).1 := by
  unfold snS
  have : ∀ (ms : List Nat) (r : Nat → Nat) (p : List Int) (q : List (Int × Int)), (ms.foldl (fun (s : (Nat → Nat) × List Int) v => (jnR s.1 (v / n) (v % n), jnP s.1 s.2 (v / n) (v % n))) (r, p)).1 = (ms.foldl (fun s v => (jnR s.1 (v / n) (v % n), if s.1 (v / n) = s.1 (v % n) then s.2 else s.2 ++ [(((v / n : Nat) : Int), ((v % n : Nat) : Int))])) (r, q)).1 := fun ms => by
    induction ms with
    | nil => intro r p q; rfl
    | cons v ms ih => intro r p q; rw [List.foldl_cons, List.foldl_cons]; exact ih _ _ _
  exact this ms id _ _
theorem snP_snoc (n : Nat) (ms : List Nat) (v : Nat) : snP n (ms ++ [v]) = jnP (snS n ms).1 (snP n ms) (v / n) (v % n) := by
  unfold snP
  rw [List.foldl_append]
  show jnP _ _ _ _ = _
  rw [snP_fst]
structure SnO (n : Nat) (ms : List Nat) : Prop where
  fo : Fo n (snP n ms) (snS n ms).1
  ker : KerR n (snS n ms).1 (relP (endsL n ms))
  kel : KerR n (snS n ms).1 (relP (snS n ms).2)
  cnt : (snS n ms).2.length + cntR n (snS n ms).1 = n
  inw : inW n (snS n ms).2
  sub : ∀ q ∈ (snS n ms).2, ∃ v ∈ ms, q = (((v / n : Nat) : Int), ((v % n : Nat) : Int))
theorem snO {n : Nat} (ms : List Nat) : (∀ v ∈ ms, Gp n v) → SnO n ms := by
  refine snoc_ind (P := fun ms => (∀ v ∈ ms, Gp n v) → SnO n ms) ?_ (fun ms v ih => ?_) ms
  · intro _
    refine ⟨Fo.dis n, (KerR.dis n).congr (fun _ _ h => h.elim) fun a b h => (by simp [relP, endsL] at h), (KerR.dis n).congr (fun _ _ h => h.elim) fun a b h => (by simp [relP, snS] at h), ?_, fun q h => (by simp [snS] at h), fun q h => (by simp [snS] at h)⟩
    show 0 + cntR n id = n
    rw [cnt_id]; omega
  · intro hm
    have h := ih fun u hu => hm u (List.mem_append_left _ hu)
    have hv := hm v (List.mem_append_right _ (List.mem_singleton.2 rfl))
    obtain ⟨v1, v2, _⟩ := gp_le hv
    have hj := jn_fo h.fo v1 v2
    have hc := jn_cnt h.fo v1 v2
    have hk := jn_ker h.ker v1 v2
    have hl := jn_ker h.kel v1 v2
    have hin : inW n [(((v / n : Nat) : Int), ((v % n : Nat) : Int))] := fun q hq => by
      rw [List.mem_singleton] at hq; subst hq
      exact ⟨⟨Int.natCast_nonneg _, Int.ofNat_lt.2 v1⟩, Int.natCast_nonneg _, Int.ofNat_lt.2 v2⟩
    refine ⟨?_, ?_, ?_, ?_, ?_, ?_⟩
    · rw [snP_snoc, snS_snoc]; exact hj
    · rw [snS_snoc]
      refine hk.congr (fun a b e => ?_) fun a b e => ?_
      · refine .rel (mem_ends.2 ?_)
        rcases e with e | ⟨rfl, rfl⟩
        · obtain ⟨u, hu, e⟩ := mem_ends.1 e
          exact ⟨u, List.mem_append_left _ hu, e⟩
        · exact ⟨v, List.mem_append_right _ (List.mem_singleton.2 rfl), rfl, rfl⟩
      · obtain ⟨u, hu, e1, e2⟩ := mem_ends.1 e
        rcases List.mem_append.1 hu with hu | hu
        · exact .rel (.inl (mem_ends.2 ⟨u, hu, e1, e2⟩))
        · rw [List.mem_singleton] at hu; subst hu
          exact .rel (.inr ⟨e1.symm, e2.symm⟩)
    · rw [snS_snoc]
      show KerR n (jnR _ _ _) (relP (if _ then _ else _))
      split
      · rename_i e
        refine hl.congr (fun a b e1 => ?_) fun a b e1 => .rel (.inl e1)
        rcases e1 with e1 | ⟨rfl, rfl⟩
        · exact .rel e1
        · exact (h.kel _ _ v1 v2).1 e
      · refine hl.congr (fun a b e1 => .rel ?_) fun a b e1 => .rel ?_
        · rcases e1 with e1 | ⟨rfl, rfl⟩
          · exact List.mem_append_left _ e1
          · exact List.mem_append_right _ (List.mem_singleton.2 rfl)
        · rcases List.mem_append.1 e1 with e1 | e1
          · exact .inl e1
          · have e1 := Prod.mk.inj (List.mem_singleton.1 e1)
            exact .inr ⟨by omega, by omega⟩
    · rw [snS_snoc]
      show (if _ then _ else _ : List (Int × Int)).length + cntR n (jnR _ _ _) = n
      have h0 := h.cnt
      split
      · rename_i e; rw [if_pos e] at hc; omega
      · rename_i e; rw [if_neg e] at hc; rw [List.length_append, List.length_singleton]; omega
    · rw [snS_snoc]
      show inW n (if _ then _ else _)
      split
      · exact h.inw
      · exact inW_app.2 ⟨h.inw, hin⟩
    · rw [snS_snoc]
      intro q hq
      have hq : q ∈ (if (snS n ms).1 (v / n) = (snS n ms).1 (v % n) then (snS n ms).2 else (snS n ms).2 ++ [(((v / n : Nat) : Int), ((v % n : Nat) : Int))]) := hq
      split at hq
      · obtain ⟨u, hu, e⟩ := h.sub q hq; exact ⟨u, List.mem_append_left _ hu, e⟩
      · rcases List.mem_append.1 hq with hq | hq
        · obtain ⟨u, hu, e⟩ := h.sub q hq; exact ⟨u, List.mem_append_left _ hu, e⟩
        · exact ⟨v, List.mem_append_right _ (List.mem_singleton.2 rfl), List.mem_singleton.1 hq⟩
def Joins (n : Nat) (p : List Int) : Prop := ∃ x y, x < n ∧ y < n ∧ x ≠ y ∧ p.getD x 0 = p.getD y 0
def Sub (n : Nat) (p q : List Int) : Prop := ∀ x y, x < n → y < n → p.getD x 0 = p.getD y 0 → q.getD x 0 = q.getD y 0
theorem sub_eq {n : Nat} {p q : List Int} (hp : p.length = n) (hq : q.length = n) (cp : canon p = p) (cq : canon q = q) (h1 : Sub n p q) (h2 : Sub n q p) : p = q := by
  rw [← cp, ← cq]; exact ker_canon hp hq fun a b ha hb => ⟨h1 a b ha hb, h2 a b ha hb⟩
section
variable {t : List (List Int)} {g c : List Int} {C : List (List Nat)} {lv : List Bool}
noncomputable def cmP (t : List (List Int)) (C : List (List Nat)) (i : Nat) : List Int := eqP t.length (relP (endsL t.length (C.getD i [])))
theorem rc_cg (hs : Sh t) (hg : ∀ x ∈ g, 0 ≤ x ∧ x < (t.length : Int)) {q : List Int} (hq : Cg t q 0) {v u : Nat} (hv : Gp t.length v) (h : Rc (2 * g.length) (tgN t g) v u) : Gp t.length u ∧ (q.getD (v / t.length) 0 = q.getD (v % t.length) 0 → q.getD (u / t.length) 0 = q.getD (u % t.length) 0) := by
  induction h with
  | refl => exact ⟨hv, id⟩
  | step h1 hk ht ih =>
    rename_i w k x
    obtain ⟨hw, ih⟩ := ih
    refine ⟨tg_gp hs hg hw hk ht, fun e => ?_⟩
    have e := ih e
    obtain ⟨w1, w2, _⟩ := gp_le hw
    have hz : (g.getD (k / 2) 0).toNat < t.length := by have := hg _ (getD_mem (d := 0) (i := k / 2) (l := g) (by omega)); omega
    have hc := hq _ _ _ w1 w2 hz e
    unfold CgA at hc
    have hab : q.getD (tgA t (g.getD (k / 2) 0).toNat (w / t.length) k) 0 = q.getD (tgA t (g.getD (k / 2) 0).toNat (w % t.length) k) 0 := by
      unfold tgA
      split
      · exact hc.1 (show (0 : Int) ≠ 2 by decide)
      · exact hc.2 (show (0 : Int) ≠ 1 by decide)
    have ha : tgA t (g.getD (k / 2) 0).toNat (w / t.length) k < t.length := by unfold tgA; split; exact (hs.ent hz w1).2; exact (hs.ent w1 hz).2
    have hb : tgA t (g.getD (k / 2) 0).toNat (w % t.length) k < t.length := by unfold tgA; split; exact (hs.ent hz w2).2; exact (hs.ent w2 hz).2
    unfold tgN prN at ht
    split at ht
    · omega
    · rename_i hne
      have ex : x = min (tgA t (g.getD (k / 2) 0).toNat (w / t.length) k) (tgA t (g.getD (k / 2) 0).toNat (w % t.length) k) * t.length + max (tgA t (g.getD (k / 2) 0).toNat (w / t.length) k) (tgA t (g.getD (k / 2) 0).toNat (w % t.length) k) := by omega
      have hp := gp_of (n := t.length) (x := min (tgA t (g.getD (k / 2) 0).toNat (w / t.length) k) (tgA t (g.getD (k / 2) 0).toNat (w % t.length) k)) (y := max (tgA t (g.getD (k / 2) 0).toNat (w / t.length) k) (tgA t (g.getD (k / 2) 0).toNat (w % t.length) k)) (by omega) (by omega)
      rw [ex, hp.2.1, hp.2.2]
      rcases Nat.le_total (tgA t (g.getD (k / 2) 0).toNat (w / t.length) k) (tgA t (g.getD (k / 2) 0).toNat (w % t.length) k) with h2 | h2
      · rw [Nat.min_eq_left h2, Nat.max_eq_right h2]; exact hab
      · rw [Nat.min_eq_right h2, Nat.max_eq_left h2]; exact hab.symm
end
structure NetOk (t : List (List Int)) (g c : List Int) (C : List (List Nat)) (lv : List Bool) : Prop where
  sp : Spans t g
  gl : g.length ≤ t.length
  cl : c.length = t.length * t.length
  net : Cl (2 * g.length) (tgN t g) (Gp t.length) (gC c) C lv
  all : ∀ v, Gp t.length v → 0 ≤ gC c v
section
variable {t : List (List Int)} {g c : List Int} {C : List (List Nat)} {lv : List Bool}
theorem NetOk.gp (h : NetOk t g c C lv) {i v : Nat} (hi : i < C.length) (hv : v ∈ C.getD i []) : Gp t.length v ∧ gC c v = (i : Int) := by
  have h1 := (h.net.mem i v hi).1 hv
  exact ⟨(h.net.dom v (by omega)).1, h1⟩
theorem NetOk.ml (h : NetOk t g c C lv) {i : Nat} (hi : i < C.length) : (C.getD i []).length ≤ t.length * t.length := by
  have := nodup_sub (h.net.nd i hi) (B := List.range (t.length * t.length)) fun v hv => List.mem_range.2 (h.gp hi hv).1.1
  simpa using this
theorem NetOk.sO (h : NetOk t g c C lv) {i : Nat} (hi : i < C.length) : SnO t.length (C.getD i []) := snO _ fun _v hv => (h.gp hi hv).1
theorem NetOk.some (h : NetOk t g c C lv) {i : Nat} (hi : i < C.length) : ∃ v, v ∈ C.getD i [] ∧ Gp t.length v ∧ gC c v = (i : Int) := by
  have h1 := h.net.ne i hi
  cases hc : C.getD i [] with
  | nil => exact absurd hc h1
  | cons v r =>
    have hv : v ∈ C.getD i [] := by rw [hc]; exact List.mem_cons_self ..
    exact ⟨v, by rw [← hc]; exact hv, h.gp hi hv⟩
theorem cm_in {i v : Nat} (hv : v ∈ C.getD i []) (hg : Gp t.length v) : (cmP t C i).getD (v / t.length) 0 = (cmP t C i).getD (v % t.length) 0 := by
  have h1 := gp_le hg
  exact (eqP_iff h1.1 h1.2.1).2 (.rel (mem_ends.2 ⟨v, hv, rfl, rfl⟩))
theorem NetOk.jo (h : NetOk t g c C lv) {i : Nat} (hi : i < C.length) : Joins t.length (cmP t C i) := by
  obtain ⟨v, hv, hg, _⟩ := h.some hi
  have h1 := gp_le hg
  have := hg.2
  exact ⟨_, _, h1.1, h1.2.1, by omega, cm_in hv hg⟩
theorem NetOk.sub (h : NetOk t g c C lv) (hs : Sh t) {q : List Int} (hq : Cg t q 0) {i v : Nat} (hi : i < C.length) (hv : v ∈ C.getD i []) (e : q.getD (v / t.length) 0 = q.getD (v % t.length) 0) : Sub t.length (cmP t C i) q := fun x y hx hy e1 => by
  obtain ⟨hg, hc⟩ := h.gp hi hv
  refine ((eqP_iff hx hy).1 e1).least (Q := fun a b => q.getD a 0 = q.getD b 0) (fun _ => rfl) (fun _ _ h => h.symm) (fun _ _ _ h h' => h.trans h') fun a b e2 => ?_
  obtain ⟨u, hu, rfl, rfl⟩ := mem_ends.1 e2
  have hcu := (h.gp hi hu).2
  exact (rc_cg hs h.sp.el hq hg (h.net.mutu v u (by omega) (by omega))).2 e
end
end Go.Proofs.Ytpanlghofeebhaa
end
section
/- The list of all minimal congruences (plain). -/
namespace Go.Proofs.Ytpanlghofeebhaa
open Go Go.AM
end Go.Proofs.Ytpanlghofeebhaa
end
