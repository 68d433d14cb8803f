import Derived.Test.YtpanlghofeebhaaGreatAmState
section
/- Plain: the theorem of Jordan and Hoelder for finite groups, in any type. -/
namespace Go.Proofs.YtpanlghofeebhaaGreat
structure Gp (α : Type) where
  mul : α → α → α
  inv : α → α
  one : α
  assoc : ∀ a b c, mul (mul a b) c = mul a (mul b c)
  oneL : ∀ a, mul one a = a
  oneR : ∀ a, mul a one = a
  invL : ∀ a, mul (inv a) a = one
  invR : ∀ a, mul a (inv a) = one
namespace Gp
variable {α : Type} (G : Gp α)
theorem canL (a b : α) : G.mul (G.inv a) (G.mul a b) = b := by rw [← G.assoc, G.invL, G.oneL]
theorem canR (a b : α) : G.mul a (G.mul (G.inv a) b) = b := by rw [← G.assoc, G.invR, G.oneL]
theorem cancel {a b c : α} (h : G.mul a b = G.mul a c) : b = c := by rw [← G.canL a b, h, G.canL]
theorem inv_of {a b : α} (h : G.mul a b = G.one) : b = G.inv a := G.cancel (h.trans (G.invR a).symm)
theorem inv_inv (a : α) : G.inv (G.inv a) = a := (G.inv_of (G.invL a)).symm
theorem inv_one : G.inv G.one = G.one := (G.inv_of (G.oneL _)).symm
theorem inv_mul (a b : α) : G.inv (G.mul a b) = G.mul (G.inv b) (G.inv a) := (G.inv_of (by rw [G.assoc, G.canR, G.invR])).symm
def cj (x a : α) : α := G.mul (G.mul x a) (G.inv x)
def cm (x y : α) : α := G.mul (G.mul (G.mul x y) (G.inv x)) (G.inv y)
structure Sg (S : α → Prop) : Prop where
  one : S G.one
  mul : ∀ a b, S a → S b → S (G.mul a b)
  inv : ∀ a, S a → S (G.inv a)
def Nm (W S : α → Prop) : Prop := ∀ x a, W x → S a → S (G.cj x a)
def Ab (W S : α → Prop) : Prop := ∀ x y, W x → W y → S (G.cm x y)
structure Mx (W S : α → Prop) : Prop where
  cw : G.Sg W
  cs : G.Sg S
  sub : ∀ x, S x → W x
  nrm : G.Nm W S
  ne : ∃ x, W x ∧ ¬ S x
  mx : ∀ L : α → Prop, G.Sg L → (∀ x, S x → L x) → (∀ x, L x → W x) → G.Nm W L → (∀ x, L x → S x) ∨ ∀ x, W x → L x
variable {G}
theorem Sg.cj {W : α → Prop} (h : G.Sg W) {x a : α} (hx : W x) (ha : W a) : W (G.cj x a) := h.mul _ _ (h.mul _ _ hx ha) (h.inv _ hx)
theorem Sg.cm {W : α → Prop} (h : G.Sg W) {x a : α} (hx : W x) (ha : W a) : W (G.cm x a) := h.mul _ _ (h.mul _ _ (h.mul _ _ hx ha) (h.inv _ hx)) (h.inv _ ha)
theorem Sg.and {W S : α → Prop} (h : G.Sg W) (h' : G.Sg S) : G.Sg fun x => W x ∧ S x :=
  ⟨⟨h.one, h'.one⟩, fun a b ha hb => ⟨h.mul a b ha.1 hb.1, h'.mul a b ha.2 hb.2⟩, fun a ha => ⟨h.inv a ha.1, h'.inv a ha.2⟩⟩
def Pr (G : Gp α) (M N : α → Prop) : α → Prop := fun x => ∃ m n, M m ∧ N n ∧ x = G.mul m n
theorem pr_sg {M N : α → Prop} (hM : G.Sg M) (hN : G.Sg N) (h : G.Nm N M) : G.Sg (G.Pr M N) := by
  refine ⟨⟨_, _, hM.one, hN.one, (G.oneL _).symm⟩, ?_, ?_⟩
  · rintro a b ⟨m, n, hm, hn, rfl⟩ ⟨m', n', hm', hn', rfl⟩
    refine ⟨G.mul m (G.cj n m'), G.mul n n', hM.mul _ _ hm (h n m' hn hm'), hN.mul _ _ hn hn', ?_⟩
    simp only [Gp.cj, G.assoc, G.canL]
  · rintro a ⟨m, n, hm, hn, rfl⟩
    refine ⟨G.cj (G.inv n) (G.inv m), G.inv n, h _ _ (hN.inv _ hn) (hM.inv _ hm), hN.inv _ hn, ?_⟩
    simp only [Gp.cj, G.assoc, G.inv_mul, G.inv_inv, G.invR, G.oneR]
theorem pr_nm {W M N : α → Prop} (hM : G.Nm W M) (hN : G.Nm W N) : G.Nm W (G.Pr M N) := by
  rintro x a hx ⟨m, n, hm, hn, rfl⟩
  exact ⟨_, _, hM x m hx hm, hN x n hx hn, by simp only [Gp.cj, G.assoc, G.canL]⟩
theorem pr_left {M N : α → Prop} (hN : G.Sg N) {x : α} (h : M x) : G.Pr M N x := ⟨x, _, h, hN.one, (G.oneR x).symm⟩
theorem pr_right {M N : α → Prop} (hM : G.Sg M) {x : α} (h : N x) : G.Pr M N x := ⟨_, x, hM.one, h, (G.oneL x).symm⟩
theorem pr_sub {W M N : α → Prop} (hW : G.Sg W) (hM : ∀ x, M x → W x) (hN : ∀ x, N x → W x) : ∀ x, G.Pr M N x → W x := by
  rintro x ⟨m, n, hm, hn, rfl⟩; exact hW.mul _ _ (hM _ hm) (hN _ hn)
theorem Nm.mono {W V S : α → Prop} (h : G.Nm W S) (hs : ∀ x, V x → W x) : G.Nm V S := fun x a hx ha => h x a (hs x hx) ha
theorem pset {S T : α → Prop} (h1 : ∀ x, S x → T x) (h2 : ∀ x, T x → S x) : S = T := funext fun x => propext ⟨h1 x, h2 x⟩
theorem Mx.all {W M N : α → Prop} (hM : G.Mx W M) (hN : G.Mx W N) (hne : M ≠ N) : ∀ x, W x → G.Pr M N x := by
  rcases hM.mx (G.Pr M N) (pr_sg hM.cs hN.cs (hM.nrm.mono hN.sub)) (fun x h => pr_left hN.cs h) (pr_sub hM.cw hM.sub hN.sub) (pr_nm hM.nrm hN.nrm) with h | h
  · exfalso
    rcases hN.mx M hM.cs (fun x hx => h x (pr_right hM.cs hx)) hM.sub hM.nrm with h1 | h1
    · exact hne (pset h1 fun x hx => h x (pr_right hM.cs hx))
    · obtain ⟨x, hx, hn⟩ := hM.ne
      exact hn (h1 x hx)
  · exact h
theorem Mx.meet {W M N : α → Prop} (hM : G.Mx W M) (hN : G.Mx W N) (hne : M ≠ N) : G.Mx M (fun x => M x ∧ N x) := by
  have hall := hM.all hN hne
  refine ⟨hM.cs, hM.cs.and hN.cs, fun x h => h.1, fun x a hx ha => ⟨hM.cs.cj hx ha.1, hN.nrm x a (hM.sub x hx) ha.2⟩, ?_, ?_⟩
  · refine Classical.byContradiction fun hno => ?_
    have hsub : ∀ x, M x → N x := fun x hx => Classical.byContradiction fun h => hno ⟨x, hx, fun h' => h h'.2⟩
    rcases hM.mx N hN.cs hsub hN.sub hN.nrm with h | h
    · exact hne (pset hsub h)
    · obtain ⟨x, hx, hn⟩ := hN.ne
      exact hn (h x hx)
  · intro L hL h1 h2 h3
    have hLW : G.Nm W L := by
      intro x a hx ha
      obtain ⟨m, n, hm, hn, rfl⟩ := hall x hx
      have hk : L (G.cj n a) := by
        have hd : M (G.cm n a) ∧ N (G.cm n a) := by
          constructor
          · exact hM.cs.mul _ _ (hM.nrm n a (hN.sub n hn) (h2 a ha)) (hM.cs.inv _ (h2 a ha))
          · have := hN.cs.mul _ _ hn (hN.nrm a (G.inv n) (hM.sub a (h2 a ha)) (hN.cs.inv _ hn))
            simpa only [Gp.cj, Gp.cm, G.assoc] using this
        have := hL.mul _ _ (h1 _ hd) ha
        simpa only [Gp.cj, Gp.cm, G.assoc, G.invL, G.oneR] using this
      have := h3 m _ hm hk
      simpa only [Gp.cj, G.assoc, G.inv_mul] using this
    have hLN : ∀ x, L x → W x := fun x hx => hM.sub x (h2 x hx)
    rcases hN.mx (G.Pr L N) (pr_sg hL hN.cs (hLW.mono hN.sub)) (fun x h => pr_right hL h) (pr_sub hM.cw hLN hN.sub) (pr_nm hLW hN.nrm) with h | h
    · exact .inl fun x hx => ⟨h2 x hx, h x (pr_left hN.cs hx)⟩
    · refine .inr fun x hx => ?_
      obtain ⟨l, n, hl, hn, e⟩ := h x (hM.sub x hx)
      have hnl : L n := h1 n ⟨by
        have : n = G.mul (G.inv l) x := by rw [e, G.canL]
        rw [this]; exact hM.cs.mul _ _ (hM.cs.inv _ (h2 l hl)) hx, hn⟩
      rw [e]; exact hL.mul _ _ hl hnl
theorem Mx.ab {W M N : α → Prop} (hM : G.Mx W M) (hN : G.Mx W N) (hne : M ≠ N) : G.Ab W N ↔ G.Ab M (fun x => M x ∧ N x) := by
  have hall := hM.all hN hne
  constructor
  · exact fun h x y hx hy => ⟨hM.cs.cm hx hy, h x y (hM.sub x hx) (hM.sub y hy)⟩
  · intro h x y hx hy
    have hcong : ∀ a b c d, W a → W b → W c → W d → N (G.mul (G.inv a) b) → N (G.mul (G.inv c) d) → N (G.mul (G.inv (G.mul a c)) (G.mul b d)) := by
      intro a b c d _ _ hc _ h1 h2
      have := hN.cs.mul _ _ (hN.nrm (G.inv c) _ (hN.cw.inv _ hc) h1) h2
      simpa only [Gp.cj, G.assoc, G.inv_mul, G.inv_inv, G.canR] using this
    have htr : ∀ a b c, N (G.mul (G.inv a) b) → N (G.mul (G.inv b) c) → N (G.mul (G.inv a) c) := by
      intro a b c h1 h2
      have := hN.cs.mul _ _ h1 h2
      simpa only [G.assoc, G.canR] using this
    have hsy : ∀ a b, N (G.mul (G.inv a) b) → N (G.mul (G.inv b) a) := by
      intro a b h1
      have := hN.cs.inv _ h1
      simpa only [G.inv_mul, G.inv_inv] using this
    have key : ∀ x y, W x → W y → N (G.mul (G.inv (G.mul y x)) (G.mul x y)) := by
      intro x y hx hy
      obtain ⟨m, n, hm, hn, rfl⟩ := hall x hx
      obtain ⟨m', n', hm', hn', rfl⟩ := hall y hy
      have e1 : N (G.mul (G.inv m) (G.mul m n)) := by rw [G.canL]; exact hn
      have e2 : N (G.mul (G.inv m') (G.mul m' n')) := by rw [G.canL]; exact hn'
      have wm := hM.sub m hm
      have wm' := hM.sub m' hm'
      have c1 := hcong _ _ _ _ wm hx wm' hy e1 e2
      have c2 := hcong _ _ _ _ wm' hy wm hx e2 e1
      have c3 : N (G.mul (G.inv (G.mul m' m)) (G.mul m m')) := by
        have := (h (G.inv m) (G.inv m') (hM.cs.inv _ hm) (hM.cs.inv _ hm')).2
        simpa only [Gp.cm, G.assoc, G.inv_mul, G.inv_inv] using this
      exact htr _ _ _ (hsy _ _ c2) (htr _ _ _ c3 c1)
    have := key (G.inv x) (G.inv y) (hN.cw.inv _ hx) (hN.cw.inv _ hy)
    simpa only [Gp.cm, G.assoc, G.inv_mul, G.inv_inv] using this
end Gp
/-! ### Sizes -/
section
variable {α : Type} {G : Gp α} {el : List α}
open Classical in
noncomputable def szS (el : List α) (S : α → Prop) : Nat := (el.filter fun x => decide (S x)).length
structure Fin' (el : List α) : Prop where
  nd : el.Nodup
  all : ∀ x, x ∈ el
theorem sz_list (h : Fin' el) {S : α → Prop} {l : List α} (hn : l.Nodup) (hl : ∀ x, x ∈ l ↔ S x) : szS el S = l.length := by
  unfold szS
  apply Nat.le_antisymm
  · exact (h.nd.sublist List.filter_sublist).length_le_of_subset fun x hx => (hl x).2 (by simpa using (List.mem_filter.1 hx).2)
  · exact hn.length_le_of_subset fun x hx => List.mem_filter.2 ⟨h.all x, by simpa using (hl x).1 hx⟩
theorem sz_lst (h : Fin' el) (S : α → Prop) : ∃ l : List α, l.Nodup ∧ (∀ x, x ∈ l ↔ S x) ∧ l.length = szS el S := by
  classical
  exact ⟨el.filter fun x => decide (S x), h.nd.sublist List.filter_sublist, fun x => by simp [h.all x], rfl⟩
theorem sz_mono (h : Fin' el) {S T : α → Prop} (hs : ∀ x, S x → T x) : szS el S ≤ szS el T ∧ (szS el S = szS el T → S = T) := by
  obtain ⟨l, h1, h2, h3⟩ := sz_lst h S
  obtain ⟨m, h4, h5, h6⟩ := sz_lst h T
  have hlm : ∀ x ∈ l, x ∈ m := fun x hx => (h5 x).2 (hs x ((h2 x).1 hx))
  have hle := h1.length_le_of_subset (l₂ := m) hlm
  refine ⟨by omega, fun e => Gp.pset hs fun x hx => Classical.byContradiction fun hn => ?_⟩
  have := (List.nodup_cons.2 ⟨fun hm => hn ((h2 x).1 hm), h1⟩ : (x :: l).Nodup).length_le_of_subset (l₂ := m) fun y hy => by
    rcases List.mem_cons.1 hy with rfl | hy
    · exact (h5 _).2 hx
    · exact hlm y hy
  simp at this; omega
theorem sz_pos (h : Fin' el) {S : α → Prop} {x : α} (hx : S x) : 0 < szS el S := by
  obtain ⟨l, _, h2, h3⟩ := sz_lst h S
  rw [← h3]; exact List.length_pos_of_mem ((h2 x).2 hx)
theorem flat_len {β : Type} {k : Nat} (f : α → List β) : ∀ l : List α, (∀ x ∈ l, (f x).length = k) → (l.flatMap f).length = l.length * k
  | [], _ => by simp
  | a :: l, h => by
    rw [List.flatMap_cons, List.length_append, h a List.mem_cons_self, flat_len f l fun x hx => h x (List.mem_cons_of_mem _ hx), List.length_cons, Nat.succ_mul]; omega
structure Rp (G : Gp α) (W M : α → Prop) (r : List α) : Prop where
  ins : ∀ x ∈ r, W x
  pw : r.Pairwise fun a b => ¬ M (G.mul (G.inv a) b)
theorem rp_ex (h : Fin' el) {W M : α → Prop} (hM : G.Sg M) : ∃ r, Rp G W M r ∧ ∀ x, W x → ∃ a ∈ r, M (G.mul (G.inv a) x) := by
  have key : ∀ l : List α, ∃ r, Rp G W M r ∧ ∀ x ∈ l, W x → ∃ a ∈ r, M (G.mul (G.inv a) x) := by
    intro l
    induction l with
    | nil => exact ⟨[], ⟨by simp, .nil⟩, by simp⟩
    | cons y l ih =>
      obtain ⟨r, h1, h2⟩ := ih
      by_cases hy : W y ∧ ∀ a ∈ r, ¬ M (G.mul (G.inv a) y)
      · refine ⟨y :: r, ⟨fun x hx => ?_, List.pairwise_cons.2 ⟨fun a ha hm => hy.2 a ha ?_, h1.pw⟩⟩, fun x hx hw => ?_⟩
        · rcases List.mem_cons.1 hx with rfl | hx
          · exact hy.1
          · exact h1.ins x hx
        · have := hM.inv _ hm
          simpa only [G.inv_mul, G.inv_inv] using this
        · rcases List.mem_cons.1 hx with rfl | hx
          · exact ⟨x, List.mem_cons_self, by rw [G.invL]; exact hM.one⟩
          · obtain ⟨a, ha, hm⟩ := h2 x hx hw
            exact ⟨a, List.mem_cons_of_mem _ ha, hm⟩
      · refine ⟨r, h1, fun x hx hw => ?_⟩
        rcases List.mem_cons.1 hx with rfl | hx
        · exact Classical.byContradiction fun hno => hy ⟨hw, fun a ha hm => hno ⟨a, ha, hm⟩⟩
        · exact h2 x hx hw
  obtain ⟨r, h1, h2⟩ := key el
  exact ⟨r, h1, fun x hx => h2 x (h.all x) hx⟩
theorem rp_sz (h : Fin' el) {W M L : α → Prop} (hW : G.Sg W) (hM : G.Sg M) (hL : ∀ x, L x ↔ W x ∧ M x) {r : List α} (hr : Rp G W M r) (hc : ∀ x, W x → ∃ a ∈ r, M (G.mul (G.inv a) x)) :
    szS el W = r.length * szS el L := by
  obtain ⟨l, h1, h2, h3⟩ := sz_lst h L
  have hk : ∀ a ∈ r, (l.map fun b => G.mul a b).length = szS el L := fun a _ => by rw [List.length_map, h3]
  rw [← flat_len (fun a => l.map fun b => G.mul a b) r hk]
  refine sz_list h ?_ fun x => ?_
  · refine List.pairwise_flatMap.2 ⟨fun a _ => ?_, hr.pw.imp fun {a b} hab => ?_⟩
    · exact List.pairwise_map.2 (h1.imp fun {x y} hxy e => hxy (G.cancel e))
    · intro x hx y hy e
      obtain ⟨u, hu, rfl⟩ := List.mem_map.1 hx
      obtain ⟨v, hv, rfl⟩ := List.mem_map.1 hy
      refine hab ?_
      have e2 : G.mul (G.inv a) b = G.mul u (G.inv v) := by
        have : G.mul (G.mul (G.inv a) (G.mul a u)) (G.inv v) = G.mul (G.mul (G.inv a) (G.mul b v)) (G.inv v) := by rw [e]
        simpa only [G.assoc, G.canL, G.invR, G.oneR] using this.symm
      rw [e2]
      exact hM.mul _ _ ((hL u).1 ((h2 u).1 hu)).2 (hM.inv _ ((hL v).1 ((h2 v).1 hv)).2)
  · rw [List.mem_flatMap]
    constructor
    · rintro ⟨a, ha, hx⟩
      obtain ⟨u, hu, rfl⟩ := List.mem_map.1 hx
      exact hW.mul _ _ (hr.ins a ha) ((hL u).1 ((h2 u).1 hu)).1
    · intro hx
      obtain ⟨a, ha, hm⟩ := hc x hx
      refine ⟨a, ha, List.mem_map.2 ⟨G.mul (G.inv a) x, (h2 _).2 ((hL _).2 ⟨hW.mul _ _ (hW.inv _ (hr.ins a ha)) hx, hm⟩), G.canR a x⟩⟩
theorem sz_dvd (h : Fin' el) {W M : α → Prop} (hW : G.Sg W) (hM : G.Sg M) (hs : ∀ x, M x → W x) : ∃ k, szS el W = k * szS el M := by
  obtain ⟨r, h1, h2⟩ := rp_ex (W := W) h hM
  exact ⟨r.length, rp_sz h hW hM (fun x => ⟨fun hx => ⟨hs x hx, hx⟩, fun hx => hx.2⟩) h1 h2⟩
theorem sz_meet (h : Fin' el) {W M N : α → Prop} (hW : G.Sg W) (hM : G.Sg M) (hN : G.Sg N) (hMs : ∀ x, M x → W x) (hNs : ∀ x, N x → W x) (hall : ∀ x, W x → G.Pr M N x) :
    szS el W / szS el N = szS el M / szS el (fun x => M x ∧ N x) := by
  obtain ⟨r, h1, h2⟩ := rp_ex (W := M) h hN
  have e1 := rp_sz (L := fun x => M x ∧ N x) h hM hN (fun x => Iff.rfl) h1 h2
  have e2 := rp_sz (W := W) (L := N) h hW hN (fun x => ⟨fun hx => ⟨hNs x hx, hx⟩, fun hx => hx.2⟩) (r := r) ⟨fun x hx => hMs x (h1.ins x hx), h1.pw⟩ fun x hx => by
    obtain ⟨m, n, hm, hn, rfl⟩ := hall x hx
    obtain ⟨a, ha, hma⟩ := h2 m hm
    exact ⟨a, ha, by have := hN.mul _ _ hma hn; simpa only [G.assoc] using this⟩
  have p1 := sz_pos (el := el) (S := N) h hN.one
  have p2 := sz_pos (el := el) (S := fun x => M x ∧ N x) h ⟨hM.one, hN.one⟩
  rw [e1, e2, Nat.mul_div_cancel _ p1, Nat.mul_div_cancel _ p2]
/-! ### Series -/
open Classical in
noncomputable def facG (G : Gp α) (el : List α) (W S : α → Prop) : Nat × Bool := (szS el W / szS el S, decide (G.Ab W S))
inductive SerG (G : Gp α) (el : List α) : (α → Prop) → List (Nat × Bool) → Prop
  | nil {W : α → Prop} (h : ∀ x, W x ↔ x = G.one) : SerG G el W []
  | cons {W S : α → Prop} {l : List (Nat × Bool)} (h : G.Mx W S) (hl : SerG G el S l) : SerG G el W (facG G el W S :: l)
theorem max_ex {Q : (α → Prop) → Prop} {b : Nat} (hb : ∀ S, szS el S ≤ b) (hex : ∃ S, Q S) : ∃ S, Q S ∧ ∀ T, Q T → szS el T ≤ szS el S := by
  have key : ∀ k S, Q S → b - szS el S ≤ k → ∃ S, Q S ∧ ∀ T, Q T → szS el T ≤ szS el S := by
    intro k
    induction k with
    | zero => exact fun S hS hk => ⟨S, hS, fun T _ => by have := hb T; omega⟩
    | succ k ih =>
      intro S hS hk
      by_cases h : ∀ T, Q T → szS el T ≤ szS el S
      · exact ⟨S, hS, h⟩
      · obtain ⟨T, hT⟩ := Classical.not_forall.1 h
        obtain ⟨hT, hlt⟩ := Classical.not_imp.1 hT
        exact ih T hT (by have := hb T; omega)
  obtain ⟨S, hS⟩ := hex
  exact key b S hS (Nat.sub_le _ _)
theorem sz_bound (h : Fin' el) (S : α → Prop) : szS el S ≤ el.length := by
  unfold szS; exact List.length_filter_le _ _
theorem mx_of_max (h : Fin' el) {W S : α → Prop} (hW : G.Sg W) (hS : G.Sg S) (hs : ∀ x, S x → W x) (hn : G.Nm W S) (hne : ∃ x, W x ∧ ¬ S x)
    (hm : ∀ T, G.Sg T → (∀ x, T x → W x) → G.Nm W T → (∃ x, W x ∧ ¬ T x) → szS el T ≤ szS el S) : G.Mx W S := by
  refine ⟨hW, hS, hs, hn, hne, fun L hL h1 h2 h3 => ?_⟩
  by_cases hw : ∃ x, W x ∧ ¬ L x
  · have e := (sz_mono h h1).2 (Nat.le_antisymm (sz_mono h h1).1 (hm L hL h2 h3 hw))
    rw [← e]; exact .inl fun x hx => hx
  · exact .inr fun x hx => Classical.byContradiction fun hn => hw ⟨x, hx, hn⟩
theorem mx_ex (h : Fin' el) {W : α → Prop} (hW : G.Sg W) (h2 : ∃ x, W x ∧ x ≠ G.one) : ∃ S, G.Mx W S := by
  obtain ⟨S, ⟨h3, h4, h5, h6⟩, h7⟩ := max_ex (el := el) (Q := fun S => G.Sg S ∧ (∀ x, S x → W x) ∧ G.Nm W S ∧ ∃ x, W x ∧ ¬ S x) (sz_bound h) ⟨fun x => x = G.one, ⟨rfl, fun a b ha hb => by rw [ha, hb, G.oneL], fun a ha => by rw [ha, G.inv_one]⟩, fun x hx => by rw [hx]; exact hW.one, fun x a _ ha => by rw [ha]; simp only [Gp.cj, G.oneR, G.invR], h2⟩
  exact ⟨S, mx_of_max h hW h3 h4 h5 h6 fun T a b c d => h7 T ⟨a, b, c, d⟩⟩
theorem mx_lt (h : Fin' el) {W S : α → Prop} (hm : G.Mx W S) : szS el S < szS el W := by
  have := sz_mono h hm.sub
  rcases Nat.lt_or_ge (szS el S) (szS el W) with h1 | h1
  · exact h1
  · obtain ⟨x, hx, hn⟩ := hm.ne
    rw [this.2 (Nat.le_antisymm this.1 h1)] at hn
    exact absurd hx hn
theorem ser_ex (h : Fin' el) : ∀ (k : Nat) (W : α → Prop), G.Sg W → szS el W ≤ k → ∃ l, SerG G el W l := by
  intro k
  induction k with
  | zero => intro W hW hk; have := sz_pos (el := el) (S := W) h hW.one; omega
  | succ k ih =>
    intro W hW hk
    by_cases h2 : ∃ x, W x ∧ x ≠ G.one
    · obtain ⟨S, hS⟩ := mx_ex h hW h2
      have := mx_lt h hS
      obtain ⟨l, hl⟩ := ih S hS.cs (by omega)
      exact ⟨_, .cons hS hl⟩
    · exact ⟨[], .nil fun x => ⟨fun hx => Classical.byContradiction fun hn => h2 ⟨x, hx, hn⟩, fun e => by rw [e]; exact hW.one⟩⟩
theorem ser_inv {W : α → Prop} {l : List (Nat × Bool)} (h : SerG G el W l) : (l = [] ∧ ∀ x, W x ↔ x = G.one) ∨ ∃ S m, l = facG G el W S :: m ∧ G.Mx W S ∧ SerG G el S m := by
  cases h with
  | nil h => exact .inl ⟨rfl, h⟩
  | cons h hl => exact .inr ⟨_, _, rfl, h, hl⟩
theorem mx_two {W S : α → Prop} (h : G.Mx W S) : ¬ ∀ x, W x ↔ x = G.one := fun hw => by
  obtain ⟨x, hx, hn⟩ := h.ne
  rw [(hw x).1 hx] at hn
  exact hn h.cs.one
theorem jordan (h : Fin' el) : ∀ (k : Nat) (W : α → Prop), szS el W ≤ k → ∀ l m, SerG G el W l → SerG G el W m → l.Perm m := by
  intro k
  induction k with
  | zero =>
    intro W hk l m hl hm
    rcases ser_inv hl with ⟨rfl, h1⟩ | ⟨S, l', rfl, hS, _⟩
    · have := sz_pos (el := el) (S := W) h ((h1 _).2 rfl); omega
    · have := sz_pos (el := el) (S := W) h hS.cw.one; omega
  | succ k ih =>
    intro W hk l m hl hm
    rcases ser_inv hl with ⟨rfl, h1⟩ | ⟨M, a, rfl, hM, ha⟩
    · rcases ser_inv hm with ⟨rfl, _⟩ | ⟨N, b, rfl, hN, _⟩
      · exact .refl _
      · exact absurd h1 (mx_two hN)
    · rcases ser_inv hm with ⟨rfl, h1⟩ | ⟨N, b, rfl, hN, hb⟩
      · exact absurd h1 (mx_two hM)
      · have lM := mx_lt h hM
        have lN := mx_lt h hN
        by_cases e : M = N
        · subst e
          exact (ih M (by omega) a b ha hb).cons _
        · have hD1 := hM.meet hN e
          have hD2 := hN.meet hM (Ne.symm e)
          have eD : (fun x => N x ∧ M x) = fun x => M x ∧ N x := funext fun x => propext And.comm
          rw [eD] at hD2
          obtain ⟨c, hc⟩ := ser_ex (G := G) h _ (fun x => M x ∧ N x) hD1.cs (Nat.le_refl _)
          have f1 : facG G el M (fun x => M x ∧ N x) = facG G el W N := by
            unfold facG
            rw [sz_meet h hM.cw hM.cs hN.cs hM.sub hN.sub (hM.all hN e)]
            exact congrArg (Prod.mk _) (decide_eq_decide.2 (hM.ab hN e).symm)
          have f2 : facG G el N (fun x => M x ∧ N x) = facG G el W M := by
            unfold facG
            rw [sz_meet h hM.cw hN.cs hM.cs hN.sub hM.sub (hN.all hM (Ne.symm e)), eD]
            have := hN.ab hM (Ne.symm e)
            rw [eD] at this
            exact congrArg (Prod.mk _) (decide_eq_decide.2 this.symm)
          have p1 := ih M (by omega) a _ ha (.cons hD1 hc)
          have p2 := ih N (by omega) b _ hb (.cons hD2 hc)
          rw [f1] at p1
          rw [f2] at p2
          exact ((p1.cons _).trans (.swap _ _ _)).trans (p2.cons _).symm
def prodL : List (Nat × Bool) → Nat | [] => 1 | f :: l => f.1 * prodL l
theorem ser_prod (h : Fin' el) {W : α → Prop} {l : List (Nat × Bool)} (hl : SerG G el W l) : prodL l = szS el W := by
  induction hl with
  | @nil V h1 =>
    have := sz_list (S := V) (l := [G.one]) h (by simp) fun x => by rw [List.mem_singleton]; exact (h1 x).symm
    rw [this]; rfl
  | cons hS _ ih =>
    obtain ⟨k, hk⟩ := sz_dvd h hS.cw hS.cs hS.sub
    show szS el _ / szS el _ * prodL _ = _
    rw [ih, hk, Nat.mul_div_cancel _ (sz_pos h hS.cs.one)]
theorem ser_two (h : Fin' el) {W : α → Prop} {l : List (Nat × Bool)} (hl : SerG G el W l) : ∀ f ∈ l, 2 ≤ f.1 := by
  induction hl with
  | nil _ => exact fun f hf => absurd hf List.not_mem_nil
  | cons hS _ ih =>
    intro f hf
    rcases List.mem_cons.1 hf with rfl | hf
    · obtain ⟨k, hk⟩ := sz_dvd h hS.cw hS.cs hS.sub
      have hlt := mx_lt h hS
      show 2 ≤ szS el _ / szS el _
      rw [hk, Nat.mul_div_cancel _ (sz_pos h hS.cs.one)]
      rcases Nat.lt_or_ge k 2 with h2 | h2
      · have : k = 0 ∨ k = 1 := by omega
        rcases this with rfl | rfl
        · rw [hk, Nat.zero_mul] at hlt; omega
        · rw [hk, Nat.one_mul] at hlt; omega
      · exact h2
    · exact ih f hf
end
end Go.Proofs.YtpanlghofeebhaaGreat
end
section
/- Plain: solvable groups and their factors; subgroups as groups of their own; quotients. -/
namespace Go.Proofs.YtpanlghofeebhaaGreat
section
variable {α β : Type} {G : Gp α} {H : Gp β} {el : List α} {em : List β}
inductive SolG (G : Gp α) : (α → Prop) → Prop
  | one {W : α → Prop} (h : ∀ x, W x → x = G.one) : SolG G W
  | step {W S : α → Prop} (hS : G.Sg S) (hs : ∀ x, S x → W x) (hc : G.Ab W S) (h : SolG G S) : SolG G W
theorem SolG.mono {W : α → Prop} (h : SolG G W) : ∀ {V : α → Prop}, G.Sg V → (∀ x, V x → W x) → SolG G V := by
  induction h with
  | one h => exact fun _ hv => .one fun x hx => h x (hv x hx)
  | step hS hs hc _ ih =>
    intro V hV hv
    exact .step (hV.and hS) (fun x hx => hx.1) (fun x y hx hy => ⟨hV.cm hx hy, hc x y (hv x hx) (hv y hy)⟩) (ih (hV.and hS) fun x hx => hx.2)
def Eqm (G : Gp α) (N : α → Prop) (a b : α) : Prop := N (G.mul (G.inv a) b)
section
variable {W N : α → Prop} (hW : G.Sg W) (hN : G.Sg N) (hn : G.Nm W N)
include hW hN hn in
theorem eqm_mul {a b c d : α} (hc : W c) (h1 : Eqm G N a b) (h2 : Eqm G N c d) : Eqm G N (G.mul a c) (G.mul b d) := by
  have := hN.mul _ _ (hn (G.inv c) _ (hW.inv _ hc) h1) h2
  unfold Eqm
  simpa only [Gp.cj, G.assoc, G.inv_mul, G.inv_inv, G.canR] using this
include hN hn in
theorem eqm_inv {a b : α} (ha : W a) (h1 : Eqm G N a b) : Eqm G N (G.inv a) (G.inv b) := by
  have := hn a _ ha (hN.inv _ h1)
  unfold Eqm
  simpa only [Gp.cj, G.assoc, G.inv_mul, G.inv_inv, G.invR, G.oneR] using this
end
theorem sol_ab_aux {W M : α → Prop} (hM : G.Mx W M) {T : α → Prop} (h : SolG G T) : G.Sg T → (∀ x, T x → W x) → (∀ x, W x → G.Pr M T x) → G.Ab W M := by
  induction h with
  | one h =>
    intro hT _ hall
    exfalso
    obtain ⟨x, hx, hn⟩ := hM.ne
    obtain ⟨m, n, hm, hn', rfl⟩ := hall x hx
    rw [h n hn', G.oneR] at hn
    exact hn hm
  | @step T S hS hs hc _ ih =>
    intro hT hTW hall
    have hSW : ∀ x, S x → W x := fun x hx => hTW x (hs x hx)
    have hQ : G.Sg (G.Pr M S) := pr_sg' hM hS hSW
    have hcm : ∀ x y, W x → W y → G.Pr M S (G.mul (G.inv (G.mul y x)) (G.mul x y)) := by
      intro x y hx hy
      obtain ⟨m, n, hm, hn, ex⟩ := hall x hx
      obtain ⟨m', n', hm', hn', ey⟩ := hall y hy
      have wn := hTW n hn
      have wn' := hTW n' hn'
      have e1 : Eqm G M n x := by
        have := hM.nrm (G.inv n) m (hM.cw.inv _ wn) hm
        unfold Eqm; rw [ex]
        simpa only [Gp.cj, G.assoc, G.inv_inv] using this
      have e2 : Eqm G M n' y := by
        have := hM.nrm (G.inv n') m' (hM.cw.inv _ wn') hm'
        unfold Eqm; rw [ey]
        simpa only [Gp.cj, G.assoc, G.inv_inv] using this
      have a1 := eqm_mul hM.cw hM.cs hM.nrm wn' e1 e2
      have a2 := eqm_mul hM.cw hM.cs hM.nrm wn e2 e1
      have a3 := eqm_inv hM.cs hM.nrm (hM.cw.mul _ _ wn' wn) a2
      have a4 := eqm_mul hM.cw hM.cs hM.nrm (hM.cw.mul _ _ wn wn') a3 a1
      have a5 : S (G.mul (G.inv (G.mul n' n)) (G.mul n n')) := by
        have := hc (G.inv n) (G.inv n') (hT.inv _ hn) (hT.inv _ hn')
        simpa only [Gp.cm, G.assoc, G.inv_mul, G.inv_inv] using this
      have a6 := hM.nrm _ _ (hSW _ a5) a4
      have key : ∀ s z, z = G.mul (G.cj s (G.mul (G.inv s) z)) s := fun s z => by simp only [Gp.cj, G.assoc, G.invL, G.oneR, G.canR]
      exact ⟨_, _, a6, a5, key _ _⟩
    have hab : G.Ab W (G.Pr M S) := by
      intro x y hx hy
      have := hcm (G.inv x) (G.inv y) (hM.cw.inv _ hx) (hM.cw.inv _ hy)
      simpa only [Gp.cm, G.assoc, G.inv_mul, G.inv_inv] using this
    have hQW := Gp.pr_sub hM.cw hM.sub hSW
    have hnm : G.Nm W (G.Pr M S) := fun x a hx ha => by
      have := hQ.mul _ _ (hab x a hx (hQW a ha)) ha
      simpa only [Gp.cm, Gp.cj, G.assoc, G.invL, G.oneR] using this
    rcases hM.mx _ hQ (fun x hx => Gp.pr_left hS hx) hQW hnm with h | h
    · exact fun x y hx hy => h _ (hab x y hx hy)
    · exact ih hS hSW h
where
  pr_sg' {W M S : α → Prop} (hM : G.Mx W M) (hS : G.Sg S) (hSW : ∀ x, S x → W x) : G.Sg (G.Pr M S) := Gp.pr_sg hM.cs hS (hM.nrm.mono hSW)
theorem sol_ab {W M : α → Prop} (hM : G.Mx W M) (h : SolG G W) : G.Ab W M := sol_ab_aux hM h hM.cw (fun _ h => h) fun _ hx => Gp.pr_right hM.cs hx
theorem ser_sol {W : α → Prop} {l : List (Nat × Bool)} (h : SerG G el W l) : (∀ f ∈ l, f.2 = true) ↔ SolG G W := by
  induction h with
  | nil h => exact ⟨fun _ => .one fun x hx => (h x).1 hx, fun _ f hf => absurd hf List.not_mem_nil⟩
  | @cons W S l hS _ ih =>
    constructor
    · intro hf
      exact .step hS.cs hS.sub (by simpa [facG] using hf _ List.mem_cons_self) (ih.1 fun f hf' => hf f (List.mem_cons_of_mem _ hf'))
    · intro hs f hf
      rcases List.mem_cons.1 hf with rfl | hf
      · simpa [facG] using sol_ab hS hs
      · exact ih.2 (hs.mono hS.cs hS.sub) f hf
/-! ### A subgroup as a group of its own -/
structure Emb (H : Gp β) (G : Gp α) (e : β → α) : Prop where
  mul : ∀ a b, e (H.mul a b) = G.mul (e a) (e b)
  inj : ∀ a b, e a = e b → a = b
def Im (e : β → α) (S : β → Prop) : α → Prop := fun x => ∃ b, S b ∧ e b = x
variable {e : β → α}
theorem Emb.one (h : Emb H G e) : e H.one = G.one := by
  have := h.mul H.one H.one
  rw [H.oneL] at this
  have h2 : G.mul (e H.one) G.one = G.mul (e H.one) (e H.one) := by rw [G.oneR]; exact this
  exact (G.cancel h2).symm
theorem Emb.inv (h : Emb H G e) (a : β) : e (H.inv a) = G.inv (e a) := G.inv_of (by rw [← h.mul, H.invR, h.one])
theorem Emb.im (h : Emb H G e) {S : β → Prop} {b : β} : Im e S (e b) ↔ S b := ⟨fun ⟨c, hc, he⟩ => h.inj _ _ he ▸ hc, fun hb => ⟨b, hb, rfl⟩⟩
theorem Emb.cj (h : Emb H G e) (a b : β) : e (H.cj a b) = G.cj (e a) (e b) := by simp only [Gp.cj, h.mul, h.inv]
theorem Emb.cm (h : Emb H G e) (a b : β) : e (H.cm a b) = G.cm (e a) (e b) := by simp only [Gp.cm, h.mul, h.inv]
theorem Emb.sg (h : Emb H G e) {S : β → Prop} (hS : H.Sg S) : G.Sg (Im e S) :=
  ⟨⟨_, hS.one, h.one⟩, fun _ _ ⟨a, ha, ea⟩ ⟨b, hb, eb⟩ => ⟨_, hS.mul a b ha hb, by rw [h.mul, ea, eb]⟩, fun _ ⟨a, ha, ea⟩ => ⟨_, hS.inv a ha, by rw [h.inv, ea]⟩⟩
theorem Emb.pre (h : Emb H G e) {L : α → Prop} (hL : G.Sg L) : H.Sg fun b => L (e b) :=
  ⟨by rw [h.one]; exact hL.one, fun a b ha hb => by rw [h.mul]; exact hL.mul _ _ ha hb, fun a ha => by rw [h.inv]; exact hL.inv _ ha⟩
theorem Emb.mx (h : Emb H G e) {W S : β → Prop} : H.Mx W S ↔ G.Mx (Im e W) (Im e S) := by
  constructor
  · intro hm
    refine ⟨h.sg hm.cw, h.sg hm.cs, fun x ⟨b, hb, eb⟩ => ⟨b, hm.sub b hb, eb⟩, fun x a ⟨b, hb, eb⟩ ⟨c, hc, ec⟩ => ⟨_, hm.nrm b c hb hc, by rw [h.cj, eb, ec]⟩, ?_, fun L hL h1 h2 h3 => ?_⟩
    · obtain ⟨x, hx, hn⟩ := hm.ne
      exact ⟨e x, h.im.2 hx, fun hh => hn (h.im.1 hh)⟩
    · rcases hm.mx (fun b => L (e b)) (h.pre hL) (fun b hb => h1 _ (h.im.2 hb)) (fun b hb => h.im.1 (h2 _ hb)) (fun x a hx ha => by
        show L (e (H.cj x a)); rw [h.cj]; exact h3 _ _ (h.im.2 hx) ha) with h4 | h4
      · exact .inl fun x hx => by
          obtain ⟨b, _, rfl⟩ := h2 x hx
          exact h.im.2 (h4 b hx)
      · exact .inr fun x ⟨b, hb, eb⟩ => eb ▸ h4 b hb
  · intro hm
    refine ⟨?_, ?_, fun b hb => h.im.1 (hm.sub _ (h.im.2 hb)), fun x a hx ha => h.im.1 (by rw [h.cj]; exact hm.nrm _ _ (h.im.2 hx) (h.im.2 ha)), ?_, fun L hL h1 h2 h3 => ?_⟩
    · have := h.pre hm.cw
      simpa only [h.im] using this
    · have := h.pre hm.cs
      simpa only [h.im] using this
    · obtain ⟨x, ⟨b, hb, rfl⟩, hn⟩ := hm.ne
      exact ⟨b, hb, fun hh => hn (h.im.2 hh)⟩
    · rcases hm.mx (Im e L) (h.sg hL) (fun x ⟨b, hb, eb⟩ => ⟨b, h1 b hb, eb⟩) (fun x ⟨b, hb, eb⟩ => ⟨b, h2 b hb, eb⟩) (fun x a ⟨b, hb, eb⟩ ⟨c, hc, ec⟩ => ⟨_, h3 b c hb hc, by rw [h.cj, eb, ec]⟩) with h4 | h4
      · exact .inl fun b hb => h.im.1 (h4 _ (h.im.2 hb))
      · exact .inr fun b hb => h.im.1 (h4 _ (h.im.2 hb))
theorem Emb.ab (h : Emb H G e) {W S : β → Prop} : H.Ab W S ↔ G.Ab (Im e W) (Im e S) := by
  constructor
  · rintro ha x y ⟨b, hb, rfl⟩ ⟨c, hc, rfl⟩
    rw [← h.cm]; exact h.im.2 (ha b c hb hc)
  · intro ha b c hb hc
    have := ha _ _ (h.im.2 hb) (h.im.2 hc)
    rw [← h.cm] at this; exact h.im.1 this
theorem Emb.sz (h : Emb H G e) (hf : Fin' el) (hg : Fin' em) (S : β → Prop) : szS el (Im e S) = szS em S := by
  obtain ⟨l, h1, h2, h3⟩ := sz_lst hg S
  rw [← h3, ← List.length_map (f := e)]
  refine sz_list hf (List.pairwise_map.2 (h1.imp fun {a b} hab he => hab (h.inj _ _ he))) fun x => ?_
  rw [List.mem_map]
  exact ⟨fun ⟨b, hb, eb⟩ => ⟨b, (h2 b).1 hb, eb⟩, fun ⟨b, hb, eb⟩ => ⟨b, (h2 b).2 hb, eb⟩⟩
theorem Emb.fac (h : Emb H G e) (hf : Fin' el) (hg : Fin' em) (W S : β → Prop) : facG G el (Im e W) (Im e S) = facG H em W S := by
  unfold facG
  rw [h.sz hf hg, h.sz hf hg]
  exact congrArg (Prod.mk _) (decide_eq_decide.2 h.ab.symm)
theorem Emb.ser (h : Emb H G e) (hf : Fin' el) (hg : Fin' em) {W : β → Prop} {l : List (Nat × Bool)} (hl : SerG H em W l) : SerG G el (Im e W) l := by
  induction hl with
  | nil h1 => exact .nil fun x => ⟨fun ⟨b, hb, eb⟩ => by rw [← eb, (h1 b).1 hb, h.one], fun hx => ⟨H.one, (h1 _).2 rfl, by rw [h.one, hx]⟩⟩
  | cons hS _ ih => rw [← h.fac hf hg]; exact .cons (h.mx.1 hS) ih
/-! ### Quotients -/
structure Quo (G : Gp α) (H : Gp β) (p : α → β) (N : α → Prop) : Prop where
  mul : ∀ a b, p (G.mul a b) = H.mul (p a) (p b)
  onto : ∀ b, ∃ a, p a = b
  ker : ∀ a, p a = H.one ↔ N a
variable {p : α → β} {N : α → Prop}
theorem Quo.one (h : Quo G H p N) : p G.one = H.one := by
  have := h.mul G.one G.one
  rw [G.oneL] at this
  have h2 : H.mul (p G.one) H.one = H.mul (p G.one) (p G.one) := by rw [H.oneR]; exact this
  exact (H.cancel h2).symm
theorem Quo.inv (h : Quo G H p N) (a : α) : p (G.inv a) = H.inv (p a) := H.inv_of (by rw [← h.mul, G.invR, h.one])
theorem Quo.sg (h : Quo G H p N) : G.Sg N :=
  ⟨(h.ker _).1 h.one, fun a b ha hb => (h.ker _).1 (by rw [h.mul, (h.ker a).2 ha, (h.ker b).2 hb, H.oneL]), fun a ha => (h.ker _).1 (by rw [h.inv, (h.ker a).2 ha, H.inv_one])⟩
theorem Quo.eq (h : Quo G H p N) {a b : α} (e : p a = p b) : N (G.mul (G.inv a) b) := (h.ker _).1 (by rw [h.mul, h.inv, e, H.invL])
theorem Quo.nm (h : Quo G H p N) (W : α → Prop) : G.Nm W N := fun x a _ ha => (h.ker _).1 (by simp only [Gp.cj, h.mul, h.inv, (h.ker a).2 ha, H.oneR, H.invR])
theorem all_sg (G : Gp α) : G.Sg fun _ => True := ⟨trivial, fun _ _ _ _ => trivial, fun _ _ => trivial⟩
theorem one_sg (G : Gp α) : G.Sg fun x => x = G.one := ⟨rfl, fun a b ha hb => by rw [ha, hb, G.oneL], fun a ha => by rw [ha, G.inv_one]⟩
theorem Quo.mx (h : Quo G H p N) : G.Mx (fun _ => True) N ↔ H.Mx (fun _ => True) fun b => b = H.one := by
  constructor
  · intro hm
    refine ⟨all_sg H, one_sg H, fun _ _ => trivial, fun x a _ ha => by rw [ha]; simp only [Gp.cj, H.oneR, H.invR], ?_, fun L hL _ _ h3 => ?_⟩
    · obtain ⟨x, _, hn⟩ := hm.ne
      exact ⟨p x, trivial, fun e => hn ((h.ker x).1 e)⟩
    · rcases hm.mx (fun a => L (p a)) ⟨by rw [h.one]; exact hL.one, fun a b ha hb => by rw [h.mul]; exact hL.mul _ _ ha hb, fun a ha => by rw [h.inv]; exact hL.inv _ ha⟩ (fun x hx => by rw [(h.ker x).2 hx]; exact hL.one) (fun _ _ => trivial) (fun x a _ ha => by
        show L (p (G.cj x a)); simp only [Gp.cj, h.mul, h.inv]; exact h3 (p x) (p a) trivial ha) with h4 | h4
      · exact .inl fun b hb => by
          obtain ⟨a, rfl⟩ := h.onto b
          exact (h.ker a).2 (h4 a hb)
      · exact .inr fun b _ => by
          obtain ⟨a, rfl⟩ := h.onto b
          exact h4 a trivial
  · intro hm
    refine ⟨all_sg G, h.sg, fun _ _ => trivial, h.nm _, ?_, fun L hL h1 _ h3 => ?_⟩
    · obtain ⟨b, _, hn⟩ := hm.ne
      obtain ⟨a, rfl⟩ := h.onto b
      exact ⟨a, trivial, fun hh => hn ((h.ker a).2 hh)⟩
    · rcases hm.mx (Im p L) ⟨⟨_, hL.one, h.one⟩, fun _ _ ⟨a, ha, ea⟩ ⟨b, hb, eb⟩ => ⟨_, hL.mul a b ha hb, by rw [h.mul, ea, eb]⟩, fun _ ⟨a, ha, ea⟩ => ⟨_, hL.inv a ha, by rw [h.inv, ea]⟩⟩ (fun b hb => ⟨G.one, hL.one, by rw [h.one, hb]⟩) (fun _ _ => trivial) (fun x a _ ⟨c, hc, ec⟩ => by
        obtain ⟨y, rfl⟩ := h.onto x
        exact ⟨_, h3 y c trivial hc, by simp only [Gp.cj, h.mul, h.inv, ec]⟩) with h4 | h4
      · exact .inl fun x hx => (h.ker x).1 (h4 _ ⟨x, hx, rfl⟩)
      · exact .inr fun x _ => by
          obtain ⟨l, hl, e⟩ := h4 (p x) trivial
          have := hL.mul _ _ hl (h1 _ (h.eq e))
          rwa [G.canR] at this
theorem Quo.ab (h : Quo G H p N) : G.Ab (fun _ => True) N ↔ ∀ a b, H.mul a b = H.mul b a := by
  constructor
  · intro ha a b
    obtain ⟨x, rfl⟩ := h.onto a
    obtain ⟨y, rfl⟩ := h.onto b
    have := (h.ker _).2 (ha x y trivial trivial)
    simp only [Gp.cm, h.mul, h.inv] at this
    have e : H.mul (H.mul (H.mul (H.mul (H.mul (p x) (p y)) (H.inv (p x))) (H.inv (p y))) (p y)) (p x) = H.mul (p y) (p x) := by rw [this, H.oneL]
    simpa only [H.assoc, H.canL, H.invL, H.oneR] using e
  · intro hc x y _ _
    refine (h.ker _).1 ?_
    simp only [Gp.cm, h.mul, h.inv]
    rw [hc (p x) (p y)]
    simp only [H.assoc, H.canR, H.invR, H.oneL]
end
end Go.Proofs.YtpanlghofeebhaaGreat
end
