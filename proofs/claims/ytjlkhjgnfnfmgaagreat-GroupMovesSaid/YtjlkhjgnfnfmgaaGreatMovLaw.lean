import Derived.Test.YtjlkhjgnfnfmgaaGreatForest
import Derived.Test.YtjlkhjgnfnfmgaaGreatPermLaw
import Derived.Test.YtjlkhjgnfnfmgaaGreatOrd
import Derived.Test.YtjlkhjgnfnfmgaaGreatIdealLaw
import Derived.Test.YtjlkhjgnfnfmgaaGreatGnLaw
section
/- Orbits and blocks of permutations: contracts. -/
namespace Go.Proofs.YtjlkhjgnfnfmgaaGreat
open Go Go.AM
set_option maxRecDepth 100000
structure ObI (F : List (List Int)) (i k : Nat) (l : List (Int × Int)) : Prop where
  mem : ∀ q, q ∈ l ↔ (∃ a, a < i ∧ ∃ f ∈ F, q = ((a : Int), f.getD a 0)) ∨ ∃ k', k' < k ∧ q = ((i : Int), (F.getD k' []).getD i 0)
  len : l.length ≤ i * F.length + k
def MtI (F : List (List Int)) (i k : Nat) (B : List Bool) : Prop := B.length = 32 ∧ ∀ z, z < 32 → (B.getD z false = true ↔ ∃ k', k' < k ∧ (F.getD k' []).getD i 0 = (z : Int))
theorem ObI.start (F : List (List Int)) : ObI F 0 0 [] := ⟨fun q => ⟨fun h => absurd h List.not_mem_nil, fun h => h.elim (fun ⟨a, h, _⟩ => absurd h (Nat.not_lt_zero _)) (fun ⟨a, h, _⟩ => absurd h (Nat.not_lt_zero _))⟩, by simp⟩
theorem MtI.start (F : List (List Int)) (i : Nat) : MtI F i 0 (List.replicate 32 false) := ⟨List.length_replicate, fun z _ => Iff.intro (fun h => by rw [getD_rep] at h; cases h) (fun ⟨k, h, _⟩ => absurd h (Nat.not_lt_zero _))⟩
theorem ObI.row {F : List (List Int)} {i : Nat} {l : List (Int × Int)} (h : ObI F i F.length l) : ObI F (i + 1) 0 l := by
  refine ⟨fun q => (h.mem q).trans ⟨?_, ?_⟩, by have := h.len; rw [Nat.succ_mul]; omega⟩
  · rintro (⟨a, ha, f, hf, e⟩ | ⟨k, hk, e⟩)
    · exact .inl ⟨a, by omega, f, hf, e⟩
    · exact .inl ⟨i, by omega, _, getD_mem hk, e⟩
  · rintro (⟨a, ha, f, hf, e⟩ | ⟨k, hk, e⟩)
    · by_cases ea : a = i
      · subst ea
        obtain ⟨k, hk, rfl⟩ := mem_getD [] hf
        exact .inr ⟨k, hk, e⟩
      · exact .inl ⟨a, by omega, f, hf, e⟩
    · exact absurd hk (Nat.not_lt_zero _)
theorem ObI.add {F : List (List Int)} {i k : Nat} {l : List (Int × Int)} (h : ObI F i k l) : ObI F i (k + 1) (l ++ [((i : Int), (F.getD k []).getD i 0)]) := by
  refine ⟨fun q => ?_, by rw [List.length_append]; have := h.len; simp; omega⟩
  rw [List.mem_append, List.mem_singleton, h.mem q]
  constructor
  · rintro ((h1 | ⟨k', hk, e⟩) | e)
    · exact .inl h1
    · exact .inr ⟨k', by omega, e⟩
    · exact .inr ⟨k, by omega, e⟩
  · rintro (h1 | ⟨k', hk, e⟩)
    · exact .inl (.inl h1)
    · by_cases ek : k' = k
      · subst ek; exact .inr e
      · exact .inl (.inr ⟨k', by omega, e⟩)
theorem ObI.old {F : List (List Int)} {i k : Nat} {l : List (Int × Int)} (h : ObI F i k l) (hm : ∃ k', k' < k ∧ (F.getD k' []).getD i 0 = (F.getD k []).getD i 0) : ObI F i (k + 1) l := by
  obtain ⟨m, hmk, em⟩ := hm
  refine ⟨fun q => (h.mem q).trans ⟨?_, ?_⟩, by have := h.len; omega⟩
  · rintro (h1 | ⟨k', hk, e⟩)
    · exact .inl h1
    · exact .inr ⟨k', by omega, e⟩
  · rintro (h1 | ⟨k', hk, e⟩)
    · exact .inl h1
    · by_cases ek : k' = k
      · subst ek; exact .inr ⟨m, hmk, by rw [e, em]⟩
      · exact .inr ⟨k', by omega, e⟩
theorem MtI.add {F : List (List Int)} {i k z : Nat} {B : List Bool} (h : MtI F i k B) (hz : z < 32) (e : (F.getD k []).getD i 0 = (z : Int)) : MtI F i (k + 1) (B.set z true) := by
  refine ⟨by rw [List.length_set]; exact h.1, fun y hy => ?_⟩
  by_cases ey : y = z
  · subst ey
    rw [getD_set_eq (by rw [h.1]; exact hy)]
    exact ⟨fun _ => ⟨k, by omega, e⟩, fun _ => rfl⟩
  · rw [getD_set_ne (Ne.symm ey), h.2 y hy]
    constructor
    · rintro ⟨k', hk, e'⟩; exact ⟨k', by omega, e'⟩
    · rintro ⟨k', hk, e'⟩
      by_cases ek : k' = k
      · subst ek; omega
      · exact ⟨k', by omega, e'⟩
theorem MtI.old {F : List (List Int)} {i k z : Nat} {B : List Bool} (h : MtI F i k B) (hz : z < 32) (e : (F.getD k []).getD i 0 = (z : Int)) (hm : B.getD z false = true) : MtI F i (k + 1) B := by
  refine ⟨h.1, fun y hy => (h.2 y hy).trans ⟨fun ⟨k', hk, e'⟩ => ⟨k', by omega, e'⟩, fun ⟨k', hk, e'⟩ => ?_⟩⟩
  by_cases ek : k' = k
  · subst ek
    obtain rfl : y = z := by omega
    exact (h.2 y hy).1 hm
  · exact ⟨k', by omega, e'⟩
set_option maxHeartbeats 4000000 in
theorem gorb_fn (F : List (List Int)) (n : Nat) (h1 : 1 ≤ n) (h2 : n ≤ 32) (hF : pmsP F n) (hl : F.length ≤ 10) : QF 14 [.ro (.rows .i64 F), .int .i64 n] (.new (.ints .i64 (orbP n F))) := mkQ Tryz.func14 (by decide +kernel) rfl (Nat.le_of_ble_eq_true rfl) fun _ => by
  refine And.intro (fun h => absurd (show (n : Int) < 1 from h) (by omega)) (fun _ => ?_)
  refine And.intro (fun h => absurd (show 32 < (n : Int) from h) (by omega)) (fun _ => ?_)
  refine Or.inl (cq (gpms_fn F n) (And.intro rfl (And.intro rfl trivial)) ?_)
  refine And.intro (fun h => ?_) (fun _ => ?_)
  · have h : (!pmsB F n) = true := h
    rw [pmsB_true.2 hF] at h; cases h
  refine And.intro (by omega) ?_
  refine And.intro (by omega) ?_
  have hpm : ∀ f ∈ F, Perm n f := fun f hf => by
    have := hF f hf
    have e : f.length = n := by omega
    exact e ▸ this.2.perm
  refine Exists.intro [23] <| lp2 (fun (i : Nat) (_ : List (Int × Int)) => [(25, .int .i64 i), (5, .vec 23)]) (fun _ l => [(23, .vec 0 (.pairs l) [])]) (fun i l => i ≤ n ∧ ObI F i 0 l) (fun i _ => n - i) 0 [] ⟨Nat.zero_le _, ObI.start F⟩ (by repeat' first | refine And.intro ?_ ?_ | exact True.intro | (show (_ : Int) = (_ : Int); omega) | omega | exact rfl | (simp only [RO.len]; omega)) ?_
  rintro i l ⟨hi, hI⟩
  refine And.intro (fun h3 => ?_) (fun h3 => ?_)
  · have h3 : (i : Int) < (n : Int) := h3
    have hin : i < n := by omega
    refine Exists.intro [] <| lp3 (fun (k : Nat) (_ : List (Int × Int)) (_ : List Bool) => [(30, .int .i64 k), (5, .vec 23)]) (fun _ l B => [(23, .vec 0 (.pairs l) []), (7, .vec 0 (.bools B) [])]) (fun k l B => k ≤ F.length ∧ ObI F i k l ∧ MtI F i k B) (fun k _ _ => F.length - k) 0 l (List.replicate 32 false) ⟨Nat.zero_le _, hI, MtI.start F i⟩ (by repeat' first | refine And.intro ?_ ?_ | exact True.intro | (show (_ : Int) = (_ : Int); omega) | omega | exact rfl | (simp only [RO.len]; omega)) ?_
    rintro k l B ⟨hk, hO, hM⟩
    refine And.intro (fun h4 => ?_) (fun h4 => ?_)
    · have h4 : (k : Int) < (F.length : Int) := h4
      have hkl : k < F.length := by omega
      have hp := hpm _ (getD_mem (d := []) hkl)
      have hat := hp.at hin
      have hlen := hp.len
      have hB := hM.1
      have hol := hO.len
      have hmul : i * F.length ≤ 320 := Nat.le_trans (Nat.mul_le_mul (by omega : i ≤ 32) hl) (by omega)
      have him := hp.im hin
      have hlt : imN (F.getD k []) i < 32 := by omega
      have e0 : ((F.getD k []).getD i 0).toNat = imN (F.getD k []) i := rfl
      have hix : (0 : Int) = 0 ∧ (0 ≤ (F.getD k []).getD i 0 ∧ (F.getD k []).getD i 0 < ((32 : Nat) : Int)) ∧ (F.getD k []).getD i 0 < (B.length : Int) := ⟨rfl, by omega, by omega⟩
      refine And.intro (by omega) ?_
      refine And.intro (show 0 ≤ (i : Int) ∧ (i : Int) < ((F.getD k []).length : Int) by omega) ?_
      refine And.intro hix ?_
      refine And.intro (fun h5 => ?_) (fun h5 => ?_)
      · refine And.intro (show 0 ≤ (i : Int) ∧ (i : Int) < ((F.getD k []).length : Int) by omega) ?_
        refine And.intro hix ?_
        refine And.intro (by simp only [Int.toNat_natCast]; omega) ?_
        refine And.intro (show 0 ≤ (i : Int) ∧ (i : Int) < ((F.getD k []).length : Int) by omega) ?_
        refine And.intro (by simp; omega) ?_
        refine And.intro (by omega) ?_
        exact nx (k + 1, l ++ [((i : Int), (F.getD k []).getD i 0)], B.set (imN (F.getD k []) i) true) ⟨by omega, hO.add, hM.add hlt him.2⟩ (show F.length - (k + 1) < F.length - k by omega) (by repeat' first | refine And.intro ?_ ?_ | exact True.intro | (show (_ : Int) = (_ : Int); omega) | omega | exact rfl | (simp only [RO.len]; omega))
      · have h5 : (!B.getD (imN (F.getD k []) i) false) = false := h5
        have h5 : B.getD (imN (F.getD k []) i) false = true := by simpa using h5
        have hex : ∃ k', k' < k ∧ (F.getD k' []).getD i 0 = (F.getD k []).getD i 0 := by
          obtain ⟨k', hk', e⟩ := (hM.2 _ hlt).1 h5
          exact ⟨k', hk', by omega⟩
        refine And.intro (by omega) ?_
        exact nx (k + 1, l, B) ⟨by omega, hO.old hex, hM.old hlt him.2 h5⟩ (show F.length - (k + 1) < F.length - k by omega) (by repeat' first | refine And.intro ?_ ?_ | exact True.intro | (show (_ : Int) = (_ : Int); omega) | omega | exact rfl | (simp only [RO.len]; omega))
    · have h4 : (F.length : Int) ≤ (k : Int) := h4
      have hke : k = F.length := by omega
      subst hke
      refine And.intro (by omega) ?_
      exact nx (i + 1, l) ⟨by omega, hO.row⟩ (show n - (i + 1) < n - i by omega) (by repeat' first | refine And.intro ?_ ?_ | exact True.intro | (show (_ : Int) = (_ : Int); omega) | omega | exact rfl | (simp only [RO.len]; omega))
  · have h3 : (n : Int) ≤ (i : Int) := h3
    have hie : i = n := by omega
    subst hie
    have hW : inW i l := fun q hq => by
      rcases (hI.mem q).1 hq with ⟨a, ha, f, hf, rfl⟩ | ⟨k, hk, _⟩
      · have := (hpm f hf).at ha
        exact ⟨⟨by show 0 ≤ (a : Int); omega, by show (a : Int) < i; omega⟩, this⟩
      · exact absurd hk (Nat.not_lt_zero _)
    have he : eqP i (relP l) = orbP i F := by
      unfold orbP
      congr 1
      funext a b
      refine propext ⟨fun h => ?_, fun h => ?_⟩
      · rcases (hI.mem _).1 h with ⟨a', ha, f, hf, e⟩ | ⟨k, hk, _⟩
        · injection e with e1 e2
          obtain rfl : a = a' := by omega
          exact ⟨ha, f, hf, by have := ((hpm f hf).im ha).2; unfold imN; omega⟩
        · exact absurd hk (Nat.not_lt_zero _)
      · obtain ⟨ha, f, hf, rfl⟩ := h
        exact (hI.mem _).2 (.inl ⟨a, ha, f, hf, by rw [((hpm f hf).im ha).2]⟩)
    refine Or.inl (cq (fpairs_fn i (by omega) l (fun x hx => by have := hW x hx; exact ⟨this.1.1, this.1.2, this.2.1, this.2.2⟩)) (And.intro rfl (And.intro rfl trivial)) ?_)
    refine And.intro (And.intro (by omega) ?_) trivial
    exact congrArg (RO.ints .i64) ((pairs_eqP hW).trans he)
end Go.Proofs.YtjlkhjgnfnfmgaaGreat
end
section
/- Plain: orbits by group elements, and how many of them fix a point. -/
namespace Go.Proofs.YtjlkhjgnfnfmgaaGreat
open Go Go.AM
section
variable {n : Nat} {G : List (List Int)}
theorem im_dis {a : Nat} (ha : a < n) : imN (disI n) a = a := by unfold imN; rw [disI_get ha]; rfl
theorem im_cmp {f g : List Int} {a : Nat} (hf : Perm n f) (ha : a < n) : imN (cmpP f g) a = imN g (imN f a) := by
  unfold imN; rw [cmpP_get (by rw [hf.len]; exact ha)]
theorem im_inj {f : List Int} (hf : Perm n f) {a b : Nat} (ha : a < n) (hb : b < n) (e : imN f a = imN f b) : a = b := by
  refine nodup_inj hf.nd (by rw [hf.len]; exact ha) (by rw [hf.len]; exact hb) ?_
  rw [(hf.im ha).2, (hf.im hb).2, e]
theorem perm_ext {f g : List Int} (hf : Perm n f) (hg : Perm n g) (h : ∀ a, a < n → imN f a = imN g a) : f = g := by
  refine ext_getD 0 (by rw [hf.len, hg.len]) fun i hi => ?_
  have hi : i < n := by rw [← hf.len]; exact hi
  rw [(hf.im hi).2, (hg.im hi).2, h i hi]
theorem cmp_injR {f g h : List Int} (hf : Perm n f) (hg : Perm n g) (hh : Perm n h) (e : cmpP g f = cmpP g h) : f = h := by
  have hsur : ∀ b, b < n → ∃ a, a < n ∧ imN g a = b := fun b hb => by
    have hb' : (b : Int) ∈ disI n := mem_disI.2 ⟨by omega, by omega⟩
    have := sub_all hg.nd (B := disI n) (fun x hx => mem_disI.2 (hg.rng x hx)) (by rw [hg.len, disI_len]; exact Nat.le_refl _) _ hb'
    obtain ⟨i, hi, e⟩ := mem_getD 0 this
    exact ⟨i, by rw [← hg.len]; exact hi, by unfold imN; rw [e]; rfl⟩
  refine perm_ext hf hh fun b hb => ?_
  obtain ⟨a, ha, rfl⟩ := hsur b hb
  rw [← im_cmp hg ha, ← im_cmp hg ha, e]
theorem grp_nd : (grpL n G).Nodup := grp_srt.nodup cmpL_tot
theorem Wd.inv (hG : ∀ g ∈ G, Perm n g) {g : List Int} (hg : Wd n G g) : ∃ h, Wd n G h ∧ cmpP g h = disI n := by
  have hnd : ((grpL n G).map (cmpP g)).Nodup := by
    refine List.pairwise_map.2 (grp_nd.imp_of_mem fun {a b} ha hb hab e => hab ?_)
    exact cmp_injR ((mem_grp hG).1 ha |>.perm hG) (hg.perm hG) ((mem_grp hG).1 hb |>.perm hG) e
  have hall := sub_all hnd (B := grpL n G) (fun x hx => by
    obtain ⟨h, hh, rfl⟩ := List.mem_map.1 hx
    exact (mem_grp hG).2 (hg.cmp hG ((mem_grp hG).1 hh))) (by rw [List.length_map]; exact Nat.le_refl _) (disI n) ((mem_grp hG).2 .one)
  obtain ⟨h, hh, e⟩ := List.mem_map.1 hall
  exact ⟨h, (mem_grp hG).1 hh, e⟩
theorem inv_im (hG : ∀ g ∈ G, Perm n g) {g h : List Int} (hg : Wd n G g) {a : Nat} (ha : a < n) (e : cmpP g h = disI n) : imN h (imN g a) = a := by
  rw [← im_cmp (hg.perm hG) ha, e, im_dis ha]
theorem wd_orb (hG : ∀ g ∈ G, Perm n g) {g : List Int} (hg : Wd n G g) : ∀ x, x < n → Eg (OrR n G) x (imN g x) := by
  induction hg with
  | one => exact fun x hx => by rw [im_dis hx]; exact .refl _
  | mul h1 h2 ih =>
    intro x hx
    rw [im_cmp (h1.perm hG) hx]
    exact (ih x hx).trans (.rel ⟨((h1.perm hG).im hx).1, _, h2, rfl⟩)
theorem orb_iff (hG : ∀ g ∈ G, Perm n g) {x y : Nat} (hx : x < n) (hy : y < n) : Eg (OrR n G) x y ↔ ∃ g, Wd n G g ∧ imN g x = y := by
  constructor
  · intro e
    have key := e.least (Q := fun a b => a = b ∨ (a < n ∧ b < n ∧ ∃ g, Wd n G g ∧ imN g a = b)) (fun _ => .inl rfl) (fun a b h => h.elim (fun e => .inl e.symm) fun ⟨ha, hb, g, hg, e⟩ => by
      obtain ⟨h, hh, e2⟩ := hg.inv hG
      exact .inr ⟨hb, ha, h, hh, by rw [← e]; exact inv_im hG hg ha e2⟩) (fun a b c h h' => by
      rcases h with rfl | ⟨ha, hb, g, hg, e⟩
      · exact h'
      · rcases h' with rfl | ⟨_, hc, g', hg', e'⟩
        · exact .inr ⟨ha, hb, g, hg, e⟩
        · exact .inr ⟨ha, hc, _, hg.cmp hG hg', by rw [im_cmp (hg.perm hG) ha, e, e']⟩) (fun a b ⟨ha, f, hf, e⟩ => .inr ⟨ha, by rw [e]; exact ((hG f hf).im ha).1, f, .gen hG hf, e.symm⟩)
    rcases key with rfl | ⟨_, _, h⟩
    · exact ⟨disI n, .one, im_dis hx⟩
    · exact h
  · rintro ⟨g, hg, rfl⟩
    exact wd_orb hG hg x hx
def mvB (x z : Nat) (g : List Int) : Bool := decide (imN g x = z)
theorem mv_fix (hG : ∀ g ∈ G, Perm n g) {x z : Nat} (hx : x < n) {h : List Int} (hh : Wd n G h) (e : imN h x = z) : ((grpL n G).filter (mvB x z)).length = ((grpL n G).filter (mvB x x)).length := by
  obtain ⟨k, hk, e2⟩ := hh.inv hG
  have back : imN k z = x := by rw [← e]; exact inv_im hG hh hx e2
  have mono : ∀ {a b : Nat} {s : List Int}, Wd n G s → imN s a = b → imN s a = b → ((grpL n G).filter (mvB x a)).length ≤ ((grpL n G).filter (mvB x b)).length := fun {a b s} hs e _ => by
    have hnd : (((grpL n G).filter (mvB x a)).map fun g => cmpP g s).Nodup := by
      refine List.pairwise_map.2 ((grp_nd.filter _).imp_of_mem fun {p q} hp hq hpq e3 => hpq ?_)
      have hp := ((mem_grp hG).1 (List.mem_filter.1 hp).1).perm hG
      have hq := ((mem_grp hG).1 (List.mem_filter.1 hq).1).perm hG
      refine perm_ext hp hq fun c hc => im_inj (hs.perm hG) ((hp.im hc).1) ((hq.im hc).1) ?_
      rw [← im_cmp hp hc, ← im_cmp hq hc, e3]
    have := nodup_sub hnd (B := (grpL n G).filter (mvB x b)) fun y hy => by
      obtain ⟨g, hg, rfl⟩ := List.mem_map.1 hy
      have hg := List.mem_filter.1 hg
      have hgw := (mem_grp hG).1 hg.1
      refine List.mem_filter.2 ⟨(mem_grp hG).2 (hgw.cmp hG hs), decide_eq_true ?_⟩
      rw [im_cmp (hgw.perm hG) hx, of_decide_eq_true hg.2, e]
    rw [List.length_map] at this; exact this
  exact Nat.le_antisymm (mono hk back back) (mono hh e e)
end
def sumN (f : Nat → Nat) : Nat → Nat
  | 0 => 0 | n + 1 => sumN f n + f n
theorem len_split {α : Type} (φ : α → Nat) (n : Nat) : ∀ l : List α, (∀ a ∈ l, φ a < n + 1) → l.length = (l.filter fun a => decide (φ a < n)).length + (l.filter fun a => decide (φ a = n)).length
  | [], _ => rfl
  | a :: l, h => by
    have ih := len_split φ n l fun b hb => h b (List.mem_cons_of_mem _ hb)
    have ha := h a (List.mem_cons_self ..)
    simp only [List.filter_cons, List.length_cons]
    by_cases e : φ a = n
    · rw [if_neg (by simp; omega), if_pos (by simpa using e), List.length_cons]; omega
    · rw [if_pos (by simp; omega), if_neg (by simpa using e), List.length_cons]; omega
theorem sum_filter {α : Type} (φ : α → Nat) : ∀ (n : Nat) (l : List α), (∀ a ∈ l, φ a < n) → l.length = sumN (fun z => (l.filter fun a => decide (φ a = z)).length) n
  | 0, l, h => by
    cases l with
    | nil => rfl
    | cons a l => exact absurd (h a (List.mem_cons_self ..)) (Nat.not_lt_zero _)
  | n + 1, l, h => by
    have hsplit := len_split φ n l h
    have ih := sum_filter φ n (l.filter fun a => decide (φ a < n)) fun a ha => of_decide_eq_true (List.mem_filter.1 ha).2
    have hc : ∀ m, m ≤ n → sumN (fun z => ((l.filter fun a => decide (φ a < n)).filter fun a => decide (φ a = z)).length) m = sumN (fun z => (l.filter fun a => decide (φ a = z)).length) m := fun m => by
      induction m with
      | zero => exact fun _ => rfl
      | succ m ihm =>
        intro hm
        show _ + _ = _ + _
        rw [ihm (by omega)]
        congr 1
        show ((l.filter fun a => decide (φ a < n)).filter fun a => decide (φ a = m)).length = (l.filter fun a => decide (φ a = m)).length
        rw [List.filter_filter]
        congr 1
        refine List.filter_congr fun a _ => ?_
        by_cases e : φ a = m
        · rw [decide_eq_true e, decide_eq_true (show φ a < n by omega)]; rfl
        · rw [decide_eq_false e]; rfl
    show l.length = sumN _ n + _
    rw [← hc n (Nat.le_refl _), ← ih]; exact hsplit
def cntN (p : Nat → Bool) : Nat → Nat
  | 0 => 0 | n + 1 => cntN p n + (match p n with | true => 1 | false => 0)
theorem sum_two (f : Nat → Nat) (p : Nat → Bool) (k : Nat) : ∀ n, (∀ z, z < n → p z = true → f z = k) → (∀ z, z < n → p z = false → f z = 0) → sumN f n = cntN p n * k
  | 0, _, _ => by simp [sumN, cntN]
  | n + 1, h1, h2 => by
    have ih := sum_two f p k n (fun z hz => h1 z (by omega)) fun z hz => h2 z (by omega)
    show sumN f n + f n = (cntN p n + _) * k
    rw [ih, Nat.add_mul]
    cases hp : p n with
    | true => rw [h1 n (by omega) hp]; simp
    | false => rw [h2 n (by omega) hp]; simp
theorem orb_stab {n : Nat} {G : List (List Int)} (hG : ∀ g ∈ G, Perm n g) {x : Nat} (hx : x < n) (p : Nat → Bool) (hp : ∀ z, z < n → (p z = true ↔ Eg (OrR n G) x z)) :
    (grpL n G).length = cntN p n * ((grpL n G).filter (mvB x x)).length := by
  rw [sum_filter (fun g => imN g x) n (grpL n G) fun g hg => ((((mem_grp hG).1 hg).perm hG).im hx).1]
  refine sum_two _ p _ n (fun z hz h => ?_) fun z hz h => ?_
  · obtain ⟨g, hg, e⟩ := (orb_iff hG hx hz).1 ((hp z hz).1 h)
    exact mv_fix hG hx hg e
  · refine List.length_eq_zero_iff.2 (List.filter_eq_nil_iff.2 fun g hg e => ?_)
    have := (hp z hz).2 ((orb_iff hG hx hz).2 ⟨g, (mem_grp hG).1 hg, of_decide_eq_true e⟩)
    rw [h] at this; cases this
end Go.Proofs.YtjlkhjgnfnfmgaaGreat
end
