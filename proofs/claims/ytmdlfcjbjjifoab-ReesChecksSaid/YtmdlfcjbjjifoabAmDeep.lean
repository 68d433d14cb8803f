/- The abstract machine: rows that are owned one by one: taken out, and put back. -/
import Derived.Test.YtmdlfcjbjjifoabAmLoud
import Derived.Laws.CopyRow
namespace Go.AM
open Go

theorem nb_ne {a b : Nat} (h : nb a b = true) : a ≠ b := fun e => by subst e; simp [nb] at h

/-- Whatever is named under ρ reads the same under ρ'. -/
structure View (ρ ρ' : Env) : Prop where
  sli : ∀ j o, (ρ j).bind Own.sli = some o → (ρ' j).bind Own.sli = some o
  ref : ∀ j off v, (ρ j).bind (Own.ref · off) = some v → (ρ' j).bind (Own.ref · off) = some v

section
variable {P : Program} {TY : List TyE} {M0 : Base} {w0 w : World} {ρ ρ' : Env} {M : Msk} {S S0 : Store} {d : Nat}

theorem RepC.view (hv : View ρ ρ') {a : AV} {v : Value} (h : RepC ρ w M a v) : RepC ρ' w M a v := by
  cases a with
  | vec k => obtain ⟨o, h1, h2⟩ := h; exact ⟨o, hv.sli _ _ h1, h2⟩
  | ptr k off => exact hv.ref _ _ _ h
  | vptr k i => obtain ⟨o, b, h1, h2⟩ := h; exact ⟨o, b, hv.sli _ _ h1, h2⟩
  | fn f l => cases l <;> exact h
  | _ => exact h
theorem RepG.view (hv : View ρ ρ') {a : AV} {v : Value} (h : RepG ρ w M a v) : RepG ρ' w M a v := by
  cases a with
  | agg l => obtain ⟨cs, h1, h2⟩ := h; exact ⟨cs, h1, h2.imp fun _ _ => RepC.view hv⟩
  | any => trivial
  | _ => simp only [RepG] at h ⊢; exact RepC.view hv h
theorem RepT.view (hv : View ρ ρ') {a : AV} {v : Value} (h : RepT ρ w M a v) : RepT ρ' w M a v := by
  cases a with
  | agg l => obtain ⟨cs, h1, h2⟩ := h; exact ⟨cs, h1, h2.imp fun _ _ => RepC.view hv⟩
  | tup l => obtain ⟨cs, h1, h2⟩ := h; exact ⟨cs, h1, h2.imp fun _ _ => RepG.view hv⟩
  | fn f l => obtain ⟨cs, h1, h2⟩ := h; exact ⟨cs, h1, h2.imp fun _ _ => RepC.view hv⟩
  | any => trivial
  | _ => simp only [RepT] at h ⊢; exact RepC.view hv h

theorem VecH.view (hv : View ρ ρ') {o : Sl} {wm : Nat} {r : RO} {ov : List (Int × Nat)} (h : VecH ρ w M o wm r ov) : VecH ρ' w M o wm r ov := by
  obtain ⟨h3, h4, h5, h6, h7⟩ := h
  refine ⟨h3, h4, h5, h6, ?_⟩
  cases hbl : o.blk with
  | none => simp only [hbl] at h7 ⊢; exact h7
  | some b =>
    simp only [hbl] at h7 ⊢
    obtain ⟨h8, cs, ty, h9, h10, h12, h13⟩ := h7
    refine ⟨h8, cs, ty, h9, h10, h12, fun q hq => ?_⟩
    obtain ⟨c, h14, h15⟩ := h13 q hq
    refine ⟨c, h14, ?_⟩
    split
    · exact h15
    · simp only at h15
      split at h15
      · rename_i he; simp only [he, if_true]; exact RepC.view hv h15
      · rename_i he; simp only [he, if_false]; exact h15

theorem VecH.env {o : Sl} {wm : Nat} {r : RO} (h : VecH ρ w M o wm r []) : VecH ρ' w M o wm r [] :=
  VecH.ext0 (Keep.refl _ _) (fun _ _ => ⟨rfl, fun _ => Iff.rfl⟩) h

theorem BlkH.view (hv : View ρ ρ') {k : Nat} (hk : ρ' k = ρ k) {B : Blk} (h : BlkH ρ w M k B) : BlkH ρ' w M k B := by
  cases B with
  | box l => obtain ⟨b, h2, cs, ty, h3, h4, h5⟩ := h; exact ⟨b, by rw [hk]; exact h2, cs, ty, h3, h4, h5.imp fun _ _ => RepC.view hv⟩
  | map kd vk m => obtain ⟨b, h2, h3⟩ := h; exact ⟨b, by rw [hk]; exact h2, h3⟩
  | deep r hole => obtain ⟨o, rows, h2, h3⟩ := h; exact ⟨o, rows, by rw [hk]; exact h2, h3⟩
  | vec wm r ov => obtain ⟨⟨o, h2, h3⟩, hov⟩ := h; exact ⟨⟨o, by rw [hk]; exact h2, h3.view hv⟩, hov⟩

theorem getD_set_sl (rows : List Sl) (i q : Nat) (x : Sl) : (rows.set i x).getD q nilSl = if q = i ∧ i < rows.length then x else rows.getD q nilSl := by
  simp only [List.getD, List.getElem?_set]
  by_cases h : i = q
  · subst h
    by_cases hl : i < rows.length
    · simp [hl]
    · simp [hl, List.getElem?_eq_none (Nat.le_of_not_lt hl)]
  · simp [h, Ne.symm h]

theorem rowK_iff {r : RO} {i : Int} {K : RO → Prop} (h : rowK r i K) : K (r.row i.toNat) := by cases r <;> first | exact h | exact h.elim

theorem setRow_rows {r s : RO} {i : Int} {K : RO → Prop} (h : setRow r i s K) : ∃ r', K r' ∧ r'.len = r.len ∧ rowsQ r' = true ∧ (i.toNat < r.len → r'.row i.toNat = s) ∧ ∀ q, q ≠ i.toNat → r'.row q = r.row q := by
  cases r <;> cases s <;> try exact h.elim
  case rows.ints k l k' m =>
    simp only [setRow, ifK_iff] at h
    obtain ⟨hk, h⟩ := h
    obtain rfl := kq_eq hk
    exact ⟨_, h, by simp [RO.len], rfl, fun hi => by simp only [RO.len] at hi; simp only [RO.row, getD_set _ _ _ _ _ hi, if_true], fun q hq => by
      simp only [RO.row, List.getD, List.getElem?_set_ne (Ne.symm hq)]⟩
  case brows.bools l m =>
    exact ⟨_, h, by simp [RO.len], rfl, fun hi => by simp only [RO.len] at hi; simp only [RO.row, getD_set _ _ _ _ _ hi, if_true], fun q hq => by
      simp only [RO.row, List.getD, List.getElem?_set_ne (Ne.symm hq)]⟩
  case rows3.rows l k' m =>
    cases k' <;> try exact h.elim
    exact ⟨_, h, by simp [RO.len], rfl, fun hi => by simp only [RO.len] at hi; simp only [RO.row, getD_set _ _ _ _ _ hi, if_true], fun q hq => by
      simp only [RO.row, List.getD, List.getElem?_set_ne (Ne.symm hq)]⟩

/-- A row is taken out. -/
theorem St.takeRow {k d : Nat} {r : RO} {i : Int} {S' : Store} {o : Sl} {rows : List Sl} (st : St M0 w0 ρ M S w) (hd : findS S d = none) (hloc : loc d = true) (hlk : loc k = true) (hρ : ρ k = some (.dp o rows)) (hD : DeepH w M o rows r none) (hi : 0 ≤ i ∧ i < r.len)
    (hf : findS S k = some (.deep r none)) (hS : ∀ j, findS S' j = if j = d then some (.vec 0 (r.row i.toNat) []) else if j = k then some (.deep r (some i)) else findS S j) :
    ∃ ρ', St M0 w0 ρ' M S' w ∧ View ρ ρ' ∧ RepC ρ' w M (.vec d) (rows.getD i.toNat nilSl).val := by
  have hil : i.toNat < r.len := by omega
  have hρd : ρ d = none := by
    have := st.dom d; rw [hd] at this
    cases h : ρ d with | none => rfl | some o => rw [h] at this; cases this
  have hdk : d ≠ k := fun e => by subst e; rw [hρ] at hρd; cases hρd
  let ρ' : Env := fun j => if j = d then some (.sl (rows.getD i.toNat nilSl)) else if j = k then some (.dp o (rows.set i.toNat nilSl)) else ρ j
  have e1 : ρ' d = some (.sl (rows.getD i.toNat nilSl)) := by simp [ρ']
  have e2 : ρ' k = some (.dp o (rows.set i.toNat nilSl)) := by simp [ρ', Ne.symm hdk]
  have e3 : ∀ j, j ≠ d → j ≠ k → ρ' j = ρ j := fun j h1 h2 => by simp [ρ', h1, h2]
  have hv : View ρ ρ' := ⟨fun j o' h => by
      by_cases hj : j = d
      · subst hj; rw [hρd] at h; cases h
      · by_cases hjk : j = k
        · subst hjk; rw [of_dp hρ] at h; rw [of_dp e2]; exact h
        · rw [e3 j hj hjk]; exact h, fun j off v h => by
      by_cases hj : j = d
      · subst hj; rw [hρd] at h; cases h
      · by_cases hjk : j = k
        · subst hjk; rw [hρ] at h; cases h
        · rw [e3 j hj hjk]; exact h⟩
  have hget : ∀ q, (rows.set i.toNat nilSl).getD q nilSl = if q = i.toNat then nilSl else rows.getD q nilSl := fun q => by
    rw [getD_set_sl]
    by_cases hq : q = i.toNat
    · simp [hq, hD.rlen, hil]
    · simp [hq]
  have own : ∀ j b, hasB ρ' j b → (j = d ∧ (rows.getD i.toNat nilSl).blk = some b) ∨ (j = k ∧ (o.blk = some b ∨ ∃ q, q ≠ i.toNat ∧ (rows.getD q nilSl).blk = some b)) ∨ (j ≠ d ∧ j ≠ k ∧ hasB ρ j b) := fun j b h => by
    by_cases hj : j = d
    · subst hj; simp only [hasB, e1, Own.has] at h; exact .inl ⟨rfl, h⟩
    · by_cases hjk : j = k
      · subst hjk
        simp only [hasB, e2, Own.has] at h
        refine .inr (.inl ⟨rfl, h.imp id fun ⟨q, hq⟩ => ⟨q, ?_⟩⟩)
        rw [hget] at hq
        split at hq
        · cases hq
        · rename_i hne; exact ⟨hne, hq⟩
      · simp only [hasB, e3 j hj hjk] at h; exact .inr (.inr ⟨hj, hjk, h⟩)
  have toK : ∀ b, (o.blk = some b ∨ ∃ q, (rows.getD q nilSl).blk = some b) → hasB ρ k b := fun b h => by simp only [hasB, hρ]; exact h
  have old : ∀ j b, hasB ρ' j b → ∃ j', hasB ρ j' b := fun j b h => by
    rcases own j b h with ⟨_, h⟩ | ⟨_, h | ⟨q, _, h⟩⟩ | ⟨_, _, h⟩
    · exact ⟨k, toK b (.inr ⟨_, h⟩)⟩
    · exact ⟨k, toK b (.inl h)⟩
    · exact ⟨k, toK b (.inr ⟨q, h⟩)⟩
    · exact ⟨j, h⟩
  refine ⟨ρ', ⟨fun j => ?_, fun j B hB => ?_, fun j j' b hj hj' => ?_, st.mlt, st.stp, st.sub, st.old, fun j b h => ?_, fun j o' hl ho => ?_⟩, hv, ⟨_, of_sl e1, rfl⟩⟩
  · rw [hS j]
    by_cases hj : j = d
    · simp [hj, e1]
    · by_cases hjk : j = k
      · simp [hjk, e2, Ne.symm hdk]
      · simp [hj, hjk, e3 j hj hjk, st.dom j]
  · rw [hS j] at hB
    by_cases hj : j = d
    · simp only [hj, if_true, Option.some.injEq] at hB
      subst hB; subst hj
      exact ⟨⟨_, e1, (hD.row _ hil (by simp)).env⟩, .inl rfl⟩
    · by_cases hjk : j = k
      · subst hjk
        simp only [hj, if_false, if_true, Option.some.injEq] at hB
        subst hB
        refine ⟨o, _, e2, hD.rq, hD.len, hD.osz, hD.lb, by simp [hD.rlen], ?_, fun q hq hh => ?_, fun x hx => ?_, fun q b h => ?_, fun q q' b h h' => ?_⟩
        · have h7 := hD.outer
          cases hb : o.blk with
          | none => simp only [hb] at h7 ⊢; exact h7
          | some b =>
            simp only [hb] at h7 ⊢
            obtain ⟨h8, cs, ty, h9, h10, h12, h13⟩ := h7
            refine ⟨h8, cs, ty, h9, h10, h12, fun q hq => ?_⟩
            obtain ⟨c, h14, h15⟩ := h13 q hq
            refine ⟨c, h14, ?_⟩
            rw [hget]
            by_cases hqi : q = i.toNat
            · exact .inl (by rw [hqi]; congr 1; omega)
            · simp only [hqi, if_false]
              exact .inr (h15.resolve_left (by simp))
        · rw [hget, if_neg (fun e => hh (by rw [e]; congr 1; omega))]
          exact hD.row q hq (by simp)
        · cases hx; exact ⟨hi, by rw [hget]; simp [nilSl]⟩
        · rw [hget] at h
          split at h
          · cases h
          · exact hD.out q b h
        · rw [hget] at h h'
          split at h
          · cases h
          · split at h'
            · cases h'
            · exact hD.apart q q' b h h'
      · simp only [hj, hjk, if_false] at hB
        exact (st.blk j B hB).view hv (e3 j hj hjk)
  · rcases own j b hj with ⟨g1, g2⟩ | ⟨g1, g2⟩ | ⟨g1, g1', g2⟩ <;> rcases own j' b hj' with ⟨g3, g4⟩ | ⟨g3, g4⟩ | ⟨g3, g3', g4⟩
    · rw [g1, g3]
    · rcases g4 with g4 | ⟨q, g4, g5⟩
      · exact absurd g4 (hD.out _ _ g2)
      · exact absurd (hD.apart _ _ _ g5 g2) g4
    · exact absurd (st.inj _ _ _ g4 (toK b (.inr ⟨_, g2⟩))) g3'
    · rcases g2 with g2 | ⟨q, g2, g5⟩
      · exact absurd g2 (hD.out _ _ g4)
      · exact absurd (hD.apart _ _ _ g5 g4) g2
    · rw [g1, g3]
    · exact absurd (st.inj _ _ _ g4 (toK b (g2.imp id fun ⟨q, _, h⟩ => ⟨q, h⟩))) g3'
    · exact absurd (st.inj _ _ _ g2 (toK b (.inr ⟨_, g4⟩))) g1'
    · exact absurd (st.inj _ _ _ g2 (toK b (g4.imp id fun ⟨q, _, h⟩ => ⟨q, h⟩))) g1'
    · exact st.inj _ _ _ g2 g4
  · obtain ⟨j', h'⟩ := old j b h
    exact st.fresh j' b h'
  · by_cases hj : j = d
    · subst hj; rw [hloc] at hl; cases hl
    · by_cases hjk : j = k
      · subst hjk; rw [hlk] at hl; cases hl
      · rw [e3 j hj hjk] at ho; exact st.pin j o' hl ho

/-- A key is forgotten; what it owned is nobody's from there on. -/
theorem garb_sound {k : Nat} {T : List AV} {a : Act} {K : List AV → Store → Prop}
    (h : delS S k fun S => sweepT k .any T fun T => sweepS k .any S fun S => K T S) (st : St M0 w0 ρ M S w) (tm : Tm ρ w M T a) :
    ∃ T' S', K T' S' ∧ St M0 w0 (dropE ρ k) M S' w ∧ Tm (dropE ρ k) w M T' a ∧ T'.length = T.length ∧ findS S' k = none := by
  obtain ⟨S1, h1, hS1⟩ := del_store h
  obtain ⟨T', h2, hlen, hT⟩ := sweepT_sound h1
  obtain ⟨S', h3, hS'⟩ := sweepS_sound h2
  have hconv : Conv k .any ρ w M (dropE ρ k) w M := ⟨Keep.refl _ _, fun j hj o ho => by simpa [dropE, hj] using ho, fun v hv => RepC.isCell hv⟩
  have hnone : findS S' k = none := by
    have := hS' k
    rw [hS1 k] at this; simpa using this
  have hb : ∀ x b, hasB (dropE ρ k) x b → hasB ρ x b := fun x b hx => by
    by_cases hxk : x = k
    · subst hxk; simp [hasB, dropE] at hx
    · simpa [hasB, dropE, hxk] using hx
  refine ⟨T', S', h3, ⟨fun j => ?_, fun j B hB => ?_, fun i j b hi hj => st.inj _ _ _ (hb _ _ hi) (hb _ _ hj), st.mlt, st.stp, st.sub, st.old, fun x b hx => st.fresh x b (hb _ _ hx), fun x o hx ho => ?_⟩,
    ⟨tm.defers, by rw [hlen]; exact tm.size, fun i => hT _ _ _ _ _ _ hconv (fun v hv => ⟨trivial, trivial⟩) i _ (tm.tmp i)⟩, hlen, hnone⟩
  · by_cases hj : j = k
    · subst hj; simp [dropE, hnone]
    · have := hS' j
      rw [hS1 j] at this
      simp only [hj, if_false] at this
      simp only [dropE, hj, if_false, st.dom j]
      cases hf : findS S j with
      | none => simp only [hf] at this; simp [this]
      | some B => simp only [hf] at this; obtain ⟨B', h4, _⟩ := this; simp [h4]
  · have hj : j ≠ k := fun e => by subst e; rw [hnone] at hB; cases hB
    have := hS' j
    rw [hS1 j] at this
    simp only [hj, if_false] at this
    cases hf : findS S j with
    | none => simp only [hf] at this; rw [this] at hB; cases hB
    | some B0 =>
      simp only [hf] at this
      obtain ⟨B', h4, h5⟩ := this
      rw [h4] at hB; cases hB
      exact h5 ρ w M _ _ j hconv (by simp [dropE, hj]) (fun b hb off => Iff.rfl) (st.blk j B0 hf)
  · by_cases hxk : x = k
    · subst hxk; simp [dropE] at ho
    · exact st.pin x o hx (by simpa [dropE, hxk] using ho)

/-- A row goes into the hole. -/
theorem St.putRow {k b : Nat} {r r' s : RO} {i : Int} {S' : Store} {o oh : Sl} {rows : List Sl} {cs cs' : Array Value} {ty : TypeId} (st : St M0 w0 ρ M S w) (hlk : loc k = true) (hρ : ρ k = some (.dp o rows)) (hD : DeepH w M o rows r (some i))
    (hV : VecH noEnv w M oh 0 s []) (hfree : ∀ b, oh.blk = some b → ∀ j, ¬ hasB ρ j b) (hfr : ∀ b, oh.blk = some b → w0.heap.size ≤ b ∨ M0.lent b)
    (hr1 : r'.len = r.len) (hr2 : rowsQ r' = true) (hr3 : r'.row i.toNat = s) (hr4 : ∀ q, q ≠ i.toNat → r'.row q = r.row q)
    (hS : ∀ j, findS S' j = if j = k then some (.deep r' none) else findS S j) (hSk : (findS S k).isSome)
    (hob : o.blk = some b) (hcs : w.heap[b]? = some (.cells cs ty (0, 0))) (hsz : cs'.size = cs.size) (hc : ∀ q, cs'[q]? = if q = i.toNat then some oh.val else cs[q]?) :
    ∃ ρ', St M0 w0 ρ' M S' (w.setRow b cs') ∧ View ρ ρ' ∧ Keep w M (w.setRow b cs') M := by
  obtain ⟨hi, hhol⟩ := hD.hol i rfl
  have hil : i.toNat < r.len := by omega
  have hMb : ∀ off, M b off ↔ off < cs.size := by
    have h7 := hD.outer
    simp only [hob] at h7
    obtain ⟨h8, cs0, ty0, h9, h10, h12, h13⟩ := h7
    rw [hcs] at h9; cases h9
    exact h12
  have hio : i.toNat < cs.size := by
    have h7 := hD.outer
    simp only [hob] at h7
    obtain ⟨h8, cs0, ty0, h9, h10, h12, h13⟩ := h7
    rw [hcs] at h9; cases h9
    have := hD.len; omega
  have hbk : hasB ρ k b := by simp [hasB, hρ, Own.has, hob]
  have hstp : Stp (fun b' off => b' = b ∧ M b' off) w (w.setRow b cs') := by
    refine ⟨by simp [World.setRow], fun b' hb' => ?_, rfl, rfl⟩
    by_cases he : b' = b
    · subst he
      refine .inr (.inl ⟨cs, cs', ty, hcs, setRow_heap w b' cs cs' ty _ hcs, hsz, fun off hn => ?_⟩)
      rw [hc off, if_neg]
      rintro rfl
      exact hn ⟨rfl, (hMb _).2 hio⟩
    · exact .inl (setRow_other w b b' cs' he)
  have hk : Keep w M (w.setRow b cs') M := (hstp.weaken (M2 := M) fun b' off h => h.2).keep fun b off _ h => h
  let ρ' : Env := fun j => if j = k then some (.dp o (rows.set i.toNat oh)) else ρ j
  have e2 : ρ' k = some (.dp o (rows.set i.toNat oh)) := by simp [ρ']
  have e3 : ∀ j, j ≠ k → ρ' j = ρ j := fun j h2 => by simp [ρ', h2]
  have hv : View ρ ρ' := ⟨fun j o' h => by
      by_cases hjk : j = k
      · subst hjk; rw [of_dp hρ] at h; rw [of_dp e2]; exact h
      · rw [e3 j hjk]; exact h, fun j off v h => by
      by_cases hjk : j = k
      · subst hjk; rw [hρ] at h; cases h
      · rw [e3 j hjk]; exact h⟩
  have hget : ∀ q, (rows.set i.toNat oh).getD q nilSl = if q = i.toNat then oh else rows.getD q nilSl := fun q => by
    rw [getD_set_sl]
    by_cases hq : q = i.toNat
    · simp [hq, hD.rlen, hil]
    · simp [hq]
  have hne : ∀ q b', q ≠ i.toNat → (rows.getD q nilSl).blk = some b' → b' ≠ b := fun q b' _ h e => hD.out q b' h (e ▸ hob)
  have ohne : oh.blk ≠ some b := fun e => hfree b e k hbk
  have own : ∀ j b', hasB ρ' j b' → (j = k ∧ (oh.blk = some b' ∨ hasB ρ k b')) ∨ (j ≠ k ∧ hasB ρ j b') := fun j b' h => by
    by_cases hjk : j = k
    · subst hjk
      simp only [hasB, e2, Own.has] at h
      refine .inl ⟨rfl, ?_⟩
      rcases h with h | ⟨q, h⟩
      · exact .inr (by simp only [hasB, hρ]; exact .inl h)
      · rw [hget] at h
        split at h
        · exact .inl h
        · exact .inr (by simp only [hasB, hρ]; exact .inr ⟨q, h⟩)
    · simp only [hasB, e3 j hjk] at h; exact .inr ⟨hjk, h⟩
  have rowK : ∀ {o' : Sl} {s' : RO}, o'.blk ≠ some b → VecH noEnv w M o' 0 s' [] → VecH noEnv (w.setRow b cs') M o' 0 s' [] := fun {o' s'} hne h =>
    h.ext0 hk fun b' hb' => ⟨setRow_other w b b' cs' fun e => hne (e ▸ hb'), fun _ => Iff.rfl⟩
  refine ⟨ρ', ⟨fun j => ?_, fun j B hB => ?_, fun j j' b' hj hj' => ?_, fun b' off hm => Nat.lt_of_lt_of_le (st.mlt b' off hm) hstp.1, ?_, st.sub, st.old, fun j b' h => ?_, fun j o' hl ho => ?_⟩, hv, hk⟩
  · rw [hS j]
    by_cases hjk : j = k
    · simp [hjk, e2]
    · simp [hjk, e3 j hjk, st.dom j]
  · rw [hS j] at hB
    by_cases hjk : j = k
    · subst hjk
      simp only [if_true, Option.some.injEq] at hB
      subst hB
      refine ⟨o, _, e2, hr2, by rw [hr1]; exact hD.len, hD.osz, by rw [hr1]; exact hD.lb, by simp [hD.rlen, hr1], ?_, fun q hq hh => ?_, fun x hx => by (cases hx), fun q b' h => ?_, fun q q' b' h h' => ?_⟩
      · have h7 := hD.outer
        simp only [hob] at h7 ⊢
        obtain ⟨h8, cs0, ty0, h9, h10, h12, h13⟩ := h7
        rw [hcs] at h9; cases h9
        refine ⟨h8, cs', ty, setRow_heap w b cs cs' ty _ hcs, by rw [hsz]; exact h10, fun off => by rw [hsz]; exact h12 off, fun q hq => ?_⟩
        rw [hr1] at hq
        obtain ⟨c, h14, h15⟩ := h13 q hq
        by_cases hqi : q = i.toNat
        · exact ⟨oh.val, by rw [hc, if_pos hqi], .inr (by rw [hget, if_pos hqi])⟩
        · refine ⟨c, by rw [hc, if_neg hqi]; exact h14, .inr ?_⟩
          rw [hget, if_neg hqi]
          exact h15.resolve_left fun e => hqi (by cases e; simp)
      · rw [hget]
        by_cases hqi : q = i.toNat
        · rw [if_pos hqi, hqi, hr3]; exact rowK ohne hV
        · rw [if_neg hqi, hr4 q hqi]
          rw [hr1] at hq
          exact rowK (fun e => hne q b hqi e rfl) (hD.row q hq fun e => hqi (by cases e; simp))
      · rw [hget] at h
        split at h
        · exact fun e => hfree b' h j (by simp only [hasB, hρ]; exact .inl e)
        · exact hD.out q b' h
      · rw [hget] at h h'
        split at h <;> split at h'
        · rename_i g1 g2; rw [g1, g2]
        · exact absurd (by simp only [hasB, hρ]; exact .inr ⟨q', h'⟩) (hfree b' h j)
        · exact absurd (by simp only [hasB, hρ]; exact .inr ⟨q, h⟩) (hfree b' h' j)
        · exact hD.apart q q' b' h h'
    · simp only [hjk, if_false] at hB
      refine BlkH.ext hk (fun _ _ h => h) (fun b' hb' => ⟨setRow_other w b b' cs' fun e => hjk ?_, fun _ => Iff.rfl⟩) ((st.blk j B hB).view hv (e3 j hjk))
      have : hasB ρ j b' := by simpa only [hasB, e3 j hjk] using hb'
      exact st.inj _ _ b (e ▸ this) hbk
  · rcases own j b' hj with ⟨g1, g2⟩ | ⟨g1, g2⟩ <;> rcases own j' b' hj' with ⟨g3, g4⟩ | ⟨g3, g4⟩
    · rw [g1, g3]
    · rcases g2 with g2 | g2
      · exact absurd g4 (hfree _ g2 _)
      · exact absurd (st.inj _ _ _ g4 g2) g3
    · rcases g4 with g4 | g4
      · exact absurd g2 (hfree _ g4 _)
      · exact absurd (st.inj _ _ _ g2 g4) g1
    · exact st.inj _ _ _ g2 g4
  · exact st.stp.trans hstp (fun b' off hb' he => by obtain ⟨rfl, hm⟩ := he; exact ⟨(st.fresh k b' hbk).resolve_left (Nat.not_le_of_lt hb'), st.sub b' off hb' hm⟩)
  · rcases own j b' h with ⟨_, g2 | g2⟩ | ⟨_, g2⟩
    · exact hfr b' g2
    · exact st.fresh _ b' g2
    · exact st.fresh _ b' g2
  · by_cases hjk : j = k
    · subst hjk; rw [hlk] at hl; cases hl
    · rw [e3 j hjk] at ho; exact st.pin j o' hl ho
end
end Go.AM
