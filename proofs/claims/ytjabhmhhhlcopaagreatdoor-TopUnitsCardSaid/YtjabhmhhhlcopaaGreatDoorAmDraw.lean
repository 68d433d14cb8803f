import Derived.Test.YtjabhmhhhlcopaaGreatDoorAmAppend
import Derived.Laws.IdiomCopy
section
namespace Go.AM
open Go
theorem mem_find:∀{S:Store} {k:Nat} {B:Blk},findS S k=some B→∀{p:Nat→Blk→Prop},(∀e∈S,p e.1 e.2)→p k B
  |[],_,_,h,_,_=>by cases h
  |(j,b)::S,k,B,h,p,hp=>by
   rw [find_cons] at h
   split at h
   · rename_i he;subst he;cases h;exact hp (j,b) (by simp)
   · exact mem_find h fun e he=>hp e (List.mem_cons_of_mem _ he)
theorem leS_find {S S':Store}:∀{R:Store} {k:Nat} {B':Blk},leS S S' R→findS R k=some B'→
    (match findS S k with|some b=>leB S S' b B'|none=>match B' with|.vec wm r []=>loc k=true∧wm=0∧r.len=0|_=>False)
  |[],_,_,_,h=>by cases h
  |(j,b)::R,k,B',h,hf=>by
   rw [find_cons] at hf
   split at hf
   · rename_i he
     subst he;cases hf
     have h1:=h.1
     revert h1
     cases findS S j with
     |some=>exact id
     |none=>
      cases b with
      |box=>exact id
      |map=>exact id
      |deep=>exact id
      |stk=>exact id
      |jnk=>exact id
      |gho=>exact id
      |vec wm r ov=>
       cases ov with
       |nil=>exact fun h=>ifK_iff.1 h
       |cons=>exact id
   · exact leS_find h.2 hf
def entE (S S':Store) (ρ:Env):Env:=fun k=>match findS S' k with
  |none=>none
  |some B'=>match findS S k with
   |some _=>ρ k
   |none=>match B' with|.vec _ r _=>some (.sl ⟨none,0,0,r.sz⟩)|_=>none
def entM (S':Store) (ρ:Env) (M:Msk):Msk:=fun b off=>M b off∧∀k,hasB ρ k b→∃B',findS S' k=some B'∧∀wm r ov,B'= .vec wm r ov→wm*r.sz≤off
section
variable {P:Program} {TY:List TyE} {w0 w:World} {M0:Base w0} {ρ:Env} {M:Msk} {S S':Store}
theorem ent_keep (S':Store) (ρ:Env) (w:World) (M:Msk):Keep w M w (entM S' ρ M):=fun _ _ _ h h'=>⟨h,fun hm=>h' hm.1⟩
theorem ent_live {k:Nat} (h:(findS S' k).isSome) (h':(findS S k).isSome):entE S S' ρ k=ρ k:=by
  obtain ⟨B,hB⟩:=Option.isSome_iff_exists.1 h
  obtain ⟨B',hB'⟩:=Option.isSome_iff_exists.1 h'
  simp [entE,hB,hB']
theorem live_some {k:Nat} (h:liveB S k):(findS S k).isSome:=by
  unfold liveB at h;cases hf:findS S k<;>simp_all
theorem dead_none {k:Nat} (h:deadB S k):findS S k=none:=by
  unfold deadB at h;cases hf:findS S k<;>simp_all
theorem dead_reads {k:Nat} {B:Blk} {r:RO} {v:Value} (hB:BlkH ρ w M k B) (hf:frzB B=some r) (hd:findS S' k=none) (hv:RepC ρ w M (.vec k) v):RepRO w (entM S' ρ M) r v:=
  blk_reads (fun _ _ h=>h.1) (fun b off h h'=>by obtain ⟨B',hB',_⟩:=h'.2 k h;rw [hd] at hB';cases hB') hB hf hv
theorem entA (st:St M0 ρ M S w) {a b:AV} {v:Value} (h:leA S S' a b):
    (RepT ρ w M a v→RepT (entE S S' ρ) w (entM S' ρ M) b v)∧(RepG ρ w M a v→RepG (entE S S' ρ) w (entM S' ρ M) b v)∧(RepC ρ w M a v→RepC (entE S S' ρ) w (entM S' ρ M) b v):=by
  have hk:=ent_keep S' ρ w M
  cases b with
  |any=>exact ⟨fun _=>trivial,fun _=>trivial,fun hv=>RepC.isCell hv⟩
  |int k n=>
   cases a<;>try exact h.elim
   simp only [leA,ifK_iff] at h
   obtain ⟨h1,rfl⟩:=h
   obtain rfl:=kq_eq h1
   exact ⟨id,id,id⟩
  |bool e=>
   cases a<;>try exact h.elim
   rename_i e'
   have h:e'.val=e.val:=h
   refine ⟨fun hv=>?_,fun hv=>?_,fun hv=>?_⟩<;>(have hv:v= .bool e'.val:=hv;exact (by rw [hv,h]:v= .bool e.val))
  |ro r=>
   have nil_ro:r.len=0→v= .slice none 0 0→RepRO w (entM S' ρ M) r v:=fun hr hv=>by
     subst hv
     exact ⟨by rw [hr];exact Nat.zero_le _,none,0,by rw [hr],by rw [hr];exact Nat.le_refl _,.inl (by simp [RO.cells,hr])⟩
   cases a<;>try exact h.elim
   · have h:_=r:=h
     subst h;exact ⟨fun hv=>RepRO.keep hk hv,fun hv=>RepRO.keep hk hv,fun hv=>RepRO.keep hk hv⟩
   · rename_i k
     simp only [leA] at h
     split at h
     · rename_i wm r0 hf
       have hB:=st.blk k _ hf
       split at h
       · rename_i hd
         obtain ⟨_,rfl⟩:=h
         exact ⟨fun hv=>dead_reads hB rfl hd hv,fun hv=>dead_reads hB rfl hd hv,fun hv=>dead_reads hB rfl hd hv⟩
       · rename_i wm' s hd
         rw [ifK_iff,len_iff] at h
         obtain ⟨hsz,hw,rfl⟩:=h
         have key:RepC ρ w M (.vec k) v→RepRO w (entM S' ρ M) r0 v:=fun hv=>by
           obtain ⟨o,h8,rfl⟩:=hv
           obtain ⟨⟨o',h2,h3⟩,_⟩:=hB
           obtain rfl:=sli_sl h2 h8
           refine vec_readsP (fun _ _ h=>h.1) (fun b off hb hlt hm=>?_) h3
           obtain ⟨B',h4,h5⟩:=hm.2 k (by simp [hasB,h2,Own.has,hb])
           rw [hd] at h4
           have h6:=h5 wm' s [] (Option.some.inj h4).symm
           rw [←beq_iff'.1 hsz] at h6
           have h7:r0.len*r0.sz≤wm'*r0.sz:=Nat.mul_le_mul_right _ hw
           unfold RO.cells at hlt
           omega
         exact ⟨key,key,key⟩
       · exact h.elim
     · rename_i r0 hf
       obtain ⟨hd,rfl⟩:=thw_iff.1 h
       have hB:=st.blk k _ hf
       exact ⟨fun hv=>dead_reads hB rfl (dead_none hd) hv,fun hv=>dead_reads hB rfl (dead_none hd) hv,fun hv=>dead_reads hB rfl (dead_none hd) hv⟩
     · exact h.elim
   · exact ⟨fun hv=>nil_ro h hv,fun hv=>nil_ro h hv,fun hv=>nil_ro h hv⟩
  |vec k'=>
   cases a<;>try exact h.elim
   · obtain ⟨rfl,h1,h2⟩:=h
     have he:=ent_live (ρ:=ρ) (live_some h1) (live_some h2)
     refine ⟨fun hv=>?_,fun hv=>?_,fun hv=>?_⟩<;>(obtain ⟨o,g1,g2⟩:=hv;exact ⟨o,by rw [he];exact g1,g2⟩)
   · simp only [leA] at h
     split at h
     · rename_i h1 h2
       rename_i wm0 r0 ov0
       have he:entE S S' ρ k'=some (.sl ⟨none,0,0,r0.sz⟩):=by simp only [entE,h1,h2]
       refine ⟨fun hv=>?_,fun hv=>?_,fun hv=>?_⟩<;>(have hv:v= .slice none 0 0:=hv;exact ⟨_,of_sl he,by rw [hv];rfl⟩)
     · exact h.elim
  |ptr k' o'=>
   cases a<;>try exact h.elim
   obtain ⟨rfl,rfl,h1,h2⟩:=h
   have he:=ent_live (ρ:=ρ) (live_some h1) (live_some h2)
   refine ⟨fun hv=>?_,fun hv=>?_,fun hv=>?_⟩<;>(have hv:(ρ _).bind (Own.ref · _)=some v:=hv;exact (by rw [he];exact hv:((entE S S' ρ) _).bind (Own.ref · _)=some v))
  |nils=>
   cases a<;>try exact h.elim
   exact ⟨id,id,id⟩
  |str l=>
   cases a<;>try exact h.elim
   have h:_=l:=h
   subst h;exact ⟨id,id,id⟩
  |rptr r i=>
   cases a<;>try exact h.elim
   obtain ⟨rfl,rfl⟩:=h
   refine ⟨fun hv=>?_,fun hv=>?_,fun hv=>?_⟩<;>(obtain ⟨b,off,cap,h1,h2⟩:=hv;exact ⟨b,off,cap,h1.keep hk,h2⟩)
  |cfn f r i=>
   cases a<;>try exact h.elim
   obtain ⟨rfl,rfl,rfl⟩:=h
   refine ⟨fun hv=>?_,fun hv=>?_,fun hv=>?_⟩<;>(obtain ⟨b,off,cap,h1,h2⟩:=hv;exact ⟨b,off,cap,h1.keep hk,h2⟩)
  |fn f l=>
   cases l with
   |cons x l=>cases a<;>exact h.elim
   |nil=>
    cases a<;>try exact h.elim
    rename_i g m
    cases m<;>try exact h.elim
    have h:g=f:=h
    subst h
    exact ⟨fun ⟨cs,h1,h2⟩=>⟨cs,h1,repL_nil h2⟩,id,id⟩
  |_=>exact h.elim
theorem entL (st:St M0 ρ M S w):∀{l m:List AV} {vs:List Value},leL S S' l m→RepL (RepC ρ w M) l vs→RepL (RepC (entE S S' ρ) w (entM S' ρ M)) m vs
  |[],[],_,_,h=>by cases ‹List Value›<;>exact h
  |_::_,_::_,_::_,h,hv=>⟨(entA st h.1).2.2 hv.1,entL st h.2 hv.2⟩
  |[],_::_,_,h,_=>h.elim
  |_::_,[],_,h,_=>h.elim
  |_::_,_::_,[],_,hv=>hv.elim
theorem entG (st:St M0 ρ M S w):∀{l m:List AV} {vs:List Value},leG S S' l m→RepL (RepG ρ w M) l vs→RepL (RepG (entE S S' ρ) w (entM S' ρ M)) m vs
  |[],[],_,_,h=>by cases ‹List Value›<;>exact h
  |a::l,b::m,v::vs,h,hv=>by
   refine ⟨?_,entG st h.2 hv.2⟩
   have h1:=h.1
   cases b with
   |agg y=>
    cases a<;>try exact h1.elim
    obtain ⟨cs,h2,h3⟩:=hv.1
    exact ⟨cs,h2,entL st h1 h3⟩
   |_=>exact (entA st h1).2.1 hv.1
  |[],_::_,_,h,_=>h.elim
  |_::_,[],_,h,_=>h.elim
  |_::_,_::_,[],_,hv=>hv.elim
theorem entT (st:St M0 ρ M S w) {a b:AV} {v:Value} (h:leT S S' a b) (hv:RepT ρ w M a v):RepT (entE S S' ρ) w (entM S' ρ M) b v:=by
  cases b with
  |agg m=>
   cases a<;>try exact h.elim
   obtain ⟨cs,h2,h3⟩:=hv
   exact ⟨cs,h2,entL st h h3⟩
  |tup m=>
   cases a<;>try exact h.elim
   obtain ⟨cs,h2,h3⟩:=hv
   exact ⟨cs,h2,entG st h h3⟩
  |fn f m=>
   cases a<;>try exact h.elim
   obtain ⟨cs,h2,h3⟩:=hv
   obtain ⟨rfl,h⟩:=h
   exact ⟨cs,h2,entL st h h3⟩
  |_=>simp only [leT] at h;exact (entA st h).1 hv
theorem namesA_keep {a:AV} {v:Value} (hn:namesA S' a=true) (hS:∀k,(findS S' k).isSome→(ρ k).isSome→(findS S k).isSome):
    ((∀l,a≠.agg l)→(∀l,a≠.tup l)→(∀f l,a≠.fn f l)→RepT ρ w M a v→RepT (entE S S' ρ) w (entM S' ρ M) a v)∧((∀l,a≠.agg l)→RepG ρ w M a v→RepG (entE S S' ρ) w (entM S' ρ M) a v)∧(RepC ρ w M a v→RepC (entE S S' ρ) w (entM S' ρ M) a v):=by
  have hk:=ent_keep S' ρ w M
  have hsome:∀k,(match findS S' k with|some _=>true|none=>false)=true→(findS S' k).isSome:=fun k h=>by cases hf:findS S' k<;>simp_all
  have live:∀k,(findS S' k).isSome→∀o,ρ k=some o→entE S S' ρ k=some o:=fun k h o ho=>by
    rw [ent_live h (hS k h (by rw [ho];rfl))];exact ho
  cases a with
  |vec k=>refine ⟨fun _ _ _ hv=>?_,fun _ hv=>?_,fun hv=>?_⟩<;>(obtain ⟨o,g1,g2⟩:=hv;exact ⟨o,bind_keep (live k (hsome k hn)) g1,g2⟩)
  |ptr k off=>refine ⟨fun _ _ _ hv=>?_,fun _ hv=>?_,fun hv=>?_⟩<;>exact bind_keep (live k (hsome k hn)) hv
  |vptr k i=>refine ⟨fun _ _ _ hv=>?_,fun _ hv=>?_,fun hv=>?_⟩<;>(obtain ⟨o,b,g1,g2⟩:=hv;exact ⟨o,b,bind_keep (live k (hsome k hn)) g1,g2⟩)
  |cptr k i j=>refine ⟨fun _ _ _ hv=>?_,fun _ hv=>?_,fun hv=>?_⟩<;>(obtain ⟨o,b,g1,g2⟩:=hv;exact ⟨o,b,bind_keep (live k (hsome k hn)) g1,g2⟩)
  |vsuf k i=>refine ⟨fun _ _ _ hv=>?_,fun _ hv=>?_,fun hv=>?_⟩<;>(obtain ⟨o,g1,g2⟩:=hv;exact ⟨o,bind_keep (live k (hsome k hn)) g1,g2⟩)
  |row k i=>refine ⟨fun _ _ _ hv=>?_,fun _ hv=>?_,fun hv=>?_⟩<;>(obtain ⟨o,g1,g2⟩:=hv;exact ⟨o,bind_keep (live k (hsome k hn)) g1,g2⟩)
  |gptr k i j=>refine ⟨fun _ _ _ hv=>?_,fun _ hv=>?_,fun hv=>?_⟩<;>(obtain ⟨o,b,g1,g2⟩:=hv;exact ⟨o,b,bind_keep (live k (hsome k hn)) g1,g2⟩)
  |ro r=>exact ⟨fun _ _ _ hv=>RepRO.keep hk hv,fun _ hv=>RepRO.keep hk hv,fun hv=>RepRO.keep hk hv⟩
  |rptr r i=>refine ⟨fun _ _ _ hv=>?_,fun _ hv=>?_,fun hv=>?_⟩<;>(obtain ⟨b,off,cap,h1,h2⟩:=hv;exact ⟨b,off,cap,h1.keep hk,h2⟩)
  |cfn f r i=>refine ⟨fun _ _ _ hv=>?_,fun _ hv=>?_,fun hv=>?_⟩<;>(obtain ⟨b,off,cap,h1,h2⟩:=hv;exact ⟨b,off,cap,h1.keep hk,h2⟩)
  |any=>exact ⟨fun _ _ _ _=>trivial,fun _ _=>trivial,id⟩
  |int k n=>exact ⟨fun _ _ _=>id,fun _=>id,id⟩
  |bool e=>exact ⟨fun _ _ _=>id,fun _=>id,id⟩
  |nils=>exact ⟨fun _ _ _=>id,fun _=>id,id⟩
  |may b n=>exact ⟨fun _ _ _=>id,fun _=>id,id⟩
  |full r=>exact ⟨fun _ _ _ hv=>⟨RepRO.keep hk hv.1,hv.2⟩,fun _ hv=>⟨RepRO.keep hk hv.1,hv.2⟩,fun hv=>⟨RepRO.keep hk hv.1,hv.2⟩⟩
  |str l=>exact ⟨fun _ _ _=>id,fun _=>id,id⟩
  |new r=>exact ⟨fun _ _ _ hv=>hv.elim,fun _ hv=>hv.elim,fun hv=>hv.elim⟩
  |agg l=>exact ⟨fun h=>absurd rfl (h l),fun h=>absurd rfl (h l),fun hv=>hv.elim⟩
  |tup l=>exact ⟨fun _ h=>absurd rfl (h l),fun _ hv=>hv.elim,fun hv=>hv.elim⟩
  |fn f l=>
   cases l with
   |nil=>exact ⟨fun _ _ h=>absurd rfl (h f []),fun _=>id,id⟩
   |cons x l=>exact ⟨fun _ _ h=>absurd rfl (h f _),fun _ hv=>hv.elim,fun hv=>hv.elim⟩
theorem namesL_keep (hS:∀k,(findS S' k).isSome→(ρ k).isSome→(findS S k).isSome):∀{l:List AV} {vs:List Value},namesL S' l=true→RepL (RepC ρ w M) l vs→RepL (RepC (entE S S' ρ) w (entM S' ρ M)) l vs
  |[],[],_,_=>trivial
  |a::l,v::vs,hn,hv=>by
   simp only [namesL] at hn
   split at hn
   · rename_i ha;exact ⟨(namesA_keep ha hS).2.2 hv.1,namesL_keep hS hn hv.2⟩
   · cases hn
  |[],_::_,_,hv=>hv.elim
  |_::_,[],_,hv=>hv.elim
theorem namesG_keep (hS:∀k,(findS S' k).isSome→(ρ k).isSome→(findS S k).isSome):∀{l:List AV} {vs:List Value},namesG S' l=true→RepL (RepG ρ w M) l vs→RepL (RepG (entE S S' ρ) w (entM S' ρ M)) l vs
  |[],[],_,_=>trivial
  |a::l,v::vs,hn,hv=>by
   cases a with
   |agg m=>
    simp only [namesG] at hn
    split at hn
    · rename_i ha
      obtain ⟨cs,h1,h2⟩:=hv.1
      exact ⟨⟨cs,h1,namesL_keep hS ha h2⟩,namesG_keep hS hn hv.2⟩
    · cases hn
   |_=>
    simp only [namesG] at hn
    split at hn
    · rename_i ha;exact ⟨(namesA_keep ha hS).2.1 (by simp) hv.1,namesG_keep hS hn hv.2⟩
    · cases hn
  |[],_::_,_,hv=>hv.elim
  |_::_,[],_,hv=>hv.elim
theorem namesT_keep (hS:∀k,(findS S' k).isSome→(ρ k).isSome→(findS S k).isSome):∀{T:List AV} (i:Nat) {v:Value},namesT S' T=true→RepT ρ w M (nth T i) v→RepT (entE S S' ρ) w (entM S' ρ M) (nth T i) v
  |[],_,_,_,_=>trivial
  |a::T,i,v,hn,hv=>by
   have split':(match a with
     |.agg m=>namesL S' m=true
     |.fn _ m=>namesL S' m=true
     |.tup m=>namesG S' m=true
     |a=>namesA S' a=true)∧namesT S' T=true:=by
     cases a<;>simp only [namesT] at hn<;>(split at hn)<;>first|exact ⟨by assumption,hn⟩|cases hn
   obtain ⟨h1,h2⟩:=split'
   cases i with
   |succ i=>exact namesT_keep hS i h2 hv
   |zero=>
    have hv:RepT ρ w M a v:=hv
    show RepT _ w _ a v
    cases a with
    |agg m=>obtain ⟨cs,g1,g2⟩:=hv;exact ⟨cs,g1,namesL_keep hS h1 g2⟩
    |fn f m=>obtain ⟨cs,g1,g2⟩:=hv;exact ⟨cs,g1,namesL_keep hS h1 g2⟩
    |tup m=>obtain ⟨cs,g1,g2⟩:=hv;exact ⟨cs,g1,namesG_keep hS h1 g2⟩
    |_=>exact (namesA_keep h1 hS).1 (by simp) (by simp) (by simp) hv
theorem ent_st (st:St M0 ρ M S w) (h:leS S S' S'):St M0 (entE S S' ρ) (entM S' ρ M) S' w:=by
  have hk:=ent_keep S' ρ w M
  have hsub:∀k b,hasB (entE S S' ρ) k b→hasB ρ k b∧(findS S' k).isSome:=by
    intro k b hb
    simp only [hasB,entE] at hb
    cases h1:findS S' k with
    |none=>rw [h1] at hb;simp at hb
    |some B'=>
     rw [h1] at hb
     cases h2:findS S k with
     |some B=>rw [h2] at hb;exact ⟨hb,rfl⟩
     |none=>rw [h2] at hb;cases B'<;>simp [Own.has] at hb
  have hother:∀k b,hasB ρ k b→(findS S' k).isSome→∀off,entM S' ρ M b off↔M b off∧∀wm r ov,findS S' k=some (.vec wm r ov)→wm*r.sz≤off:=by
    intro k b hb hs off
    obtain ⟨B',hB'⟩:=Option.isSome_iff_exists.1 hs
    constructor
    · intro hm
      refine ⟨hm.1,fun wm r ov hf=>?_⟩
      obtain ⟨B2,h1,h2⟩:=hm.2 k hb
      exact h2 wm r ov (by rw [h1] at hf;exact Option.some.inj hf)
    · intro hm
      refine ⟨hm.1,fun j hj=>?_⟩
      obtain rfl:=st.inj _ _ _ hj hb
      exact ⟨B',hB',fun wm r ov he=>hm.2 wm r ov (by rw [hB',he])⟩
  refine ⟨fun k=>?_,fun k B' hB'=>?_,fun i j b hi hj=>st.inj _ _ _ (hsub _ _ hi).1 (hsub _ _ hj).1,fun b off hm=>st.mlt b off hm.1,st.stp,fun b off hb hm=>st.sub b off hb hm.1,fun b off hb hl hm=>⟨st.old b off hb hl hm,fun k hkb=>absurd hkb (st.notFresh hb hl)⟩,fun k b hb=>st.fresh k b (hsub k b hb).1,fun k o hk ho=>?_⟩
  · simp only [entE]
    cases h1:findS S' k with
    |none=>rfl
    |some B'=>
     have h2:=leS_find h h1
     cases h3:findS S k with
     |some B=>simp only [st.dom k,h3];rfl
     |none=>
      rw [h3] at h2
      cases B' with
      |vec wm r ov=>rfl
      |_=>exact h2.elim
  · have h2:=leS_find h hB'
    cases h3:findS S k with
    |none=>
     rw [h3] at h2
     cases B' with
     |box l=>exact h2.elim
     |map=>exact h2.elim
     |deep=>exact h2.elim
     |stk=>exact h2.elim
     |jnk=>exact h2.elim
     |gho=>exact h2.elim
     |vec wm r ov=>
      cases ov with
      |cons=>exact h2.elim
      |nil=>
       obtain ⟨_,hw,hr⟩:=h2
       exact ⟨⟨⟨none,0,0,r.sz⟩,by simp [entE,hB',h3],hr.symm,rfl,by rw [hr];exact Nat.zero_le _,by omega,hr,rfl⟩,.inl rfl⟩
    |some B=>
     rw [h3] at h2
     have hρ:=ent_live (ρ:=ρ) (S:=S) (S':=S') (k:=k) (by rw [hB'];rfl) (by rw [h3];rfl)
     have hB:=st.blk k B h3
     have hlive:(findS S' k).isSome:=by rw [hB'];rfl
     cases B with
     |box l=>
      cases B' with
      |vec=>exact h2.elim
      |map=>exact h2.elim
      |deep=>exact h2.elim
      |stk=>exact h2.elim
      |jnk=>exact h2.elim
      |gho=>exact h2.elim
      |box m=>
       obtain ⟨b,g1,cs,ty,g2,g3,g4⟩:=hB
       refine ⟨b,by rw [hρ];exact g1,cs,ty,g2,fun off=>?_,entL st h2 g4⟩
       rw [hother k b (by simp [hasB,g1,Own.has]) hlive off,←g3 off]
       exact ⟨fun hm=>hm.1,fun hm=>⟨hm,fun wm r ov hf=>by rw [hB'] at hf;cases hf⟩⟩
     |map kd vk m=>
      cases B' with
      |map kd' vk' m'=>
       have h2:(kd=kd'∧vk=vk')∧m=m':=h2
       obtain ⟨⟨rfl,rfl⟩,rfl⟩:=h2
       obtain ⟨b,g1,es,n,g2,g3,g4⟩:=hB
       refine ⟨b,by rw [hρ];exact g1,es,n,g2,fun off=>?_,g4⟩
       rw [hother k b (by simp [hasB,g1,Own.has]) hlive off,←g3 off]
       exact ⟨fun hm=>hm.1,fun hm=>⟨hm,fun wm r ov hf=>by rw [hB'] at hf;cases hf⟩⟩
      |_=>first|done|exact h2.elim
     |deep r hole=>
      cases B' with
      |deep r' hole'=>
       cases hole<;>cases hole'<;>try exact h2.elim
       have h2:r=r':=h2
       subst h2
       obtain ⟨o,rows,g1,g2⟩:=hB
       refine ⟨o,rows,by rw [hρ];exact g1,g2.ext (g:=gridQ r) hk fun b hb=>⟨rfl,fun off=>?_⟩⟩
       rw [hother k b (by simp only [hasB,g1];exact hb) hlive off]
       exact ⟨fun hm=>hm.1,fun hm=>⟨hm,fun wm r ov hf=>by rw [hB'] at hf;cases hf⟩⟩
      |_=>cases hole<;>exact h2.elim
     |gho l i j=>cases B'<;>exact h2.elim
     |stk n r=>
      cases B' with
      |stk n' r'=>
       have h2:n=n'∧r=r':=h2
       obtain ⟨rfl,rfl⟩:=h2
       obtain ⟨o,cur,g1,g2,g3⟩:=hB
       have hm:∀b,(Own.st o cur).has b→∀off,entM S' ρ M b off↔M b off:=fun b hb off=>by
         rw [hother k b (by simp only [hasB,g1];exact hb) hlive off]
         exact ⟨fun hm=>hm.1,fun hm=>⟨hm,fun wm r ov hf=>by rw [hB'] at hf;cases hf⟩⟩
       exact ⟨o,cur,by rw [hρ];exact g1,g2.ext0 hk fun b hb=>⟨rfl,hm b (.inr hb)⟩,g3.ext fun b hb=>⟨rfl,hm b (.inl hb)⟩⟩
      |_=>exact h2.elim
     |jnk n z=>
      cases B' with
      |jnk n' z'=>
       have h2:n=n'∧z=z':=h2
       obtain ⟨rfl,rfl⟩:=h2
       obtain ⟨o,g1,g3⟩:=hB
       have hm:∀b,(Own.sl o).has b→∀off,entM S' ρ M b off↔M b off:=fun b hb off=>by
         rw [hother k b (by simp only [hasB,g1];exact hb) hlive off]
         exact ⟨fun hm=>hm.1,fun hm=>⟨hm,fun wm r ov hf=>by rw [hB'] at hf;cases hf⟩⟩
       exact ⟨o,by rw [hρ];exact g1,g3.ext fun b hb=>⟨rfl,hm b hb⟩⟩
      |_=>exact h2.elim
     |vec wm r ov=>
      cases B' with
      |map=>cases ov<;>first|exact h2.elim|(rename_i x y;cases y<;>exact h2.elim)
      |deep=>cases ov<;>first|exact h2.elim|(rename_i x y;cases y<;>exact h2.elim)
      |gho=>cases ov<;>first|exact h2.elim|(rename_i x y;cases y<;>exact h2.elim)
      |box m=>cases ov<;>first|exact h2.elim|(rename_i x y;cases y<;>exact h2.elim)
      |stk n' r'=>cases ov<;>first|exact h2.elim|(rename_i x y;cases y<;>exact h2.elim)
      |jnk n' z'=>
       cases ov with
       |cons x y=>cases y<;>exact h2.elim
       |nil=>
        have h2:wm=0∧r.len=n'∧r.sz=z':=h2
        obtain ⟨rfl,rfl,rfl⟩:=h2
        obtain ⟨⟨o,g1,g2⟩,_⟩:=hB
        refine ⟨o,by rw [hρ];exact g1,g2.jnk.ext fun b hb=>⟨rfl,fun off=>?_⟩⟩
        rw [hother k b (by simp only [hasB,g1];exact hb) hlive off]
        exact ⟨fun hm=>hm.1,fun hm=>⟨hm,fun wm r ov hf=>by rw [hB'] at hf;cases hf⟩⟩
      |vec wm' r' ov'=>
       obtain ⟨⟨o,g1,g2,g3,g4,g5,g6⟩,hov⟩:=hB
       have hmask:∀b,o.blk=some b→r'.sz=r.sz→wm≤wm'→(∀cs:Array Value,(∀off,M b off↔wm*o.sz≤off∧off<cs.size)→∀off,entM S' ρ M b off↔wm'*o.sz≤off∧off<cs.size):=by
         intro b hb hz hw cs hM off
         rw [hother k b (by simp [hasB,g1,Own.has,hb]) hlive off,hM off]
         have hle:wm*o.sz≤wm'*o.sz:=Nat.mul_le_mul_right _ hw
         constructor
         · intro hm
           have:=hm.2 wm' r' ov' hB'
           rw [hz,←g3] at this
           exact ⟨this,hm.1.2⟩
         · intro hm
           refine ⟨⟨by omega,hm.2⟩,fun wm2 r2 ov2 hf=>?_⟩
           rw [hB'] at hf;cases hf
           rw [hz,←g3];exact hm.1
       match ov,ov',h2 with
       |[],[],h2=>
        obtain ⟨⟨hw1,hw2⟩,rfl⟩:=h2
        refine ⟨⟨o,by rw [hρ];exact g1,g2,g3,g4,hw2,?_⟩,.inl rfl⟩
        cases hbl:o.blk with
        |none=>simp only [hbl] at g6 ⊢;exact g6
        |some b=>
         simp only [hbl] at g6 ⊢
         obtain ⟨g7,cs,ty,g8,g9,g10,g11⟩:=g6
         refine ⟨g7,cs,ty,g8,g9,hmask b hbl rfl hw1 cs g10,fun q hq=>?_⟩
         obtain ⟨c,g12,g13⟩:=g11 q hq;exact ⟨c,g12,CellP.keep hk g13⟩
       |[(i,j)],[],h2=>
        simp only [leB] at h2
        split at h2
        · rename_i wmj s hj
          obtain ⟨hd,hw',hset⟩:=h2
          rcases hov with hov|⟨i',j',hov,hrq,hwm0,hi0,hi1⟩
          · cases hov
          cases hov
          obtain ⟨r2,hr2,hl2,hz2,_,hcell⟩:=setRow_cells hset (by omega)
          subst hr2
          refine ⟨⟨o,by rw [hρ];exact g1,by rw [g2,hl2],by rw [g3,hz2],by rw [hl2];exact g4,by rw [hl2];exact hw',?_⟩,.inl rfl⟩
          cases hbl:o.blk with
          |none=>simp only [hbl] at g6 ⊢;rw [hl2];exact g6
          |some b=>
           simp only [hbl] at g6 ⊢
           obtain ⟨g7,cs,ty,g8,g9,g10,g11⟩:=g6
           refine ⟨g7,cs,ty,g8,g9,hmask b hbl hz2 (by omega) cs g10,fun q hq=>?_⟩
           obtain ⟨c,g12,g13⟩:=g11 q (by simpa [RO.cells,hl2,hz2] using hq)
           refine ⟨c,g12,?_⟩
           split at g13
           · rename_i he
             rw [show q=i.toNat from by omega]
             exact (hcell w _).1 c (dead_reads (st.blk j _ hj) rfl (dead_none hd) g13)
           · rename_i he
             exact (hcell w _).2 q c (by omega) (CellP.keep hk g13)
        · exact h2.elim
       |[(i,j)],[(i',j')],h2=>
        obtain ⟨rfl,rfl,rfl,rfl,hl1,hl2⟩:=h2
        rcases hov with hov|⟨i',j',hov,hrq,hwm0,hi0,hi1⟩
        · cases hov
        cases hov
        refine ⟨⟨o,by rw [hρ];exact g1,g2,g3,g4,Nat.zero_le _,?_⟩,.inr ⟨_,_,rfl,hrq,rfl,hi0,hi1⟩⟩
        cases hbl:o.blk with
        |none=>simp only [hbl] at g6 ⊢;exact g6
        |some b=>
         simp only [hbl] at g6 ⊢
         obtain ⟨g7,cs,ty,g8,g9,g10,g11⟩:=g6
         refine ⟨g7,cs,ty,g8,g9,hmask b hbl rfl (by omega) cs g10,fun q hq=>?_⟩
         obtain ⟨c,g12,g13⟩:=g11 q hq
         refine ⟨c,g12,?_⟩
         split at g13
         · rename_i he
           simp only [he,if_true]
           obtain ⟨o2,k1,k2⟩:=g13
           exact ⟨o2,by rw [ent_live (live_some hl1) (live_some hl2)];exact k1,k2⟩
         · rename_i he
           simp only [he,if_false]
           exact CellP.keep hk g13
       |[],_::_,h2=>exact h2.elim
       |[_],_::_::_,h2=>exact h2.elim
       |_::_::_,_,h2=>exact h2.elim
  · simp only [entE] at ho
    cases h1:findS S' k with
    |none=>rw [h1] at ho;cases ho
    |some B'=>
     have h2:=leS_find h h1
     rw [h1] at ho
     cases h3:findS S k with
     |some B=>rw [h3] at ho;exact st.pin k o hk ho
     |none=>
      rw [h3] at h2
      cases B' with
      |box l=>exact h2.elim
      |map=>exact h2.elim
      |deep=>exact h2.elim
      |stk=>exact h2.elim
      |jnk=>exact h2.elim
      |gho=>exact h2.elim
      |vec wm r ov=>
       cases ov with
       |cons=>exact h2.elim
       |nil=>rw [h2.1] at hk;cases hk
end
end Go.AM
end
section
namespace Go.AM
open Go
section
variable {P:Program} {TY:List TyE} {w0 w:World} {M0:Base w0} {ρ:Env} {M:Msk} {S S':Store}
theorem forget1_sound {k:Nat} {T:List AV} {a:Act} {K:List AV→Store→Prop} (h:delS S k fun S=>sweepT k .any T fun T=>sweepS k .any S fun S=>K T S) (st:St M0 ρ M S w) (tm:Tm ρ w M T a):
    ∃T' S',K T' S'∧St M0 (dropE ρ k) M S' w∧Tm (dropE ρ k) w M T' a∧T'.length=T.length:=by
  obtain ⟨S1,h1,hS1⟩:=del_store h
  obtain ⟨T',h2,hlen,hT⟩:=sweepT_sound h1
  obtain ⟨S',h3,hS'⟩:=sweepS_sound h2
  have hconv:Conv k .any ρ w M (dropE ρ k) w M:=⟨Keep.refl _ _,fun j hj o ho=>by simpa [dropE,hj] using ho,fun v hv=>RepC.isCell hv⟩
  have hnone:findS S' k=none:=by
    have:=hS' k
    rw [hS1 k] at this;simpa using this
  refine ⟨T',S',h3,⟨fun j=>?_,fun j B hB=>?_,fun i j b hi hj=>?_,st.mlt,st.stp,st.sub,st.old,fun x b hx=>?_,fun x o hx ho=>?_⟩,
    ⟨tm.defers,by rw [hlen];exact tm.size,fun i=>hT _ _ _ _ _ _ hconv (fun v _=>⟨trivial,trivial⟩) i _ (tm.tmp i)⟩,hlen⟩
  · by_cases hj:j=k
    · subst hj;simp [dropE,hnone]
    · have:=hS' j
      rw [hS1 j] at this
      simp only [hj,if_false] at this
      simp only [dropE,hj,if_false,st.dom j]
      cases hf:findS S j with
      |none=>simp only [hf] at this;simp [this]
      |some B=>simp only [hf] at this;obtain ⟨B',h4,_⟩:=this;simp [h4]
  · have hj:j≠k:=fun e=>by subst e;rw [hnone] at hB;cases hB
    have:=hS' j
    rw [hS1 j] at this
    simp only [hj,if_false] at this
    cases hf:findS S j with
    |none=>simp only [hf] at this;rw [this] at hB;cases hB
    |some B0=>
     simp only [hf] at this
     obtain ⟨B',h4,h5⟩:=this
     rw [h4] at hB;cases hB
     exact h5 ρ w M _ _ j hconv (by simp [dropE,hj]) (fun b hb off=>Iff.rfl) (st.blk j B0 hf)
  · have h1:∀x,hasB (dropE ρ k) x b→hasB ρ x b:=fun x hx=>by
      by_cases hxk:x=k
      · subst hxk;simp [hasB,dropE] at hx
      · simpa [hasB,dropE,hxk] using hx
    exact st.inj _ _ _ (h1 _ hi) (h1 _ hj)
  · by_cases hxk:x=k
    · subst hxk;simp [hasB,dropE] at hx
    · exact st.fresh x b (by simpa [hasB,dropE,hxk] using hx)
  · by_cases hxk:x=k
    · subst hxk;simp [dropE] at ho
    · exact st.pin x o hx (by simpa [dropE,hxk] using ho)
def dropEs (ρ:Env) (ks:List Nat):Env:=fun k=>if k∈ks then none else ρ k
theorem forgets_sound {a:Act}:∀{ks:List Nat} {T:List AV} {S:Store} {ρ:Env} {K:List AV→Store→Prop},forgetsK ks T S K→St M0 ρ M S w→Tm ρ w M T a→
    ∃T' S',K T' S'∧St M0 (dropEs ρ ks) M S' w∧Tm (dropEs ρ ks) w M T' a∧T'.length=T.length
  |[],T,S,ρ,K,h,st,tm=>by
   have e:dropEs ρ []=ρ:=by funext k;simp [dropEs]
   rw [e];exact ⟨T,S,h,st,tm,rfl⟩
  |k::ks,T,S,ρ,K,h,st,tm=>by
   obtain ⟨T1,S1,h1,h2,h3,h4⟩:=forget1_sound h st tm
   obtain ⟨T',S',h5,h6,h7,h8⟩:=forgets_sound h1 h2 h3
   have e:dropEs (dropE ρ k) ks=dropEs ρ (k::ks):=by
     funext j
     simp only [dropEs,dropE,List.mem_cons]
     by_cases hj:j∈ks
     · simp [hj]
     · by_cases hjk:j=k
       · simp [hjk]
       · simp [hj,hjk]
   rw [e] at h6 h7
   exact ⟨T',S',h5,h6,h7,h8.trans h4⟩
section
variable {σ:List (Nat × Nat)} {ρ1 ρ2:Env} {M2:Msk}
theorem renC_back {b:AV} {v:Value} (hok:okC σ b=true) (h:RepC ρ w M (renC σ b) v) (hd:∀i j,fndN σ i=some j→ρ1 i=ρ j):RepC ρ1 w M b v:=by
  cases b with
  |vec k=>
   simp only [okC] at hok;simp only [renC] at h
   cases hf:fndN σ k with
   |none=>rw [hf] at hok;cases hok
   |some j=>rw [hf] at h;obtain ⟨o,h1,h2⟩:=h;exact ⟨o,by rw [hd k j hf];exact h1,h2⟩
  |ptr k off=>
   simp only [okC] at hok;simp only [renC] at h
   cases hf:fndN σ k with
   |none=>rw [hf] at hok;cases hok
   |some j=>
    rw [hf] at h
    have h:(ρ j).bind (Own.ref · off)=some v:=h
    rw [←hd k j hf] at h
    exact h
  |vptr k i=>
   simp only [okC] at hok;simp only [renC] at h
   cases hf:fndN σ k with
   |none=>rw [hf] at hok;cases hok
   |some j=>rw [hf] at h;obtain ⟨o,b,h1,h2⟩:=h;exact ⟨o,b,by rw [hd k j hf];exact h1,h2⟩
  |cptr k i c=>
   simp only [okC] at hok;simp only [renC] at h
   cases hf:fndN σ k with
   |none=>rw [hf] at hok;cases hok
   |some j=>rw [hf] at h;obtain ⟨o,b,h1,h2⟩:=h;exact ⟨o,b,by rw [hd k j hf];exact h1,h2⟩
  |vsuf k i=>
   simp only [okC] at hok;simp only [renC] at h
   cases hf:fndN σ k with
   |none=>rw [hf] at hok;cases hok
   |some j=>rw [hf] at h;obtain ⟨o,h1,h2⟩:=h;exact ⟨o,by rw [hd k j hf];exact h1,h2⟩
  |fn f l=>cases l<;>first|exact h|cases hok
  |row k i=>cases hok
  |gptr k i j=>cases hok
  |agg l=>cases hok
  |tup l=>cases hok
  |new r=>cases hok
  |_=>exact h
theorem renC_fwd (hd:∀i j o,fndN σ i=some j→ρ2 i=some o→ρ j=some o) {b:AV} {v:Value} (h:RepC ρ2 w M b v):RepC ρ w M (renC σ b) v:=by
  cases b with
  |vec k=>
   simp only [renC]
   cases hf:fndN σ k with
   |none=>exact RepC.isCell h
   |some j=>obtain ⟨o,h1,h2⟩:=h;exact ⟨o,bind_keep (fun o'=>hd k j o' hf) h1,h2⟩
  |ptr k off=>
   simp only [renC]
   cases hf:fndN σ k with
   |none=>exact RepC.isCell h
   |some j=>exact bind_keep (fun o'=>hd k j o' hf) h
  |vptr k i=>
   simp only [renC]
   cases hf:fndN σ k with
   |none=>exact RepC.isCell h
   |some j=>obtain ⟨o,b,h1,h2⟩:=h;exact ⟨o,b,bind_keep (fun o'=>hd k j o' hf) h1,h2⟩
  |cptr k i c=>
   simp only [renC]
   cases hf:fndN σ k with
   |none=>exact RepC.isCell h
   |some j=>obtain ⟨o,b,h1,h2⟩:=h;exact ⟨o,b,bind_keep (fun o'=>hd k j o' hf) h1,h2⟩
  |vsuf k i=>
   simp only [renC]
   cases hf:fndN σ k with
   |none=>exact RepC.isCell h
   |some j=>obtain ⟨o,h1,h2⟩:=h;exact ⟨o,bind_keep (fun o'=>hd k j o' hf) h1,h2⟩
  |fn f l=>cases l<;>first|exact h|exact RepC.isCell h
  |row k i=>exact RepC.isCell h
  |gptr k i j=>exact RepC.isCell h
  |agg l=>exact h.elim
  |tup l=>exact h.elim
  |new r=>exact h.elim
  |any=>exact h
  |_=>exact h
theorem renL_back (hd:∀i j,fndN σ i=some j→ρ1 i=ρ j):∀{l:List AV} {vs:List Value},okL σ l=true→RepL (RepC ρ w M) (renL σ l) vs→RepL (RepC ρ1 w M) l vs
  |[],[],_,_=>trivial
  |a::l,v::vs,hok,h=>by
   simp only [okL] at hok
   split at hok
   · rename_i ha;exact ⟨renC_back ha h.1 hd,renL_back hd hok h.2⟩
   · cases hok
  |[],_::_,_,h=>h.elim
  |_::_,[],_,h=>h.elim
theorem renL_fwd (hd:∀i j o,fndN σ i=some j→ρ2 i=some o→ρ j=some o):∀{l:List AV} {vs:List Value},RepL (RepC ρ2 w M) l vs→RepL (RepC ρ w M) (renL σ l) vs
  |[],[],_=>trivial
  |_a::_l,_v::_vs,h=>⟨renC_fwd hd h.1,renL_fwd hd h.2⟩
  |[],_::_,h=>h.elim
  |_::_,[],h=>h.elim
theorem repG_of_repC {b:AV} {v:Value} (h:RepC ρ w M b v):RepG ρ w M b v:=by
  cases b with
  |agg l=>exact h.elim
  |any=>trivial
  |_=>simp only [RepG];exact h
theorem renG_fwd (hd:∀i j o,fndN σ i=some j→ρ2 i=some o→ρ j=some o):∀{l:List AV} {vs:List Value},RepL (RepG ρ2 w M) l vs→RepL (RepG ρ w M) (renG σ l) vs
  |[],[],_=>trivial
  |a::l,v::vs,h=>by
   refine ⟨?_,renG_fwd hd h.2⟩
   have h1:=h.1
   cases a with
   |agg m=>obtain ⟨cs,h2,h3⟩:=h1;exact ⟨cs,h2,renL_fwd hd h3⟩
   |any=>trivial
   |_=>
    simp only [RepG] at h1
    exact repG_of_repC (renC_fwd hd h1)
  |[],_::_,h=>h.elim
  |_::_,[],h=>h.elim
theorem renT_fwd (hd:∀i j o,fndN σ i=some j→ρ2 i=some o→ρ j=some o) {a:AV} {v:Value} (h:RepT ρ2 w M a v):RepT ρ w M (renT σ a) v:=by
  cases a with
  |agg m=>obtain ⟨cs,h2,h3⟩:=h;exact ⟨cs,h2,renL_fwd hd h3⟩
  |tup m=>obtain ⟨cs,h2,h3⟩:=h;exact ⟨cs,h2,renG_fwd hd h3⟩
  |fn f m=>obtain ⟨cs,h2,h3⟩:=h;exact ⟨cs,h2,renL_fwd hd h3⟩
  |any=>trivial
  |_=>simp only [RepT] at h;exact repT_of_repC (renC_fwd hd h)
theorem renT_back (hd:∀i j,fndN σ i=some j→ρ1 i=ρ j):∀{l:List AV} {vs:List Value},okT σ l=true→RepL (RepT ρ w M) (renTL σ l) vs→RepL (RepT ρ1 w M) l vs
  |[],[],_,_=>trivial
  |a::l,v::vs,hok,h=>by
   have hC:∀{b:AV},okC σ b=true→RepT ρ w M (renC σ b) v→RepT ρ1 w M b v:=fun {b} hb hv=>by
     by_cases hany:b= .any
     · subst hany;trivial
     · refine repT_of_repC (renC_back hb ?_ hd)
       revert hv
       cases b with
       |any=>exact absurd rfl hany
       |agg l=>cases hb
       |tup l=>cases hb
       |new r=>cases hb
       |fn f l=>
        cases l with
        |nil=>rintro ⟨cs,h1,h2⟩;obtain ⟨l⟩:=cs;cases l<;>first|exact h1|exact h2.elim
        |cons=>cases hb
       |vec k=>simp only [okC] at hb;simp only [renC];cases hf:fndN σ k<;>rw [hf] at hb<;>first|cases hb;done|exact id
       |ptr k o=>simp only [okC] at hb;simp only [renC];cases hf:fndN σ k<;>rw [hf] at hb<;>first|cases hb;done|exact id
       |vptr k o=>simp only [okC] at hb;simp only [renC];cases hf:fndN σ k<;>rw [hf] at hb<;>first|cases hb;done|exact id
       |cptr k o c=>simp only [okC] at hb;simp only [renC];cases hf:fndN σ k<;>rw [hf] at hb<;>first|cases hb;done|exact id
       |vsuf k o=>simp only [okC] at hb;simp only [renC];cases hf:fndN σ k<;>rw [hf] at hb<;>first|cases hb;done|exact id
       |row k o=>cases hb
       |gptr k o c=>cases hb
       |_=>exact id
   cases a with
   |agg m=>
    simp only [okT] at hok
    split at hok
    · rename_i hm
      obtain ⟨⟨cs,h2,h3⟩,h4⟩:=h
      exact ⟨⟨cs,h2,renL_back hd hm h3⟩,renT_back hd hok h4⟩
    · cases hok
   |fn f m=>
    simp only [okT] at hok
    split at hok
    · rename_i hm
      obtain ⟨⟨cs,h2,h3⟩,h4⟩:=h
      exact ⟨⟨cs,h2,renL_back hd hm h3⟩,renT_back hd hok h4⟩
    · cases hok
   |tup m=>simp [okT,okC] at hok
   |_=>
    simp only [okT] at hok
    split at hok
    · rename_i hm
      exact ⟨hC hm h.1,renT_back hd hok h.2⟩
    · cases hok
  |[],_::_,_,h=>h.elim
  |_::_,[],_,h=>h.elim
end
theorem hasN_false:∀{n:Nat} {l:List Nat},hasN n l=false→n∉l
  |_,[],_=>by simp
  |n,m::l,h=>by
   simp only [hasN] at h
   split at h
   · cases h
   · rename_i hb
     simp only [List.mem_cons,not_or]
     exact ⟨beq_false hb,hasN_false h⟩
theorem difN_nodup:∀{l:List Nat},difN l=true→l.Nodup
  |[],_=>by simp
  |n::l,h=>by
   simp only [difN] at h
   split at h
   · cases h
   · rename_i hb;exact List.nodup_cons.2 ⟨hasN_false hb,difN_nodup h⟩
theorem locs_mem:∀{l:List Nat},locs l=true→∀n∈l,loc n=true
  |[],_,_,hn=>by cases hn
  |m::l,h,n,hn=>by
   simp only [locs] at h
   split at h
   · rename_i hm
     rcases List.mem_cons.1 hn with rfl|hn
     · exact hm
     · exact locs_mem h n hn
   · cases h
theorem fnd_cons {i j k:Nat} {σ:List (Nat × Nat)}:fndN ((i,j)::σ) k=if i=k then some j else fndN σ k:=by
  simp only [fndN]
  cases h:Nat.beq i k with
  |true=>simp [beq_iff'.1 h]
  |false=>simp [beq_false h]
theorem fnd_mem:∀{σ:List (Nat × Nat)} {i j:Nat},fndN σ i=some j→(i,j)∈σ
  |[],_,_,h=>by cases h
  |(a,b)::σ,i,j,h=>by
   rw [fnd_cons] at h
   split at h
   · rename_i e;subst e;cases h;simp
   · exact List.mem_cons_of_mem _ (fnd_mem h)
theorem snd_mem:∀{σ:List (Nat × Nat)} {i j:Nat},(i,j)∈σ→j∈snds σ
  |(a,b)::σ,i,j,h=>by
   simp only [snds,List.mem_cons]
   rcases List.mem_cons.1 h with e|h
   · cases e;exact .inl rfl
   · exact .inr (snd_mem h)
theorem fnd_inj:∀{σ:List (Nat × Nat)},(snds σ).Nodup→∀{i i' j:Nat},fndN σ i=some j→fndN σ i'=some j→i=i'
  |[],_,_,_,_,h,_=>by cases h
  |(a,b)::σ,hn,i,i',j,h,h'=>by
   simp only [snds,List.nodup_cons] at hn
   rw [fnd_cons] at h h'
   split at h
   · rename_i e
     subst e
     split at h'
     · rename_i e;exact e
     · cases h;exact absurd (snd_mem (fnd_mem h')) hn.1
   · split at h'
     · cases h';exact absurd (snd_mem (fnd_mem h)) hn.1
     · exact fnd_inj hn.2 h h'
theorem fst_mem {α:Type}:∀{S:List (Nat × α)} {k:Nat} {B:α},(k,B)∈S→k∈fsts S
  |(j,b)::S,k,B,h=>by
   simp only [fsts,List.mem_cons]
   rcases List.mem_cons.1 h with e|h
   · cases e;exact .inl rfl
   · exact .inr (fst_mem h)
theorem find_mem:∀{S:Store} {k:Nat} {B:Blk},findS S k=some B→(k,B)∈S
  |(j,b)::S,k,B,h=>by
   rw [find_cons] at h
   split at h
   · rename_i e;subst e;cases h;simp
   · exact List.mem_cons_of_mem _ (find_mem h)
theorem okS_mem {σ:List (Nat × Nat)}:∀{S:Store},okS σ S=true→∀{k:Nat} {B:Blk},(k,B)∈S→(∃j,fndN σ k=some j)∧okB σ B=true
  |(i,b)::S,h,k,B,hm=>by
   simp only [okS] at h
   split at h
   · rename_i j hj hb
     rcases List.mem_cons.1 hm with e|hm
     · cases e;exact ⟨⟨_,hj⟩,hb⟩
     · exact okS_mem h hm
   · cases h
theorem plainS_mem:∀{S:Store},plainS S=true→∀{k:Nat} {B:Blk},(k,B)∈S→∀wm r ov,B= .vec wm r ov→ov=[]
  |(i,b)::S,h,k,B,hm,wm,r,ov,e=>by
   subst e
   rcases List.mem_cons.1 hm with e|hm
   · cases e
     cases ov with
     |nil=>rfl
     |cons x l=>simp [plainS] at h
   · refine plainS_mem (S:=S) ?_ hm wm r ov rfl
     cases b with
     |box l=>exact h
     |map=>exact h
     |deep r hole=>cases hole<;>first|exact h|(simp [plainS] at h)
     |gho=>simp [plainS] at h
     |stk=>simp [plainS] at h
     |jnk=>exact h
     |vec wm' r' ov'=>cases ov'<;>first|exact h|(simp [plainS] at h)
theorem plainS_stk:∀{S:Store},plainS S=true→∀{k:Nat} {B:Blk},(k,B)∈S→∀n r,B≠.stk n r
  |(i,b)::S,h,k,B,hm,n,r=>fun e=>by
   subst e
   rcases List.mem_cons.1 hm with e|hm
   · cases e;simp [plainS] at h
   · refine plainS_stk (S:=S) ?_ hm n r rfl
     cases b with
     |box l=>exact h
     |map=>exact h
     |deep r hole=>cases hole<;>first|exact h|(simp [plainS] at h)
     |gho=>simp [plainS] at h
     |stk=>simp [plainS] at h
     |jnk=>exact h
     |vec wm' r' ov'=>cases ov'<;>first|exact h|(simp [plainS] at h)
theorem BlkH.base {ρ:Env} {w:World} {M:Msk} {k:Nat} {B:Blk} {o:Own} (h:BlkH ρ w M k B) (hn:∀n r,B≠.stk n r) (ho:ρ k=some o):o.base=o:=by
  cases B with
  |box l=>obtain ⟨b,h1,_⟩:=h;rw [h1] at ho;cases ho;rfl
  |map kd vk m=>obtain ⟨b,h1,_⟩:=h;rw [h1] at ho;cases ho;rfl
  |deep r hole=>obtain ⟨o',rows,h1,_⟩:=h;rw [h1] at ho;cases ho;rfl
  |gho l i j=>obtain ⟨o',rows,h1,_⟩:=h;rw [h1] at ho;cases ho;rfl
  |stk n r=>exact absurd rfl (hn n r)
  |jnk n z=>obtain ⟨o',h1,_⟩:=h;rw [h1] at ho;cases ho;rfl
  |vec wm r ov=>obtain ⟨⟨o',h1,_⟩,_⟩:=h;rw [h1] at ho;cases ho;rfl
theorem renS_mem {σ:List (Nat × Nat)}:∀{S:Store} {k:Nat} {B:Blk} {j:Nat},(k,B)∈S→fndN σ k=some j→(j,renB σ B)∈renS σ S
  |(i,b)::S,k,B,j,hm,hf=>by
   simp only [renS]
   rcases List.mem_cons.1 hm with e|hm
   · cases e;rw [hf];simp
   · split
     · exact List.mem_cons_of_mem _ (renS_mem hm hf)
     · exact renS_mem hm hf
theorem renS_keys {σ:List (Nat × Nat)}:∀{S:Store} {j:Nat},j∈fsts (renS σ S)→∃i,i∈fsts S∧fndN σ i=some j
  |(i,b)::S,j,h=>by
   simp only [renS] at h
   split at h
   · rename_i j' hj'
     simp only [fsts,List.mem_cons] at h
     rcases h with rfl|h
     · exact ⟨i,by simp [fsts],hj'⟩
     · obtain ⟨i',h1,h2⟩:=renS_keys h;exact ⟨i',by simp [fsts,h1],h2⟩
   · obtain ⟨i',h1,h2⟩:=renS_keys h;exact ⟨i',by simp [fsts,h1],h2⟩
theorem renS_nodup {σ:List (Nat × Nat)} (hσ:(snds σ).Nodup):∀{S:Store},(fsts S).Nodup→(fsts (renS σ S)).Nodup
  |[],_=>by simp [renS,fsts]
  |(i,b)::S,h=>by
   simp only [fsts,List.nodup_cons] at h
   simp only [renS]
   split
   · rename_i j hj
     simp only [fsts,List.nodup_cons]
     refine ⟨fun hm=>?_,renS_nodup hσ h.2⟩
     obtain ⟨i',h1,h2⟩:=renS_keys hm
     obtain rfl:=fnd_inj hσ hj h2
     exact h.1 h1
   · exact renS_nodup hσ h.2
theorem updS_find:∀{V S:Store} {K:Store→Prop},updS V S K→∃S',K S'∧(∀k,k∉fsts V→findS S' k=findS S k)∧((fsts V).Nodup→∀k B,(k,B)∈V→findS S' k=some B)
  |[],S,K,h=>⟨S,h,fun _ _=>rfl,fun _ k B hm=>by cases hm⟩
  |(i,b)::V,S,K,h=>by
   simp only [updS] at h
   have step:∃S1,updS V S1 K∧∀k,findS S1 k=if i=k then some b else findS S k:=by
     cases hf:findS S i with
     |none=>
      rw [hf] at h
      exact ⟨_,h,fun k=>find_cons⟩
     |some B=>
      rw [hf] at h
      obtain ⟨S1,h1,h2⟩:=set_store h
      refine ⟨S1,h1,fun k=>?_⟩
      rw [h2 k]
      by_cases hk:i=k
      · subst hk;simp [hf]
      · simp [hk,Ne.symm hk]
   obtain ⟨S1,h1,h2⟩:=step
   obtain ⟨S',h3,h4,h5⟩:=updS_find h1
   refine ⟨S',h3,fun k hk=>?_,fun hn k B hm=>?_⟩
   · simp only [fsts,List.mem_cons,not_or] at hk
     rw [h4 k hk.2,h2 k,if_neg (Ne.symm hk.1)]
   · simp only [fsts,List.nodup_cons] at hn
     rcases List.mem_cons.1 hm with e|hm
     · cases e
       rw [h4 _ hn.1,h2,if_pos rfl]
     · exact h5 hn.2 k B hm
theorem gone_mem {S1 S2:Store}:∀{σ:List (Nat × Nat)} {i j:Nat},(i,j)∈σ→j∈gone S1 S2 σ∨((findS S1 i).isSome∧(findS S2 i).isSome∧loc i=false)
  |(a,b)::σ,i,j,h=>by
   simp only [gone]
   rcases List.mem_cons.1 h with e|h
   · cases e
     split
     · rename_i h1 h2 h3;exact .inr ⟨by rw [h1];rfl,by rw [h2];rfl,h3⟩
     · exact .inl (by simp)
   · rcases gone_mem (S1:=S1) (S2:=S2) h with h|h
     · exact .inl (by split<;>simp [h])
     · exact .inr h
theorem putS_find {σ:List (Nat × Nat)} (hσ:(snds σ).Nodup):∀{R S:Store} {K:Store→Prop},(fsts R).Nodup→putS σ R S K→
    ∃S',K S'∧∀k,findS S' k=(match (fsts R).find? (fun i=>fndN σ i==some k) with|some i=>(findS R i).map (renB σ)|none=>findS S k)
  |[],S,K,_,h=>⟨S,h,fun k=>by simp [fsts]⟩
  |(i,b)::R,S,K,hn,h=>by
   simp only [fsts,List.nodup_cons] at hn
   simp only [putS] at h
   have tail:∀{S1:Store},putS σ R S1 K→(∀k,findS S1 k=if fndN σ i=some k then some (renB σ b) else findS S k)→
       ∃S',K S'∧∀k,findS S' k=(match (fsts ((i,b)::R)).find? (fun i=>fndN σ i==some k) with|some i'=>(findS ((i,b)::R) i').map (renB σ)|none=>findS S k):=by
     intro S1 h1 h2
     obtain ⟨S',h3,h4⟩:=putS_find hσ hn.2 h1
     refine ⟨S',h3,fun k=>?_⟩
     rw [h4 k]
     simp only [fsts,List.find?_cons]
     by_cases hik:fndN σ i=some k
     · simp only [hik,beq_self_eq_true]
       have:(fsts R).find? (fun i=>fndN σ i==some k)=none:=by
         rw [List.find?_eq_none]
         intro i' hi' hh
         have:=fnd_inj hσ hik (by simpa using hh)
         subst this
         exact hn.1 hi'
       rw [this]
       simp [h2 k,hik,find_cons]
     · have hb:(fndN σ i==some k)=false:=by simpa using hik
       simp only [hb]
       cases hfi:(fsts R).find? (fun i=>fndN σ i==some k) with
       |none=>simp [h2 k,hik]
       |some i'=>
        have hm:=List.mem_of_find?_eq_some hfi
        have hne:i≠i':=fun e=>hn.1 (e▸hm)
        simp [find_cons,hne]
   cases hf:fndN σ i with
   |none=>
    rw [hf] at h
    exact tail h fun k=>by simp [hf]
   |some j=>
    rw [hf] at h
    simp only at h
    cases hfs:findS S j with
    |some B=>
     rw [hfs] at h
     obtain ⟨S1,h1,h2⟩:=set_store h
     refine tail h1 fun k=>?_
     rw [h2 k]
     by_cases hjk:j=k
     · subst hjk;simp [hfs,hf]
     · simp [hf,hjk,Ne.symm hjk]
    |none=>
     rw [hfs] at h
     refine tail h fun k=>?_
     rw [find_cons]
     by_cases hjk:j=k<;>simp [hf,hjk]
theorem leTs_sound (st:St M0 ρ M S w):∀{l m:List AV} {vs:List Value},leTs S S' l m→RepL (RepT ρ w M) l vs→RepL (RepT (entE S S' ρ) w (entM S' ρ M)) m vs
  |[],[],vs,_,h=>by cases vs<;>exact h
  |_::_,_::_,_::_,h,hv=>⟨entT st h.1 hv.1,leTs_sound st h.2 hv.2⟩
  |[],_::_,_,h,_=>h.elim
  |_::_,[],_,h,_=>h.elim
  |_::_,_::_,[],_,hv=>hv.elim
theorem fnd_lent {S1:Store}:∀{σ:List (Nat × Nat)} {i j:Nat},fndN (lentN S1 σ) i=some j↔(findS S1 i).isSome∧fndN σ i=some j
  |[],i,j=>by simp [lentN,fndN]
  |(a,b)::σ,i,j=>by
   have ih:=fnd_lent (S1:=S1) (σ:=σ) (i:=i) (j:=j)
   simp only [lentN]
   cases hf:findS S1 a with
   |some B=>
    simp only [fnd_cons]
    by_cases hai:a=i
    · subst hai;simp [hf]
    · simp only [hai,if_false];exact ih
   |none=>
    simp only [fnd_cons]
    by_cases hai:a=i
    · subst hai
      rw [ih];simp [hf]
    · simp only [hai,if_false];exact ih
theorem snds_lent {S1:Store}:∀{σ:List (Nat × Nat)},(snds σ).Nodup→(snds (lentN S1 σ)).Nodup
  |[],_=>by simp [lentN,snds]
  |(a,b)::σ,h=>by
   simp only [snds,List.nodup_cons] at h
   simp only [lentN]
   have sub:∀{σ:List (Nat × Nat)} {x:Nat},x∈snds (lentN S1 σ)→x∈snds σ:=by
     intro σ
     induction σ with
     |nil=>intro x hx;exact hx
     |cons e σ ih=>
      intro x hx
      obtain ⟨i,j⟩:=e
      simp only [lentN] at hx
      split at hx
      · simp only [snds,List.mem_cons] at hx ⊢
        exact hx.imp id ih
      · simp only [snds,List.mem_cons];exact .inr (ih hx)
   split
   · simp only [snds,List.nodup_cons]
     exact ⟨fun hm=>h.1 (sub hm),snds_lent h.2⟩
   · exact snds_lent h.2
theorem lend_sound (st:St M0 ρ M S w) {σ:List (Nat × Nat)} (hσ:(snds σ).Nodup) {S1:Store} (hall:∀i j,fndN σ i=some j→(findS S1 i).isSome) (hok:okS σ S1=true) (hS:∀j B,(j,B)∈renS σ S1→findS S j=some B):
    ∃hw,St (lentBase (fun i=>(fndN σ i).bind ρ) M w hw) (fun i=>(fndN σ i).bind ρ) M S1 w∧(∀i,(findS S1 i).isSome→∃j,fndN σ i=some j∧(ρ j).isSome):=by
  have name:∀i B,findS S1 i=some B→∃j,fndN σ i=some j∧findS S j=some (renB σ B)∧okB σ B=true:=fun i B hB=>by
    have hm:=find_mem hB
    obtain ⟨⟨j,hj⟩,hb⟩:=okS_mem hok hm
    exact ⟨j,hj,hS _ _ (renS_mem hm hj),hb⟩
  have hd:∀i j,fndN σ i=some j→(fndN σ i).bind ρ=ρ j:=fun i j h=>by rw [h];rfl
  have hbase:∀i o,(fndN σ i).bind ρ=some o→o.base=o:=fun i o ho=>by
    cases hf:fndN σ i with
    |none=>rw [hf] at ho;cases ho
    |some j=>
     rw [hf] at ho
     obtain ⟨B,hB⟩:=Option.isSome_iff_exists.1 (hall i j hf)
     obtain ⟨j',h1,h2,h3⟩:=name i B hB
     rw [hf] at h1;cases h1
     exact (st.blk j _ h2).base (fun n r e=>by cases B<;>simp [renB] at e;simp [okB] at h3) ho
  have hblk:∀i b,hasB (fun i=>(fndN σ i).bind ρ) i b→∃j,fndN σ i=some j∧hasB ρ j b:=fun i b hb=>by
    cases hf:fndN σ i with
    |none=>simp [hasB,hf] at hb
    |some j=>exact ⟨j,rfl,by simpa [hasB,hf] using hb⟩
  refine ⟨fun w' hs=>M0.hw w' (st.stp.trans hs fun b off hb hm=>(by
    obtain ⟨⟨k,hk⟩,h2⟩:=hm
    obtain ⟨j,_,hj⟩:=hblk k b hk
    exact ⟨(st.fresh j b hj).resolve_left (Nat.not_le_of_lt hb),st.sub b off hb h2⟩)),⟨fun i=>?_,fun i B hB=>?_,fun i i' b hi hi'=>?_,st.mlt,Stp.refl _ _,fun b off _ hm=>hm,fun b off _ _ hm=>hm,fun k b hk=>.inr ⟨k,hk⟩,fun k o _ hk=>by rw [hbase k o hk];exact hk⟩,fun i hi=>?_⟩
  · cases hB:findS S1 i with
    |none=>
     cases hf:fndN σ i with
     |none=>rfl
     |some j=>have:=hall i j hf;rw [hB] at this;cases this
    |some B=>
     obtain ⟨j,h1,h3,_⟩:=name i B hB
     show ((fndN σ i).bind ρ).isSome=_
     rw [hd i j h1,st.dom j,h3];rfl
  · obtain ⟨j,h1,h3,h4⟩:=name i B hB
    have hBj:=st.blk j _ h3
    cases B with
    |box l=>
     obtain ⟨b,g1,cs,ty,g2,g3,g4⟩:=hBj
     exact ⟨b,(hd i j h1).trans g1,cs,ty,g2,g3,renL_back hd h4 g4⟩
    |map kd vk m=>
     obtain ⟨b,g1,g2⟩:=hBj
     exact ⟨b,(hd i j h1).trans g1,g2⟩
    |deep r hole=>simp [okB] at h4
    |gho=>simp [okB] at h4
    |stk=>simp [okB] at h4
    |jnk=>simp [okB] at h4
    |vec wm r ov=>
     have hov:ov=[]:=by cases ov<;>first|rfl|(simp [okB] at h4)
     subst hov
     obtain ⟨⟨o,g1,g2,g3,g4,g5,g6⟩,_⟩:=hBj
     refine ⟨⟨o,(hd i j h1).trans g1,g2,g3,g4,g5,?_⟩,.inl rfl⟩
     cases hbl:o.blk with
     |none=>simp only [hbl] at g6 ⊢;exact g6
     |some b=>simp only [hbl] at g6 ⊢;exact g6
  · obtain ⟨j,h1,h2⟩:=hblk i b hi
    obtain ⟨j',h1',h2'⟩:=hblk i' b hi'
    obtain rfl:=st.inj _ _ _ h2 h2'
    exact fnd_inj hσ h1 h1'
  · obtain ⟨B,hB⟩:=Option.isSome_iff_exists.1 hi
    obtain ⟨j,h1,h3,_⟩:=name i B hB
    exact ⟨j,h1,by rw [st.dom j,h3];rfl⟩
theorem back_sound {ρk ρ1 ρ2:Env} {M2:Msk} {w':World} {σ:List (Nat × Nat)} {S1 S2 Sk Sf:Store} {T:List AV} {a:Act} {ret:AV} {v:Value} (hσ:(snds σ).Nodup) (_hn2:(fsts S2).Nodup) (hp2:plainS S2=true) (hloc:locs (gone S1 S2 σ)=true)
    (hρ1:∀i o,ρ1 i=some o→∃j,fndN σ i=some j∧ρ j=some o) (hρ1':∀i j,(findS S1 i).isSome→fndN σ i=some j→ρ1 i=ρ j) (hk:ρk=dropEs ρ (gone S1 S2 σ)) (st0:St M0 ρ M S w) (st:St M0 ρk M Sk w) (tm:Tm ρk w M T a)
    {hw:LentW ρ1 M w} (st2:St (lentBase ρ1 M w hw) ρ2 M2 S2 w') (hv:RepT ρ2 w' M2 ret v)
    (hSf:∀k,findS Sf k=(match (fsts S2).find? (fun i=>fndN σ i==some k) with|some i=>(findS S2 i).map (renB σ)|none=>findS Sk k)):
    ∃ρ',St M0 ρ' M2 Sf w'∧Tm ρ' w' M2 T a∧RepT ρ' w' M2 (renT σ ret) v:=by
  let nm:Nat→Option Nat:=fun k=>(fsts S2).find? (fun i=>fndN σ i==some k)
  have nm_some:∀{k i},nm k=some i→i∈fsts S2∧fndN σ i=some k:=fun {k i} h=>⟨List.mem_of_find?_eq_some h,by have:=List.find?_some h;simpa using this⟩
  have nm_of:∀{k i},(findS S2 i).isSome→fndN σ i=some k→nm k=some i:=fun {k i} h1 h2=>by
    cases hn:nm k with
    |none=>
     obtain ⟨B,hB⟩:=Option.isSome_iff_exists.1 h1
     have:=List.find?_eq_none.1 hn i (fst_mem (find_mem hB))
     simp [h2] at this
    |some i'=>
     obtain ⟨_,h3⟩:=nm_some hn
     rw [fnd_inj hσ h3 h2]
  let ρ':Env:=fun k=>match nm k with|some i=>ρ2 i|none=>ρk k
  have hlent:∀b,(lentBase ρ1 M w hw).lent b→∃j,hasB ρ j b:=fun b ⟨i,hi⟩=>by
    cases ho:ρ1 i with
    |none=>simp [hasB,ho] at hi
    |some o=>
     obtain ⟨j,_,h2⟩:=hρ1 i o ho
     exact ⟨j,by simpa [hasB,h2,ho] using hi⟩
  have keepρ:∀k o,ρk k=some o→ρ' k=some o:=fun k o ho=>by
    show (match nm k with|some i=>ρ2 i|none=>ρk k)=some o
    cases hn:nm k with
    |none=>exact ho
    |some i=>
     obtain ⟨h1,h2⟩:=nm_some hn
     rcases gone_mem (S1:=S1) (S2:=S2) (fnd_mem h2) with h3|⟨h3,h4,h5⟩
     · rw [hk] at ho;simp [dropEs,h3] at ho
     · have hs:(ρ2 i).isSome:=by rw [st2.dom i];exact h4
       obtain ⟨o2,ho2⟩:=Option.isSome_iff_exists.1 hs
       have h6:=st2.pin i o2 h5 ho2
       obtain ⟨B2,hB2⟩:=Option.isSome_iff_exists.1 h4
       have h6:ρ1 i=some o2.base:=h6
       rw [(st2.blk i B2 hB2).base (plainS_stk hp2 (find_mem hB2)) ho2] at h6
       rw [hρ1' i k h3 h2] at h6
       have h7:ρk k=ρ k:=by
         rw [hk] at ho ⊢
         simp only [dropEs] at ho ⊢
         split at ho
         · cases ho
         · rename_i hng;rw [if_neg hng]
       rw [h7,h6] at ho
       show ρ2 i=some o
       rw [ho2];exact ho
  have fwd:∀i j o,fndN σ i=some j→ρ2 i=some o→ρ' j=some o:=fun i j o h1 h2=>by
    have hs:(findS S2 i).isSome:=by rw [←st2.dom i,h2];rfl
    show (match nm j with|some i=>ρ2 i|none=>ρk j)=some o
    rw [nm_of hs h1];exact h2
  have hkM:Keep w M w' M2:=fun b off c hc hm=>by
    have hlt:=cell_lt hc
    refine ⟨st2.stp.cell hc (fun hh=>hm hh.2),fun h2=>hm (st2.sub b off hlt h2)⟩
  have notlent:∀k b,nm k=none→hasB ρk k b→¬(lentBase ρ1 M w hw).lent b:=fun k b hn hb ⟨i,hi⟩=>by
    have hkk:ρk k=ρ k∧k∉gone S1 S2 σ:=by
      rw [hk] at hb ⊢
      by_cases hg:k∈gone S1 S2 σ
      · simp [hasB,dropEs,hg] at hb
      · exact ⟨by simp [dropEs,hg],hg⟩
    cases ho:ρ1 i with
    |none=>simp [hasB,ho] at hi
    |some o=>
     obtain ⟨j,h1,h2⟩:=hρ1 i o ho
     have hj:hasB ρ j b:=by simpa [hasB,h2,ho] using hi
     have hk2:hasB ρ k b:=by simpa [hasB,hkk.1] using hb
     obtain rfl:=st0.inj _ _ _ hk2 hj
     rcases gone_mem (S1:=S1) (S2:=S2) (fnd_mem h1) with h3|⟨h3,h4,h5⟩
     · exact hkk.2 h3
     · rw [nm_of h4 h1] at hn;cases hn
  have hblk:∀k b,hasB ρ' k b→(∃i,nm k=some i∧hasB ρ2 i b)∨(nm k=none∧hasB ρk k b):=fun k b hb=>by
    simp only [hasB,ρ'] at hb
    cases hn:nm k with
    |none=>rw [hn] at hb;exact .inr ⟨rfl,hb⟩
    |some i=>rw [hn] at hb;exact .inl ⟨i,rfl,hb⟩
  have hheap:∀b,b<w.heap.size→¬(lentBase ρ1 M w hw).lent b→w'.heap[b]? =w.heap[b]?∧∀off,M2 b off↔M b off:=fun b hb hl=>by
    refine ⟨?_,fun off=>⟨fun h=>st2.sub b off hb h,fun h=>st2.old b off hb hl h⟩⟩
    rcases st2.stp.2 b hb with h|⟨cs,cs',ty,h1,h2,h3,h4⟩|⟨_,_,_,_,_,_,hh⟩
    · exact h
    · rw [h1,h2]
      have:cs'=cs:=Array.ext_getElem? fun i=>h4 i (fun hh=>hl hh.1)
      rw [this]
    · exact absurd hh.1 hl
  refine ⟨ρ',⟨fun k=>?_,fun k B hB=>?_,fun i j b hi hj=>?_,st2.mlt,st.stp.trans st2.stp (fun b off hb hm=>?_),fun b off hb hm=>?_,fun b off hb hl hm=>?_,fun k b hb=>?_,fun k o hl ho=>?_⟩,
    ⟨tm.defers,tm.size,fun i=>RepT.keep hkM keepρ (tm.tmp i)⟩,renT_fwd fwd hv⟩
  · rw [hSf k]
    show (match nm k with|some i=>ρ2 i|none=>ρk k).isSome=(match nm k with|some i=>_|none=>_:Option Blk).isSome
    cases hn:nm k with
    |none=>exact st.dom k
    |some i=>simp only [Option.isSome_map];exact st2.dom i
  · rw [hSf k] at hB
    change (match nm k with|some i=>_|none=>_:Option Blk)=some B at hB
    cases hn:nm k with
    |none=>
     rw [hn] at hB
     have hkk:ρ' k=ρk k:=by show (match nm k with|some i=>ρ2 i|none=>ρk k)=_;rw [hn]
     have h1:=BlkH.ext (ρ':=ρ') (w':=w') (M':=M2) hkM keepρ (fun b hb=>hheap b (blk_lt st hb) (notlent k b hn hb)) (st.blk k B hB)
     exact h1
    |some i=>
     rw [hn] at hB
     replace hB:(findS S2 i).map (renB σ)=some B:=hB
     obtain ⟨hi1,hi2⟩:=nm_some hn
     cases hB2:findS S2 i with
     |none=>rw [hB2] at hB;cases hB
     |some B2=>
      rw [hB2] at hB;cases hB
      have hBi:=st2.blk i B2 hB2
      cases B2 with
      |box l=>
       obtain ⟨b,g1,cs,ty,g2,g3,g4⟩:=hBi
       exact ⟨b,fwd i k _ hi2 g1,cs,ty,g2,g3,renL_fwd fwd g4⟩
      |map kd vk m=>
       obtain ⟨b,g1,g2⟩:=hBi
       exact ⟨b,fwd i k _ hi2 g1,g2⟩
      |deep r hole=>
       obtain ⟨o,rows,g1,g2⟩:=hBi
       exact ⟨o,rows,fwd i k _ hi2 g1,g2⟩
      |gho l i' j'=>
       obtain ⟨o,rows,g1,g2⟩:=hBi
       exact ⟨o,rows,fwd i k _ hi2 g1,g2⟩
      |stk n r=>exact absurd rfl (plainS_stk hp2 (find_mem hB2) n r)
      |jnk n z=>
       obtain ⟨o,g1,g2⟩:=hBi
       exact ⟨o,fwd i k _ hi2 g1,g2⟩
      |vec wm r ov=>
       obtain rfl:=plainS_mem hp2 (find_mem hB2) wm r ov rfl
       obtain ⟨⟨o,g1,g2,g3,g4,g5,g6⟩,_⟩:=hBi
       refine ⟨⟨o,fwd i k _ hi2 g1,g2,g3,g4,g5,?_⟩,.inl rfl⟩
       cases hbl:o.blk with
       |none=>simp only [hbl] at g6 ⊢;exact g6
       |some b=>simp only [hbl] at g6 ⊢;exact g6
  · rcases hblk i b hi with ⟨x,hx,hxb⟩|⟨hx,hxb⟩<;>rcases hblk j b hj with ⟨y,hy,hyb⟩|⟨hy,hyb⟩
    · obtain rfl:=st2.inj _ _ _ hxb hyb
      have h1:=(nm_some hx).2
      rw [(nm_some hy).2] at h1
      exact (Option.some.inj h1).symm
    · have hlt:=blk_lt st hyb
      exact absurd ((st2.fresh x b hxb).resolve_left (Nat.not_le_of_lt hlt)) (notlent j b hy hyb)
    · have hlt:=blk_lt st hxb
      exact absurd ((st2.fresh y b hyb).resolve_left (Nat.not_le_of_lt hlt)) (notlent i b hx hxb)
    · exact st.inj _ _ _ hxb hyb
  · obtain ⟨j,hj⟩:=hlent b hm.1
    have hm2:M b off:=hm.2
    exact ⟨(st0.fresh j b hj).resolve_left (Nat.not_le_of_lt hb),st0.sub b off hb hm2⟩
  · exact st.sub b off hb (st2.sub b off (Nat.lt_of_lt_of_le hb st.stp.1) hm)
  · refine st2.old b off (Nat.lt_of_lt_of_le hb st.stp.1) (fun hh=>?_) (st.old b off hb hl hm)
    obtain ⟨j,hj⟩:=hlent b hh
    exact st0.notFresh hb hl hj
  · rcases hblk k b hb with ⟨x,hx,hxb⟩|⟨hx,hxb⟩
    · rcases st2.fresh x b hxb with h|h
      · exact .inl (Nat.le_trans st.stp.1 h)
      · obtain ⟨j,hj⟩:=hlent b h
        exact st0.fresh j b hj
    · exact st.fresh k b hxb
  · have ho:(match nm k with|some i=>ρ2 i|none=>ρk k)=some o:=ho
    cases hn:nm k with
    |none=>rw [hn] at ho;exact st.pin k o hl ho
    |some i=>
     rw [hn] at ho
     obtain ⟨h1,h2⟩:=nm_some hn
     rcases gone_mem (S1:=S1) (S2:=S2) (fnd_mem h2) with h3|⟨h3,h4,h5⟩
     · rw [locs_mem hloc k h3] at hl;cases hl
     · have h6:ρ1 i=some o.base:=st2.pin i o h5 ho
       obtain ⟨B2,hB2⟩:=Option.isSome_iff_exists.1 h4
       rw [(st2.blk i B2 hB2).base (plainS_stk hp2 (find_mem hB2)) ho] at h6
       rw [hρ1' i k h3 h2] at h6
       exact st0.pin k o hl h6
theorem callM_callable {F:Spec} (hF:SpecOk P F) {f:FuncId} {xs:List Operand} {x:Operand} {T:List AV} {K:AV→List AV→Store→Prop} (h:callMK F f xs x T S K):Callable P f:=by
  rcases h with ⟨fz,σ,S1,as2,ret,S2,hf,_⟩|⟨fz,σ,S1,as2,X,ret,S2,ok,hf,_⟩
  · exact (hF.m f as2 S1 ret S2 hf).1
  · exact (hF.n f as2 S1 X ret S2 ok hf).1
theorem callN_sound {F:Spec} (hF:SpecOk P F) {f:FuncId} {xs:List Operand} {x:Operand} {T:List AV} {K:AV→List AV→Store→Prop} {a:Act} (h:callNK F f xs x T S K) (st:St M0 ρ M S w) (tm:Tm ρ w M T a):
    ∃cs:List Value,a.eval x= .func (.func f) #[] cs.toArray∧Calls P f (xs.map a.eval++cs).toArray w fun e w'=>∃u,e= .returned u∧∃ρ' M' T' S' v,K v T' S'∧St M0 ρ' M' S' w'∧Tm ρ' w' M' T' a∧T'.length=T.length∧RepT ρ' w' M' v u:=by
  obtain ⟨fz,σ,S1,as2,X,ret,S2,okz,hf,h⟩:=h
  rw [ifK_iff] at h
  obtain ⟨hok,h⟩:=h
  have hoks:(difN (fsts σ)=true∧difN (snds σ)=true∧difN (fsts S1)=true)∧okT (lentN S1 σ) as2=true∧okS (lentN S1 σ) S1=true:=by
    unfold okN at hok
    split at hok
    · rename_i h1 h2 h3
      split at hok
      · rename_i h5 h6;exact ⟨⟨h1,h2,h3⟩,h5,h6⟩
      · cases hok
    · cases hok
  obtain ⟨⟨d1,d2,d3⟩,ok1,ok2⟩:=hoks
  have hσ:=difN_nodup d2
  obtain ⟨T1,Sa,ρa,Ma,hh,sta,tma,hla,_⟩:=freezes_sound h st tm
  clear h
  simp only [evals_iff,capK,eval_iff] at hh
  split at hh
  · rename_i g cap hx
    rw [ifK_iff] at hh
    obtain ⟨hg,h⟩:=hh
    obtain rfl:=beq_iff'.1 hg
    obtain ⟨S',h,_,hfind⟩:=updS_find h
    rw [ifK_iff] at h
    obtain ⟨hnames,⟨hle,hargs⟩,h⟩:=h
    have hxv:=eval_rep tma x
    rw [hx] at hxv
    obtain ⟨cs,hxv,hcs⟩:=hxv
    refine ⟨cs.toList,by simpa using hxv,?_⟩
    have hall:∀i j,fndN (lentN S1 σ) i=some j→(findS S1 i).isSome:=fun i j hij=>(fnd_lent.1 hij).1
    have hσ1:=snds_lent (S1:=S1) hσ
    have stb:=ent_st sta hle
    have tmb:Tm (entE Sa S' ρa) w (entM S' ρa Ma) T1 a:=⟨tma.defers,tma.size,fun i=>namesT_keep (fun k hk hρ=>by rw [sta.dom k] at hρ;exact hρ) i hnames (tma.tmp i)⟩
    have hav:RepL (RepT (entE Sa S' ρa) w (entM S' ρa Ma)) (renTL (lentN S1 σ) as2) (xs.map a.eval++cs.toList):=by
      refine leTs_sound sta hargs ?_
      rw [show appA (xs.map (evalF T1)) cap=xs.map (evalF T1)++cap from by
        have:∀l m:List AV,appA l m=l++m:=fun l m=>by induction l with|nil=>rfl|cons a l ih=>simp [appA,ih]
        exact this _ _]
      refine RepL.append ?_ (hcs.imp fun _ _=>repT_of_repC)
      have:∀xs:List Operand,RepL (RepT ρa w Ma) (xs.map (evalF T1)) (xs.map a.eval):=fun xs=>by
        induction xs with
        |nil=>trivial
        |cons y ys ih=>exact ⟨eval_rep tma y,ih⟩
      exact this xs
    obtain ⟨hlw,st1,hst1⟩:=lend_sound stb hσ1 hall ok2 (fun j B hm=>hfind (renS_nodup hσ1 (difN_nodup d3)) j B hm)
    have hav1:=renT_back (ρ1:=fun i=>(fndN (lentN S1 σ) i).bind (entE Sa S' ρa)) (fun i j hij=>by simp only [hij];rfl) ok1 hav
    refine ((hF.n g as2 S1 X ret S2 okz hf).2 _ _ w _ hlw st1 hav1).mono fun e w' ⟨z,hz,v,ρ2,M2,he,st2,hv⟩=>⟨v,he,?_⟩
    have h:=h z hz
    rw [ifK_iff] at h
    obtain ⟨hok2,h⟩:=h
    have hoks2:difN (fsts (S2 z))=true∧plainS (S2 z)=true∧locs (gone S1 (S2 z) σ)=true:=by
      unfold okN2 at hok2
      split at hok2
      · rename_i h1 h2 h3;exact ⟨h1,h2,h3⟩
      · cases hok2
    obtain ⟨d4,ok3,ok4⟩:=hoks2
    obtain ⟨Tk,Sk,h,stk,tmk,hlk⟩:=forgets_sound h stb tmb
    obtain ⟨Sf,hK,hSf⟩:=putS_find hσ (difN_nodup d4) h
    obtain ⟨ρ',g1,g2,g3⟩:=back_sound (σ:=σ) (S1:=S1) (S2:=S2 z) (Sf:=Sf) (ρ:=entE Sa S' ρa) hσ (difN_nodup d4) ok3 ok4 (fun i o hi=>by
      cases hij:fndN (lentN S1 σ) i with
      |none=>simp [hij] at hi
      |some j=>exact ⟨j,(fnd_lent.1 hij).2,by simpa [hij] using hi⟩) (fun i j hs hij=>by
      have:fndN (lentN S1 σ) i=some j:=fnd_lent.2 ⟨hs,hij⟩
      simp [this]) rfl stb stk tmk st2 hv hSf
    exact ⟨ρ',M2,Tk,Sf,_,hK,g1,g2,hlk.trans hla,g3⟩
  · exact hh.elim
theorem callM_sound {F:Spec} (hF:SpecOk P F) {f:FuncId} {xs:List Operand} {x:Operand} {T:List AV} {K:AV→List AV→Store→Prop} {a:Act} (h:callMK F f xs x T S K) (st:St M0 ρ M S w) (tm:Tm ρ w M T a):
    ∃cs:List Value,a.eval x= .func (.func f) #[] cs.toArray∧Calls P f (xs.map a.eval++cs).toArray w fun e w'=>∃u,e= .returned u∧∃ρ' M' T' S' v,K v T' S'∧St M0 ρ' M' S' w'∧Tm ρ' w' M' T' a∧T'.length=T.length∧RepT ρ' w' M' v u:=by
  rcases h with ⟨fz,σ,S1,as2,ret,S2,hf,h⟩|h
  rotate_left
  · exact callN_sound hF h st tm
  rw [ifK_iff] at h
  obtain ⟨hok,h⟩:=h
  have hoks:(difN (fsts σ)=true∧difN (snds σ)=true∧difN (fsts S1)=true∧difN (fsts S2)=true)∧okT (lentN S1 σ) as2=true∧okS (lentN S1 σ) S1=true∧plainS S2=true∧locs (gone S1 S2 σ)=true:=by
    unfold okM at hok
    split at hok
    · rename_i h1 h2 h3 h4
      split at hok
      · rename_i h5 h6 h7 h8;exact ⟨⟨h1,h2,h3,h4⟩,h5,h6,h7,h8⟩
      · cases hok
    · cases hok
  obtain ⟨⟨d1,d2,d3,d4⟩,ok1,ok2,ok3,ok4⟩:=hoks
  have hσ:=difN_nodup d2
  obtain ⟨T1,Sa,ρa,Ma,hh,sta,tma,hla,_⟩:=freezes_sound h st tm
  clear h
  simp only [evals_iff,capK,eval_iff] at hh
  split at hh
  · rename_i g cap hx
    rw [ifK_iff] at hh
    obtain ⟨hg,h⟩:=hh
    obtain rfl:=beq_iff'.1 hg
    obtain ⟨S',h,_,hfind⟩:=updS_find h
    rw [ifK_iff] at h
    obtain ⟨hnames,⟨hle,hargs⟩,h⟩:=h
    have hxv:=eval_rep tma x
    rw [hx] at hxv
    obtain ⟨cs,hxv,hcs⟩:=hxv
    refine ⟨cs.toList,by simpa using hxv,?_⟩
    have hall:∀i j,fndN (lentN S1 σ) i=some j→(findS S1 i).isSome:=fun i j hij=>(fnd_lent.1 hij).1
    have hσ1:=snds_lent (S1:=S1) hσ
    have stb:=ent_st sta hle
    have tmb:Tm (entE Sa S' ρa) w (entM S' ρa Ma) T1 a:=⟨tma.defers,tma.size,fun i=>namesT_keep (fun k hk hρ=>by rw [sta.dom k] at hρ;exact hρ) i hnames (tma.tmp i)⟩
    have hav:RepL (RepT (entE Sa S' ρa) w (entM S' ρa Ma)) (renTL (lentN S1 σ) as2) (xs.map a.eval++cs.toList):=by
      refine leTs_sound sta hargs ?_
      rw [show appA (xs.map (evalF T1)) cap=xs.map (evalF T1)++cap from by
        have:∀l m:List AV,appA l m=l++m:=fun l m=>by induction l with|nil=>rfl|cons a l ih=>simp [appA,ih]
        exact this _ _]
      refine RepL.append ?_ (hcs.imp fun _ _=>repT_of_repC)
      have:∀xs:List Operand,RepL (RepT ρa w Ma) (xs.map (evalF T1)) (xs.map a.eval):=fun xs=>by
        induction xs with
        |nil=>trivial
        |cons y ys ih=>exact ⟨eval_rep tma y,ih⟩
      exact this xs
    obtain ⟨hlw,st1,hst1⟩:=lend_sound stb hσ1 hall ok2 (fun j B hm=>hfind (renS_nodup hσ1 (difN_nodup d3)) j B hm)
    have hav1:=renT_back (ρ1:=fun i=>(fndN (lentN S1 σ) i).bind (entE Sa S' ρa)) (fun i j hij=>by simp only [hij];rfl) ok1 hav
    obtain ⟨Tk,Sk,h,stk,tmk,hlk⟩:=forgets_sound h stb tmb
    refine ((hF.m g as2 S1 ret S2 hf).2 _ _ w _ hlw st1 hav1).mono fun e w' ⟨v,ρ2,M2,he,st2,hv⟩=>⟨v,he,?_⟩
    obtain ⟨Sf,hK,hSf⟩:=putS_find hσ (difN_nodup d4) h
    obtain ⟨ρ',g1,g2,g3⟩:=back_sound (σ:=σ) (S1:=S1) (S2:=S2) (Sf:=Sf) (ρ:=entE Sa S' ρa) hσ (difN_nodup d4) ok3 ok4 (fun i o hi=>by
      cases hij:fndN (lentN S1 σ) i with
      |none=>simp [hij] at hi
      |some j=>exact ⟨j,(fnd_lent.1 hij).2,by simpa [hij] using hi⟩) (fun i j hs hij=>by
      have:fndN (lentN S1 σ) i=some j:=fnd_lent.2 ⟨hs,hij⟩
      simp [this]) rfl stb stk tmk st2 hv hSf
    exact ⟨ρ',M2,Tk,Sf,_,hK,g1,g2,hlk.trans hla,g3⟩
  · exact hh.elim
end
end Go.AM
end
section
namespace Go.AM
open Go
section
variable {P:Program} {TY:List TyE} {w0 w:World} {M0:Base w0} {ρ:Env} {M:Msk} {S S0:Store} {d:Nat}
theorem ints_keep {ρ ρ':Env} {w w':World} {M M':Msk} (hk:Keep w M w' M'):∀{l:List AV} {vs:List Value},intsA l=true→RepL (RepC ρ w M) l vs→RepL (RepC ρ' w' M') l vs
  |[],[],_,_=>trivial
  |[],_::_,_,h=>h.elim
  |_::_,[],_,h=>h.elim
  |a::l,v::vs,hi,h=>by
   cases a<;>try (cases hi;done)
   · exact ⟨h.1,ints_keep hk hi h.2⟩
   · exact ⟨h.1,ints_keep hk hi h.2⟩
   · exact ⟨RepRO.keep hk h.1,ints_keep hk hi h.2⟩
   · exact ⟨h.1,ints_keep hk hi h.2⟩
theorem plain_keep {ρ ρ':Env} {w w':World} {M M':Msk} {a:AV} {v:Value} (hp:plainA a=true) (hk:Keep w M w' M') (h:RepT ρ w M a v):RepT ρ' w' M' a v:=by
  cases a<;>try (cases hp;done)
  case ro r=>exact RepRO.keep hk h
  case agg l=>obtain ⟨cs,h1,h2⟩:=h;exact ⟨cs,h1,ints_keep hk hp h2⟩
  all_goals exact h
theorem thaw_sound {a:Act}:∀{l:List AV} {T:List AV} {S:Store} {ρ:Env} {M:Msk} {K:List AV→List AV→Store→Prop} {vs:List Value},thawK l T S K→St M0 ρ M S w→Tm ρ w M T a→
    (∀(i:Nat) (x:AV) (v:Value),l[i]? =some x→vs[i]? =some v→plainA x=true→RepT ρ w M x v)→(∀(i:Nat) (k:Nat) (v:Value),l[i]? =some (AV.vec k)→vs[i]? =some v→(findS S k).isSome→RepC ρ w M (.vec k) v)→l.length=vs.length→
    ∃l' T' S' ρ' M',K l' T' S'∧St M0 ρ' M' S' w∧Tm ρ' w M' T' a∧T'.length=T.length∧RepL (RepT ρ' w M') l' vs∧(∀x∈l',plainA x=true)∧Keep w M w M'
  |[],T,S,ρ,M,K,vs,h,st,tm,_,_,hl=>by
   have:vs=[]:=List.eq_nil_of_length_eq_zero hl.symm
   subst this
   exact ⟨[],T,S,ρ,M,h,st,tm,rfl,trivial,by simp,Keep.refl _ _⟩
  |x::l,T,S,ρ,M,K,vs,h,st,tm,hp,hv,hl=>by
   cases vs with
   |nil=>simp at hl
   |cons v vs=>
    have hl':l.length=vs.length:=by simpa using hl
    have plain:plainA x=true→(thawK l T S fun m T S=>K (x::m) T S)→∃l' T' S' ρ' M',K l' T' S'∧St M0 ρ' M' S' w∧Tm ρ' w M' T' a∧T'.length=T.length∧RepL (RepT ρ' w M') l' (v::vs)∧(∀x∈l',plainA x=true)∧Keep w M w M':=by
      intro hx h
      obtain ⟨l',T',S',ρ',M',h1,h2,h3,h4,h5,h6,h7⟩:=thaw_sound (K:=fun m T S=>K (x::m) T S) h st tm (fun i y u hy hu=>hp (i+1) y u (by simpa using hy) (by simpa using hu)) (fun i k u hy hu=>hv (i+1) k u (by simpa using hy) (by simpa using hu)) hl'
      refine ⟨x::l',T',S',ρ',M',h1,h2,h3,h4,⟨plain_keep hx h7 (hp 0 x v rfl rfl hx),h5⟩,fun y hy=>?_,h7⟩
      rcases List.mem_cons.1 hy with rfl|hy
      · exact hx
      · exact h6 y hy
    cases x with
    |vec k=>
     simp only [thawK] at h
     split at h
     · rename_i wm r hf
       obtain ⟨B',r',⟨hf',hr'⟩,T1,S1,g1,g2,g3,g4,g5⟩:=freeze_sound h st tm
       rw [hf] at hf';cases hf'
       simp only [frzB,Option.some.injEq] at hr'
       subst hr'
       have hgone:findS S1 k=none:=by
         have:=g2.dom k
         cases hh:findS S1 k with
         |none=>rfl
         |some B=>rw [hh] at this;simp [dropE] at this
       obtain ⟨l',T',S',ρ',M',h1,h2,h3,h4,h5,h6,h7⟩:=thaw_sound (K:=fun m T S=>K (.ro r::m) T S) g1 g2 g3
         (fun i y u hy hu hpl=>plain_keep hpl (keep_drop _ _ _ _) (hp (i+1) y u (by simpa using hy) (by simpa using hu) hpl))
         (fun i j u hy hu hs=>by
           have hjk:j≠k:=fun e=>by subst e;rw [hgone] at hs;cases hs
           have hs':(findS S j).isSome:=by
             have h1:=g2.dom j;rw [hs] at h1
             rw [←st.dom j];simpa [dropE,hjk] using h1
           obtain ⟨o,h1,h2⟩:=hv (i+1) j u (by simpa using hy) (by simpa using hu) hs'
           exact ⟨o,by simpa [dropE,hjk] using h1,h2⟩) hl'
       have hro:RepRO w (dropM M ρ k) r v:=g5 v (hv 0 k v rfl rfl (by rw [hf];rfl))
       refine ⟨.ro r::l',T',S',ρ',M',h1,h2,h3,h4.trans g4,⟨RepRO.keep h7 hro,h5⟩,fun y hy=>?_,fun b off c hc hm=>h7 b off c hc fun hm'=>hm hm'.1⟩
       rcases List.mem_cons.1 hy with rfl|hy
       · rfl
       · exact h6 y hy
     · exact h.elim
    |_=>
     simp only [thawK,ifK_iff] at h
     exact plain h.1 h.2
theorem splice_td {A s t:Nat} {c l m X:List Value} (hl:l.length=A) (hm:m.length=s):
    (l++(m++c.drop (A+s))).take (A+s)++(X++(l++(m++c.drop (A+s))).drop (A+s+t))=l++(m++(X++c.drop (A+s+t))):=by
  have hlm:(l++m).length=A+s:=by simp [hl,hm]
  rw [←List.append_assoc l m,←hlm,List.take_left,List.drop_append,List.drop_of_length_le (by omega)]
  simp [List.drop_drop,List.append_assoc]
theorem fill_parts {sz:Nat}:∀{ps:List (Nat × Operand)} {n:Nat} {K:List Operand→Prop},partsK n ps K→∀(e:Operand→Value) (cells:Array Value),(∀x∈ps.map (·.2),(e x).cells.size=sz)→(n+ps.length)*sz≤cells.size→
    ∃cells',Instr.fill (fun i=>some (i*sz,sz)) cells (ps.map fun (i,x)=>(i,e x))=some cells'∧
     cells'.toList=cells.toList.take (n*sz)++(((ps.map (·.2)).flatMap fun x=>(e x).cells.toList)++cells.toList.drop ((n+ps.length)*sz))
  |[],n,K,_,e,cells,_,_=>⟨cells,rfl,by simp⟩
  |(i,x)::ps,n,K,h,e,cells,hs,hle=>by
   simp only [partsK] at h
   split at h
   · rename_i hb
     obtain rfl:=beq_iff'.1 hb
     have hx:=hs x (by simp)
     have hle':i*sz+sz+ps.length*sz≤cells.size:=by
       have:(i+(ps.length+1))*sz=i*sz+sz+ps.length*sz:=by simp only [Nat.add_mul,Nat.one_mul];omega
       simp only [List.length_cons] at hle;omega
     have hfold:=fold_set (i*sz) (e x).cells.toList 0 cells (by simp [hx];omega)
     have hstep:(((e x).cells.zipIdx.foldl (fun cs (c,j)=>cs.setIfInBounds (i*sz+j) c) cells).toList)=cells.toList.take (i*sz)++((e x).cells.toList++cells.toList.drop (i*sz+sz)):=by
       rw [←Array.foldl_toList,Array.toList_zipIdx]
       simpa [hx] using hfold
     have hsz2:((e x).cells.zipIdx.foldl (fun cs (c,j)=>cs.setIfInBounds (i*sz+j) c) cells).size=cells.size:=by
       rw [←Array.length_toList,hstep];simp [hx];omega
     obtain ⟨cells',h1,h2⟩:=fill_parts h e ((e x).cells.zipIdx.foldl (fun cs (c,j)=>cs.setIfInBounds (i*sz+j) c) cells) (fun y hy=>hs y (by simp at hy ⊢;exact .inr hy))
       (by rw [hsz2];simp only [Nat.add_mul,Nat.one_mul];omega)
     refine ⟨cells',?_,?_⟩
     · simp only [List.map_cons,Instr.fill]
       rw [if_neg]
       · exact h1
       · simp only [Bool.or_eq_true,decide_eq_true_eq,not_or,ne_eq,Decidable.not_not]
         exact ⟨hx,by omega⟩
     · rw [h2,hstep]
       have e1:(i+1)*sz=i*sz+sz:=by simp [Nat.add_mul]
       have e2:(i+1+ps.length)*sz=(i+(ps.length+1))*sz:=by congr 1;omega
       have e3:(i+(ps.length+1))*sz=i*sz+sz+ps.length*sz:=by simp only [Nat.add_mul,Nat.one_mul];omega
       rw [e1,e2,e3,splice_td (by simp;omega) (by simp [hx])]
       simp only [List.map_cons,List.flatMap_cons,List.length_cons,List.append_assoc,e3]
   · exact h.elim
theorem buildSlice_sound (hty:TyOk P TY) {F:Spec} {t n:Nat} {ps:Array (Nat × Operand)} {T:List AV} {K:AV→List AV→Store→Prop} {a:Act} {oo:Oper} (h:opB TY F d (.buildSlice t n ps) T S K)
    (ho:oo.op= .buildSlice t n ps) (st:St M0 ρ M S w) (tm:Tm ρ w M T a):Runs P (execOp a.eval oo) w (Post w0 M0 a T.length K):=by
  simp only [opB,quietOp] at h
  split at h
  · rename_i e hd
    rw [ifK_iff,ifK_iff] at h
    obtain ⟨hzb,hn,h⟩:=h
    rw [Nat.ble_eq] at hn
    have hparts:=h
    have h:=(parts_iff h).1
    split at h
    · rename_i hlen
      have hlen:=same_lenO hlen
      rw [evals_iff] at h
      have hreps:∀(i:Nat) (x:AV) (v:Value),((ps.toList.map (·.2)).map (evalF T))[i]? =some x→((ps.toList.map (·.2)).map a.eval)[i]? =some v→RepT ρ w M x v:=fun i x v hx hv=>by
        simp only [List.map_map,List.getElem?_map,Option.map_eq_some_iff,Function.comp] at hx hv
        obtain ⟨p,h1,rfl⟩:=hx
        obtain ⟨p',h2,rfl⟩:=hv
        rw [h1] at h2;cases h2
        exact eval_rep tm p.2
      obtain ⟨l',T1,S1,ρ1,M1,h,st1,tm1,hT1,hrep,hpl,_⟩:=thaw_sound (vs:=(ps.toList.map (·.2)).map a.eval) h st tm (fun i x v hx hv _=>hreps i x v hx hv) (fun i k v hx hv _=>hreps i _ v hx hv) (by simp)
      obtain ⟨r0,h,hr0,i,z,hi,hz1,hsz,hby,hzs,_⟩:=zeros_sound (n:=0) hty hzb h
      obtain ⟨r,h,hrl,hrz,hcell⟩:=elems_sound h
      rw [ifK_iff] at h
      obtain ⟨hok,h⟩:=h
      obtain ⟨e',hd',hu,hes,hrow⟩:=okSl_row hty hok
      rw [hd] at hd';cases hd'
      obtain ⟨hus,hcs⟩:=hcell ρ1 w M1 _ hrep
      have hl'len:l'.length=n:=by rw [hrep.length,List.length_map,hlen]
      have hpsn:ps.toList.length=n:=by rw [←hlen];simp
      have hrn:r.len=n:=by rw [hrl,hr0,hl'len];omega
      have hisz:i.size=r.sz:=by rw [hsz,hes]
      have hnsz:n*i.size≤16777216:=by
        rw [hsz];omega
      have hn:n≤16000000:=by
        have:=r.sz_pos
        have h1:n*1≤n*i.size:=Nat.mul_le_mul_left _ (by omega)
        rw [hsz] at h1;omega
      obtain ⟨cells',hf1,hf2⟩:=fill_parts (sz:=i.size) hparts a.eval ((Array.range (n*i.size)).map fun j=>((if n*i.size=0 then #[] else z.cells):Array Value)[j % ((if n*i.size=0 then #[] else z.cells):Array Value).size]!)
        (fun x hx=>by
          have:=hus (a.eval x) (List.mem_map.2 ⟨x,hx,rfl⟩)
          rw [this,hisz,hrz]) (by simp [hpsn])
      have hf2':cells'.toList=(ps.toList.map (·.2)).flatMap fun x=>(a.eval x).cells.toList:=by
        rw [hf2]
        rw [List.drop_of_length_le (by simp [hpsn])]
        simp
      have hcsz:cells'.size=n*r.sz:=by
        rw [←Array.length_toList,hf2',List.length_flatMap]
        have:((ps.toList.map (·.2)).map fun x=>(a.eval x).cells.toList.length)=(ps.toList.map (·.2)).map fun _=>r.sz:=by
          refine List.map_congr_left fun x hx=>?_
          have:=hus (a.eval x) (List.mem_map.2 ⟨x,hx,rfl⟩)
          rw [Array.length_toList,this,hrz]
        rw [this,List.map_const',List.length_map,hpsn,List.sum_replicate_nat]
      obtain ⟨T',S',ρ',M',q1,q2,q3,q4,q5⟩:=newKey_sound h st1 tm1 (w':=w.alloc (.cells cells' e)) (cs:=cells') (ty:=e) (cap:=n) (wm:=0) (r:=r) rfl (by first|exact IoS.refl _|exact ⟨⟨rfl,rfl⟩,rfl,Nat.le_succ _⟩) hcsz (by omega) (by simp only [LB];omega) (Nat.zero_le _)
        (fun q hq=>by
          have hlt:q<cells'.size:=by rw [hcsz,←hrn];exact hq
          refine ⟨cells'[q],by simp [hlt],hcs q _ ?_⟩
          have h0:r0.cells=0:=by simp [RO.cells,hr0]
          rw [if_neg (by omega),h0,Nat.sub_zero,List.flatMap_map,←hf2',Array.getElem?_toList]
          simp [hlt])
      refine .val (v:=.slice (some ⟨w.heap.size,0,none⟩) n n) (w':=w.alloc (.cells cells' e)) ?_ ⟨ρ',M',T',_,_,q1,q2,q3,by rw [q4,hT1],_,of_sl q5,by simp [Sl.val,hrn]⟩
      have hub:(underlying t).run P w= .ok (.slice e) w:=by simp [underlying,hu]
      have hzv:(zeroValue e).run P w= .ok z w:=by simp [zeroValue,typeInfo,hi,hz1]
      have hsv:(sizeOf e).run P w= .ok i.size w:=by rw [hrow.size,hsz]
      have hf1':Instr.fill (fun j=>some (j*i.size,i.size)) ((Array.range (n*i.size)).map fun j=>((if n*i.size=0 then #[] else z.cells):Array Value)[j % ((if n*i.size=0 then #[] else z.cells):Array Value).size]!) (ps.map fun (j,x)=>(j,a.eval x)).toList=some cells':=by
        rw [Array.toList_map];exact hf1
      by_cases h0:n*i.size=0
      · simp [h0] at hf1'
        simp [execOp,ho,Instr.buildSlice,hub,hsv,h0,hf1',newRow]
      · simp [h0] at hf1'
        have:¬n*i.size>2 ^ 24:=by omega
        simp [execOp,ho,Instr.buildSlice,hub,hsv,h0,this,hzv,hf1',newRow]
    · exact h.elim
  · exact h.elim
theorem buildQ_sound (hty:TyOk P TY) {F:Spec} {t n:Nat} {ps:Array (Nat × Operand)} {T:List AV} {K:AV→Option Blk→Prop} (h:qK TY F d (.buildSlice t n ps) T S0 K):∃v B,K v B∧QS P d (.buildSlice t n ps) T S0 v B:=by
  simp only [qK] at h
  split at h
  · rename_i e hd
    rw [ifK_iff,ifK_iff] at h
    obtain ⟨hzb,hn,h⟩:=h
    rw [Nat.ble_eq] at hn
    have hparts:=h
    have h:=(parts_iff h).1
    split at h
    · rename_i hlen
      have hlen:=same_lenO hlen
      rw [evals_iff,ifK_iff] at h
      obtain ⟨_,h⟩:=h
      obtain ⟨r0,h,hr0,i,z,hi,hz1,hsz,hby,hzs,_⟩:=zeros_sound (n:=0) hty hzb h
      obtain ⟨r,h,hrl,hrz,hcell⟩:=elems_sound h
      rw [ifK_iff] at h
      obtain ⟨hok,h⟩:=h
      obtain ⟨e',hd',hu,hes,hrow⟩:=okSl_row hty hok
      rw [hd] at hd';cases hd'
      refine ⟨_,_,h,fun w0 M0 ρ M w S' ev oo ho hc st he hdn=>?_,fun _ hb=>by cases hb⟩
      have hrep:RepL (RepT ρ w M) ((ps.toList.map (·.2)).map (evalF T)) ((ps.toList.map (·.2)).map ev):=by
        have:∀l:List Operand,(∀x∈l,RepT ρ w M (evalF T x) (ev x))→RepL (RepT ρ w M) (l.map (evalF T)) (l.map ev):=by
          intro l
          induction l with
          |nil=>exact fun _=>trivial
          |cons x l ih=>exact fun hh=>⟨hh x (by simp),ih fun y hy=>hh y (by simp [hy])⟩
        refine this _ fun x hx=>he x ?_
        simp only [Op.operands]
        obtain ⟨p,hp,rfl⟩:=List.mem_map.1 hx
        first|exact Array.mem_map.2 ⟨p,Array.mem_toList_iff.1 hp,rfl⟩|(simp;exact ⟨p.1,by simpa using hp⟩)
      obtain ⟨hus,hcs⟩:=hcell ρ w M _ hrep
      have hl'len:((ps.toList.map (·.2)).map (evalF T)).length=n:=by rw [hrep.length,List.length_map,hlen]
      have hpsn:ps.toList.length=n:=by rw [←hlen];simp
      have hrn:r.len=n:=by rw [hrl,hr0,hl'len];omega
      have hisz:i.size=r.sz:=by rw [hsz,hes]
      have hnsz:n*i.size≤16777216:=by
        rw [hsz];omega
      have hn:n≤16000000:=by
        have:=r.sz_pos
        have h1:n*1≤n*i.size:=Nat.mul_le_mul_left _ (by omega)
        rw [hsz] at h1;omega
      obtain ⟨cells',hf1,hf2⟩:=fill_parts (sz:=i.size) hparts ev ((Array.range (n*i.size)).map fun j=>((if n*i.size=0 then #[] else z.cells):Array Value)[j % ((if n*i.size=0 then #[] else z.cells):Array Value).size]!)
        (fun x hx=>by
          have:=hus (ev x) (List.mem_map.2 ⟨x,hx,rfl⟩)
          rw [this,hisz,hrz]) (by simp [hpsn])
      have hf2':cells'.toList=(ps.toList.map (·.2)).flatMap fun x=>(ev x).cells.toList:=by
        rw [hf2]
        rw [List.drop_of_length_le (by simp [hpsn])]
        simp
      have hcsz:cells'.size=n*r.sz:=by
        rw [←Array.length_toList,hf2',List.length_flatMap]
        have:((ps.toList.map (·.2)).map fun x=>(ev x).cells.toList.length)=(ps.toList.map (·.2)).map fun _=>r.sz:=by
          refine List.map_congr_left fun x hx=>?_
          have:=hus (ev x) (List.mem_map.2 ⟨x,hx,rfl⟩)
          rw [Array.length_toList,this,hrz]
        rw [this,List.map_const',List.length_map,hpsn,List.sum_replicate_nat]
      obtain ⟨ρ',M',g1,g2,g3,g4⟩:=st.push (w':=w.alloc (.cells cells' e)) (cs:=cells') (ty:=e) (own:=.sl ⟨some w.heap.size,r.len,n,r.sz⟩) (B:=.vec 0 r []) (hdn (by simp)).1 (hdn (by simp)).2 rfl (by first|exact IoS.refl _|exact ⟨⟨rfl,rfl⟩,rfl,Nat.le_succ _⟩) (fun _ h=>(Option.some.inj h).symm)
        (fun ρ' M' hρ hM hk hext=>⟨⟨_,hρ,rfl,rfl,by simp only [LB];omega,Nat.zero_le _,by
          refine ⟨by simp only;omega,cells',e,by show (w.heap.push _)[w.heap.size]? =_;simp,hcsz,fun off=>?_,fun q hq=>?_⟩
          · rw [hM off];simp
          · have hlt:q<cells'.size:=by rw [hcsz,←hrn];exact hq
            refine ⟨cells'[q],by simp [hlt],CellP.keep hk (hcs q _ ?_)⟩
            have h0:r0.cells=0:=by simp [RO.cells,hr0]
            rw [if_neg (by omega),h0,Nat.sub_zero,List.flatMap_map,←hf2',Array.getElem?_toList]
            simp [hlt]⟩,.inl rfl⟩)
      refine .val (v:=.slice (some ⟨w.heap.size,0,none⟩) n n) (w':=w.alloc (.cells cells' e)) ?_ ⟨ρ',M',g1,⟨_,of_sl g2,by simp [Sl.val,hrn]⟩,g3,g4⟩
      have hub:(underlying t).run P w= .ok (.slice e) w:=by simp [underlying,hu]
      have hzv:(zeroValue e).run P w= .ok z w:=by simp [zeroValue,typeInfo,hi,hz1]
      have hsv:(sizeOf e).run P w= .ok i.size w:=by rw [hrow.size,hsz]
      have hf1':Instr.fill (fun j=>some (j*i.size,i.size)) ((Array.range (n*i.size)).map fun j=>((if n*i.size=0 then #[] else z.cells):Array Value)[j % ((if n*i.size=0 then #[] else z.cells):Array Value).size]!) (ps.map fun (j,x)=>(j,ev x)).toList=some cells':=by
        rw [Array.toList_map];exact hf1
      by_cases h0:n*i.size=0
      · simp [h0] at hf1'
        simp [execOp,ho,Instr.buildSlice,hub,hsv,h0,hf1',newRow]
      · simp [h0] at hf1'
        have:¬n*i.size>2 ^ 24:=by omega
        simp [execOp,ho,Instr.buildSlice,hub,hsv,h0,this,hzv,hf1',newRow]
    · exact h.elim
  · exact h.elim
theorem cutV {o:Sl} {r r':RO} (h:VecH ρ w M o 0 r []) (hl:r'.len≤r.len) (hz:r'.sz=r.sz) (hc:∀q c,q<r'.cells→CellP w M r q c→CellP w M r' q c):VecH ρ w M ⟨o.blk,r'.len,o.cap,o.sz⟩ 0 r' []:=by
  obtain ⟨k3,k4,k5,_,k7⟩:=h
  refine ⟨rfl,by rw [hz];exact k4,Nat.le_trans hl k5,Nat.zero_le _,?_⟩
  cases hb:o.blk with
  |none=>simp only [hb] at k7 ⊢;exact ⟨by omega,k7.2⟩
  |some b=>
   simp only [hb] at k7 ⊢
   obtain ⟨k8,cs,ty,k9,k10,k11,k12⟩:=k7
   refine ⟨by omega,cs,ty,k9,k10,k11,fun q hq=>?_⟩
   have hle:r'.len*r'.sz≤r.len*r.sz:=by rw [hz];exact Nat.mul_le_mul_right _ hl
   obtain ⟨c,h1,h2⟩:=k12 q (by simp only [RO.cells] at hq ⊢;omega)
   exact ⟨c,h1,hc q c hq h2⟩
theorem reView_sound {k:Nat} {T:List AV} {a:Act} {K:List AV→Store→Prop} (h:delS S k fun S=>sweepT k .any T fun T=>sweepS k .any S fun S=>K T S) (st:St M0 ρ M S w) (tm:Tm ρ w M T a)
    {ow ow':Own} (hk:ρ k=some ow) (hown:∀b,ow'.has b→ow.has b) (hbase:loc k=false→ow'.base=ow.base) {B:Blk} (hB:∀ρ',ρ' k=some ow'→BlkH ρ' w M k B):
    ∃T' S' ρ',K T' S'∧St M0 ρ' M ((k,B)::S') w∧Tm ρ' w M T' a∧T'.length=T.length∧ρ' k=some ow':=by
  have ho:∀b,ow'.has b→hasB ρ k b:=fun b h=>by simp only [hasB,hk];exact hown b h
  exact (fun ⟨T',S',g1,g2,g3,g4⟩=>⟨T',S',fun j=>if j=k then some ow' else ρ j,g1,g2,g3,g4,by simp⟩)
    (rekey2_sound h st tm (ρ':=fun j=>if j=k then some ow' else ρ j) (w':=w) (M':=M) (B:=B) (Keep.refl _ _) (fun j hj=>by simp [hj]) (by simp) (fun j hj b hb=>⟨rfl,fun _=>Iff.rfl⟩) (Stp.refl _ _) st.mlt (fun _ _ _ hm=>hm) (fun _ _ _ _ hm=>hm) (fun b hb'=>st.fresh k b (ho b (by simpa [hasB] using hb')))
      (hB _ (by simp)) (fun b hb' j hj hjb=>hj (st.inj _ _ _ hjb (ho b (by simpa [hasB] using hb')))) (fun ow2 hl ho2=>by simp at ho2;subst ho2;rw [hbase hl];exact st.pin k ow hl hk))
theorem pop_sound (hty:TyOk P TY) {t k:Nat} {x:Operand} {hi:Option Operand} {T:List AV} {K:AV→List AV→Store→Prop} {a:Act} {oo:Oper} (hx:evalF T x= .vec k) (hsl:∃e,(nthT TY t).d= .slice e∧∃B,findS S k=some B∧match B with
      |.vec wm r []=>okSl TY t r=true∧qK.hiK T hi r.len fun hi=>(0≤hi∧hi≤(r.len:Int))∧popK k wm r.len r hi T S K
      |.stk n0 r=>okSl TY t r=true∧qK.hiK T hi r.len fun hi=>(0≤hi∧hi≤(r.len:Int))∧cutK r 0 hi.toNat fun r'=>restK k (.stk n0 r') T S K
      |.jnk n z=>qK.hiK T hi n fun hi=>hi=0∧(emptyK TY e fun r=>ifK (loc k)<|ifK (okSl TY t r)<|ifK (Nat.beq r.sz z)<|restK k (.vec 0 r []) T S K)
      |_=>False)
    (ho:oo.op= .slice t x none hi none) (st:St M0 ρ M S w) (tm:Tm ρ w M T a):Runs P (execOp a.eval oo) w (Post w0 M0 a T.length K):=by
  have hxv:=eval_rep tm x
  rw [hx] at hxv
  obtain ⟨o,k1,hv⟩:=hxv
  obtain ⟨e0,hd0,B,hf,h⟩:=hsl
  have cut:∀{n m:Int} {r:RO},okSl TY t r=true→o.len≤o.cap→(o.sz=r.sz)→(n=o.len)→((hi=none∧m=n)∨∃x k,hi=some x∧evalF T x= .int k m)→0≤m→m≤o.len→
      (execOp a.eval oo).run P w= .ok (.value (.slice (o.blk.map fun b=>⟨b,0,none⟩) m.toNat o.cap)) w:=by
    intro n m r hok hlc hz hn hm h0 h1
    obtain ⟨e',hd',hu,hes,hrow⟩:=okSl_row hty hok
    have hub:(underlying t).run P w= .ok (.slice e') w:=by simp [underlying,hu]
    subst hn
    have hb:=run_bounds (P:=P) (ρ:=ρ) (w:=w) (M:=M) (T:=T) (e:=a.eval) (l:=0) (h:=m) (lo:=none) (hi:=hi) (len:=o.len) hlc (.inl ⟨rfl,rfl⟩) hm (fun y _=>eval_rep tm y) (Int.le_refl _) h0 h1
    have hb':(Instr.sliceBounds true o.len o.cap none (hi.map a.eval) none).run P w= .ok (0,m.toNat,o.cap) w:=hb
    simp [execOp,ho,hv,Sl.val,Instr.sliceAt,hub,Instr.slice,hb',hrow.size,hes]
    try (cases o.blk<;>simp [addr_add])
  have hlcV:∀{r:RO},VecH ρ w M o 0 r []→o.len≤o.cap:=fun {r} hV=>by
    obtain ⟨k3,_,_,_,k7⟩:=hV
    cases hb:o.blk with
    |none=>simp only [hb] at k7;omega
    |some b=>simp only [hb] at k7;exact k7.1
  cases B with
  |vec wm r ov=>
   cases ov with
   |cons x y=>exact h.elim
   |nil=>
    obtain ⟨hok,h⟩:=h
    obtain ⟨m,⟨⟨h0,h1⟩,hp⟩,hm⟩:=hi_iff h
    clear h
    simp only [popK,ifK_iff] at hp
    obtain ⟨hw0,h⟩:=hp
    obtain rfl:=beq_iff'.1 hw0
    obtain ⟨r',h,g1,g2,g3⟩:=cut_cells h (Nat.zero_le _) (by omega)
    obtain ⟨⟨o',k2,k3⟩,_⟩:=st.blk k _ hf
    obtain rfl:=sli_sl k2 k1
    have hrun:=cut hok (hlcV k3) k3.2.1 (by rw [k3.1]) hm h0 (by rw [k3.1];exact h1)
    have hV:=cutV (r':=r') k3 (by omega) g2 (fun q c hq hc=>g3 w M q c hq (by simpa using hc))
    have hrl:r'.len=m.toNat:=by omega
    split at h
    · obtain ⟨T',S',ρ',q1,q2,q3,q4,q5⟩:=reView_sound (ow':=.sl ⟨o.blk,r'.len,o.cap,o.sz⟩) (B:=.vec 0 r' []) h st tm k2 (fun b hb=>hb) (fun hl=>by rename_i hl';rw [hl'] at hl;cases hl) (fun ρ' hρ'=>⟨⟨_,hρ',hV.env⟩,.inl rfl⟩)
      exact .val hrun ⟨ρ',M,T',_,_,q1,q2,q3,q4,_,of_sl q5,by rw [Sl.val,hrl]⟩
    · obtain ⟨T',S',ρ',q1,q2,q3,q4,q5⟩:=reView_sound (ow':=.st o ⟨o.blk,r'.len,o.cap,o.sz⟩) (B:=.stk r.len r') h st tm k2 (fun b hb=>hb.elim id id) (fun _=>rfl) (fun ρ' hρ'=>⟨o,_,hρ',hV.env,by rw [g2];exact k3.jnk⟩)
      exact .val hrun ⟨ρ',M,T',_,_,q1,q2,q3,q4,_,of_st q5,by rw [Sl.val,hrl]⟩
  |stk n0 r=>
   obtain ⟨hok,h⟩:=h
   obtain ⟨m,⟨⟨h0,h1⟩,hp⟩,hm⟩:=hi_iff h
   clear h
   obtain ⟨r',h,g1,g2,g3⟩:=cut_cells hp (Nat.zero_le _) (by omega)
   obtain ⟨o0,cur,k2,k3,k4⟩:=st.blk k _ hf
   have hco:o=cur:=by rw [of_st k2] at k1;exact (Option.some.inj k1).symm
   subst hco
   have hrun:=cut hok (hlcV k3) k3.2.1 (by rw [k3.1]) hm h0 (by rw [k3.1];exact h1)
   have hV:=cutV (r':=r') k3 (by omega) g2 (fun q c hq hc=>g3 w M q c hq (by simpa using hc))
   have hrl:r'.len=m.toNat:=by omega
   obtain ⟨T',S',ρ',q1,q2,q3,q4,q5⟩:=reView_sound (ow':=.st o0 ⟨o.blk,r'.len,o.cap,o.sz⟩) (B:=.stk n0 r') h st tm k2 (fun b hb=>hb) (fun _=>rfl) (fun ρ' hρ'=>⟨o0,_,hρ',hV.env,by rw [g2];exact k4⟩)
   exact .val hrun ⟨ρ',M,T',_,_,q1,q2,q3,q4,_,of_st q5,by rw [Sl.val,hrl]⟩
  |jnk n z=>
   obtain ⟨m,⟨rfl,hp⟩,hm⟩:=hi_iff h
   clear h
   obtain ⟨r,⟨h,hr0⟩⟩:∃r:RO,(ifK (loc k)<|ifK (okSl TY t r)<|ifK (Nat.beq r.sz z)<|restK k (.vec 0 r []) T S K)∧r.len=0:=by
     unfold emptyK zerosG at hp
     revert hp
     repeat' split
     all_goals (intro h;first|exact h.elim|exact ⟨_,h,rfl⟩|exact ⟨_,(ifK_iff.1 h).2,rfl⟩)
   rw [ifK_iff,ifK_iff,ifK_iff] at h
   obtain ⟨hloc,hok,hz,h⟩:=h
   obtain rfl:=beq_iff'.1 hz
   obtain ⟨o',k2,j1,j2,j3,j4⟩:=st.blk k _ hf
   obtain rfl:=sli_sl k2 k1
   have hlc:o.len≤o.cap:=by
     cases hb:o.blk with
     |none=>simp only [hb] at j4;omega
     |some b=>simp only [hb] at j4;exact j4.1
   have hrun:=cut hok hlc j2 (by rw [j1]) hm (Int.le_refl _) (by omega)
   have hV:∀ρ',VecH ρ' w M ⟨o.blk,0,o.cap,o.sz⟩ 0 r []:=fun ρ'=>by
     refine ⟨hr0.symm,j2,by rw [hr0];exact Nat.zero_le _,Nat.zero_le _,?_⟩
     cases hb:o.blk with
     |none=>simp only [hb] at j4 ⊢;exact ⟨hr0,j4.2⟩
     |some b=>
      simp only [hb] at j4 ⊢
      obtain ⟨_,cs,ty,j6,j7,j8⟩:=j4
      exact ⟨Nat.zero_le _,cs,ty,j6,j7,fun off=>by rw [j8 off];simp,fun q hq=>by simp [RO.cells,hr0] at hq⟩
   obtain ⟨T',S',ρ',q1,q2,q3,q4,q5⟩:=reView_sound (ow':=.sl ⟨o.blk,0,o.cap,o.sz⟩) (B:=.vec 0 r []) h st tm k2 (fun b hb=>hb) (fun hl=>by rw [hloc] at hl;cases hl) (fun ρ' hρ'=>⟨⟨_,hρ',hV ρ'⟩,.inl rfl⟩)
   exact .val hrun ⟨ρ',M,T',_,_,q1,q2,q3,q4,_,of_sl q5,rfl⟩
  |_=>exact h.elim
theorem head_sound (hty:TyOk P TY) {F:Spec} {t k:Nat} {x:Operand} {lo hi:Option Operand} {T:List AV} {K:AV→List AV→Store→Prop} {a:Act} {oo:Oper} (hx:evalF T x= .vec k) (h:opB TY F d (.slice t x lo hi none) T S K)
    (ho:oo.op= .slice t x lo hi none) (st:St M0 ρ M S w) (tm:Tm ρ w M T a):Runs P (execOp a.eval oo) w (Post w0 M0 a T.length K):=by
  simp only [opB,quietOp,eval_iff,hx] at h
  split at h
  · rename_i wm r hf
    rw [ifK_iff,len_iff] at h
    obtain ⟨hok,h⟩:=h
    obtain ⟨m,hq,hm⟩:=hi_iff h
    clear h
    obtain ⟨⟨h0,h1⟩,h|h⟩:=hq
    rotate_left
    · obtain ⟨e',hd',_⟩:=okSl_row hty hok
      refine pop_sound hty hx ⟨e',hd',_,hf,hok,?_⟩ ho st tm
      rcases hm with ⟨rfl,rfl⟩|⟨y,kk,rfl,hy⟩
      · exact ⟨⟨h0,h1⟩,h⟩
      · simp only [qK.hiK,eval_iff,hy,boundK];exact ⟨⟨h0,h1⟩,h⟩
    obtain ⟨r',h,g1,g2,g3⟩:=cut_cells h (Nat.zero_le _) (by omega)
    obtain ⟨S',hK,hS⟩:=set_store h
    rw [hf] at hS
    obtain ⟨e',hd',hu,hes,hrow⟩:=okSl_row hty hok
    have hxv:=eval_rep tm x
    rw [hx] at hxv
    obtain ⟨o,k1,hv⟩:=hxv
    have hBH:=st.blk k _ hf
    obtain ⟨⟨o',k2,k3,k4,k5,k6,k7⟩,_⟩:=hBH
    obtain rfl:=sli_sl k2 k1
    replace k1:=k2
    have hlc:o.len≤o.cap∧(o.blk=none→o.len=0∧o.cap=0):=by
      cases hb:o.blk with
      |none=>simp only [hb] at k7;exact ⟨by omega,fun _=>⟨by omega,k7.2⟩⟩
      |some b=>simp only [hb] at k7;exact ⟨k7.1,fun he=>by cases he⟩
    have hub:(underlying t).run P w= .ok (.slice e') w:=by simp [underlying,hu]
    have hb:=run_bounds (P:=P) (ρ:=ρ) (w:=w) (M:=M) (T:=T) (e:=a.eval) (l:=0) (h:=m) (lo:=none) (hi:=hi) (len:=o.len) hlc.1 (.inl ⟨rfl,rfl⟩) (by rw [k3];exact hm) (fun y _=>eval_rep tm y) (Int.le_refl _) h0 (by omega)
    let M':Msk:=fun b off=>M b off∧¬(o.blk=some b∧off<m.toNat*r.sz)
    have hkeep:Keep w M w M':=fun b off c hc hn=>⟨hc,fun hm=>hn hm.1⟩
    have hother:∀j,j≠k→∀b,hasB ρ j b→o.blk≠some b:=fun j hj b hjb hb=>hj (st.inj _ _ _ hjb (by simp [hasB,k1,Own.has,hb]))
    refine .val (v:=.slice (o.blk.map fun b=>⟨b,0,none⟩) m.toNat o.cap) (w':=w) ?_ ⟨ρ,M',T,S',_,hK,⟨fun j=>?_,fun j C hC=>?_,st.inj,fun b off hm=>st.mlt b off hm.1,st.stp,fun b off hb hm=>st.sub b off hb hm.1,fun b off hb hl hm=>⟨st.old b off hb hl hm,fun hh=>absurd (by simp [hasB,k1,Own.has,hh.1]) (st.notFresh (k:=k) hb hl)⟩,st.fresh,st.pin⟩,
      ⟨tm.defers,tm.size,fun i=>RepT.keep hkeep (fun _ _ h=>h) (tm.tmp i)⟩,rfl,?_⟩
    · have hz:(o.blk.map fun b=>(⟨b,0,none⟩:Addr)).map (fun a=>a.add (0*r.sz))=o.blk.map fun b=>⟨b,0,none⟩:=by cases o.blk<;>simp [addr_add]
      have hb':(Instr.sliceBounds true o.len o.cap none (hi.map a.eval) none).run P w= .ok (0,m.toNat,o.cap) w:=hb
      simp [execOp,ho,hv,Sl.val,Instr.sliceAt,hub,Instr.slice,hb',hrow.size,hes]
      try (cases o.blk<;>simp [addr_add])
    · rw [hS j,st.dom j]
      by_cases hj:j=k
      · subst hj;simp [hf]
      · simp [hj]
    · rw [hS j] at hC
      by_cases hj:j=k
      · subst hj
        simp at hC;subst hC
        refine ⟨⟨o,k1,k3,k4,k5,by omega,?_⟩,.inl rfl⟩
        cases hbl:o.blk with
        |none=>simp only [hbl] at k7 ⊢;exact k7
        |some b=>
         simp only [hbl] at k7 ⊢
         obtain ⟨k8,cs,ty,k9,k10,k11,k12⟩:=k7
         refine ⟨k8,cs,ty,k9,k10,fun off=>?_,fun q hq=>?_⟩
         · have hmax:max wm m.toNat*o.sz≤off↔wm*o.sz≤off∧m.toNat*o.sz≤off:=by
             rcases Nat.le_total wm m.toNat with hle|hle
             · rw [Nat.max_eq_right hle];exact ⟨fun h'=>⟨Nat.le_trans (Nat.mul_le_mul_right _ hle) h',h'⟩,fun h'=>h'.2⟩
             · rw [Nat.max_eq_left hle];exact ⟨fun h'=>⟨h',Nat.le_trans (Nat.mul_le_mul_right _ hle) h'⟩,fun h'=>h'.1⟩
           rw [hmax]
           constructor
           · intro hmm
             have:=(k11 off).1 hmm.1
             exact ⟨⟨this.1,Nat.le_of_not_lt fun hlt=>hmm.2 ⟨hbl,by rw [←k4];exact hlt⟩⟩,this.2⟩
           · intro hmm
             exact ⟨(k11 off).2 ⟨hmm.1.1,hmm.2⟩,fun hh=>by have:=hh.2;rw [←k4] at this;have:=hmm.1.2;omega⟩
         · obtain ⟨c,k13,k14⟩:=k12 q hq;exact ⟨c,k13,CellP.keep hkeep k14⟩
      · simp only [hj,if_false] at hC
        exact BlkH.ext hkeep (fun _ _ h=>h) (fun b hb=>⟨rfl,fun off=>⟨fun hm=>hm.1,fun hm=>⟨hm,fun hh=>hother j hj b hb hh.1⟩⟩⟩) (st.blk j C hC)
    · refine ⟨by rw [g1];simp only [LB] at k5 ⊢;omega,_,_,by rw [g1,Nat.sub_zero],by rw [g1];omega,?_⟩
      cases hbl:o.blk with
      |none=>
       have:=(hlc.2 hbl).1
       exact .inl (by simp only [RO.cells,g1];rw [show m.toNat - 0=0 from by omega];simp)
      |some b=>
       simp only [hbl] at k7
       obtain ⟨k8,cs,ty,k9,k10,k11,k12⟩:=k7
       refine .inr ⟨b,0,rfl,fun q hq=>?_⟩
       have hq':q<m.toNat*r.sz:=by simpa [RO.cells,g1,g2] using hq
       have hle:m.toNat*r.sz≤r.len*r.sz:=Nat.mul_le_mul_right _ (by omega)
       obtain ⟨c,k13,k14⟩:=k12 q (by simp only [RO.cells];omega)
       refine ⟨c,by rw [cell_of_heap k9,Nat.zero_add];exact k13,fun hm=>hm.2 ⟨hbl,by omega⟩,?_⟩
       exact g3 w M' q c hq (CellP.keep hkeep (by simpa using k14))
  · rename_i n0 r hf
    rw [ifK_iff,len_iff] at h
    obtain ⟨hok,h⟩:=h
    obtain ⟨e',hd',_⟩:=okSl_row hty hok
    exact pop_sound hty hx ⟨e',hd',_,hf,hok,h⟩ ho st tm
  · rename_i r y hf
    split at h
    · rw [ifK_iff] at h
      obtain ⟨hok,h⟩:=h
      obtain ⟨kk,i,hy,h⟩:=bound_iff h
      rw [len_iff] at h
      obtain ⟨⟨h0,h1⟩,h⟩:=h
      obtain ⟨e',hd',hu,hes,hrow⟩:=okSl_row hty hok
      have hxv:=eval_rep tm x
      rw [hx] at hxv
      obtain ⟨o,k1,hv⟩:=hxv
      have hBH:=st.blk k _ hf
      obtain ⟨⟨o',k2,k3,k4,k5,k6,k7⟩,_⟩:=hBH
      obtain rfl:=sli_sl k2 k1
      replace k1:=of_sl k2
      have hlc:o.len≤o.cap:=by
        cases hb:o.blk with
        |none=>simp only [hb] at k7;omega
        |some b=>simp only [hb] at k7;exact k7.1
      have hub:(underlying t).run P w= .ok (.slice e') w:=by simp [underlying,hu]
      have hb:=run_bounds (P:=P) (ρ:=ρ) (w:=w) (M:=M) (T:=T) (e:=a.eval) (l:=i) (h:=(o.len:Int)) (lo:=some y) (hi:=none) (len:=o.len) hlc (.inr ⟨y,kk,rfl,hy⟩) (.inl ⟨rfl,rfl⟩) (fun y _=>eval_rep tm y) h0 (by omega) (by omega)
      refine .val (v:=o.suf i.toNat) (w':=w) ?_ ⟨ρ,M,T,S,_,h,st,tm,rfl,o,k1,h0,by omega,rfl⟩
      have hb':(Instr.sliceBounds true o.len o.cap (some (a.eval y)) none none).run P w= .ok (i.toNat,o.len,o.cap) w:=hb
      simp [execOp,ho,hv,Sl.val,Sl.suf,Instr.sliceAt,hub,Instr.slice,hb',hrow.size,hes,k4]
    · exact h.elim
  · rename_i n z hf
    split at h
    · rename_i e' hd'
      exact pop_sound hty hx ⟨e',hd',_,hf,h⟩ ho st tm
    · exact h.elim
  · exact h.elim
theorem nilHead_sound (hty:TyOk P TY) {t e:Nat} {x y:Operand} {k:IntKind} {T:List AV} {a:Act} {oo:Oper} (hx:evalF T x= .nils) (hy:evalF T y= .int k 0) (hd:(nthT TY t).d= .slice e) (hz:1≤(nthT TY e).sz)
    (ho:oo.op= .slice t x none (some y) none) (tm:Tm ρ w M T a):(execOp a.eval oo).run P w= .ok (.value (.slice none 0 0)) w:=by
  have hxv:=eval_rep tm x
  rw [hx] at hxv
  have hxv:a.eval x= .slice none 0 0:=hxv
  have hu:=slice_row hty hd
  have hrow:=hty.at (t:=e) (.inl (by omega))
  have hub:(underlying t).run P w= .ok (.slice e) w:=by simp [underlying,hu]
  have hb:=run_bounds (P:=P) (ρ:=ρ) (w:=w) (M:=M) (T:=T) (e:=a.eval) (l:=0) (h:=0) (lo:=none) (hi:=some y) (len:=0) (cap:=0) (Nat.le_refl _) (.inl ⟨rfl,rfl⟩) (.inr ⟨y,k,rfl,hy⟩) (fun y _=>eval_rep tm y) (Int.le_refl _) (Int.le_refl _) (by omega)
  have hb':(Instr.sliceBounds true 0 0 none ((some y).map a.eval) none).run P w= .ok (0,0,0) w:=hb
  simp only [Option.map_some] at hb'
  simp [execOp,ho,hxv,Instr.sliceAt,hub,Instr.slice,hb',hrow.size]
theorem copy_sound (hty:TyOk P TY) {F:Spec} {c:Call} {T:List AV} {K:AV→List AV→Store→Prop} {a:Act} {oo:Oper} (hcal:c.callee= .builtin .copy) (h:opB TY F d (.call c) T S K)
    (ho:oo.op= .call c) (st:St M0 ρ M S w) (tm:Tm ρ w M T a):Runs P (execOp a.eval oo) w (Post w0 M0 a T.length K):=by
  simp only [opB,quietOp,hcal] at h
  split at h
  · rename_i x y t t' hargs htys
    split at h
    · rename_i htt
      have htt:=beq_iff'.1 htt
      subst htt
      have hc1:c.args= #[x,y]:=by simpa using congrArg List.toArray hargs
      have hc2:c.argTypes= #[t,t]:=by simpa using congrArg List.toArray htys
      rw [eval_iff,eval_iff] at h
      have hx:=eval_rep tm x
      have hy:=eval_rep tm y
      have hexec:∀v w',(Builtin.copy_ #[t,t] oo.type #[a.eval x,a.eval y]).run P w= .ok v w'→(execOp a.eval oo).run P w= .ok (.value v) w':=fun v w' hr=>by
        simp [execOp,ho,resolve,hcal,hc1,hc2,invoke,builtin,hr]
      generalize evalF T x=ax at h hx
      rcases src_iff h st hy with ⟨h,hyv⟩|⟨r',h,hlb',ad,cap',hyv,hcells'⟩
      · cases ax<;>exact h.elim
      cases ax<;>try exact h.elim
      rename_i k _
      obtain ⟨o,g1,g2⟩:=hx
      simp only at h
      split at h
      · rename_i wm r hf
        simp only [ifK_iff] at h
        obtain ⟨hw0,hok,hok',hz1,hlen,h⟩:=h
        obtain rfl:=beq_iff'.1 hw0
        have hz1:=beq_iff'.1 hz1
        obtain ⟨S',hK,hS⟩:=set_store h
        rw [hf] at hS
        obtain ⟨e',hd',hu,hes,hrow⟩:=okSl_row hty hok
        obtain ⟨e2,hd2,_,hes2,_⟩:=okSl_row hty hok'
        rw [hd'] at hd2;cases hd2
        have hz':r'.sz=1:=by rw [←hes2,hes,hz1]
        have hinfo:(P.info? e').map (·.size)=some 1:=by
          obtain ⟨i,_,hi,_,hs,_⟩:=hrow.row
          rw [hi];simp only [Option.map_some];rw [hs,hes,hz1]
        obtain ⟨⟨o',g3,g4,g5,g6,g7,g8⟩,_⟩:=st.blk k _ hf
        obtain rfl:=sli_sl g3 g1
        have hcell1:r'.cells=r'.len:=by simp [RO.cells,hz']
        by_cases h0:r'.len=0
        · have hrun:=run_copy_none (P:=P) w t t oo.type e' (o.blk.map fun b=>⟨b,0,none⟩) ad o.len o.cap r'.len cap' hu hinfo (by rw [h0];simp)
          refine .val (hexec _ _ (by rw [g2,hyv];exact hrun)) ⟨ρ,M,T,S',_,hK,⟨fun j=>?_,fun j C hC=>?_,st.inj,st.mlt,st.stp,st.sub,st.old,st.fresh,st.pin⟩,tm,rfl,trivial⟩
          · rw [hS j,st.dom j]
            by_cases hj:j=k
            · subst hj;simp [hf]
            · simp [hj]
          · rw [hS j] at hC
            by_cases hj:j=k
            · subst hj
              simp at hC;subst hC
              refine ⟨⟨o,g3,by omega,by rw [hz',g5,hz1],by omega,Nat.zero_le _,?_⟩,.inl rfl⟩
              cases hb:o.blk with
              |none=>simp only [hb] at g8 ⊢;exact ⟨h0,g8.2⟩
              |some b=>
               simp only [hb] at g8 ⊢
               obtain ⟨g9,cs,ty,g10,g11,g12,_⟩:=g8
               exact ⟨g9,cs,ty,g10,g11,g12,fun q hq=>by rw [hcell1] at hq;omega⟩
            · simp only [hj,if_false] at hC
              exact st.blk j C hC
        · rcases hcells' with hh|⟨b',off',rfl,hh⟩
          · omega
          obtain ⟨l,n1,n2,n3⟩:=cells_list hh
          cases hb:o.blk with
          |none=>simp only [hb] at g8;omega
          |some b=>
           simp only [hb] at g8
           obtain ⟨g9,cs,ty,g10,g11,g12,g13⟩:=g8
           have honel:∀v∈l,v.oneCell'=true:=fun v hv=>by
             obtain ⟨j,hj⟩:=List.mem_iff_getElem?.1 hv
             have hjl:j<r'.cells:=by
               rw [←n1]
               rcases Nat.lt_or_ge j l.length with h'|h'
               · exact h'
               · rw [List.getElem?_eq_none h'] at hj;cases hj
             obtain ⟨c,h1,h2⟩:=n3 j hjl
             rw [hj] at h1;cases h1
             exact oneCell_of h2.isCell
           have hfit:0+l.length≤cs.size:=by rw [n1,hcell1,g11,g5,hz1];omega
           have hrun:=run_copy_row (P:=P) w t t oo.type e' b 0 o.len o.cap ⟨b',off',none⟩ r'.len cap' cs ty l hu hinfo g10 (by rw [n1,hcell1,g4,hlen];simp) (fun j v hj=>by rw [addr_add];exact n2 j v hj) hfit honel
           let cs':=(cs.toList.take 0++l++cs.toList.drop (0+l.length)).toArray
           have hget:∀q,q<r'.len→cs'[q]? =l[q]? :=fun q hq=>by
             simp only [cs',List.take_zero,List.nil_append,List.getElem?_toArray]
             rw [List.getElem?_append_left (by rw [n1,hcell1];exact hq)]
           have hcsz:cs'.size=cs.size:=by simp [cs'];omega
           have hall:∀off,¬M b off→cs'[off]? =cs[off]? :=fun off hn=>by
             have h2:cs.size≤off:=Nat.le_of_not_lt fun hlt=>hn ((g12 off).2 ⟨by simp,hlt⟩)
             rw [Array.getElem?_eq_none h2,Array.getElem?_eq_none (by rw [hcsz];exact h2)]
           have hw:=st.write (k:=k) (B':=.vec 0 r' []) (cs':=cs') hf (by simp [hasB,g3,Own.has,hb]) g10 hcsz hall (fun hkp=>⟨⟨o,g3,by omega,by rw [hz',g5,hz1],by omega,Nat.zero_le _,by
             simp only [hb]
             refine ⟨g9,cs',ty,setRow_heap w b cs cs' ty _ g10,by rw [hcsz];exact g11,fun off=>by rw [hcsz];exact g12 off,fun q hq=>?_⟩
             obtain ⟨c,h1,h2⟩:=n3 q hq
             exact ⟨c,by rw [hget q (by rw [←hcell1];exact hq)];exact h1,CellP.keep hkp h2⟩⟩,.inl rfl⟩) hS
           refine .val (hexec _ _ (by rw [g2,hyv,Sl.val,hb];exact hrun)) ⟨ρ,M,T,S',_,hK,hw.1,⟨tm.defers,tm.size,fun j=>RepT.keep hw.2 (fun _ _ h=>h) (tm.tmp j)⟩,rfl,trivial⟩
      · exact h.elim
    · exact h.elim
  · exact h.elim
theorem zeroCells_one (v:Value) (n:Nat):(Builtin.zeroCells #[v] n).toList=List.replicate n v:=by
  apply List.ext_getElem?
  intro j
  simp only [Builtin.zeroCells,Array.toList_map,Array.toList_range,List.getElem?_map,List.getElem?_replicate]
  have hs:(#[v]:Array Value).size=1:=rfl
  rw [hs,Nat.mul_one]
  by_cases h:j<n
  · rw [List.getElem?_range h];simp [h,Nat.mod_one]
  · simp [h]
theorem clear_sound (hty:TyOk P TY) {F:Spec} {c:Call} {T:List AV} {K:AV→List AV→Store→Prop} {a:Act} {oo:Oper} (hcal:c.callee= .builtin .clear) (h:opB TY F d (.call c) T S K)
    (ho:oo.op= .call c) (st:St M0 ρ M S w) (tm:Tm ρ w M T a):Runs P (execOp a.eval oo) w (Post w0 M0 a T.length K):=by
  simp only [opB,quietOp,hcal] at h
  split at h
  · rename_i x t hargs htys
    have hc1:c.args= #[x]:=by simpa using congrArg List.toArray hargs
    have hc2:c.argTypes= #[t]:=by simpa using congrArg List.toArray htys
    rw [eval_iff] at h
    have hx:=eval_rep tm x
    have hexec:∀v w',(Builtin.clear_ #[t] oo.type #[a.eval x]).run P w= .ok v w'→(execOp a.eval oo).run P w= .ok (.value v) w':=fun v w' hr=>by
      simp [execOp,ho,resolve,hcal,hc1,hc2,invoke,builtin,hr]
    generalize evalF T x=ax at h hx
    cases ax<;>try exact h.elim
    rename_i k i
    obtain ⟨o,g1,g0,_,g2⟩:=hx
    simp only at h
    split at h
    · rename_i wm kk l hf
      rw [ifK_iff] at h
      obtain ⟨hok,h⟩:=h
      split at h
      · rename_i e hd
        unfold intT at h
        split at h
        · rename_i k' hde
          simp only [ifK_iff] at h
          obtain ⟨hkq,hzb,⟨hwm,hil⟩,h⟩:=h
          obtain rfl:=kq_eq hkq
          obtain ⟨S',hK,hS⟩:=set_store h
          rw [hf] at hS
          obtain ⟨e',hd',hu,hes,hrow⟩:=okSl_row hty hok
          rw [hd] at hd';cases hd'
          have hne:(nthT TY e).zero≠[]:=fun he=>by rw [he] at hzb;cases hzb
          obtain ⟨i',u,hi,_,_,_,_,hzero⟩:=hrow.row
          obtain ⟨z,hz1,hz2⟩:=hzero hne
          have hzk:z= .int kk 0:=by have:=hz2.2.2.2.1;rw [hde] at this;exact this
          have hzv:∀w,(zeroValue e).run P w= .ok (.int kk 0) w:=fun w=>by simp [zeroValue,typeInfo,hi,hz1,hzk]
          have hub:∀w,(underlying t).run P w= .ok (.slice e) w:=fun w=>by simp [underlying,hu]
          obtain ⟨⟨o',g3,g4,g5,g6,g7,g8⟩,_⟩:=st.blk k _ hf
          obtain rfl:=sli_sl g3 g1
          have g4:o.len=l.length:=g4
          have g5:o.sz=1:=g5
          have g6:l.length≤LB:=g6
          have hil:i.toNat≤l.length:=by omega
          have hl':(l.take i.toNat++List.replicate (l.length - i.toNat) 0).length=l.length:=by simp;omega
          by_cases h0:i.toNat=l.length
          · have hrun:(Builtin.clear_ #[t] oo.type #[a.eval x]).run P w= .ok (.tuple #[]) w:=by
              have:o.len - i.toNat=0:=by omega
              rw [g2,Sl.suf,this]
              generalize (if o.cap=i.toNat then (o.blk.map fun b=>(⟨b,0,none⟩:Addr)) else (o.blk.map fun b=>(⟨b,0,none⟩:Addr)).map (·.add (i.toNat*o.sz)))=ad
              cases ad<;>simp [Builtin.clear_,hub]
            have hsame:l.take i.toNat++List.replicate (l.length - i.toNat) 0=l:=by rw [h0];simp
            rw [hsame] at hS
            refine .val (hexec _ _ hrun) ⟨ρ,M,T,S',_,hK,⟨fun j=>?_,fun j C hC=>?_,st.inj,st.mlt,st.stp,st.sub,st.old,st.fresh,st.pin⟩,tm,rfl,trivial⟩
            · rw [hS j,st.dom j]
              by_cases hj:j=k
              · subst hj;simp [hf]
              · simp [hj]
            · rw [hS j] at hC
              by_cases hj:j=k
              · subst hj
                simp at hC;subst hC
                exact st.blk j _ hf
              · simp only [hj,if_false] at hC
                exact st.blk j C hC
          · cases hb:o.blk with
            |none=>simp only [hb] at g8;have:=g8.1;simp only [RO.len] at this;omega
            |some b=>
             simp only [hb] at g8
             obtain ⟨g9,cs,ty,g10,g11,g12,g13⟩:=g8
             have hcap:o.cap≠i.toNat:=by omega
             have hn:o.len - i.toNat=l.length - i.toNat:=by rw [g4]
             obtain ⟨m,hm⟩:∃m,l.length - i.toNat=m+1:=⟨l.length - i.toNat - 1,by omega⟩
             have hst:=run_storeCells_at P b i.toNat ty (List.replicate (m+1) (Value.int kk 0)) 0 cs w g10 (by simp;rw [g11,g5];omega) (fun v hv=>by rw [(List.mem_replicate.1 hv).2];rfl)
             have hrun:(Builtin.clear_ #[t] oo.type #[a.eval x]).run P w= .ok (.tuple #[]) (w.setRow b (cs.toList.take (i.toNat+0)++List.replicate (m+1) (Value.int kk 0)++cs.toList.drop (i.toNat+0+(List.replicate (m+1) (Value.int kk 0)).length)).toArray):=by
               rw [g2,Sl.suf,if_neg hcap,hb,hn,hm]
               have hzc:(Value.int kk 0).cells= #[Value.int kk 0]:=rfl
               simp only [Option.map_some,g5,Nat.mul_one,addr_add,Nat.zero_add]
               simp only [Builtin.clear_,hub,hzv,hzc,zeroCells_one,hst,Sem.run_bind,Result.andThen_ok]
               simp [hub,hzv,hzc,zeroCells_one,hst]
             generalize hcs':(cs.toList.take (i.toNat+0)++List.replicate (m+1) (Value.int kk 0)++cs.toList.drop (i.toNat+0+(List.replicate (m+1) (Value.int kk 0)).length)).toArray=cs' at hrun
             have hcl:i.toNat≤cs.toList.length:=by rw [Array.length_toList,g11,g5];omega
             have t1:(cs.toList.take i.toNat).length=i.toNat:=by rw [List.length_take];omega
             have hg:∀q,cs'[q]? =if q<i.toNat then cs[q]? else if q<l.length then some (Value.int kk 0) else cs[q]? :=fun q=>by
               rw [←hcs',List.getElem?_toArray]
               simp only [Nat.add_zero,List.length_replicate]
               by_cases h1:q<i.toNat
               · rw [if_pos h1,List.getElem?_append_left (by rw [List.length_append,t1,List.length_replicate];omega),List.getElem?_append_left (by rw [t1];exact h1),List.getElem?_take_of_lt h1,Array.getElem?_toList]
               · rw [if_neg h1]
                 by_cases h2:q<l.length
                 · rw [if_pos h2,List.getElem?_append_left (by rw [List.length_append,t1,List.length_replicate];omega),List.getElem?_append_right (by rw [t1];omega),List.getElem?_replicate,if_pos (by rw [t1];omega)]
                 · rw [if_neg h2,List.getElem?_append_right (by rw [List.length_append,t1,List.length_replicate];omega),List.getElem?_drop,←Array.getElem?_toList]
                   congr 1
                   rw [List.length_append,t1,List.length_replicate]
                   omega
             have hcsz:cs'.size=cs.size:=by
               rw [←hcs']
               simp only [List.size_toArray,List.length_append,List.length_take,List.length_replicate,List.length_drop,Nat.add_zero,Array.length_toList]
               rw [Array.length_toList] at hcl
               rw [g11,g5]
               omega
             have hall:∀off,¬M b off→cs'[off]? =cs[off]? :=fun off hnm=>by
               rw [hg off]
               by_cases h1:off<i.toNat
               · rw [if_pos h1]
               · rw [if_neg h1]
                 by_cases h2:off<l.length
                 · exact absurd ((g12 off).2 ⟨by rw [g5];omega,by rw [g11,g5];omega⟩) hnm
                 · rw [if_neg h2]
             have hw:=st.write (k:=k) (B':=.vec wm (.ints kk (l.take i.toNat++List.replicate (l.length - i.toNat) 0)) []) (cs':=cs') hf (by simp [hasB,g3,Own.has,hb]) g10 hcsz hall (fun hkp=>⟨⟨o,g3,by rw [g4];exact hl'.symm,g5,by show List.length _≤LB;rw [hl'];exact g6,by show wm≤List.length _;rw [hl'];exact g7,by
               simp only [hb]
               refine ⟨g9,cs',ty,setRow_heap w b cs cs' ty _ g10,by rw [hcsz];exact g11,fun off=>by rw [hcsz];exact g12 off,fun q hq=>?_⟩
               have hq:q<l.length:=by simpa [RO.cells,RO.len,RO.sz,hl'] using hq
               rw [hg q]
               by_cases h1:q<i.toNat
               · rw [if_pos h1]
                 obtain ⟨c,h2,h3⟩:=g13 q (by simpa [RO.cells,RO.len,RO.sz] using hq)
                 refine ⟨c,h2,?_⟩
                 have e1:(l.take i.toNat++List.replicate (l.length - i.toNat) 0).getD q 0=l.getD q 0:=by
                   simp only [List.getD]
                   rw [List.getElem?_append_left (by simp;omega),List.getElem?_take_of_lt h1]
                 show c= .int kk (List.getD _ q 0)∧inK kk (List.getD _ q 0)
                 rw [e1];exact h3
               · rw [if_neg h1,if_pos hq]
                 refine ⟨_,rfl,?_⟩
                 have e1:(l.take i.toNat++List.replicate (l.length - i.toNat) (0:Int)).getD q 0=0:=by
                   simp only [List.getD]
                   rw [List.getElem?_append_right (by simp;omega),List.getElem?_replicate]
                   split<;>rfl
                 show _=Value.int kk (List.getD _ q 0)∧inK kk (List.getD _ q 0)
                 rw [e1]
                 exact ⟨rfl,by unfold inK;cases kk<;>decide⟩⟩,.inl rfl⟩) hS
             exact .val (hexec _ _ hrun) ⟨ρ,M,T,S',_,hK,hw.1,⟨tm.defers,tm.size,fun j=>RepT.keep hw.2 (fun _ _ h=>h) (tm.tmp j)⟩,rfl,trivial⟩
        · exact h.elim
      · exact h.elim
    · exact h.elim
  · exact h.elim
theorem q_sound (hty:TyOk P TY) {F:Spec} {o:Op} {T:List AV} {K:AV→Option Blk→Prop} (hq:quietOp o=true) (h:qK TY F d o T S0 K):∃v B,K v B∧QS P d o T S0 v B:=by
  cases o<;>try (first|(cases hq;done)|exact h.elim)
  case move=>exact simple_sound hty h (.inl ⟨_,.inl rfl⟩)
  case assign=>exact simple_sound hty h (.inl ⟨_,.inr (.inl rfl)⟩)
  case pick=>exact simple_sound hty h (.inr (.inr (.inr (.inl ⟨_,_,_,rfl⟩))))
  case alloc=>exact alloc_sound hty h
  case box=>exact box_sound hty h
  case build=>exact build_sound hty h
  case load=>exact load_sound hty h
  case nilCheck=>exact simple_sound hty h (.inl ⟨_,.inr (.inr rfl)⟩)
  case binOp=>exact simple_sound hty h (.inr (.inr (.inl ⟨_,_,_,_,_,rfl⟩)))
  case unOp=>exact simple_sound hty h (.inr (.inl ⟨_,_,_,rfl⟩))
  case makeFunc=>exact simple_sound hty h (.inr (.inr (.inr (.inr (.inr ⟨_,_,_,rfl⟩)))))
  case makeSlice=>exact make_sound hty h
  case fieldAddr=>exact fieldAddr_sound hty h
  case field=>exact field_sound hty h
  case indexAddr=>exact indexAddr_sound hty h
  case index=>exact index_sound hty h
  case convert=>exact convert_sound hty h
  case extract=>exact simple_sound hty h (.inr (.inr (.inr (.inr (.inl ⟨_,_,rfl⟩)))))
  case makeMap=>exact makeMap_sound hty h
  case lookup=>exact lookup_sound hty h
  case call c=>
    simp only [quietOp] at hq
    cases hc:c.callee with
    |builtin b=>exact builtin_sound hty hc h
    |invoke=>rw [hc] at hq;cases hq
    |value=>rw [hc] at hq;cases hq
theorem run_call {f:FuncId} {c:Call} {oo:Oper} {e:Operand→Value} {x:Operand} {cs:List Value} (hc:Callable P f) (ho:oo.op= .call c) (hx:c.callee= .value x) (hv:e x= .func (.func f) #[] cs.toArray) (w:World):
    (execOp e oo).run P w= .ok (.enter f (c.args.toList.map e++cs).toArray) w:=by
  obtain ⟨fn,h1,h2,h3⟩:=hc
  have hb:fn.body.isNone=false:=by cases hh:fn.body<;>simp_all
  have e1:(#[]++c.args.map e++cs.toArray)=(c.args.toList.map e++cs).toArray:=by
    apply Array.ext'
    simp
  have hb':fn.body≠none:=fun hh=>by rw [hh] at h3;cases h3
  rw [←e1]
  simp [execOp,ho,resolve,hx,hv,Deferred.ofValue,invoke,callFunc,h1,h2,hb']
theorem evalF_app {l m:List AV}:appA l m=l++m:=by
  induction l with
  |nil=>rfl
  |cons a l ih=>simp [appA,ih]
theorem repL_map {T:List AV} {a:Act} (tm:Tm ρ w M T a):∀(xs:List Operand),RepL (RepT ρ w M) (xs.map (evalF T)) (xs.map a.eval)
  |[]=>trivial
  |x::xs=>⟨eval_rep tm x,repL_map tm xs⟩
theorem call_sound {F:Spec} (hF:SpecOk P F) {f:FuncId} {c:Call} {x:Operand} {cap:List AV} {T:List AV} {K:AV→List AV→Store→Prop} {a:Act} {oo:Oper} (ho:oo.op= .call c) (hx:c.callee= .value x)
    (hxv:evalF T x= .fn f cap) (h:callK F d f ((c.args.toList.map (evalF T))++cap) T S K) (st:St M0 ρ M S w) (tm:Tm ρ w M T a):Runs P (execOp a.eval oo) w (Post w0 M0 a T.length K):=by
  have hv:=eval_rep tm x
  rw [hxv] at hv
  obtain ⟨cs,hv,hcs⟩:=hv
  have hrun:=run_call (callK_callable hF h) ho hx (e:=a.eval) (cs:=cs.toList) (by rw [hv]) w
  refine .inr (.inr ⟨f,_,w,hrun,?_⟩)
  refine (callK_sound hF h st tm ((repL_map tm c.args.toList).append (hcs.imp fun _ _=>repT_of_repC))).mono fun e w' ⟨u,he,ρ',M',T',S',v,h1,h2,h3,h4,h5⟩=>⟨u,he,ρ',M',T',S',v,h1,h2,h3,h4,h5⟩
theorem callc_sound {F:Spec} (hF:SpecOk P F) {f:FuncId} {c:Call} {x:Operand} {r:RO} {i:Int} {T:List AV} {K:AV→List AV→Store→Prop} {a:Act} {oo:Oper} (ho:oo.op= .call c) (hx:c.callee= .value x)
    (hxv:evalF T x= .cfn f r i) (h:callK F d f ((c.args.toList.map (evalF T))++[.rptr r i]) T S K) (st:St M0 ρ M S w) (tm:Tm ρ w M T a):Runs P (execOp a.eval oo) w (Post w0 M0 a T.length K):=by
  have hv:=eval_rep tm x
  rw [hxv] at hv
  obtain ⟨b,off,cp,h1,h2,h3,hv⟩:=hv
  have hrun:=run_call (callK_callable hF h) ho hx (e:=a.eval) (cs:=[.pointer (some ⟨b,off+i.toNat*r.sz,none⟩)]) (by rw [hv]) w
  refine .inr (.inr ⟨f,_,w,hrun,?_⟩)
  have hcs:RepL (RepT ρ w M) [.rptr r i] [.pointer (some ⟨b,off+i.toNat*r.sz,none⟩)]:=⟨⟨b,off,cp,h1,h2,h3,rfl⟩,trivial⟩
  refine (callK_sound hF h st tm ((repL_map tm c.args.toList).append hcs)).mono fun e w' ⟨u,he,ρ',M',T',S',v,h1,h2,h3,h4,h5⟩=>⟨u,he,ρ',M',T',S',v,h1,h2,h3,h4,h5⟩
theorem setMap_heap {b:Nat} {o o':Obj} (h:w.heap[b]? =some o) (b':Nat):(w.heap.setIfInBounds b o')[b']? =if b'=b then some o' else w.heap[b']? :=by
  have hb:b<w.heap.size:=by
    rcases Nat.lt_or_ge b w.heap.size with h'|h'
    · exact h'
    · rw [Array.getElem?_eq_none h'] at h;cases h
  rw [Array.getElem?_setIfInBounds]
  by_cases he:b=b'
  · subst he;simp [hb]
  · simp [he,Ne.symm he]
theorem mapUpdate_sound (hty:TyOk P TY) {t:Nat} {x k y:Operand} {T:List AV} {K:AV→List AV→Store→Prop} {a:Act} {oo:Oper} (h:putMK TY t x k y T S K)
    (ho:oo.op= .mapUpdate t x k y∨oo.op= .insert t x k y) (st:St M0 ρ M S w) (tm:Tm ρ w M T a):Runs P (execOp a.eval oo) w (Post w0 M0 a T.length K):=by
  unfold putMK at h
  obtain ⟨kt,et,kd,vk,h,hu,hk,z,hz,hzv⟩:=map_row hty h
  simp only [eval_iff] at h
  split at h
  · rename_i j off hx
    split at h
    · rename_i kd' vk' m hf
      rw [ifK_iff,ifK_iff] at h
      obtain ⟨h1,h2,h⟩:=h
      obtain rfl:=kdq_eq h1
      obtain rfl:=vkq_eq h2
      obtain ⟨key,hkey,h⟩:=key_iff h
      obtain ⟨n,hn,h⟩:=val_iff h
      obtain ⟨S',hK,hS⟩:=set_store h
      rw [hf] at hS
      have hx':=eval_rep tm x
      rw [hx] at hx'
      have hx':(ρ j).bind (Own.ref · off)=some (a.eval x):=hx'
      obtain ⟨b,g1,es,c,g2,g3,g4⟩:=st.blk j _ hf
      have hex:=ref_mp g1 hx'
      obtain ⟨es',c',hr,hrep⟩:=run_mapUpdate (mty:=t) hu hk g2 g4 (key_rep hkey (eval_rep tm k)) (val_rep hn (eval_rep tm y))
      have hheap:=fun b'=>setMap_heap (o':=.map es' c') g2 b'
      have hM:M b 0:=(g3 0).2 rfl
      have hb:hasB ρ j b:=by simp [hasB,g1,Own.has]
      have hstp:∀M':Msk,M' b 0→Stp M' w { w with heap:=w.heap.setIfInBounds b (.map es' c') }:=fun M' hM'=>⟨by simp,fun b' hb'=>by
        by_cases he:b'=b
        · subst he;exact .inr (.inr ⟨es,es',c,c',g2,by simp [hheap],hM'⟩)
        · exact .inl (by simp [hheap,he]),IoS.refl _⟩
      have hkeep:Keep w M { w with heap:=w.heap.setIfInBounds b (.map es' c') } M:=(hstp M hM).keep fun b off _ h=>h
      have hblt:b<w.heap.size:=blk_lt st hb
      have st':St M0 ρ M S' { w with heap:=w.heap.setIfInBounds b (.map es' c') }:=by
        refine ⟨fun i=>?_,fun i C hC=>?_,st.inj,fun b off hm=>by simpa using st.mlt b off hm,?_,st.sub,st.old,st.fresh,st.pin⟩
        · rw [hS i,st.dom i]
          by_cases hi:i=j
          · subst hi;simp [hf]
          · simp [hi]
        · rw [hS i] at hC
          by_cases hi:i=j
          · subst hi
            simp at hC;subst hC
            exact ⟨b,g1,es',c',by simp [hheap],g3,hrep⟩
          · simp only [hi,if_false] at hC
            exact BlkH.ext hkeep (fun _ _ h=>h) (fun b' hb'=>⟨by
              have:b'≠b:=fun e=>hi (st.inj _ _ b (e▸hb') hb)
              simp [hheap,this],fun _=>Iff.rfl⟩) (st.blk i C hC)
        · exact st.stp.trans (hstp (fun b' off=>b'=b∧M b' off) ⟨rfl,hM⟩) (fun b' off hb' he=>by obtain ⟨rfl,hm⟩:=he;exact ⟨(st.fresh j b' hb).resolve_left (Nat.not_le_of_lt hb'),st.sub b' off hb' hm⟩)
      refine .inr (.inl ⟨{ w with heap:=w.heap.setIfInBounds b (.map es' c') },?_,ρ,M,T,S',.any,hK,st',⟨tm.defers,tm.size,fun i=>RepT.keep hkeep (fun _ _ h=>h) (tm.tmp i)⟩,rfl,trivial⟩)
      rcases ho with ho|ho<;>simp [execOp,ho,hex,hr]
    · exact h.elim
  · exact h.elim
theorem opB_sound (hty:TyOk P TY) {F:Spec} (hF:SpecOk P F) {o:Op} {T:List AV} {K:AV→List AV→Store→Prop} {a:Act} {oo:Oper} (h:opB TY F d o T S K)
    (ho:oo.op=o) (st:St M0 ρ M S w) (tm:Tm ρ w M T a):Runs P (execOp a.eval oo) w (Post w0 M0 a T.length K):=by
  have quiet:∀{ρ:Env} {M:Msk} {T':List AV} {S:Store} {K':AV→Option Blk→Prop},qK TY F d o T' S K'→(∃v B,K' v B∧QS P d o T' S v B)→St M0 ρ M S w→Tm ρ w M T' a→T'.length=T.length→((findS S d=none∧loc d=true)∨∀v b,¬K' v (some b))→
      (∀v B,K' v B→K v T' (addS d B S))→Runs P (execOp a.eval oo) w (Post w0 M0 a T.length K):=by
    intro ρ M T' S K' _ hs st tm hlen hd hK
    obtain ⟨v,B,h1,h2⟩:=hs
    refine (h2.1 w0 M0 ρ M w S a.eval oo ho (Cmp.refl S) st (fun x _=>eval_rep tm x) (fun hB=>?_)).mono fun u w' ⟨ρ',M',g1,g2,g3,g4⟩=>⟨ρ',M',T',_,v,hK v B h1,g1,⟨tm.defers,tm.size,fun i=>RepT.keep g3 g4 (tm.tmp i)⟩,hlen,g2⟩
    rcases hd with hd|hd
    · exact hd
    · cases B with
      |none=>exact absurd rfl hB
      |some b=>exact absurd h1 (hd v b)
  unfold opB at h
  cases hq:quietOp o with
  |true=>
   rw [hq] at h
   cases hm:makesOp o with
   |true=>
    rw [hm] at h
    obtain ⟨T',S',h1,h2,h3,h4,h5,hloc⟩:=kill_sound h st tm
    exact quiet h1 (q_sound hty hq h1) h2 h3 h4 (.inl ⟨h5,hloc⟩) fun v B hv=>by cases B<;>exact hv
   |false=>
    rw [hm] at h
    exact quiet h (q_sound hty hq h) st tm rfl (.inr fun v b hv=>hv) fun v B hv=>by cases B<;>first|exact hv.elim|exact hv
  |false=>
   cases o<;>try (first|(cases hq;done)|(rw [hq] at h;exact h.elim))
   case buildSlice t n ps=>exact buildSlice_sound hty (d:=d) (F:=F) (by simpa only [opB] using h) ho st tm
   case store t x y=>exact store_sound hty (d:=d) (F:=F) (by simpa only [opB] using h) ho st tm
   case mapUpdate t x k y=>exact mapUpdate_sound hty h (.inl ho) st tm
   case insert t x k y=>exact mapUpdate_sound hty h (.inr ho) st tm
   case slice t x lo hi mx=>
     cases mx with
     |some z=>
      have h':qK TY F d (.slice t x lo hi (some z)) T S fun v b=>match b with|none=>K v T S|some _=>False:=by
        simp only [quietOp] at h
        exact h
      exact quiet h' (slice3_sound hty h') st tm rfl (.inr fun v b hv=>hv) fun v B hv=>by cases B<;>first|exact hv.elim|exact hv
     |none=>
      by_cases hx:∃k,evalF T x= .vec k
      · obtain ⟨k,hx⟩:=hx
        exact head_sound hty (d:=d) (F:=F) hx (by simpa only [opB] using h) ho st tm
      · by_cases hn:evalF T x= .nils
        · simp only [quietOp,eval_iff,hn] at h
          split at h
          · rename_i y
            obtain ⟨kk,n,hy,rfl,h⟩:=bound_iff h
            split at h
            · rename_i e hd
              obtain ⟨hz,h⟩:=ifK_iff.1 h
              exact .val (nilHead_sound hty hn hy hd (Nat.le_of_ble_eq_true hz) ho tm) ⟨ρ,M,T,S,_,h,st,tm,rfl,rfl⟩
            · exact h.elim
          · exact h.elim
        have h':qK TY F d (.slice t x lo hi none) T S fun v b=>match b with|none=>K v T S|some _=>False:=by
          simp only [quietOp,eval_iff] at h
          split at h
          · rename_i k hk;exact absurd ⟨k,hk⟩ hx
          · rename_i hk;exact absurd hk hn
          · exact h
        exact quiet h' (slice_sound hty h') st tm rfl (.inr fun v b hv=>hv) fun v B hv=>by cases B<;>first|exact hv.elim|exact hv
   case call c=>
     simp only [quietOp] at hq h
     cases hc:c.callee with
     |invoke=>rw [hc] at h;exact h.elim
     |builtin b=>
      rw [hc] at hq
      cases b<;>try (cases hq;done)
      · exact append_sound hty (d:=d) (F:=F) hc (by simpa only [opB,quietOp,hc] using h) ho st tm
      · exact clear_sound hty (d:=d) (F:=F) hc (by simpa only [opB,quietOp,hc] using h) ho st tm
      · exact copy_sound hty (d:=d) (F:=F) hc (by simpa only [opB,quietOp,hc] using h) ho st tm
     |value x=>
      rw [hc] at h
      have mcall:∀{f:FuncId},callMK F f c.args.toList x T S K→Runs P (execOp a.eval oo) w (Post w0 M0 a T.length K):=fun {f} h=>by
        obtain ⟨cs,h1,h2⟩:=callM_sound hF h st tm
        have hrun:=run_call (callM_callable hF h) ho hc (e:=a.eval) (cs:=cs) h1 w
        exact .inr (.inr ⟨f,_,w,hrun,h2.mono fun e w' ⟨u,he,ρ',M',T',S',v,h1,h2,h3,h4,h5⟩=>⟨u,he,ρ',M',T',S',v,h1,h2,h3,h4,h5⟩⟩)
      cases x with
      |func f=>
       rcases h with h|h|h
       · simp only [evals_iff] at h
         exact call_sound hF (cap:=[]) ho hc rfl (by simpa using h) st tm
       · exact mcall h
       · simp only [evals_iff] at h
         have hrun:=run_call (callEK_callable hF h) ho hc (e:=a.eval) (cs:=[]) rfl w
         rw [List.append_nil] at hrun
         exact .inr (.inr ⟨f,_,w,hrun,(callEK_sound hF h st tm (repL_map tm c.args.toList)).mono fun e w' ⟨u,he,ρ',M',T',S',v,h1,h2,h3,h4,h5⟩=>⟨u,he,ρ',M',T',S',v,h1,h2,h3,h4,h5⟩⟩)
      |_=>
       simp only [eval_iff] at h
       split at h
       · rename_i f cap hx
         rcases h with h|h
         · simp only [evals_iff,evalF_app] at h
           exact call_sound hF ho hc hx h st tm
         · exact mcall h
       · rename_i f r i hx
         simp only [evals_iff,evalF_app] at h
         exact callc_sound hF ho hc hx h st tm
       · exact h.elim
theorem rowK_grid {r:RO} {i:Int} {K:RO→Prop} (h:rowK r i K):gridQ r=false:=by cases r<;>first|rfl|exact h.elim
theorem ldDeep_sound (hty:TyOk P TY) {o:Op} {T:List AV} {K:AV→List AV→Store→Prop} {a:Act} {oo:Oper} (h:ldDeep TY d o T S K)
    (ho:oo.op=o) (st:St M0 ρ M S w) (tm:Tm ρ w M T a):Runs P (execOp a.eval oo) w (Post w0 M0 a T.length K):=by
  cases o<;>try exact h.elim
  rename_i t x
  obtain ⟨T1,S1,h,st1,tm1,hT1,hnone,hloc⟩:=kill_sound h st tm
  rw [eval_iff] at h
  have hx:=eval_rep tm1 x
  split at h
  · rename_i k i hxk
    rw [hxk] at hx
    split at h
    · rename_i r hf
      rw [ifK_iff,ifK_iff] at h
      obtain ⟨hok,hlk,h⟩:=h
      have hg:=rowK_grid h
      have h:=rowK_iff h
      obtain ⟨S2,hK,hS⟩:=set_store h
      rw [hf] at hS
      obtain ⟨o,b,g1,g2,g3,g4,g5⟩:=hx
      obtain ⟨o',rows,g6,hD⟩:=st1.blk k _ hf
      rw [of_dp g6] at g1;cases g1
      have hlen:=hD.len
      have hdk:d≠k:=fun e=>by rw [←e,hnone] at hf;cases hf
      obtain ⟨ρ2,st2,hv2,hrep⟩:=st1.takeRow (S':=(d,.vec 0 (r.row i.toNat) [])::S2) hnone hloc hlk hg g6 hD ⟨g3,by omega⟩ (fun j=>by
        rw [find_cons]
        by_cases hj:j=d
        · simp [hj]
        · rw [if_neg (Ne.symm hj),if_neg hj,hS j];rfl)
      have h7:=hD.outer
      simp only [g2] at h7
      obtain ⟨g19,cs,ty,g20,g21,g22,g23⟩:=h7
      have hil:i.toNat<r.len:=by omega
      obtain ⟨c,hc1,hc2⟩:=g23 i.toNat hil
      have hc2:=hc2.resolve_left (by simp)
      subst hc2
      obtain ⟨hs,hag⟩:=okEl_facts hok
      have hsz1:=rowsQ_sz hD.rq
      have hrow:=hty.at (t:=t) (.inl (by rw [hs,hsz1];decide))
      have hag':isAggD (nthT TY t).d=false:=by rw [hag];have:=hD.rq;cases r<;>first|rfl|cases this
      have hl:=run_load1 (t:=t) (b:=b) (off:=i.toNat) (c:=(rows.getD i.toNat nilRow).sl.val) hrow hag' (by rw [cell_of_heap g20];exact hc1)
      refine .val (v:=(rows.getD i.toNat nilRow).sl.val) (w':=w) ?_ ⟨ρ2,dropM M ρ d,T1,_,.vec d,hK,st2,⟨tm1.defers,tm1.size,fun j=>(tm1.tmp j).view hv2⟩,hT1,hrep⟩
      rw [hD.osz,Nat.mul_one] at g5
      simp [execOp,ho,g5,hl]
    · exact h.elim
  · exact h.elim
theorem ldGrid_sound (hty:TyOk P TY) {o:Op} {T:List AV} {K:AV→List AV→Store→Prop} {a:Act} {oo:Oper} (h:ldGrid TY d o T S K)
    (ho:oo.op=o) (st:St M0 ρ M S w) (tm:Tm ρ w M T a):Runs P (execOp a.eval oo) w (Post w0 M0 a T.length K):=by
  cases o<;>try exact h.elim
  rename_i t x
  obtain ⟨T1,S1,h,st1,tm1,hT1,hnone,hloc⟩:=kill_sound h st tm
  rw [eval_iff] at h
  have hx:=eval_rep tm1 x
  split at h
  · rename_i k i j hxk
    rw [hxk] at hx
    split at h
    · rename_i l hf
      rw [ifK_iff,ifK_iff] at h
      obtain ⟨hok,hlk,h⟩:=h
      obtain ⟨S2,hK,hS⟩:=set_store h
      rw [hf] at hS
      obtain ⟨ll,b,g1,g2,g3,g4,⟨g5,g5'⟩,g6⟩:=hx
      obtain ⟨o,rows,k1,hD⟩:=st1.blk k _ hf
      rw [of_rws k1] at g1;cases g1
      rw [List.length_map] at g3
      rw [getD_sl] at g4 g5'
      have hrl:rows.length=l.length:=hD.rlen
      have hR:DeepI w (dropM M ρ d) (rows.getD i.toNat nilRow).sl (rows.getD i.toNat nilRow).sub (.rows .i64 (l.getD i.toNat [])) none:=hD.row i.toNat (by rw [←hD.rlen];exact g3) (by simp)
      have hlen:(rows.getD i.toNat nilRow).sl.len=(l.getD i.toNat []).length:=hR.len
      obtain ⟨ρ2,st2,hv2,hrep⟩:=st1.takeCell (i:=i) (j:=j) (S':=(d,.vec 0 (.ints .i64 ((l.getD i.toNat []).getD j.toNat [])) [])::S2) hnone hloc hlk k1 hD ⟨g2,by omega⟩ ⟨g5,by omega⟩ (fun q=>by
        rw [find_cons]
        by_cases hj:q=d
        · simp [hj]
        · rw [if_neg (Ne.symm hj),if_neg hj,hS q];rfl)
      have h7:=hR.outer
      simp only [g4] at h7
      obtain ⟨g19,cs,ty,g20,g21,g22,g23⟩:=h7
      obtain ⟨c,hc1,hc2⟩:=g23 j.toNat (by simp only [RO.len];omega)
      have hc2:=hc2.resolve_left (by simp)
      subst hc2
      obtain ⟨hs,hag⟩:=okEl_facts hok
      have hrow:=hty.at (t:=t) (.inl (by rw [hs];exact Nat.one_ne_zero))
      have hl:=run_load1 (t:=t) (b:=b) (off:=j.toNat) (c:=((rows.getD i.toNat nilRow).sub.getD j.toNat nilSl).val) hrow hag (by rw [cell_of_heap g20];exact hc1)
      refine .val (v:=((rows.getD i.toNat nilRow).sub.getD j.toNat nilSl).val) (w':=w) ?_ ⟨ρ2,dropM M ρ d,T1,_,.vec d,hK,st2,⟨tm1.defers,tm1.size,fun q=>(tm1.tmp q).view hv2⟩,hT1,hrep⟩
      simp [execOp,ho,g6,hl]
    · exact h.elim
  · exact h.elim
end
end Go.AM
end
section
namespace Go.AM
open Go
section
variable {P:Program} {TY:List TyE} {w0 w:World} {M0:Base w0} {ρ:Env} {M:Msk} {S S0:Store} {d:Nat}
theorem deepKey_sound {k:Nat} {T:List AV} {a:Act} {K:List AV→Store→Prop} (h:killK k T S K) (st:St M0 ρ M S w) (tm:Tm ρ w M T a)
    {w':World} {M':Msk} {o:Sl} {rows:List RowO} {r:RO} (hkeep:Keep w M w' M')
    (hblk:∀j,j≠k→∀b,hasB ρ j b→w'.heap[b]? =w.heap[b]?∧∀off,M' b off↔M b off)
    (hstp:Stp (fun b off=>w0.heap.size≤b∨(M0.lent b∧M0.mask b off)) w w') (hlt:∀b off,M' b off→b<w'.heap.size) (hsub:∀b off,b<w0.heap.size→M' b off→M b off) (hold:∀b off,b<w0.heap.size→¬M0.lent b→M b off→M' b off)
    (hfr:∀b,(Own.dp o rows (gridQ r)).has b→w0.heap.size≤b∨M0.lent b) (hD:DeepH w' M' o rows r none) (hinj:∀b,(Own.dp o rows (gridQ r)).has b→∀j,j≠k→¬hasB ρ j b):
    ∃T' S' ρ',K T' S'∧St M0 ρ' M' ((k,.deep r none)::S') w'∧Tm ρ' w' M' T' a∧T'.length=T.length∧ρ' k=some (.dp o rows (gridQ r)):=by
  obtain ⟨T',S',g1,g2,g3,g4⟩:=rekey_sound h st tm (ρ':=fun j=>if j=k then some (.dp o rows (gridQ r)) else ρ j) (w':=w') (M':=M') (B:=.deep r none) hkeep (fun j hj=>by simp [hj]) (by simp) hblk hstp hlt hsub hold
    (fun b hb=>hfr b (by simpa [hasB] using hb)) ⟨o,rows,by simp,hD⟩ (fun b hb=>hinj b (by simpa [hasB] using hb))
  exact ⟨T',S',_,g1,g2,g3,g4,by simp⟩
theorem row_lt {R:RowO} {r:RO} {q:Nat} {ho:Option Int} (h:RowH w M R r q ho) {b:Nat} (hb:R.has b):b<w.heap.size:=by
  obtain ⟨cs,ty,h1⟩:=h.cells hb
  rcases Nat.lt_or_ge b w.heap.size with h'|h'
  · exact h'
  · rw [Array.getElem?_eq_none h'] at h1;cases h1
theorem getD_in {rows:List RowO} {q b:Nat} (h:(rows.getD q nilRow).has b):q<rows.length:=by
  rcases Nat.lt_or_ge q rows.length with h'|h'
  · exact h'
  · rw [List.getD,List.getElem?_eq_none h'] at h;exact absurd h nilRow_no
theorem deepNew_sound {k:Nat} {T:List AV} {a:Act} {K:List AV→Store→Prop} (h:killK k T S K) (st:St M0 ρ M S w) (tm:Tm ρ w M T a)
    {w':World} {cs:Array Value} {ty cap:Nat} {rows:List RowO} {r:RO} (hw:w'.heap=w.heap.push (.cells cs ty (0,0))) (hio:IoS w w') (hcs:cs.size=cap) (hcap:r.len≤cap) (hlb:r.len≤LB) (hq:rowsQ r=true) (hrl:rows.length=r.len)
    (hc:∀q,q<r.len→cs[q]? =some (rows.getD q nilRow).sl.val) (hrow:∀q,q<r.len→RowH w M (rows.getD q nilRow) r q none)
    (hown:∀q b,(rows.getD q nilRow).has b→(∀j,j≠k→¬hasB ρ j b)∧(w0.heap.size≤b∨M0.lent b))
    (hap:∀q q' b,(rows.getD q nilRow).has b→(rows.getD q' nilRow).has b→q=q'):
    ∃T' S' ρ' M',K T' S'∧St M0 ρ' M' ((k,.deep r none)::S') w'∧Tm ρ' w' M' T' a∧T'.length=T.length∧ρ' k=some (.dp ⟨some w.heap.size,r.len,cap,1⟩ rows (gridQ r)):=by
  have hs:Stp (fun _ _=>False) w w':=⟨by rw [hw];simp,fun b hb=>.inl (by rw [hw];simp [Array.getElem?_push,Nat.ne_of_lt hb]),hio⟩
  let M':Msk:=fun b off=>M b off∨(b=w.heap.size∧off<cs.size)
  have hkeep:Keep w M w' M':=fun b off c h1 h2=>⟨hs.cell h1 (fun h=>h),fun hm=>hm.elim h2 (fun hm=>absurd hm.1 (Nat.ne_of_lt (cell_lt h1)))⟩
  have same:∀b,b<w.heap.size→w'.heap[b]? =w.heap[b]?∧∀off,M' b off↔M b off:=fun b hb=>
    ⟨by rw [hw];simp [Array.getElem?_push,Nat.ne_of_lt hb],fun off=>⟨fun hm=>hm.elim id (fun hm=>absurd hm.1 (Nat.ne_of_lt hb)),.inl⟩⟩
  have rlt:∀q b,(rows.getD q nilRow).has b→b<w.heap.size:=fun q b hb=>row_lt (hrow q (by rw [←hrl];exact getD_in hb)) hb
  obtain ⟨T',S',ρ',g1,g2,g3,g4,g5⟩:=deepKey_sound h st tm (w':=w') (M':=M') (o:=⟨some w.heap.size,r.len,cap,1⟩) (rows:=rows) (r:=r) hkeep (fun j hj b hb=>same b (blk_lt st hb))
    ⟨hs.1,fun b hb=>(hs.2 b hb).imp id fun hh=>hh.imp (fun ⟨c1,c2,t,h1,h2,h3,h4⟩=>⟨c1,c2,t,h1,h2,h3,fun off _=>h4 off (by simp)⟩) (fun ⟨_,_,_,_,_,_,hf⟩=>hf.elim),hs.3⟩
    (fun b off hm=>by
      rw [hw];simp
      rcases hm with hm|hm
      · exact Nat.lt_succ_of_lt (st.mlt _ _ hm)
      · rw [hm.1];exact Nat.lt_succ_self _)
    (fun b off hb hm=>hm.elim id (fun hm=>absurd hm.1 (Nat.ne_of_lt (Nat.lt_of_lt_of_le hb st.stp.1))))
    (fun b off hb hl hm=>.inl hm)
    (fun b hb=>by
      rcases hb with hb|⟨q,hb⟩
      · cases hb;exact .inl st.stp.1
      · exact (hown q b hb).2)
    ⟨hq,rfl,rfl,hlb,hrl,⟨hcap,cs,ty,by rw [hw];simp,hcs,fun off=>⟨fun hm=>hm.elim (fun hm=>absurd (st.mlt _ _ hm) (Nat.lt_irrefl _)) (fun hm=>hm.2),fun hm=>.inr ⟨rfl,hm⟩⟩,fun q hq=>⟨_,hc q hq,.inr rfl⟩⟩,
      fun q hq _=>(hrow q hq).ext hkeep fun b hb=>same b (rlt q b hb),fun i hi=>(by cases hi),fun q b hb e=>(by have:=rlt q b hb;cases e;exact absurd this (Nat.lt_irrefl _)),hap⟩
    (fun b hb j hj hjb=>by
      rcases hb with hb|⟨q,hb⟩
      · cases hb;exact absurd (blk_lt st hjb) (Nat.lt_irrefl _)
      · exact (hown q b hb).1 j hj hjb)
  exact ⟨T',S',ρ',M',g1,g2,g3,g4,g5⟩
theorem deepWrite_sound {k b:Nat} {T:List AV} {a:Act} {K:List AV→Store→Prop} (h:killK k T S K) (st:St M0 ρ M S w) (tm:Tm ρ w M T a)
    {o:Sl} {rows rows':List RowO} {r r':RO} {cs cs':Array Value} {ty:Nat} (hk:ρ k=some (.dp o rows (gridQ r))) (hD:DeepH w M o rows r none) (hb:o.blk=some b) (hcs:w.heap[b]? =some (.cells cs ty (0,0)))
    (hsz:cs'.size=cs.size) (hcap:r'.len≤o.cap) (hlb:r'.len≤LB) (hq:rowsQ r'=true) (hrl:rows'.length=r'.len)
    (hc:∀q,q<r'.len→cs'[q]? =some (rows'.getD q nilRow).sl.val) (hrow:∀q,q<r'.len→RowH w M (rows'.getD q nilRow) r' q none)
    (hown:∀q b',(rows'.getD q nilRow).has b'→(∀j,j≠k→¬hasB ρ j b')∧(w0.heap.size≤b'∨M0.lent b')∧b'≠b)
    (hap:∀q q' b,(rows'.getD q nilRow).has b→(rows'.getD q' nilRow).has b→q=q'):
    ∃T' S' ρ' M',K T' S'∧St M0 ρ' M' ((k,.deep r' none)::S') (w.setRow b cs')∧Tm ρ' (w.setRow b cs') M' T' a∧T'.length=T.length∧ρ' k=some (.dp ⟨some b,r'.len,o.cap,1⟩ rows' (gridQ r')):=by
  have h7:=hD.outer
  simp only [hb] at h7
  obtain ⟨h8,cs0,ty0,h9,h10,h12,h13⟩:=h7
  rw [hcs] at h9;cases h9
  have hdiff:∀off,¬M b off→cs'[off]? =cs[off]? :=fun off hn=>by
    have h2:cs.size≤off:=Nat.le_of_not_lt fun hlt=>hn ((h12 off).2 hlt)
    rw [Array.getElem?_eq_none h2,Array.getElem?_eq_none (by rw [hsz];exact h2)]
  have hstp:=setRow_stp (M:=M) hcs hsz hdiff
  have hkeep:Keep w M (w.setRow b cs') M:=hstp.keep fun _ _ _ h=>h
  have hbk:hasB ρ k b:=by simp [hasB,hk,Own.has,hb]
  obtain ⟨T',S',ρ',g1,g2,g3,g4,g5⟩:=deepKey_sound h st tm (w':=w.setRow b cs') (M':=M) (o:=⟨some b,r'.len,o.cap,1⟩) (rows:=rows') (r:=r') hkeep
    (fun j hj b' hb'=>⟨setRow_other w b b' cs' fun e=>hj (st.inj _ _ b (e▸hb') hbk),fun _=>Iff.rfl⟩)
    ((setRow_stp (M:=fun b' off=>b'=b∧M b' off) hcs hsz fun off hn=>hdiff off fun hm=>hn ⟨rfl,hm⟩).weaken fun b' off he=>by obtain ⟨rfl,hm⟩:=he;exact (Nat.lt_or_ge b' w0.heap.size).elim (fun hlt=>.inr ⟨(st.fresh k b' hbk).resolve_left (Nat.not_le_of_lt hlt),st.sub b' off hlt hm⟩) .inl)
    (fun b' off hm=>Nat.lt_of_lt_of_le (st.mlt b' off hm) hstp.1) (fun _ _ _ hm=>hm) (fun _ _ _ _ hm=>hm)
    (fun b' hb'=>by
      rcases hb' with hb'|⟨q,hb'⟩
      · cases hb';exact st.fresh k b hbk
      · exact (hown q b' hb').2.1)
    ⟨hq,rfl,rfl,hlb,hrl,⟨hcap,cs',ty,setRow_heap w b cs cs' ty _ hcs,by rw [hsz,h10],fun off=>by rw [hsz];exact h12 off,fun q hq=>⟨_,hc q hq,.inr rfl⟩⟩,
      fun q hq _=>(hrow q hq).ext hkeep fun b' hb'=>⟨setRow_other w b b' cs' (hown q b' hb').2.2,fun _=>Iff.rfl⟩,fun i hi=>(by cases hi),fun q b' hb' e=>(by cases e;exact (hown q b hb').2.2 rfl),hap⟩
    (fun b' hb' j hj hjb=>by
      rcases hb' with hb'|⟨q,hb'⟩
      · cases hb';exact hj (st.inj _ _ _ hjb hbk)
      · exact (hown q b' hb').1 j hj hjb)
  exact ⟨T',S',ρ',M,g1,g2,g3,g4,g5⟩
theorem rows_ty (hty:TyOk P TY) {t e:Nat} {r:RO} (hd:(nthT TY t).d= .slice e) (hzb:zeroB (nthT TY e).zero=true) (hok:okSl TY t r=true) (hr:r.sz=1):
    ∃i z,P.underlying t=some (.slice e)∧P.info? e=some i∧i.zero=some z∧i.size=1∧z.cells.size=1∧i.bytes=(nthT TY e).bytes:=by
  obtain ⟨e',hd',hu,hes,hrow⟩:=okSl_row hty hok
  rw [hd] at hd';cases hd'
  have hne:(nthT TY e).zero≠[]:=fun he=>by rw [he] at hzb;cases hzb
  obtain ⟨i,_,hi,_,hs,hby,_,hz⟩:=hrow.row
  obtain ⟨z,hz1,hz2⟩:=hz hne
  have hzs:z.cells.size=(nthT TY e).sz:=by rw [←hz2.2.2.2.2,hz2.1.length,Array.length_toList]
  exact ⟨i,z,hu,hi,hz1,by rw [hs,hes,hr],by rw [hzs,hes,hr],hby⟩
theorem oneRow_sound {r0:RO} {K:RO→Prop} {o:Sl} (h:oneRow r0 K) (hV:VecH ρ w M o 0 r0 []):
    ∃r,K r∧r.len=1∧rowsQ r=true∧∃R:RowO,R.sl=o∧(∀b,R.has b→o.blk=some b)∧RowH w M R r 0 none:=by
  have plain:∀b,(RowO.mk o []).has b→o.blk=some b:=fun b hb=>by
    rcases hb with hb|⟨j,hb⟩
    · exact hb
    · simp [nilSl] at hb
  cases r0<;>try exact h.elim
  case ints k m=>exact ⟨_,h,rfl,rfl,⟨o,[]⟩,rfl,plain,rfl,hV.env⟩
  case bools m=>exact ⟨_,h,rfl,rfl,⟨o,[]⟩,rfl,plain,rfl,hV.env⟩
  case nrows k m=>
    cases k<;>try exact h.elim
    obtain ⟨hm,h⟩:=h
    have hnil:∀q:Nat,(List.replicate m.length nilSl).getD q nilSl=nilSl:=fun q=>by simp only [List.getD,List.getElem?_replicate];split<;>rfl
    have hme:∀q,m.getD q []=[]:=fun q=>by
      rcases Nat.lt_or_ge q m.length with hq|hq
      · exact hm _ (by rw [List.getD,List.getElem?_eq_getElem hq];exact List.getElem_mem hq)
      · rw [List.getD,List.getElem?_eq_none hq];rfl
    refine ⟨_,h,rfl,rfl,⟨o,List.replicate m.length nilSl⟩,rfl,fun b hb=>?_,?_⟩
    · rcases hb with hb|⟨j,hb⟩
      · exact hb
      · have hb:((List.replicate m.length nilSl).getD j nilSl).blk=some b:=hb
        rw [hnil] at hb;cases hb
    · obtain ⟨h1,h2,h3,_,h5⟩:=hV
      refine ⟨rfl,h1,h2,h3,by simp [RO.len],?_,fun q hq _=>?_,fun x hx=>(by cases hx),fun q b hb=>(by have hb:((List.replicate m.length nilSl).getD q nilSl).blk=some b:=hb;rw [hnil] at hb;cases hb),fun q q' b hb=>(by have hb:((List.replicate m.length nilSl).getD q nilSl).blk=some b:=hb;rw [hnil] at hb;cases hb)⟩
      · cases ho:o.blk with
        |none=>simp only [ho] at h5 ⊢;exact h5
        |some b=>
         simp only [ho] at h5 ⊢
         obtain ⟨h6,cs,ty,h7,h8,h9,h10⟩:=h5
         have h2:o.sz=1:=h2
         rw [h2,Nat.mul_one] at h8
         refine ⟨h6,cs,ty,h7,h8,fun off=>by rw [h9 off];simp,fun q hq=>?_⟩
         obtain ⟨c,h11,h12⟩:=h10 q (by simpa [RO.cells,RO.len,RO.sz] using hq)
         refine ⟨c,h11,.inr ?_⟩
         rw [hnil]
         exact h12.2 (hme q)
      · have hq0:(RO.rows IntKind.i64 ([m].getD 0 [])).row q= .ints .i64 []:=by
          show RO.ints .i64 (m.getD q [])=_
          rw [hme]
        rw [hnil,hq0]
        exact ⟨rfl,rfl,Nat.zero_le _,Nat.zero_le _,rfl,rfl⟩
theorem ltDeep_sound (hty:TyOk P TY) {o:Op} {T:List AV} {K:AV→List AV→Store→Prop} {a:Act} {oo:Oper} (h:ltDeep TY d o T S K)
    (ho:oo.op=o) (st:St M0 ρ M S w) (tm:Tm ρ w M T a):Runs P (execOp a.eval oo) w (Post w0 M0 a T.length K):=by
  cases o<;>try exact h.elim
  rename_i t n ps
  simp only [ltDeep] at h
  rw [ifK_iff] at h
  obtain ⟨hn,h⟩:=h
  obtain rfl:=beq_iff'.1 hn
  split at h
  · rename_i e hd
    rw [ifK_iff] at h
    obtain ⟨hzb,h⟩:=h
    split at h
    · rename_i j x hps
      rw [ifK_iff] at h
      obtain ⟨hj,h⟩:=h
      obtain rfl:=beq_iff'.1 hj
      rw [eval_iff] at h
      have hx:=eval_rep tm x
      split at h
      · rename_i hh hxh
        rw [hxh] at hx
        split at h
        · rename_i wm r0 hf
          rw [ifK_iff] at h
          obtain ⟨hwm,h⟩:=h
          obtain rfl:=beq_iff'.1 hwm
          obtain ⟨o,hx1,hx2⟩:=hx
          obtain ⟨⟨o',g1,hV⟩,_⟩:=st.blk hh _ hf
          obtain rfl:=sli_sl g1 hx1
          obtain ⟨r,h,hr1,hrq,R,hRs,hRh,hRow⟩:=oneRow_sound h hV
          rw [ifK_iff] at h
          obtain ⟨hok,h⟩:=h
          obtain ⟨T1,S1,h,st1,tm1,hT1⟩:=forgets_sound h st tm
          obtain ⟨i,z,hu,hi,hz1,hsz,hzs,hby⟩:=rows_ty hty hd hzb hok (rowsQ_sz hrq)
          have hfree:∀b,o.blk=some b→∀j,¬hasB (dropEs ρ [hh]) j b:=fun b hb j hj=>by
            by_cases hjh:j=hh
            · subst hjh;simp [hasB,dropEs] at hj
            · have hj':hasB ρ j b:=by simpa [hasB,dropEs,hjh] using hj
              exact hjh (st.inj _ _ _ hj' (by simp [hasB,g1,Own.has,hb]))
          obtain ⟨T',S',ρ',M',q1,q2,q3,q4,q5⟩:=deepNew_sound (k:=d) h st1 tm1 (w':=w.alloc (.cells #[o.val] e)) (cs:= #[o.val]) (ty:=e) (cap:=1) (rows:=[R]) (r:=r) rfl (IoS.refl _) rfl (by rw [hr1];exact Nat.le_refl _) (by rw [hr1];simp [LB]) hrq (by rw [hr1];rfl)
            (fun q hq=>by have:q=0:=by omega
                          subst this;rw [←hRs];rfl)
            (fun q hq=>by have:q=0:=by omega
                          subst this;exact hRow)
            (fun q b hb=>by
              have:=getD_in hb
              have:q=0:=by simp at this;exact this
              subst this
              have hb:=hRh b hb
              exact ⟨fun j _=>hfree b hb j,st.fresh hh b (by simp [hasB,g1,Own.has];exact hb)⟩)
            (fun q q' b hb hb'=>by
              have h1:=getD_in hb
              have h2:=getD_in hb'
              simp at h1 h2
              rw [h1,h2])
          refine .val (v:=.slice (some ⟨w.heap.size,0,none⟩) 1 1) (w':=w.alloc (.cells #[o.val] e)) ?_ ⟨ρ',M',T',_,_,q1,q2,q3,by rw [q4,hT1],_,of_dp q5,by simp [Sl.val,hr1]⟩
          have hub:(underlying t).run P w= .ok (.slice e) w:=by simp [underlying,hu]
          have hzv:(zeroValue e).run P w= .ok z w:=by simp [zeroValue,typeInfo,hi,hz1]
          have hsv:(sizeOf e).run P w= .ok i.size w:=by simp [sizeOf,typeInfo,hi]
          have hpa:ps= #[(0,x)]:=by simpa using congrArg List.toArray hps
          obtain ⟨cells',hf1,hf2⟩:=fill_parts (sz:=1) (ps:=[(0,x)]) (n:=0) (K:=fun _=>True) (by simp [partsK]) a.eval ((Array.range 1).map fun j=>z.cells[j % z.cells.size]!)
            (fun y hy=>by
              simp at hy
              subst hy
              rw [hx2];rfl) (by simp)
          have hcl:cells'= #[o.val]:=by
            have:cells'.toList=[o.val]:=by
              rw [hf2]
              rw [List.drop_of_length_le (by simp)]
              simp [hx2,Sl.val,Value.cells]
            exact Array.toList_inj.1 (by simpa using this)
          subst hcl
          have hf1':Instr.fill (fun j=>some (j*1,1)) ((Array.range 1).map fun j=>z.cells[j % z.cells.size]!) (ps.map fun (j,x)=>(j,a.eval x)).toList=some #[o.val]:=by
            rw [hpa];simpa using hf1
          simp [hpa] at hf1'
          simp [execOp,ho,Instr.buildSlice,hub,hsv,hsz,hzv,hpa,hf1',newRow]
        · exact h.elim
      · exact h.elim
    · exact h.elim
  · exact h.elim
theorem getD_snoc (l:List RowO) (x:RowO) (q:Nat):(l++[x]).getD q nilRow=if q<l.length then l.getD q nilRow else if q=l.length then x else nilRow:=by
  simp only [List.getD]
  by_cases h:q<l.length
  · rw [List.getElem?_append_left h,if_pos h]
  · rw [List.getElem?_append_right (by omega),if_neg h]
    by_cases h2:q=l.length
    · subst h2;simp
    · have:q - l.length≠0:=by omega
      rw [if_neg h2,List.getElem?_eq_none (by simp;omega)];rfl
theorem oneQ_len {r:RO} (h:oneQ r=true):r.len=1:=by
  cases r<;>try (cases h;done)
  all_goals (rename_i l;rcases l with _|⟨x,_|⟨y,l⟩⟩<;>first|rfl|(cases h;done))
theorem snocRow_sound {r s:RO} {K:RO→Prop} (h:snocRow r s K):
    ∃r',K r'∧r'.len=r.len+1∧rowsQ r'=true∧gridQ r'=gridQ r∧gridQ s=gridQ r∧(∀(w:World) (M:Msk) (R:RowO) (q:Nat),q<r.len→RowH w M R r q none→RowH w M R r' q none)∧(∀(w:World) (M:Msk) (R:RowO),RowH w M R s 0 none→RowH w M R r' r.len none):=by
  have lo:∀{α:Type} {l:List α} {x d:α} {q:Nat},q<l.length→(l++[x]).getD q d=l.getD q d:=fun {α l x d q} hq=>by
    simp only [List.getD,List.getElem?_append_left hq]
  have hi:∀{α:Type} {l:List α} {x d:α},(l++[x]).getD l.length d=x:=fun {α l x d}=>by
    simp only [List.getD,List.getElem?_append_right (Nat.le_refl _),Nat.sub_self];rfl
  cases r<;>cases s<;>try exact h.elim
  case rows.rows k l k' m=>
    rcases m with _|⟨m,_|⟨y,m⟩⟩<;>try exact h.elim
    simp only [snocRow,ifK_iff] at h
    obtain ⟨hk,h⟩:=h
    obtain rfl:=kq_eq hk
    refine ⟨_,h,by simp [RO.len],rfl,rfl,rfl,fun w M R q hq hR=>?_,fun w M R hR=>?_⟩
    · rw [rowH_plain (.inl rfl)] at hR ⊢
      simp only [RO.row] at hR ⊢
      rw [lo hq];exact hR
    · rw [rowH_plain (.inl rfl)] at hR ⊢
      simp only [RO.row,RO.len] at hR ⊢
      rw [hi];exact hR
  case gb.gb l m=>
    rcases m with _|⟨m,_|⟨y,m⟩⟩<;>try exact h.elim
    refine ⟨_,h,by simp [RO.len],rfl,rfl,rfl,fun w M R q hq hR=>?_,fun w M R hR=>?_⟩
    · rw [rowH_plain (.inr ⟨_,rfl⟩)] at hR ⊢
      simp only [RO.row] at hR ⊢
      rw [lo hq];exact hR
    · rw [rowH_plain (.inr ⟨_,rfl⟩)] at hR ⊢
      simp only [RO.row,RO.len] at hR ⊢
      rw [hi];exact hR
  case gi.gi l m=>
    rcases m with _|⟨m,_|⟨y,m⟩⟩<;>try exact h.elim
    refine ⟨_,h,by simp [RO.len],rfl,rfl,rfl,fun w M R q hq hR=>?_,fun w M R hR=>?_⟩
    · show DeepI _ _ _ _ (.rows .i64 ((l++[m]).getD q [])) none
      rw [lo hq];exact hR
    · show DeepI _ _ _ _ (.rows .i64 ((l++[m]).getD l.length [])) none
      rw [hi];exact hR
set_option maxHeartbeats 1000000 in
theorem apDeep_sound (hty:TyOk P TY) {o:Op} {T:List AV} {K:AV→List AV→Store→Prop} {a:Act} {oo:Oper} (h:apDeep TY d o T S K)
    (ho:oo.op=o) (st:St M0 ρ M S w) (tm:Tm ρ w M T a):Runs P (execOp a.eval oo) w (Post w0 M0 a T.length K):=by
  cases o<;>try exact h.elim
  rename_i c
  simp only [apDeep] at h
  split at h
  · rename_i hcal
    split at h
    · rename_i x y t t' hargs htys
      split at h
      · rename_i e htt hd
        have htt:=beq_iff'.1 htt
        subst htt
        rw [ifK_iff,eval_iff,eval_iff] at h
        obtain ⟨hzb,h⟩:=h
        have hx:=eval_rep tm x
        have hy:=eval_rep tm y
        have hc1:c.args= #[x,y]:=by simpa using congrArg List.toArray hargs
        have hc2:c.argTypes= #[t,t]:=by simpa using congrArg List.toArray htys
        have hexec:∀v w',(Builtin.append_ #[t,t] oo.type #[a.eval x,a.eval y]).run P w= .ok v w'→(execOp a.eval oo).run P w= .ok (.value v) w':=fun v w' hr=>by
          simp [execOp,ho,resolve,hcal,hc1,hc2,invoke,builtin,hr]
        split at h
        · rename_i j hyv
          rw [hyv] at hy
          split at h
          · rename_i sj hf
            rw [ifK_iff] at h
            obtain ⟨hone,h⟩:=h
            have hs1:=oneQ_len hone
            obtain ⟨oj,hy1,hy2⟩:=hy
            obtain ⟨oj',rowsj,gj,hDj⟩:=st.blk j _ hf
            rw [of_dp gj] at hy1;cases hy1
            have hjl:oj.len=1:=hDj.len.trans hs1
            have hjr:rowsj.length=1:=hDj.rlen.trans hs1
            obtain ⟨bj,hbj,hcj,csj,tyj,hhj,hc0⟩:∃bj,oj.blk=some bj∧1≤oj.cap∧∃cs ty,w.heap[bj]? =some (.cells cs ty (0,0))∧cs[0]? =some (rowsj.getD 0 nilRow).sl.val:=by
              have h7:=hDj.outer
              cases hb:oj.blk with
              |none=>simp only [hb] at h7;exact absurd h7.1 (by rw [hs1];exact Nat.one_ne_zero)
              |some b=>
               simp only [hb] at h7
               obtain ⟨h8,cs,ty,h9,h10,h12,h13⟩:=h7
               obtain ⟨c,h14,h15⟩:=h13 0 (by omega)
               exact ⟨b,rfl,by omega,cs,ty,h9,by rw [h14,h15.resolve_left (by simp)]⟩
            have hrowj:RowH w M (rowsj.getD 0 nilRow) sj 0 none:=hDj.row 0 (by omega) (by simp)
            have hasj:∀b,(rowsj.getD 0 nilRow).has b→hasB ρ j b:=fun b hb=>by simp only [hasB,gj];exact .inr ⟨0,hb⟩
            have hnew:∀q u,[(rowsj.getD 0 nilRow).sl.val][q]? =some u→w.cell? ((⟨bj,0,none⟩:Addr).add q)=some u:=fun q u hq=>by
              have:q=0:=by
                rcases Nat.eq_zero_or_pos q with h|h
                · exact h
                · rw [List.getElem?_eq_none (by simp;omega)] at hq;cases hq
              subst this
              rw [addr_add,cell_of_heap hhj,Nat.zero_add,hc0];simpa using hq
            have hyval:a.eval y= .slice (some ⟨bj,0,none⟩) 1 oj.cap:=by rw [hy2,Sl.val,hbj,hjl];rfl
            have drop1:∀{i b},hasB (dropEs ρ [j]) i b→i≠j∧hasB ρ i b:=fun {i b} hi=>by
              by_cases hij:i=j
              · subst hij;simp [hasB,dropEs] at hi
              · exact ⟨hij,by simpa [hasB,dropEs,hij] using hi⟩
            have freej:∀b,(rowsj.getD 0 nilRow).has b→∀i,¬hasB (dropEs ρ [j]) i b:=fun b hb i hi=>(drop1 hi).1 (st.inj _ _ _ (drop1 hi).2 (hasj b hb))
            split at h
            ·
              rename_i hxv
              rw [hxv] at hx
              have hx:a.eval x= .slice none 0 0:=hx
              rw [ifK_iff] at h
              obtain ⟨hok,h⟩:=h
              obtain ⟨hbytes,_,h⟩:=capP_of h (by omega)
              obtain ⟨i,z,hu,hi,hz1,hsz,hzs,hby⟩:=rows_ty hty hd hzb hok (rowsQ_sz hDj.rq)
              obtain ⟨T1,S1,h,st1,tm1,hT1⟩:=forgets_sound h st tm
              have hrun:=run_append_nil (P:=P) w t oo.type e i z hu hi hz1 ⟨bj,0,none⟩ 1 oj.cap [(rowsj.getD 0 nilRow).sl.val] (by rw [hsz];rfl) hnew (by omega) (by omega) (by rw [hby];omega)
              have hge:=grownCap_ge w 1 0 e
              obtain ⟨T',S',ρ',M',q1,q2,q3,q4,q5⟩:=deepNew_sound (k:=d) h st1 tm1 (w':=w.drew.alloc (.cells (#[(rowsj.getD 0 nilRow).sl.val]++Builtin.zeroCells z.cells (grownCap w 1 0 e - 1)) e))
                (cs:= #[(rowsj.getD 0 nilRow).sl.val]++Builtin.zeroCells z.cells (grownCap w 1 0 e - 1)) (ty:=e) (cap:=grownCap w 1 0 e) (rows:=rowsj) (r:=sj) rfl ⟨⟨rfl,rfl⟩,rfl,Nat.le_succ _⟩
                (by simp only [Array.size_append,size_zeroCells,hzs];simp;omega) (by rw [hs1];exact hge) (by rw [hs1];simp [LB]) hDj.rq hDj.rlen
                (fun q hq=>by
                  have:q=0:=by omega
                  subst this
                  rw [Array.getElem?_append_left (by simp)];rfl)
                (fun q hq=>hDj.row q hq (by simp))
                (fun q b hb=>by
                  have:=getD_in hb
                  have:q=0:=by omega
                  subst this
                  exact ⟨fun i _=>freej b hb i,st.fresh j b (hasj b hb)⟩)
                hDj.apart
              refine .val (hexec _ _ (by rw [hx,hyval];exact hrun)) ⟨ρ',M',T',_,_,q1,q2,q3,by rw [q4,hT1],_,of_dp q5,by simp [Sl.val,hs1]⟩
            ·
              rename_i k hxv
              rw [hxv] at hx
              split at h
              · rename_i rk hfk
                rw [ifK_iff] at h
                obtain ⟨hnb,h⟩:=h
                rw [ifK_iff] at h
                obtain ⟨hok,h⟩:=h
                obtain ⟨r',h,hl',hq',hg',hg2,hold',hnew'⟩:=snocRow_sound h
                rw [len_iff] at h
                have hkj:=nb_ne hnb
                obtain ⟨hbytes,hlim,h⟩:=capP_of h (by omega)
                obtain ⟨ok,hx1,hx2⟩:=hx
                obtain ⟨ok',rowsk,gk,hDk⟩:=st.blk k _ hfk
                rw [of_dp gk] at hx1;cases hx1
                obtain ⟨i,z,hu,hi,hz1,hsz,hzs,hby⟩:=rows_ty hty hd hzb hok (rowsQ_sz hDk.rq)
                obtain ⟨T1,S1,h,st1,tm1,hT1⟩:=forgets_sound h st tm
                have gk1:dropEs ρ [j] k=some (.dp ok rowsk (gridQ rk)):=by simp [dropEs,hkj,gk]
                obtain ⟨L,hL⟩:∃L,L=rk.len:=⟨_,rfl⟩
                rw [←hL] at hl' hnew'
                have hkl:ok.len=L:=hDk.len.trans hL.symm
                have hkr:rowsk.length=L:=hDk.rlen.trans hL.symm
                have hask:∀q b,(rowsk.getD q nilRow).has b→hasB ρ k b:=fun q b hb=>by simp only [hasB,gk];exact .inr ⟨q,hb⟩
                have hrl:(rowsk++[rowsj.getD 0 nilRow]).length=r'.len:=by rw [List.length_append,List.length_singleton,hkr,hl']
                have hlb:r'.len≤LB:=by simp only [LB];omega
                have hrow:∀q,q<r'.len→RowH w M ((rowsk++[rowsj.getD 0 nilRow]).getD q nilRow) r' q none:=fun q hq=>by
                  rw [getD_snoc,hkr]
                  by_cases hql:q<L
                  · rw [if_pos hql]
                    exact hold' _ _ _ _ (by rw [←hL];exact hql) (hDk.row q (by rw [←hL];exact hql) (by simp))
                  · have:q=L:=by omega
                    subst this
                    rw [if_neg (by omega),if_pos rfl]
                    exact hnew' _ _ _ hrowj
                have hap:∀q q' b,((rowsk++[rowsj.getD 0 nilRow]).getD q nilRow).has b→((rowsk++[rowsj.getD 0 nilRow]).getD q' nilRow).has b→q=q':=fun q q' b hb hb'=>by
                  have l1:=getD_in hb
                  have l2:=getD_in hb'
                  simp at l1 l2
                  rw [getD_snoc] at hb hb'
                  split at hb<;>split at hb'
                  · exact hDk.apart q q' b hb hb'
                  · rw [if_pos (by omega)] at hb'
                    exact absurd (st.inj _ _ _ (hask q b hb) (hasj b hb')) hkj
                  · rw [if_pos (by omega)] at hb
                    exact absurd (st.inj _ _ _ (hask q' b hb') (hasj b hb)) hkj
                  · omega
                have hown:∀q b,((rowsk++[rowsj.getD 0 nilRow]).getD q nilRow).has b→(∀i,i≠k→¬hasB (dropEs ρ [j]) i b)∧(w0.heap.size≤b∨M0.lent b)∧ok.blk≠some b:=fun q b hb=>by
                  rw [getD_snoc] at hb
                  split at hb
                  · exact ⟨fun i hik hi=>hik (st.inj _ _ _ (drop1 hi).2 (hask q b hb)),st.fresh k b (hask q b hb),hDk.out q b hb⟩
                  · split at hb
                    · exact ⟨fun i _=>freej b hb i,st.fresh j b (hasj b hb),fun e=>hkj (st.inj _ _ _ (show hasB ρ k b by simp only [hasB,gk];exact .inl e) (hasj b hb))⟩
                    · exact absurd hb nilRow_no
                have h7:=hDk.outer
                rw [←hL] at h7
                cases hbk:ok.blk with
                |none=>
                 simp only [hbk] at h7
                 have h70:L=0:=h7.1
                 have hl1:r'.len=1:=by rw [hl',h70]
                 rw [hl1] at hbytes
                 have hrun:=run_append_nil (P:=P) w t oo.type e i z hu hi hz1 ⟨bj,0,none⟩ 1 oj.cap [(rowsj.getD 0 nilRow).sl.val] (by rw [hsz];rfl) hnew (by omega) (by omega) (by rw [hby];simp at hbytes;omega)
                 have hge:=grownCap_ge w 1 0 e
                 have hr0:rowsk=[]:=List.eq_nil_of_length_eq_zero (hkr.trans h70)
                 subst hr0
                 obtain ⟨T',S',ρ',M',q1,q2,q3,q4,q5⟩:=deepNew_sound (k:=k) h st1 tm1 (w':=w.drew.alloc (.cells (#[(rowsj.getD 0 nilRow).sl.val]++Builtin.zeroCells z.cells (grownCap w 1 0 e - 1)) e))
                   (cs:= #[(rowsj.getD 0 nilRow).sl.val]++Builtin.zeroCells z.cells (grownCap w 1 0 e - 1)) (ty:=e) (cap:=grownCap w 1 0 e) (rows:=[]++[rowsj.getD 0 nilRow]) (r:=r') rfl ⟨⟨rfl,rfl⟩,rfl,Nat.le_succ _⟩
                   (by simp only [Array.size_append,size_zeroCells,hzs];simp;omega) (by rw [hl1];omega) hlb hq' hrl
                   (fun q hq=>by
                     have:q=0:=by omega
                     subst this
                     rw [Array.getElem?_append_left (by simp)];rfl) hrow (fun q b hb=>⟨(hown q b hb).1,(hown q b hb).2.1⟩) hap
                 refine .val (hexec (.slice (some ⟨w.heap.size,0,none⟩) 1 (grownCap w 1 0 e)) _ (by rw [hx2,hyval,Sl.val,hbk,hkl,h70,h7.2];exact hrun)) ⟨ρ',M',T',_,_,q1,q2,q3,by rw [q4,hT1],_,of_dp q5,by simp [Sl.val,hl1]⟩
                |some bk=>
                 simp only [hbk] at h7
                 obtain ⟨h8,csk,tyk,h9,h10,h12,h13⟩:=h7
                 have hold:∀q,q<L→csk[q]? =some (rowsk.getD q nilRow).sl.val:=fun q hq=>by
                   obtain ⟨c,h14,h15⟩:=h13 q hq
                   rw [h14,h15.resolve_left (by simp)]
                 by_cases hroom:ok.len+1≤ok.cap
                 ·
                   have hrun:=run_append_room' (P:=P) (w:=w) t oo.type e i hu hi bk ok.len ok.cap tyk csk h9 ⟨bj,0,none⟩ 1 oj.cap [(rowsj.getD 0 nilRow).sl.val] (by rw [hsz];rfl) hnew (fun v hv=>by simp at hv;subst hv;rfl) hroom (by simp [hsz];omega)
                   let cs':=(csk.toList.take (ok.len*i.size)++[(rowsj.getD 0 nilRow).sl.val]++csk.toList.drop (ok.len*i.size+[(rowsj.getD 0 nilRow).sl.val].length)).toArray
                   have hget:∀q,cs'[q]? =if L≤q∧q<L+1 then [(rowsj.getD 0 nilRow).sl.val][q - L]? else csk[q]? :=fun q=>by
                     have:=splice_get (l:=csk.toList) (m:=[(rowsj.getD 0 nilRow).sl.val]) (o:=ok.len*i.size) (q:=q) (by simp [hsz];omega)
                     simp only [Array.getElem?_toList,hkl,hsz,Nat.mul_one,List.length_singleton] at this
                     simp only [cs',List.getElem?_toArray,hkl,hsz,Nat.mul_one,List.length_singleton]
                     exact this
                   have hcsz:cs'.size=csk.size:=by simp [cs',hsz];omega
                   obtain ⟨T',S',ρ',M',q1,q2,q3,q4,q5⟩:=deepWrite_sound (k:=k) h st1 tm1 (rows':=rowsk++[rowsj.getD 0 nilRow]) (r':=r') (cs':=cs') gk1 hDk hbk h9 hcsz (by omega) hlb hq' hrl
                     (fun q hq=>by
                       rw [hget,getD_snoc,hkr]
                       by_cases hql:q<L
                       · rw [if_neg (by omega),if_pos hql];exact hold q hql
                       · have:q=L:=by omega
                         subst this
                         rw [if_pos (by omega),if_neg (by omega),if_pos rfl];simp) hrow
                     (fun q b hb=>⟨(hown q b hb).1,(hown q b hb).2.1,fun e=>(hown q b hb).2.2 (by rw [hbk,e])⟩) hap
                   refine .val (hexec (.slice (some ⟨bk,0,none⟩) (ok.len+1) ok.cap) (w.setRow bk cs') (by rw [hx2,hyval,Sl.val,hbk];exact hrun)) ⟨ρ',M',T',_,_,q1,q2,q3,by rw [q4,hT1],_,of_dp q5,by simp [Sl.val,hl',hkl]⟩
                 ·
                   have hfull:ok.len=ok.cap:=by omega
                   have holds:∀q u,((List.range L).map fun q=>(rowsk.getD q nilRow).sl.val)[q]? =some u→w.cell? ((⟨bk,0,none⟩:Addr).add q)=some u:=fun q u hq=>by
                     have hql:q<L:=by
                       rcases Nat.lt_or_ge q L with h'|h'
                       · exact h'
                       · rw [List.getElem?_eq_none (by simpa using h')] at hq;cases hq
                     rw [addr_add,cell_of_heap h9,Nat.zero_add,hold q hql]
                     simpa [hql] using hq
                   have hrun:=run_append_grow (P:=P) w t oo.type e i z hu hi hz1 ⟨bk,0,none⟩ ok.len ok.cap ((List.range L).map fun q=>(rowsk.getD q nilRow).sl.val) (by rw [hsz,hkl];simp) holds ⟨bj,0,none⟩ 1 oj.cap [(rowsj.getD 0 nilRow).sl.val] (by rw [hsz];rfl) hnew (by omega) (by omega)
                     (growslice_fits (by omega) (by rw [hby,hkl];have:(((L+1)*(nthT TY e).bytes:Nat):Int)=(r'.len:Int)*(nthT TY e).bytes:=by rw [hl'];push_cast;rfl
                                                    omega))
                   have hge:=grownCap_ge w (ok.len+1) ok.cap e
                   obtain ⟨T',S',ρ',M',q1,q2,q3,q4,q5⟩:=deepNew_sound (k:=k) h st1 tm1
                     (w':=w.drew.alloc (.cells (((List.range L).map fun q=>(rowsk.getD q nilRow).sl.val).toArray++[(rowsj.getD 0 nilRow).sl.val].toArray++Builtin.zeroCells z.cells (grownCap w (ok.len+1) ok.cap e - (ok.len+1))) e))
                     (cs:=((List.range L).map fun q=>(rowsk.getD q nilRow).sl.val).toArray++[(rowsj.getD 0 nilRow).sl.val].toArray++Builtin.zeroCells z.cells (grownCap w (ok.len+1) ok.cap e - (ok.len+1))) (ty:=e) (cap:=grownCap w (ok.len+1) ok.cap e) (rows:=rowsk++[rowsj.getD 0 nilRow]) (r:=r') rfl ⟨⟨rfl,rfl⟩,rfl,Nat.le_succ _⟩
                     (by simp only [Array.size_append,size_zeroCells,hzs];simp;omega) (by omega) hlb hq' hrl
                     (fun q hq=>by
                       have hq2:q<L+1:=by omega
                       rw [Array.getElem?_append_left (by simp;omega),getD_snoc,hkr]
                       by_cases hql:q<L
                       · rw [Array.getElem?_append_left (by simpa using hql),if_pos hql];simp [hql]
                       · have:q=L:=by omega
                         subst this
                         rw [Array.getElem?_append_right (by simp),if_neg (by omega),if_pos rfl];simp) hrow (fun q b hb=>⟨(hown q b hb).1,(hown q b hb).2.1⟩) hap
                   refine .val (hexec _ _ (by rw [hx2,hyval,Sl.val,hbk];exact hrun)) ⟨ρ',M',T',_,_,q1,q2,q3,by rw [q4,hT1],_,of_dp q5,by simp [Sl.val,hl',hkl]⟩
              · exact h.elim
            · exact h.elim
          · exact h.elim
        · exact h.elim
      · exact h.elim
    · exact h.elim
  · exact h.elim
theorem St.ovRow {k d:Nat} {r:RO} {i:Int} {S':Store} {o:Sl} {rows:List RowO} (st:St M0 ρ M S w) (hd:findS S d=none) (hloc:loc d=true) (hlk:loc k=true) (hg:gridQ r=false) (hρ:ρ k=some (.dp o rows (gridQ r))) (hD:DeepH w M o rows r none) (hi:0≤i∧i<r.len)
    (hS:∀j,findS S' j=if j=d then some (.vec 0 (r.row i.toNat) []) else if j=k then some (.vec 0 r [(i,d)]) else findS S j):
    ∃ρ' M',St M0 ρ' M' S' w∧View ρ ρ'∧Keep w M w M'∧RepC ρ' w M' (.vec d) (rows.getD i.toNat nilRow).sl.val:=by
  have hil:i.toNat<r.len:=by omega
  have hrow:∀q,q<r.len→VecH (fun _=>none) w M (rows.getD q nilRow).sl 0 (r.row q) []:=fun q hq=>((rowH_plain (.inl hg)).1 (hD.row q hq (by simp))).2
  have hap:∀q q' b,(rows.getD q nilRow).sl.blk=some b→(rows.getD q' nilRow).sl.blk=some b→q=q':=fun q q' b h h'=>hD.apart q q' b (.inl h) (.inl h')
  have hou:∀q b,(rows.getD q nilRow).sl.blk=some b→o.blk≠some b:=fun q b h=>hD.out q b (.inl h)
  have hρd:ρ d=none:=by
    have:=st.dom d;rw [hd] at this
    cases h:ρ d with|none=>rfl|some o=>rw [h] at this;cases this
  have hdk:d≠k:=fun e=>by subst e;rw [hρ] at hρd;cases hρd
  let ρ':Env:=fun j=>if j=d then some (.sl (rows.getD i.toNat nilRow).sl) else if j=k then some (.sl o) else ρ j
  let M':Msk:=fun b off=>M b off∧∀q,q≠i.toNat→(rows.getD q nilRow).sl.blk≠some b
  have e1:ρ' d=some (.sl (rows.getD i.toNat nilRow).sl):=by simp [ρ']
  have e2:ρ' k=some (.sl o):=by simp [ρ',Ne.symm hdk]
  have e3:∀j,j≠d→j≠k→ρ' j=ρ j:=fun j h1 h2=>by simp [ρ',h1,h2]
  have hk:Keep w M w M':=fun _ _ _ h h'=>⟨h,fun hm=>h' hm.1⟩
  have hv:View ρ ρ':=⟨fun j o' h=>by
      by_cases hj:j=d
      · subst hj;rw [hρd] at h;cases h
      · by_cases hjk:j=k
        · subst hjk;rw [of_dp hρ] at h;rw [of_sl e2];exact h
        · rw [e3 j hj hjk];exact h,fun j off v h=>by
      by_cases hj:j=d
      · subst hj;rw [hρd] at h;cases h
      · by_cases hjk:j=k
        · subst hjk;rw [hρ] at h;cases h
        · rw [e3 j hj hjk];exact h,fun j l h=>by
      by_cases hj:j=d
      · subst hj;rw [hρd] at h;cases h
      · by_cases hjk:j=k
        · subst hjk;rw [hρ,hg] at h;cases h
        · rw [e3 j hj hjk];exact h⟩
  have toK:∀b,(o.blk=some b∨∃q,(rows.getD q nilRow).sl.blk=some b)→hasB ρ k b:=fun b h=>by simp only [hasB,hρ];exact h.imp id fun ⟨q,h⟩=>⟨q,.inl h⟩
  have own:∀j b,hasB ρ' j b→(j=d∧(rows.getD i.toNat nilRow).sl.blk=some b)∨(j=k∧o.blk=some b)∨(j≠d∧j≠k∧hasB ρ j b):=fun j b h=>by
    by_cases hj:j=d
    · subst hj;simp only [hasB,e1,Own.has] at h;exact .inl ⟨rfl,h⟩
    · by_cases hjk:j=k
      · subst hjk;simp only [hasB,e2,Own.has] at h;exact .inr (.inl ⟨rfl,h⟩)
      · simp only [hasB,e3 j hj hjk] at h;exact .inr (.inr ⟨hj,hjk,h⟩)
  have old:∀j b,hasB ρ' j b→∃j',hasB ρ j' b:=fun j b h=>by
    rcases own j b h with ⟨_,h⟩|⟨_,h⟩|⟨_,_,h⟩
    · exact ⟨k,toK b (.inr ⟨_,h⟩)⟩
    · exact ⟨k,toK b (.inl h)⟩
    · exact ⟨j,h⟩
  have mrow:∀b,(rows.getD i.toNat nilRow).sl.blk=some b→∀off,M' b off↔M b off:=fun b hb off=>⟨fun h=>h.1,fun h=>⟨h,fun q hq hqb=>hq (hap q _ b hqb hb)⟩⟩
  have mout:∀b,o.blk=some b→∀off,M' b off↔M b off:=fun b hb off=>⟨fun h=>h.1,fun h=>⟨h,fun q _ hqb=>hou q b hqb hb⟩⟩
  have moth:∀j b,j≠k→hasB ρ j b→∀off,M' b off↔M b off:=fun j b hj hb off=>⟨fun h=>h.1,fun h=>⟨h,fun q _ hqb=>hj (st.inj _ _ _ hb (toK b (.inr ⟨q,hqb⟩)))⟩⟩
  refine ⟨ρ',M',⟨fun j=>?_,fun j B hB=>?_,fun j j' b hj hj'=>?_,fun b off hm=>st.mlt b off hm.1,st.stp,fun b off hb hm=>st.sub b off hb hm.1,fun b off hb hl hm=>⟨st.old b off hb hl hm,fun q _ hqb=>st.notFresh hb hl (toK b (.inr ⟨q,hqb⟩))⟩,fun j b h=>?_,fun j o' hl ho=>?_⟩,hv,hk,⟨_,of_sl e1,rfl⟩⟩
  · rw [hS j]
    by_cases hj:j=d
    · simp [hj,e1]
    · by_cases hjk:j=k
      · simp [hjk,e2,Ne.symm hdk]
      · simp [hj,hjk,e3 j hj hjk,st.dom j]
  · rw [hS j] at hB
    by_cases hj:j=d
    · simp only [hj,if_true,Option.some.injEq] at hB
      subst hB;subst hj
      exact ⟨⟨_,e1,(hrow _ hil).ext0 hk fun b hb=>⟨rfl,mrow b hb⟩⟩,.inl rfl⟩
    · by_cases hjk:j=k
      · subst hjk
        simp only [hj,if_false,if_true,Option.some.injEq] at hB
        subst hB
        have hsz:=rowsQ_sz hD.rq
        refine ⟨⟨o,e2,hD.len,by rw [hsz];exact hD.osz,hD.lb,Nat.zero_le _,?_⟩,.inr ⟨i,d,rfl,ovQ_of hD.rq hg,rfl,hi.1,hi.2⟩⟩
        have h7:=hD.outer
        have hlen:=hD.len
        cases hb:o.blk with
        |none=>simp only [hb] at h7 ⊢;exact h7
        |some b=>
         simp only [hb] at h7 ⊢
         obtain ⟨h8,cs,ty,h9,h10,h12,h13⟩:=h7
         refine ⟨h8,cs,ty,h9,by rw [hD.osz,Nat.mul_one];exact h10,fun off=>by rw [mout b hb off,h12 off];simp,fun q hq=>?_⟩
         have hq:q<r.len:=by simpa [RO.cells,hsz] using hq
         obtain ⟨c,h14,h15⟩:=h13 q hq
         have h15:=h15.resolve_left (by simp)
         refine ⟨c,h14,?_⟩
         by_cases hqi:(q:Int)=i
         · simp only [hqi,if_true]
           exact ⟨_,of_sl e1,by rw [h15,←hqi];simp⟩
         · simp only [hqi,if_false]
           have hqi':q≠i.toNat:=by omega
           rw [h15]
           have ht:r.thaw=r:=by cases r<;>first|rfl|(cases hg;done)
           have:=(row_cell hD.rq (fun l e=>by subst e;cases hg)).1 (vec_reads' (M':=M') (fun _ _ h=>h.1) (fun b' off hb' hm=>hm.2 q hqi' hb') (hrow q hq))
           rw [ht] at this;exact this
      · simp only [hj,hjk,if_false] at hB
        exact (BlkH.ext (ρ':=ρ) hk (fun _ _ h=>h) (fun b hb=>⟨rfl,moth j b hjk hb⟩) (st.blk j B hB)).view hv (e3 j hj hjk)
  · rcases own j b hj with ⟨g1,g2⟩|⟨g1,g2⟩|⟨g1,g1',g2⟩<;>rcases own j' b hj' with ⟨g3,g4⟩|⟨g3,g4⟩|⟨g3,g3',g4⟩
    · rw [g1,g3]
    · exact absurd g4 (hou _ _ g2)
    · exact absurd (st.inj _ _ _ g4 (toK b (.inr ⟨_,g2⟩))) g3'
    · exact absurd g2 (hou _ _ g4)
    · rw [g1,g3]
    · exact absurd (st.inj _ _ _ g4 (toK b (.inl g2))) g3'
    · exact absurd (st.inj _ _ _ g2 (toK b (.inr ⟨_,g4⟩))) g1'
    · exact absurd (st.inj _ _ _ g2 (toK b (.inl g4))) g1'
    · exact st.inj _ _ _ g2 g4
  · obtain ⟨j',h'⟩:=old j b h
    exact st.fresh j' b h'
  · by_cases hj:j=d
    · subst hj;rw [hloc] at hl;cases hl
    · by_cases hjk:j=k
      · subst hjk;rw [hlk] at hl;cases hl
      · rw [e3 j hj hjk] at ho;exact st.pin j o' hl ho
theorem ldOv_sound (hty:TyOk P TY) {o:Op} {T:List AV} {K:AV→List AV→Store→Prop} {a:Act} {oo:Oper} (h:ldOv TY d o T S K)
    (ho:oo.op=o) (st:St M0 ρ M S w) (tm:Tm ρ w M T a):Runs P (execOp a.eval oo) w (Post w0 M0 a T.length K):=by
  cases o<;>try exact h.elim
  rename_i t x
  obtain ⟨T1,S1,h,st1,tm1,hT1,hnone,hloc⟩:=kill_sound h st tm
  rw [eval_iff] at h
  have hx:=eval_rep tm1 x
  split at h
  · rename_i k i hxk
    rw [hxk] at hx
    split at h
    · rename_i r hf
      rw [ifK_iff,ifK_iff] at h
      obtain ⟨hok,hlk,h⟩:=h
      have hg:=rowK_grid h
      have h:=rowK_iff h
      obtain ⟨S2,hK,hS⟩:=set_store h
      rw [hf] at hS
      obtain ⟨o,b,g1,g2,g3,g4,g5⟩:=hx
      obtain ⟨o',rows,g6,hD⟩:=st1.blk k _ hf
      rw [of_dp g6] at g1;cases g1
      have hlen:=hD.len
      have hdk:d≠k:=fun e=>by rw [←e,hnone] at hf;cases hf
      obtain ⟨ρ2,M2,st2,hv2,hk2,hrep⟩:=st1.ovRow (S':=(d,.vec 0 (r.row i.toNat) [])::S2) hnone hloc hlk hg g6 hD ⟨g3,by omega⟩ (fun j=>by
        rw [find_cons]
        by_cases hj:j=d
        · simp [hj]
        · rw [if_neg (Ne.symm hj),if_neg hj,hS j];rfl)
      have h7:=hD.outer
      simp only [g2] at h7
      obtain ⟨g19,cs,ty,g20,g21,g22,g23⟩:=h7
      have hil:i.toNat<r.len:=by omega
      obtain ⟨c,hc1,hc2⟩:=g23 i.toNat hil
      have hc2:=hc2.resolve_left (by simp)
      subst hc2
      obtain ⟨hs,hag⟩:=okEl_facts hok
      have hsz1:=rowsQ_sz hD.rq
      have hrow:=hty.at (t:=t) (.inl (by rw [hs,hsz1];decide))
      have hag':isAggD (nthT TY t).d=false:=by rw [hag];have:=hD.rq;cases r<;>first|rfl|cases this
      have hl:=run_load1 (t:=t) (b:=b) (off:=i.toNat) (c:=(rows.getD i.toNat nilRow).sl.val) hrow hag' (by rw [cell_of_heap g20];exact hc1)
      refine .val (v:=(rows.getD i.toNat nilRow).sl.val) (w':=w) ?_ ⟨ρ2,M2,T1,_,.vec d,hK,st2,⟨tm1.defers,tm1.size,fun j=>RepT.keep hk2 (fun _ _ h=>h) ((tm1.tmp j).view hv2)⟩,hT1,hrep⟩
      rw [hD.osz,Nat.mul_one] at g5
      simp [execOp,ho,g5,hl]
    · exact h.elim
  · exact h.elim
theorem opK_sound (hty:TyOk P TY) {F:Spec} (hF:SpecOk P F) {o:Op} {T:List AV} {K:AV→List AV→Store→Prop} {a:Act} {oo:Oper} (h:opK TY F d o T S K)
    (ho:oo.op=o) (st:St M0 ρ M S w) (tm:Tm ρ w M T a):Runs P (execOp a.eval oo) w (Post w0 M0 a T.length K):=by
  unfold opK at h
  split at h
  · exact ldGrid_sound hty h ho st tm
  · split at h
    · split at h
      · exact ldDeep_sound hty h ho st tm
      · exact ldOv_sound hty h ho st tm
    · split at h
      · exact opB_sound hty hF h ho st tm
      · unfold opD at h
        split at h
        · exact ltDeep_sound hty h ho st tm
        · split at h
          · exact apDeep_sound hty h ho st tm
          · exact opB_sound hty hF h ho st tm
end
end Go.AM
end
section
namespace Go.AM
open Go
def AEq (x y:AV):Prop:=x=y∨∃e e',x= .bool e∧y= .bool e'∧e.val=e'.val
theorem AEq.refl (x:AV):AEq x x:=.inl rfl
theorem AEq.symm {x y:AV} (h:AEq x y):AEq y x:=by
  rcases h with rfl|⟨e,e',h1,h2,h3⟩
  · exact .inl rfl
  · exact .inr ⟨e',e,h2,h1,h3.symm⟩
theorem AEq.trans {x y z:AV} (h:AEq x y) (h':AEq y z):AEq x z:=by
  rcases h with rfl|⟨e,e',rfl,rfl,h3⟩
  · exact h'
  · rcases h' with rfl|⟨f,f',h4,rfl,h6⟩
    · exact .inr ⟨e,e',rfl,rfl,h3⟩
    · cases h4;exact .inr ⟨e,f',rfl,rfl,h3.trans h6⟩
theorem AEq.rep {x y:AV} {ρ:Env} {w:World} {M:Msk} {v:Value} (h:AEq x y) (hv:RepT ρ w M x v):RepT ρ w M y v:=by
  rcases h with rfl|⟨e,e',rfl,rfl,h3⟩
  · exact hv
  · have hv:v= .bool e.val:=hv
    exact (by rw [hv,h3]:v= .bool e'.val)
def GuardIs (ops:Array Oper) (T:List AV) (g:Option (Nat × Bool)) (r:Bool):Prop:=
  match g with
  |none=>r=true
  |some (j,want)=>∃d,(ops[j]?).bind (·.dst)=some d∧((∃e,nth T d= .bool e∧r=(some e.val==some want))∨(nth T d= .tup []∧r=false))
theorem guard_iff {ops:Array Oper} {g:Option (Nat × Bool)} {T:List AV} {yes no:List AV→Prop} (h:guardK ops.toList g T yes no):
    ∃r T',GuardIs ops T g r∧T'.length=T.length∧(∀t,AEq (nth T t) (nth T' t))∧(if r then yes T' else no T'):=by
  unfold guardK at h
  split at h
  · exact ⟨true,T,rfl,rfl,fun t=>AEq.refl _,h⟩
  · rename_i j want
    split at h
    · rename_i d hd
      have hd':(ops[j]?).bind (·.dst)=some d:=by
        simp only [List.getD,Array.getElem?_toList] at hd
        cases ho:ops[j]? with
        |none=>rw [ho] at hd;exact absurd hd (by simp;rintro ⟨⟩)
        |some o=>rw [ho] at hd;simpa using hd
      split at h
      · rename_i e he
        have h1:=split_val h
        rw [put_iff] at h1
        refine ⟨some e.val==some want,T.set d (.bool (.lit e.val)),⟨d,hd',.inl ⟨e,he,rfl⟩⟩,List.length_set,fun t=>?_,?_⟩
        · rw [nth_set]
          split
          · rename_i ht;obtain ⟨rfl,_⟩:=ht
            rw [he];exact .inr ⟨e,.lit e.val,rfl,rfl,rfl⟩
          · exact AEq.refl _
        · revert h1;cases e.val<;>cases want<;>intro h1<;>exact h1
      · rename_i he
        exact ⟨false,T,⟨d,hd',.inr ⟨he,rfl⟩⟩,rfl,fun t=>AEq.refl _,by simpa using h⟩
      · exact h.elim
    · exact h.elim
theorem wanted_undef {ops:Array Oper} {j d:Nat} {want:Bool} {a:Act} {ρ:Env} {w:World} {M:Msk} (h1:(ops[j]?).bind (·.dst)=some d) (h3:RepT ρ w M (.tup []) (a.tmps.getD d undef)):(yielded ops a.tmps j==some want)=false:=by
  obtain ⟨cs,h4,_⟩:=h3
  unfold yielded
  rw [h1]
  simp only [Option.bind_some]
  cases hd:a.tmps[d]? with
  |none=>rfl
  |some v=>
   have:a.tmps.getD d undef=v:=by simp [Array.getD_eq_getD_getElem?,hd]
   rw [this] at h4
   subst h4
   rfl
theorem guard_wanted {ops:Array Oper} {o:Oper} {T:List AV} {r:Bool} {a:Act} {ρ:Env} {w:World} {M:Msk} (h:GuardIs ops T o.guard r) (hsz:a.tmps.size=T.length)
    (hd:∀j want d,o.guard=some (j,want)→(ops[j]?).bind (·.dst)=some d→RepT ρ w M (nth T d) (a.tmps.getD d undef)):
    Region.wanted o (yielded ops a.tmps)=r:=by
  unfold GuardIs at h
  unfold Region.wanted
  cases hg:o.guard with
  |none=>rw [hg] at h;exact h.symm
  |some jw=>
   obtain ⟨j,want⟩:=jw
   rw [hg] at h
   obtain ⟨d,h1,h2⟩:=h
   have h3:=hd j want d hg h1
   rcases h2 with ⟨e,h2,rfl⟩|⟨h2,rfl⟩
   · rw [h2] at h3
     have h3:a.tmps.getD d undef= .bool e.val:=h3
     have hlt:d<a.tmps.size:=by
       rcases Nat.lt_or_ge d a.tmps.size with h'|h'
       · exact h'
       · rw [nth_ge T d (by omega)] at h2;cases h2
     have h4:a.tmps[d]? =some (.bool e.val):=by
       rw [Array.getElem?_eq_getElem hlt]
       simp [Array.getD,hlt] at h3
       rw [h3]
     simp [yielded,h1,h4]
   · rw [h2] at h3
     exact wanted_undef h1 h3
section
variable {P:Program} {TY:List TyE} {w0 w:World} {M0:Base w0} {ρ:Env} {M:Msk} {S:Store} {d:Nat} {Q:Exit→Act→World→Prop}
theorem Tm.aeq {T T':List AV} {a:Act} (tm:Tm ρ w M T a) (hl:T'.length=T.length) (h:∀t,AEq (nth T t) (nth T' t)):Tm ρ w M T' a:=
  ⟨tm.defers,by rw [hl];exact tm.size,fun i=>(h i).rep (tm.tmp i)⟩
theorem Tm.put {T:List AV} {a:Act} {dst:Option Nat} {v:AV} {u:Value} (tm:Tm ρ w M T a) (hv:RepT ρ w M v u) {K:List AV→Prop} (h:dstK dst T v K):
    ∃T',K T'∧T'.length=T.length∧Tm ρ w M T' (a.put dst u):=by
  cases dst with
  |none=>exact ⟨T,h,rfl,tm⟩
  |some d=>
   simp only [dstK,put_iff] at h
   refine ⟨_,h,List.length_set,tm.defers,by simp [Act.put,tm.size],fun i=>?_⟩
   rw [nth_set]
   by_cases hi:i=d
   · subst hi
     by_cases hlt:i<T.length
     · simp [hlt,Act.put,tm.size,hv]
     · rw [if_neg (by simp [hlt])]
       rw [nth_ge T i (by omega)];trivial
   · rw [if_neg (by simp [hi])]
     have:(a.put (some d) u).tmps.getD i undef=a.tmps.getD i undef:=by
       simp [Act.put,Array.getD_eq_getD_getElem?,Array.getElem?_setIfInBounds_ne (Ne.symm hi)]
     rw [this];exact tm.tmp i
def End (w0:World) (M0:Base w0) (n:Nat) (K:List AV→Store→Prop) (a:Act) (w:World):Prop:=
  ∃ρ M T S,K T S∧St M0 ρ M S w∧Tm ρ w M T a∧T.length=n
theorem oper_sound (hty:TyOk P TY) {F:Spec} (hF:SpecOk P F) {ops:Array Oper} {i:Nat} {o:Oper} (hi:ops[i]? =some o) {T:List AV} {K:List AV→Store→Prop} {N:Act→World→Prop} {a:Act}
    (h:guardK ops.toList o.guard T (fun T=>opK TY F (o.dst.getD 999) o.op T S fun v T S=>dstK o.dst T v fun T=>K T S) (fun T=>dstK o.dst T (.tup []) fun T=>K T S))
    (st:St M0 ρ M S w) (tm:Tm ρ w M T a) (hN:∀a w,End w0 M0 T.length K a w→N a w):wpOp P ops Q i N a w:=by
  obtain ⟨r,T1,hg,hl,heq,h1⟩:=guard_iff h
  have hw:=guard_wanted (ρ:=ρ) (w:=w) (M:=M) hg tm.size (fun j want d _ _=>tm.tmp d)
  have tm1:=tm.aeq hl heq
  simp only [wpOp,hi]
  cases r with
  |true=>
   rw [if_pos hw]
   rw [if_pos rfl] at h1
   refine .inl ((opK_sound hty hF (oo:=o) h1 rfl st tm1).wp fun u w' ⟨ρ',M',T',S',v,g1,g2,g3,g4,g5⟩=>hN _ _ ?_)
   obtain ⟨T2,h2,h3,h4⟩:=g3.put g5 g1
   exact ⟨ρ',M',T2,S',h2,g2,h4,by rw [h3,g4,hl]⟩
  |false=>
   rw [if_neg (by rw [hw];simp)]
   rw [if_neg (by simp)] at h1
   obtain ⟨T2,h2,h3,h4⟩:=tm1.put (v:=.tup []) (u:=undef) ⟨#[],rfl,trivial⟩ h1
   exact hN _ _ ⟨ρ,M,T2,S,h2,st,h4,by rw [h3,hl]⟩
theorem opsK_sound (hty:TyOk P TY) {F:Spec} (hF:SpecOk P F) {ops:Array Oper}:∀(rest:List Oper) (i:Nat) {T:List AV} {S:Store} {ρ:Env} {M:Msk} {w:World} {K:List AV→Store→Prop} {a:Act},
    ops.toList.drop i=rest→opsK TY F ops.toList rest T S K→St M0 ρ M S w→Tm ρ w M T a→(∀a w,End w0 M0 T.length K a w→Q .normal a w)→wpOps P ops Q (List.range' i rest.length) a w
  |[],i,T,S,ρ,M,w,K,a,_,h,st,tm,hQ=>hQ _ _ ⟨ρ,M,T,S,h,st,tm,rfl⟩
  |o::rest,i,T,S,ρ,M,w,K,a,hr,h,st,tm,hQ=>by
   have hi:ops[i]? =some o:=by
     have:=congrArg (·.head?) hr
     simp [List.head?_drop] at this
     exact this
   have hr':ops.toList.drop (i+1)=rest:=by
     have:=congrArg List.tail hr
     simpa [List.tail_drop] using this
   rw [List.length_cons,List.range'_succ,wpOps_cons]
   simp only [opsK_cons,dN_iff] at h
   refine oper_sound (K:=fun T S=>opsK TY F ops.toList rest T S K) hty hF hi h st tm fun a w ⟨ρ',M',T',S',h1,h2,h3,h4⟩=>?_
   exact opsK_sound hty hF rest (i+1) hr' h1 h2 h3 (fun a w hE=>hQ a w (by rw [h4] at hE;exact hE))
end
end Go.AM
end
