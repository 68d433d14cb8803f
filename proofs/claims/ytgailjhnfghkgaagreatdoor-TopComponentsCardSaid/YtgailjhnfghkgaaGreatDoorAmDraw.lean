import Derived.Test.YtgailjhnfghkgaaGreatDoorAmAppend
import Derived.Laws.IdiomCopy
section
namespace Go.AM
open Go
theorem Cz:∀{S:ak} {k:Nat} {B:dQ},an S k=some B->∀{p:Nat->dQ->Prop},(∀e∈S,p e.1 e.2)->p k B
 |[],_,_,h,_,_=>by cases h
 |(j,b)::S,k,B,h,p,hp=>by
  rw [aF]at h;split at h
  ·rename_i he;subst he;cases h;exact hp (j,b) (by simp)
  ·exact Cz h λe he=>hp e (ajj _ he)
theorem qm{S S':ak}:∀{R:ak} {k:Nat} {B':dQ},KQ S S' R->an R k=some B'->
  (match an S k with|some b=>ZX S S' b B'|none=>match B' with|.vec wm r []=>loc k=true/\wm=0/\r.len=0|_=>False)
 |[],_,_,_,h=>by cases h
 |(j,b)::R,k,B',h,hf=>by
  rw [aF]at hf;split at hf
  ·rename_i he
   subst he;cases hf;have h1:=h.1
   revert h1
   cases an S j with
   |some=>exact id
   |none=>
    cases b with
    |box=>exact id
    |map=>exact id
    |deep=>exact id
    |dK=>exact id
    |mA=>exact id
    |vec wm r ov=>
     cases ov with
     |nil=>exact λh=>aq.1 h
     |cons=>exact id
  ·exact qm h.2 hf
def c9(S S':ak)(O:Env):Env:=λk=>match an S' k with
 |none=>none
 |some B'=>match an S k with
  |some _=>O k
  |none=>match B' with|.vec _ r _=>some (.sl ⟨none,0,0,r.sz⟩)|_=>none
def eD(S':ak)(O:Env)(M:a7):a7:=λb off=>M b off/\∀k,hasB O k b->∃B',an S' k=some B'/\∀wm r ov,B'= .vec wm r ov->wm*r.sz<=off
section
variable{P:Program}{TY:List cV}{w0 w:World}{M0:eE w0}{O:Env}{M:a7}{S S':ak}
theorem qn(S':ak)(O:Env)(w:World)(M:a7):bE w M w (eD S' O M):=λ_ _ _ h h'=>⟨h,λhm=>h' hm.1⟩
theorem mZ{k:Nat}(h:(an S' k).isSome)(h':(an S k).isSome):c9 S S' O k=O k:=by
 obtain⟨B,hB⟩:=ajM.1 h;obtain⟨B',rQ⟩:=ajM.1 h';simp [c9,hB,rQ]
theorem jf{k:Nat}(h:s5 S k):(an S k).isSome:=by
 unfold s5 at h;cases hf:an S k<;>simp_all
theorem nY{k:Nat}(h:Hc S k):an S k=none:=by
 unfold Hc at h;cases hf:an S k<;>simp_all
theorem fA{k:Nat}{B:dQ}{r:RO}{v:Value}(hB:eR O w M k B)(hf:oD B=some r)(hd:an S' k=none)(hv:aJ O w M (.vec k) v):bd w (eD S' O M) r v:=
 rZ (λ_ _ h=>h.1) (λb off h h'=>by obtain⟨B',rQ,_⟩:=h'.2 k h;rw [hd]at rQ;cases rQ) hB hf hv
theorem Ur(st:St M0 O M S w){a b:AV}{v:Value}(h:O8 S S' a b):
  (aC O w M a v->aC (c9 S S' O) w (eD S' O M) b v)/\(cx O w M a v->cx (c9 S S' O) w (eD S' O M) b v)/\(aJ O w M a v->aJ (c9 S S' O) w (eD S' O M) b v):=by
 have hk:=qn S' O w M;cases b with
 |any=>exact⟨λ_=>trivial,λ_=>trivial,λhv=>aJ.aO hv⟩
 |int k n=>
  cases a<;>try exact h.elim
  simp only [O8,aq]at h;obtain⟨h1,rfl⟩:=h;obtain rfl:=b8 h1;exact⟨id,id,id⟩
 |bool e=>
  cases a<;>try exact h.elim
  rename_i e';have h:e'.val=e.val:=h;refine⟨λhv=>?_,λhv=>?_,λhv=>?_⟩<;>(have hv:v= .bool e'.val:=hv;exact(by rw [hv,h]:v= .bool e.val))
 |ro r=>
  have nil_ro:r.len=0->v= .slice none 0 0->bd w (eD S' O M) r v:=λhr hv=>by
   subst hv;exact⟨by rw [hr];exact ajk _,none,0,by rw [hr],by rw [hr];exact ajl _,.inl (by simp [RO.cells,hr])⟩
  cases a<;>try exact h.elim
  ·have h:_=r:=h
   subst h;exact⟨λhv=>bd.keep hk hv,λhv=>bd.keep hk hv,λhv=>bd.keep hk hv⟩
  ·rename_i k
   simp only [O8]at h;split at h
   ·rename_i wm r0 hf
    have hB:=st.aZ k _ hf;split at h
    ·rename_i hd
     obtain⟨_,rfl⟩:=h;exact⟨λhv=>fA hB rfl hd hv,λhv=>fA hB rfl hd hv,λhv=>fA hB rfl hd hv⟩
    ·rename_i wm' s hd
     rw [aq,bV]at h;obtain⟨bu,hw,rfl⟩:=h
     have key:aJ O w M (.vec k) v->bd w (eD S' O M) r0 v:=λhv=>by
      obtain⟨o,h8,rfl⟩:=hv;obtain⟨⟨o',h2,h3⟩,_⟩:=hB;obtain rfl:=cC h2 h8;refine vr (λ_ _ h=>h.1) (λb off hb aX hm=>?_) h3;obtain⟨B',h4,h5⟩:=hm.2 k (by simp [hasB,h2,b6.has,hb]);rw [hd]at h4;have h6:=h5 wm' s [] (ajN h4).symm;rw [<-aA.1 bu]at h6;have h7:r0.len*r0.sz<=wm'*r0.sz:=ajO _ hw;unfold RO.cells at aX;omega
     exact⟨key,key,key⟩
    ·exact h.elim
   ·rename_i r0 hf
    obtain⟨hd,rfl⟩:=h;have hB:=st.aZ k _ hf;exact⟨λhv=>fA hB rfl (nY hd) hv,λhv=>fA hB rfl (nY hd) hv,λhv=>fA hB rfl (nY hd) hv⟩
   ·exact h.elim
  ·exact⟨λhv=>nil_ro h hv,λhv=>nil_ro h hv,λhv=>nil_ro h hv⟩
 |vec k'=>
  cases a<;>try exact h.elim
  ·obtain⟨rfl,h1,h2⟩:=h
   have he:=mZ (O:=O) (jf h1) (jf h2);refine⟨λhv=>?_,λhv=>?_,λhv=>?_⟩<;>(obtain⟨o,g1,g2⟩:=hv;exact⟨o,by rw [he];exact g1,g2⟩)
  ·simp only [O8]at h
   split at h
   ·rename_i h1 h2
    rename_i wm0 r0 ov0;have he:c9 S S' O k'=some (.sl ⟨none,0,0,r0.sz⟩):=by simp only [c9,h1,h2]
    refine⟨λhv=>?_,λhv=>?_,λhv=>?_⟩<;>(have hv:v= .slice none 0 0:=hv;exact⟨_,iR he,by rw [hv];rfl⟩)
   ·exact h.elim
 |ptr k' o'=>
  cases a<;>try exact h.elim
  obtain⟨rfl,rfl,h1,h2⟩:=h;have he:=mZ (O:=O) (jf h1) (jf h2);refine⟨λhv=>?_,λhv=>?_,λhv=>?_⟩<;>(have hv:(O _).bind (b6.ref · _)=some v:=hv;exact(by rw [he];exact hv:((c9 S S' O) _).bind (b6.ref · _)=some v))
 |ar=>
  cases a<;>try exact h.elim
  exact⟨id,id,id⟩
 |bO=>
  cases a<;>try exact h.elim
  exact⟨id,id,id⟩
 |str l=>
  cases a<;>try exact h.elim
  have h:_=l:=h;subst h;exact⟨id,id,id⟩
 |eZ r i=>
  cases a<;>try exact h.elim
  obtain⟨rfl,rfl⟩:=h;refine⟨λhv=>?_,λhv=>?_,λhv=>?_⟩<;>(obtain⟨b,off,cap,h1,h2⟩:=hv;exact⟨b,off,cap,h1.keep hk,h2⟩)
 |uD f r i=>
  cases a<;>try exact h.elim
  obtain⟨rfl,rfl,rfl⟩:=h;refine⟨λhv=>?_,λhv=>?_,λhv=>?_⟩<;>(obtain⟨b,off,cap,h1,h2⟩:=hv;exact⟨b,off,cap,h1.keep hk,h2⟩)
 |fn f l=>
  cases l with
  |cons x l=>cases a<;>exact h.elim
  |nil=>
   cases a<;>try exact h.elim
   rename_i g m;cases m<;>try exact h.elim
   have h:g=f:=h;subst h;exact⟨λ⟨cs,h1,h2⟩=>⟨cs,h1,CA h2⟩,id,id⟩
 |_=>exact h.elim
theorem LZ(st:St M0 O M S w):∀{l m:List AV} {vs:List Value},Us S S' l m->aM (aJ O w M) l vs->aM (aJ (c9 S S' O) w (eD S' O M)) m vs
 |[],[],_,_,h=>by cases ‹List Value›<;>exact h
 |_::_,_::_,_::_,h,hv=>⟨(Ur st h.1).2.2 hv.1,LZ st h.2 hv.2⟩
 |[],_::_,_,h,_=>h.elim
 |_::_,[],_,h,_=>h.elim
 |_::_,_::_,[],_,hv=>hv.elim
theorem W4(st:St M0 O M S w):∀{l m:List AV} {vs:List Value},SQ S S' l m->aM (cx O w M) l vs->aM (cx (c9 S S' O) w (eD S' O M)) m vs
 |[],[],_,_,h=>by cases ‹List Value›<;>exact h
 |a::l,b::m,v::vs,h,hv=>by
  refine⟨?_,W4 st h.2 hv.2⟩;have h1:=h.1;cases b with
  |agg y=>
   cases a<;>try exact h1.elim
   obtain⟨cs,h2,h3⟩:=hv.1;exact⟨cs,h2,LZ st h1 h3⟩
  |_=>exact(Ur st h1).2.1 hv.1
 |[],_::_,_,h,_=>h.elim
 |_::_,[],_,h,_=>h.elim
 |_::_,_::_,[],_,hv=>hv.elim
theorem jr(st:St M0 O M S w){a b:AV}{v:Value}(h:He S S' a b)(hv:aC O w M a v):aC (c9 S S' O) w (eD S' O M) b v:=by
 cases b with
 |agg m=>
  cases a<;>try exact h.elim
  obtain⟨cs,h2,h3⟩:=hv;exact⟨cs,h2,LZ st h h3⟩
 |cL m=>
  cases a<;>try exact h.elim
  obtain⟨cs,h2,h3⟩:=hv;exact⟨cs,h2,W4 st h h3⟩
 |fn f m=>
  cases a<;>try exact h.elim
  obtain⟨cs,h2,h3⟩:=hv;obtain⟨rfl,h⟩:=h;exact⟨cs,h2,LZ st h h3⟩
 |_=>simp only [He]at h;exact(Ur st h).1 hv
theorem m5{a:AV}{v:Value}(hn:vt S' a=true)(hS:∀k,(an S' k).isSome->(O k).isSome->(an S k).isSome):
  ((∀l,a≠.agg l)->(∀l,a≠.cL l)->(∀f l,a≠.fn f l)->aC O w M a v->aC (c9 S S' O) w (eD S' O M) a v)/\((∀l,a≠.agg l)->cx O w M a v->cx (c9 S S' O) w (eD S' O M) a v)/\(aJ O w M a v->aJ (c9 S S' O) w (eD S' O M) a v):=by
 have hk:=qn S' O w M;have mB:∀k,(match an S' k with|some _=>true|none=>false)=true->(an S' k).isSome:=λk h=>by cases hf:an S' k<;>simp_all
 have live:∀k,(an S' k).isSome->∀o,O k=some o->c9 S S' O k=some o:=λk h o ho=>by
  rw [mZ h (hS k h (by rw [ho];rfl))];exact ho
 cases a with
 |vec k=>refine⟨λ_ _ _ hv=>?_,λ_ hv=>?_,λhv=>?_⟩<;>(obtain⟨o,g1,g2⟩:=hv;exact⟨o,ba (live k (mB k hn)) g1,g2⟩)
 |ptr k off=>refine⟨λ_ _ _ hv=>?_,λ_ hv=>?_,λhv=>?_⟩<;>exact ba (live k (mB k hn)) hv
 |dY k i=>refine⟨λ_ _ _ hv=>?_,λ_ hv=>?_,λhv=>?_⟩<;>(obtain⟨o,b,g1,g2⟩:=hv;exact⟨o,b,ba (live k (mB k hn)) g1,g2⟩)
 |gA k i j=>refine⟨λ_ _ _ hv=>?_,λ_ hv=>?_,λhv=>?_⟩<;>(obtain⟨o,b,g1,g2⟩:=hv;exact⟨o,b,ba (live k (mB k hn)) g1,g2⟩)
 |gD k i=>refine⟨λ_ _ _ hv=>?_,λ_ hv=>?_,λhv=>?_⟩<;>(obtain⟨o,g1,g2⟩:=hv;exact⟨o,ba (live k (mB k hn)) g1,g2⟩)
 |ro r=>exact⟨λ_ _ _ hv=>bd.keep hk hv,λ_ hv=>bd.keep hk hv,λhv=>bd.keep hk hv⟩
 |eZ r i=>refine⟨λ_ _ _ hv=>?_,λ_ hv=>?_,λhv=>?_⟩<;>(obtain⟨b,off,cap,h1,h2⟩:=hv;exact⟨b,off,cap,h1.keep hk,h2⟩)
 |uD f r i=>refine⟨λ_ _ _ hv=>?_,λ_ hv=>?_,λhv=>?_⟩<;>(obtain⟨b,off,cap,h1,h2⟩:=hv;exact⟨b,off,cap,h1.keep hk,h2⟩)
 |any=>exact⟨λ_ _ _ _=>trivial,λ_ _=>trivial,id⟩
 |int k n=>exact⟨λ_ _ _=>id,λ_=>id,id⟩
 |bool e=>exact⟨λ_ _ _=>id,λ_=>id,id⟩
 |ar=>exact⟨λ_ _ _=>id,λ_=>id,id⟩
 |bO=>exact⟨λ_ _ _=>id,λ_=>id,id⟩
 |may b n=>exact⟨λ_ _ _=>id,λ_=>id,id⟩
 |full r=>exact⟨λ_ _ _ hv=>⟨bd.keep hk hv.1,hv.2⟩,λ_ hv=>⟨bd.keep hk hv.1,hv.2⟩,λhv=>⟨bd.keep hk hv.1,hv.2⟩⟩
 |str l=>exact⟨λ_ _ _=>id,λ_=>id,id⟩
 |new r=>exact⟨λ_ _ _ hv=>hv.elim,λ_ hv=>hv.elim,λhv=>hv.elim⟩
 |agg l=>exact⟨λh=>absurd rfl (h l),λh=>absurd rfl (h l),λhv=>hv.elim⟩
 |cL l=>exact⟨λ_ h=>absurd rfl (h l),λ_ hv=>hv.elim,λhv=>hv.elim⟩
 |fn f l=>
  cases l with
  |nil=>exact⟨λ_ _ h=>absurd rfl (h f []),λ_=>id,id⟩
  |cons x l=>exact⟨λ_ _ h=>absurd rfl (h f _),λ_ hv=>hv.elim,λhv=>hv.elim⟩
theorem kb(hS:∀k,(an S' k).isSome->(O k).isSome->(an S k).isSome):∀{l:List AV} {vs:List Value},m6 S' l=true->aM (aJ O w M) l vs->aM (aJ (c9 S S' O) w (eD S' O M)) l vs
 |[],[],_,_=>trivial
 |a::l,v::vs,hn,hv=>by
  simp only [m6]at hn;split at hn
  ·rename_i ha;exact⟨(m5 ha hS).2.2 hv.1,kb hS hn hv.2⟩
  ·cases hn
 |[],_::_,_,hv=>hv.elim
 |_::_,[],_,hv=>hv.elim
theorem m7(hS:∀k,(an S' k).isSome->(O k).isSome->(an S k).isSome):∀{l:List AV} {vs:List Value},pb S' l=true->aM (cx O w M) l vs->aM (cx (c9 S S' O) w (eD S' O M)) l vs
 |[],[],_,_=>trivial
 |a::l,v::vs,hn,hv=>by
  cases a with
  |agg m=>
   simp only [pb]at hn;split at hn
   ·rename_i ha
    obtain⟨cs,h1,h2⟩:=hv.1;exact⟨⟨cs,h1,kb hS ha h2⟩,m7 hS hn hv.2⟩
   ·cases hn
  |_=>
   simp only [pb]at hn;split at hn
   ·rename_i ha;exact⟨(m5 ha hS).2.1 (by simp) hv.1,m7 hS hn hv.2⟩
   ·cases hn
 |[],_::_,_,hv=>hv.elim
 |_::_,[],_,hv=>hv.elim
theorem kf(hS:∀k,(an S' k).isSome->(O k).isSome->(an S k).isSome):∀{T:List AV} (i:Nat) {v:Value},gJ S' T=true->aC O w M (nth T i) v->aC (c9 S S' O) w (eD S' O M) (nth T i) v
 |[],_,_,_,_=>trivial
 |a::T,i,v,hn,hv=>by
  have split':(match a with
   |.agg m=>m6 S' m=true
   |.fn _ m=>m6 S' m=true
   |.cL m=>pb S' m=true
   |a=>vt S' a=true)/\gJ S' T=true:=by
   cases a<;>simp only [gJ]at hn<;>(split at hn)<;>first|exact⟨by assumption,hn⟩|cases hn
  obtain⟨h1,h2⟩:=split';cases i with
  |succ i=>exact kf hS i h2 hv
  |zero=>
   have hv:aC O w M a v:=hv;show aC _ w _ a v;cases a with
   |agg m=>obtain⟨cs,g1,g2⟩:=hv;exact⟨cs,g1,kb hS h1 g2⟩
   |fn f m=>obtain⟨cs,g1,g2⟩:=hv;exact⟨cs,g1,kb hS h1 g2⟩
   |cL m=>obtain⟨cs,g1,g2⟩:=hv;exact⟨cs,g1,m7 hS h1 g2⟩
   |_=>exact(m5 h1 hS).1 (by simp) (by simp) (by simp) hv
theorem Ak(st:St M0 O M S w)(h:KQ S S' S'):St M0 (c9 S S' O) (eD S' O M) S' w:=by
 have hk:=qn S' O w M
 have pa:∀k b,hasB (c9 S S' O) k b->hasB O k b/\(an S' k).isSome:=by
  intro k b hb;simp only [hasB,c9]at hb;cases h1:an S' k with
  |none=>rw [h1]at hb;simp at hb
  |some B'=>
   rw [h1]at hb;cases h2:an S k with
   |some B=>rw [h2]at hb;exact⟨hb,rfl⟩
   |none=>rw [h2]at hb;cases B'<;>simp [b6.has]at hb
 have iL:∀k b,hasB O k b->(an S' k).isSome->∀off,eD S' O M b off↔M b off/\∀wm r ov,an S' k=some (.vec wm r ov)->wm*r.sz<=off:=by
  intro k b hb hs off;obtain⟨B',rQ⟩:=ajM.1 hs
  constructor
  ·intro hm
   refine⟨hm.1,λwm r ov hf=>?_⟩;obtain⟨B2,h1,h2⟩:=hm.2 k hb;exact h2 wm r ov (by rw [h1]at hf;exact ajN hf)
  ·intro hm
   refine⟨hm.1,λj hj=>?_⟩;obtain rfl:=st.inj _ _ _ hj hb;exact⟨B',rQ,λwm r ov he=>hm.2 wm r ov (by rw [rQ,he])⟩
 refine⟨λk=>?_,λk B' rQ=>?_,λi j b hi hj=>st.inj _ _ _ (pa _ _ hi).1 (pa _ _ hj).1,λb off hm=>st.mlt b off hm.1,st.lS,λb off hb hm=>st.sub b off hb hm.1,λb off hb hl hm=>⟨st.eI b off hb hl hm,λk BW=>absurd BW (st.iv hb hl)⟩,λk b hb=>st.fresh k b (pa k b hb).1,λk o hk ho=>?_⟩
 ·simp only [c9]
  cases h1:an S' k with
  |none=>rfl
  |some B'=>
   have h2:=qm h h1;cases h3:an S k with
   |some B=>simp only [st.gq k,h3];rfl
   |none=>
    rw [h3]at h2;cases B' with
    |vec wm r ov=>rfl
    |_=>exact h2.elim
 ·have h2:=qm h rQ
  cases h3:an S k with
  |none=>
   rw [h3]at h2;cases B' with
   |box l=>exact h2.elim
   |map=>exact h2.elim
   |deep=>exact h2.elim
   |dK=>exact h2.elim
   |mA=>exact h2.elim
   |vec wm r ov=>
    cases ov with
    |cons=>exact h2.elim
    |nil=>
     obtain⟨_,hw,hr⟩:=h2;exact⟨⟨⟨none,0,0,r.sz⟩,by simp [c9,rQ,h3],hr.symm,rfl,by rw [hr];exact ajk _,aa,hr,rfl⟩,.inl rfl⟩
  |some B=>
   rw [h3]at h2;have hρ:=mZ (O:=O) (S:=S) (S':=S') (k:=k) (by rw [rQ];rfl) (by rw [h3];rfl);have hB:=st.aZ k B h3;have vu:(an S' k).isSome:=by rw [rQ];rfl
   cases B with
   |box l=>
    cases B' with
    |vec=>exact h2.elim
    |map=>exact h2.elim
    |deep=>exact h2.elim
    |dK=>exact h2.elim
    |mA=>exact h2.elim
    |box m=>
     obtain⟨b,g1,cs,ty,g2,g3,g4⟩:=hB;refine⟨b,by rw [hρ];exact g1,cs,ty,g2,λoff=>?_,LZ st h2 g4⟩;rw [iL k b (by simp [hasB,g1,b6.has]) vu off,<-g3 off];exact⟨λhm=>hm.1,λhm=>⟨hm,λwm r ov hf=>by rw [rQ]at hf;cases hf⟩⟩
   |map kd vk m=>
    cases B' with
    |map kd' vk' m'=>
     have h2:(kd=kd'/\vk=vk')/\m=m':=h2;obtain⟨⟨rfl,rfl⟩,rfl⟩:=h2;obtain⟨b,g1,es,n,g2,g3,g4⟩:=hB;refine⟨b,by rw [hρ];exact g1,es,n,g2,λoff=>?_,g4⟩;rw [iL k b (by simp [hasB,g1,b6.has]) vu off,<-g3 off];exact⟨λhm=>hm.1,λhm=>⟨hm,λwm r ov hf=>by rw [rQ]at hf;cases hf⟩⟩
    |_=>first|done|exact h2.elim
   |deep r hole=>
    cases B' with
    |deep r' W5=>
     cases hole<;>cases W5<;>try exact h2.elim
     have h2:r=r':=h2;subst h2;obtain⟨o,rows,g1,g2⟩:=hB;refine⟨o,rows,by rw [hρ];exact g1,g2.ext hk λb hb=>⟨rfl,λoff=>?_⟩⟩;rw [iL k b (by simp only [hasB,g1];exact hb) vu off];exact⟨λhm=>hm.1,λhm=>⟨hm,λwm r ov hf=>by rw [rQ]at hf;cases hf⟩⟩
    |_=>cases hole<;>exact h2.elim
   |dK n r=>
    cases B' with
    |dK n' r'=>
     have h2:n=n'/\r=r':=h2;obtain⟨rfl,rfl⟩:=h2;obtain⟨o,cur,g1,g2,g3⟩:=hB
     have hm:∀b,(b6.st o cur).has b->∀off,eD S' O M b off↔M b off:=λb hb off=>by
      rw [iL k b (by simp only [hasB,g1];exact hb) vu off];exact⟨λhm=>hm.1,λhm=>⟨hm,λwm r ov hf=>by rw [rQ]at hf;cases hf⟩⟩
     exact⟨o,cur,by rw [hρ];exact g1,g2.Je hk λb hb=>⟨rfl,hm b (.inr hb)⟩,g3.ext λb hb=>⟨rfl,hm b (.inl hb)⟩⟩
    |_=>exact h2.elim
   |mA n z=>
    cases B' with
    |mA n' z'=>
     have h2:n=n'/\z=z':=h2;obtain⟨rfl,rfl⟩:=h2;obtain⟨o,g1,g3⟩:=hB
     have hm:∀b,(b6.sl o).has b->∀off,eD S' O M b off↔M b off:=λb hb off=>by
      rw [iL k b (by simp only [hasB,g1];exact hb) vu off];exact⟨λhm=>hm.1,λhm=>⟨hm,λwm r ov hf=>by rw [rQ]at hf;cases hf⟩⟩
     exact⟨o,by rw [hρ];exact g1,g3.ext λb hb=>⟨rfl,hm b hb⟩⟩
    |_=>exact h2.elim
   |vec wm r ov=>
    cases B' with
    |map=>cases ov<;>first|exact h2.elim|(rename_i x y;cases y<;>exact h2.elim)
    |deep=>cases ov<;>first|exact h2.elim|(rename_i x y;cases y<;>exact h2.elim)
    |box m=>cases ov<;>first|exact h2.elim|(rename_i x y;cases y<;>exact h2.elim)
    |dK n' r'=>cases ov<;>first|exact h2.elim|(rename_i x y;cases y<;>exact h2.elim)
    |mA n' z'=>
     cases ov with
     |cons x y=>cases y<;>exact h2.elim
     |nil=>
      have h2:wm=0/\r.len=n'/\r.sz=z':=h2;obtain⟨rfl,rfl,rfl⟩:=h2;obtain⟨⟨o,g1,g2⟩,_⟩:=hB;refine⟨o,by rw [hρ];exact g1,g2.mA.ext λb hb=>⟨rfl,λoff=>?_⟩⟩;rw [iL k b (by simp only [hasB,g1];exact hb) vu off];exact⟨λhm=>hm.1,λhm=>⟨hm,λwm r ov hf=>by rw [rQ]at hf;cases hf⟩⟩
    |vec wm' r' ov'=>
     obtain⟨⟨o,g1,g2,g3,g4,g5,g6⟩,ig⟩:=hB
     have yD:∀b,o.aZ=some b->r'.sz=r.sz->wm<=wm'->(∀cs:Array Value,(∀off,M b off↔wm*o.sz<=off/\off<cs.size)->∀off,eD S' O M b off↔wm'*o.sz<=off/\off<cs.size):=by
      intro b hb hz hw cs hM off;rw [iL k b (by simp [hasB,g1,b6.has,hb]) vu off,hM off];have hle:wm*o.sz<=wm'*o.sz:=ajO _ hw
      constructor
      ·intro hm
       have:=hm.2 wm' r' ov' rQ;rw [hz,<-g3]at this;exact⟨this,hm.1.2⟩
      ·intro hm
       refine⟨⟨aa,hm.2⟩,λwm2 r2 ov2 hf=>?_⟩;rw [rQ]at hf;cases hf;rw [hz,<-g3];exact hm.1
     match ov,ov',h2 with
     |[],[],h2=>
      obtain⟨⟨PB,ZY⟩,rfl⟩:=h2;refine⟨⟨o,by rw [hρ];exact g1,g2,g3,g4,ZY,?_⟩,.inl rfl⟩;cases fB:o.aZ with
      |none=>simp only [fB]at g6 ⊢;exact g6
      |some b=>
       simp only [fB]at g6 ⊢;obtain⟨g7,cs,ty,g8,g9,g10,g11⟩:=g6;refine⟨g7,cs,ty,g8,g9,yD b fB rfl PB cs g10,λq hq=>?_⟩;obtain⟨c,g12,g13⟩:=g11 q hq;exact⟨c,g12,ay.keep hk g13⟩
     |[(i,j)],[],h2=>
      simp only [ZX]at h2;split at h2
      ·rename_i wmj s hj
       obtain⟨hd,hw',pc⟩:=h2;rcases ig with ig|⟨i',j',ig,BS,Fg,Wa,OZ⟩
       ·cases ig
       cases ig;obtain⟨r2,sZ,xM,uE,_,cT⟩:=qo pc aa;subst sZ;refine⟨⟨o,by rw [hρ];exact g1,by rw [g2,xM],by rw [g3,uE],by rw [xM];exact g4,by rw [xM];exact hw',?_⟩,.inl rfl⟩;cases fB:o.aZ with
       |none=>simp only [fB]at g6 ⊢;rw [xM];exact g6
       |some b=>
        simp only [fB]at g6 ⊢;obtain⟨g7,cs,ty,g8,g9,g10,g11⟩:=g6;refine⟨g7,cs,ty,g8,g9,yD b fB uE aa cs g10,λq hq=>?_⟩;obtain⟨c,g12,g13⟩:=g11 q (by simpa [RO.cells,xM,uE]using hq);refine⟨c,g12,?_⟩;split at g13
        ·rename_i he
         rw [show q=i.toNat from by omega];exact(cT w _).1 c (fA (st.aZ j _ hj) rfl (nY hd) g13)
        ·rename_i he
         exact(cT w _).2 q c aa (ay.keep hk g13)
      ·exact h2.elim
     |[(i,j)],[(i',j')],h2=>
      obtain⟨rfl,rfl,rfl,rfl,rX,xM⟩:=h2;rcases ig with ig|⟨i',j',ig,BS,Fg,Wa,OZ⟩
      ·cases ig
      cases ig;refine⟨⟨o,by rw [hρ];exact g1,g2,g3,g4,ajk _,?_⟩,.inr ⟨_,_,rfl,BS,rfl,Wa,OZ⟩⟩;cases fB:o.aZ with
      |none=>simp only [fB]at g6 ⊢;exact g6
      |some b=>
       simp only [fB]at g6 ⊢;obtain⟨g7,cs,ty,g8,g9,g10,g11⟩:=g6;refine⟨g7,cs,ty,g8,g9,yD b fB rfl aa cs g10,λq hq=>?_⟩;obtain⟨c,g12,g13⟩:=g11 q hq;refine⟨c,g12,?_⟩;split at g13
       ·rename_i he
        simp only [he,if_true];obtain⟨o2,k1,k2⟩:=g13;exact⟨o2,by rw [mZ (jf rX) (jf xM)];exact k1,k2⟩
       ·rename_i he
        simp only [he,if_false];exact ay.keep hk g13
     |[],_::_,h2=>exact h2.elim
     |[_],_::_::_,h2=>exact h2.elim
     |_::_::_,_,h2=>exact h2.elim
 ·simp only [c9]at ho
  cases h1:an S' k with
  |none=>rw [h1]at ho;cases ho
  |some B'=>
   have h2:=qm h h1;rw [h1]at ho;cases h3:an S k with
   |some B=>rw [h3]at ho;exact st.tV k o hk ho
   |none=>
    rw [h3]at h2;cases B' with
    |box l=>exact h2.elim
    |map=>exact h2.elim
    |deep=>exact h2.elim
    |dK=>exact h2.elim
    |mA=>exact h2.elim
    |vec wm r ov=>
     cases ov with
     |cons=>exact h2.elim
     |nil=>rw [h2.1]at hk;cases hk
end
section
variable{P:Program}{TY:List cV}{w0 w:World}{M0:eE w0}{O:Env}{M:a7}{S S':ak}
theorem xV{k:Nat}{T:List AV}{a:Act}{K:List AV->ak->Prop}(h:lh S k λS=>c6 k .any T λT=>cf k .any S λS=>K T S)(st:St M0 O M S w)(tm:Tm O w M T a):
  ∃T' S',K T' S'/\St M0 (aV O k) M S' w/\Tm (aV O k) w M T' a/\T'.length=T.length:=by
 obtain⟨S1,h1,xN⟩:=gK h;obtain⟨T',h2,hlen,hT⟩:=fT h1;obtain⟨S',h3,Hf⟩:=fU h2;have m8:Conv k .any O w M (aV O k) w M:=⟨bE.refl _ _,λj hj o ho=>by simpa [aV,hj]using ho,λv hv=>aJ.aO hv⟩
 have dF:an S' k=none:=by
  have:=Hf k;rw [xN k]at this;simpa using this
 refine⟨T',S',h3,⟨λj=>?_,λj B hB=>?_,λi j b hi hj=>?_,st.mlt,st.lS,st.sub,st.eI,λx b hx=>?_,λx o hx ho=>?_⟩,
  ⟨tm.defers,by rw [hlen];exact tm.size,λi=>hT _ _ _ _ _ _ m8 (λv _=>⟨ag,ag⟩) i _ (tm.tmp i)⟩,hlen⟩
 ·by_cases hj:j=k
  ·subst hj;simp [aV,dF]
  ·have:=Hf j
   rw [xN j]at this;simp only [hj,if_false]at this;simp only [aV,hj,if_false,st.gq j];cases hf:an S j with
   |none=>simp only [hf]at this;simp [this]
   |some B=>simp only [hf]at this;obtain⟨B',h4,_⟩:=this;simp [h4]
 ·have hj:j≠k:=λe=>by subst e;rw [dF]at hB;cases hB
  have:=Hf j;rw [xN j]at this;simp only [hj,if_false]at this;cases hf:an S j with
  |none=>simp only [hf]at this;rw [this]at hB;cases hB
  |some B0=>
   simp only [hf]at this;obtain⟨B',h4,h5⟩:=this;rw [h4]at hB;cases hB;exact h5 O w M _ _ j m8 (by simp [aV,hj]) (λb hb off=>Iff.rfl) (st.aZ j B0 hf)
 ·have h1:∀x,hasB (aV O k) x b->hasB O x b:=λx hx=>by
   by_cases kU:x=k
   ·subst kU;simp [hasB,aV]at hx
   ·simpa [hasB,aV,kU]using hx
  exact st.inj _ _ _ (h1 _ hi) (h1 _ hj)
 ·by_cases kU:x=k
  ·subst kU;simp [hasB,aV]at hx
  ·exact st.fresh x b (by simpa [hasB,aV,kU]using hx)
 ·by_cases kU:x=k
  ·subst kU;simp [aV]at ho
  ·exact st.tV x o hx (by simpa [aV,kU]using ho)
def iM(O:Env)(ks:List Nat):Env:=λk=>if k∈ks then none else O k
theorem kG{a:Act}:∀{ks:List Nat} {T:List AV} {S:ak} {O:Env} {K:List AV->ak->Prop},m9 ks T S K->St M0 O M S w->Tm O w M T a->
  ∃T' S',K T' S'/\St M0 (iM O ks) M S' w/\Tm (iM O ks) w M T' a/\T'.length=T.length
 |[],T,S,O,K,h,st,tm=>by
  have e:iM O []=O:=by funext k;simp [iM]
  rw [e];exact⟨T,S,h,st,tm,rfl⟩
 |k::ks,T,S,O,K,h,st,tm=>by
  obtain⟨T1,S1,h1,h2,h3,h4⟩:=xV h st tm;obtain⟨T',S',h5,h6,h7,h8⟩:=kG h1 h2 h3
  have e:iM (aV O k) ks=iM O (k::ks):=by
   funext j
   simp only [iM,aV,ajo]
   by_cases hj:j∈ks
   ·simp [hj]
   ·by_cases dL:j=k
    ·simp [dL]
    ·simp [hj,dL]
  rw [e]at h6 h7;exact⟨T',S',h5,h6,h7,h8.trans h4⟩
section
variable{σ:List (Nat × Nat)}{ρ1 ρ2:Env}{M2:a7}
theorem yE{b:AV}{v:Value}(aY:Fh σ b=true)(h:aJ O w M (kH σ b) v)(hd:∀i j,bf σ i=some j->ρ1 i=O j):aJ ρ1 w M b v:=by
 cases b with
 |vec k=>
  simp only [Fh]at aY;simp only [kH]at h;cases hf:bf σ k with
  |none=>rw [hf]at aY;cases aY
  |some j=>rw [hf]at h;obtain⟨o,h1,h2⟩:=h;exact⟨o,by rw [hd k j hf];exact h1,h2⟩
 |ptr k off=>
  simp only [Fh]at aY;simp only [kH]at h;cases hf:bf σ k with
  |none=>rw [hf]at aY;cases aY
  |some j=>
   rw [hf]at h;have h:(O j).bind (b6.ref · off)=some v:=h;rw [<-hd k j hf]at h;exact h
 |dY k i=>
  simp only [Fh]at aY;simp only [kH]at h;cases hf:bf σ k with
  |none=>rw [hf]at aY;cases aY
  |some j=>rw [hf]at h;obtain⟨o,b,h1,h2⟩:=h;exact⟨o,b,by rw [hd k j hf];exact h1,h2⟩
 |gA k i c=>
  simp only [Fh]at aY;simp only [kH]at h;cases hf:bf σ k with
  |none=>rw [hf]at aY;cases aY
  |some j=>rw [hf]at h;obtain⟨o,b,h1,h2⟩:=h;exact⟨o,b,by rw [hd k j hf];exact h1,h2⟩
 |gD k i=>
  simp only [Fh]at aY;simp only [kH]at h;cases hf:bf σ k with
  |none=>rw [hf]at aY;cases aY
  |some j=>rw [hf]at h;obtain⟨o,h1,h2⟩:=h;exact⟨o,by rw [hd k j hf];exact h1,h2⟩
 |fn f l=>cases l<;>first|exact h|cases aY
 |agg l=>cases aY
 |cL l=>cases aY
 |new r=>cases aY
 |_=>exact h
theorem vw(hd:∀i j o,bf σ i=some j->ρ2 i=some o->O j=some o){b:AV}{v:Value}(h:aJ ρ2 w M b v):aJ O w M (kH σ b) v:=by
 cases b with
 |vec k=>
  simp only [kH];cases hf:bf σ k with
  |none=>exact aJ.aO h
  |some j=>obtain⟨o,h1,h2⟩:=h;exact⟨o,ba (λo'=>hd k j o' hf) h1,h2⟩
 |ptr k off=>
  simp only [kH];cases hf:bf σ k with
  |none=>exact aJ.aO h
  |some j=>exact ba (λo'=>hd k j o' hf) h
 |dY k i=>
  simp only [kH];cases hf:bf σ k with
  |none=>exact aJ.aO h
  |some j=>obtain⟨o,b,h1,h2⟩:=h;exact⟨o,b,ba (λo'=>hd k j o' hf) h1,h2⟩
 |gA k i c=>
  simp only [kH];cases hf:bf σ k with
  |none=>exact aJ.aO h
  |some j=>obtain⟨o,b,h1,h2⟩:=h;exact⟨o,b,ba (λo'=>hd k j o' hf) h1,h2⟩
 |gD k i=>
  simp only [kH];cases hf:bf σ k with
  |none=>exact aJ.aO h
  |some j=>obtain⟨o,h1,h2⟩:=h;exact⟨o,ba (λo'=>hd k j o' hf) h1,h2⟩
 |fn f l=>cases l<;>first|exact h|exact aJ.aO h
 |agg l=>exact h.elim
 |cL l=>exact h.elim
 |new r=>exact h.elim
 |any=>exact h
 |_=>exact h
theorem nZ(hd:∀i j,bf σ i=some j->ρ1 i=O j):∀{l:List AV} {vs:List Value},Wb σ l=true->aM (aJ O w M) (Fi σ l) vs->aM (aJ ρ1 w M) l vs
 |[],[],_,_=>trivial
 |a::l,v::vs,aY,h=>by
  simp only [Wb]at aY;split at aY
  ·rename_i ha;exact⟨yE ha h.1 hd,nZ hd aY h.2⟩
  ·cases aY
 |[],_::_,_,h=>h.elim
 |_::_,[],_,h=>h.elim
theorem na(hd:∀i j o,bf σ i=some j->ρ2 i=some o->O j=some o):∀{l:List AV} {vs:List Value},aM (aJ ρ2 w M) l vs->aM (aJ O w M) (Fi σ l) vs
 |[],[],_=>trivial
 |_a::_l,_v::_vs,h=>⟨vw hd h.1,na hd h.2⟩
 |[],_::_,h=>h.elim
 |_::_,[],h=>h.elim
theorem Al{b:AV}{v:Value}(h:aJ O w M b v):cx O w M b v:=by
 cases b with
 |agg l=>exact h.elim
 |any=>trivial
 |_=>simp only [cx];exact h
theorem CB(hd:∀i j o,bf σ i=some j->ρ2 i=some o->O j=some o):∀{l:List AV} {vs:List Value},aM (cx ρ2 w M) l vs->aM (cx O w M) (Ut σ l) vs
 |[],[],_=>trivial
 |a::l,v::vs,h=>by
  refine⟨?_,CB hd h.2⟩;have h1:=h.1;cases a with
  |agg m=>obtain⟨cs,h2,h3⟩:=h1;exact⟨cs,h2,na hd h3⟩
  |any=>trivial
  |_=>
   simp only [cx]at h1;exact Al (vw hd h1)
 |[],_::_,h=>h.elim
 |_::_,[],h=>h.elim
theorem L1(hd:∀i j o,bf σ i=some j->ρ2 i=some o->O j=some o){a:AV}{v:Value}(h:aC ρ2 w M a v):aC O w M (L3 σ a) v:=by
 cases a with
 |agg m=>obtain⟨cs,h2,h3⟩:=h;exact⟨cs,h2,na hd h3⟩
 |cL m=>obtain⟨cs,h2,h3⟩:=h;exact⟨cs,h2,CB hd h3⟩
 |fn f m=>obtain⟨cs,h2,h3⟩:=h;exact⟨cs,h2,na hd h3⟩
 |any=>trivial
 |_=>simp only [aC]at h;exact cK (vw hd h)
theorem lj(hd:∀i j,bf σ i=some j->ρ1 i=O j):∀{l:List AV} {vs:List Value},KR σ l=true->aM (aC O w M) (yF σ l) vs->aM (aC ρ1 w M) l vs
 |[],[],_,_=>trivial
 |a::l,v::vs,aY,h=>by
  have hC:∀{b:AV},Fh σ b=true->aC O w M (kH σ b) v->aC ρ1 w M b v:=λ{b} hb hv=>by
   by_cases Jf:b= .any
   ·subst Jf;trivial
   ·refine cK (yE hb ?_ hd)
    revert hv
    cases b with
    |any=>exact absurd rfl Jf
    |agg l=>cases hb
    |cL l=>cases hb
    |new r=>cases hb
    |fn f l=>
     cases l with
     |nil=>rintro⟨cs,h1,h2⟩;obtain⟨l⟩:=cs;cases l<;>first|exact h1|exact h2.elim
     |cons=>cases hb
    |vec k=>simp only [Fh]at hb;simp only [kH];cases hf:bf σ k<;>rw [hf]at hb<;>first|cases hb;done|exact id
    |ptr k o=>simp only [Fh]at hb;simp only [kH];cases hf:bf σ k<;>rw [hf]at hb<;>first|cases hb;done|exact id
    |dY k o=>simp only [Fh]at hb;simp only [kH];cases hf:bf σ k<;>rw [hf]at hb<;>first|cases hb;done|exact id
    |gA k o c=>simp only [Fh]at hb;simp only [kH];cases hf:bf σ k<;>rw [hf]at hb<;>first|cases hb;done|exact id
    |gD k o=>simp only [Fh]at hb;simp only [kH];cases hf:bf σ k<;>rw [hf]at hb<;>first|cases hb;done|exact id
    |_=>exact id
  cases a with
  |agg m=>
   simp only [KR]at aY;split at aY
   ·rename_i hm
    obtain⟨⟨cs,h2,h3⟩,h4⟩:=h;exact⟨⟨cs,h2,nZ hd hm h3⟩,lj hd aY h4⟩
   ·cases aY
  |fn f m=>
   simp only [KR]at aY;split at aY
   ·rename_i hm
    obtain⟨⟨cs,h2,h3⟩,h4⟩:=h;exact⟨⟨cs,h2,nZ hd hm h3⟩,lj hd aY h4⟩
   ·cases aY
  |cL m=>simp [KR,Fh]at aY
  |_=>
   simp only [KR]at aY;split at aY
   ·rename_i hm
    exact⟨hC hm h.1,lj hd aY h.2⟩
   ·cases aY
 |[],_::_,_,h=>h.elim
 |_::_,[],_,h=>h.elim
end
theorem vy:∀{n:Nat} {l:List Nat},Qe n l=false->n∉l
 |_,[],_=>by simp
 |n,m::l,h=>by
  simp only [Qe]at h;split at h
  ·cases h
  ·rename_i hb
   simp only [ajo,not_or];exact⟨beq_false hb,vy h⟩
theorem dI:∀{l:List Nat},lT l=true->l.Nodup
 |[],_=>by simp
 |n::l,h=>by
  simp only [lT]at h;split at h
  ·cases h
  ·rename_i hb;exact akw.2 ⟨vy hb,dI h⟩
theorem CD:∀{l:List Nat},CE l=true->∀n∈l,loc n=true
 |[],_,_,hn=>by cases hn
 |m::l,h,n,hn=>by
  simp only [CE]at h;split at h
  ·rename_i hm
   rcases ajo.1 hn with rfl|hn
   ·exact hm
   ·exact CD h n hn
  ·cases h
theorem qp{i j k:Nat}{σ:List (Nat × Nat)}:bf ((i,j)::σ) k=if i=k then some j else bf σ k:=by
 simp only [bf];cases h:Nat.beq i k with
 |true=>simp [aA.1 h]
 |false=>simp [beq_false h]
theorem n4:∀{σ:List (Nat × Nat)} {i j:Nat},bf σ i=some j->(i,j)∈σ
 |[],_,_,h=>by cases h
 |(a,b)::σ,i,j,h=>by
  rw [qp]at h;split at h
  ·rename_i e;subst e;cases h;simp
  ·exact ajj _ (n4 h)
theorem Am:∀{σ:List (Nat × Nat)} {i j:Nat},(i,j)∈σ->j∈jV σ
 |(a,b)::σ,i,j,h=>by
  simp only [jV,ajo];rcases ajo.1 h with e|h
  ·cases e;exact .inl rfl
  ·exact .inr (Am h)
theorem qs:∀{σ:List (Nat × Nat)},(jV σ).Nodup->∀{i i' j:Nat},bf σ i=some j->bf σ i'=some j->i=i'
 |[],_,_,_,_,h,_=>by cases h
 |(a,b)::σ,hn,i,i',j,h,h'=>by
  simp only [jV,akw]at hn;rw [qp]at h h';split at h
  ·rename_i e
   subst e;split at h'
   ·rename_i e;exact e
   ·cases h;exact absurd (Am (n4 h')) hn.1
  ·split at h'
   ·cases h';exact absurd (Am (n4 h)) hn.1
   ·exact qs hn.2 h h'
theorem Hg{α:Type}:∀{S:List (Nat × α)} {k:Nat} {B:α},(k,B)∈S->k∈dq S
 |(j,b)::S,k,B,h=>by
  simp only [dq,ajo];rcases ajo.1 h with e|h
  ·cases e;exact .inl rfl
  ·exact .inr (Hg h)
theorem js:∀{S:ak} {k:Nat} {B:dQ},an S k=some B->(k,B)∈S
 |(j,b)::S,k,B,h=>by
  rw [aF]at h;split at h
  ·rename_i e;subst e;cases h;simp
  ·exact ajj _ (js h)
theorem Hh{σ:List (Nat × Nat)}:∀{S:ak},SS σ S=true->∀{k:Nat} {B:dQ},(k,B)∈S->(∃j,bf σ k=some j)/\okB σ B=true
 |(i,b)::S,h,k,B,hm=>by
  simp only [SS]at h;split at h
  ·rename_i j hj hb
   rcases ajo.1 hm with e|hm
   ·cases e;exact⟨⟨_,hj⟩,hb⟩
   ·exact Hh h hm
  ·cases h
theorem vz:∀{S:ak},dz S=true->∀{k:Nat} {B:dQ},(k,B)∈S->∀wm r ov,B= .vec wm r ov->ov=[]
 |(i,b)::S,h,k,B,hm,wm,r,ov,e=>by
  subst e;rcases ajo.1 hm with e|hm
  ·cases e
   cases ov with
   |nil=>rfl
   |cons x l=>simp [dz]at h
  ·refine vz (S:=S) ?_ hm wm r ov rfl
   cases b with
   |box l=>exact h
   |map=>exact h
   |deep r hole=>cases hole<;>first|exact h|(simp [dz]at h)
   |dK=>simp [dz]at h
   |mA=>exact h
   |vec wm' r' ov'=>cases ov'<;>first|exact h|(simp [dz]at h)
theorem lU:∀{S:ak},dz S=true->∀{k:Nat} {B:dQ},(k,B)∈S->∀n r,B≠.dK n r
 |(i,b)::S,h,k,B,hm,n,r=>λe=>by
  subst e;rcases ajo.1 hm with e|hm
  ·cases e;simp [dz]at h
  ·refine lU (S:=S) ?_ hm n r rfl
   cases b with
   |box l=>exact h
   |map=>exact h
   |deep r hole=>cases hole<;>first|exact h|(simp [dz]at h)
   |dK=>simp [dz]at h
   |mA=>exact h
   |vec wm' r' ov'=>cases ov'<;>first|exact h|(simp [dz]at h)
theorem eR.base{O:Env}{w:World}{M:a7}{k:Nat}{B:dQ}{o:b6}(h:eR O w M k B)(hn:∀n r,B≠.dK n r)(ho:O k=some o):o.base=o:=by
 cases B with
 |box l=>obtain⟨b,h1,_⟩:=h;rw [h1]at ho;cases ho;rfl
 |map kd vk m=>obtain⟨b,h1,_⟩:=h;rw [h1]at ho;cases ho;rfl
 |deep r hole=>obtain⟨o',rows,h1,_⟩:=h;rw [h1]at ho;cases ho;rfl
 |dK n r=>exact absurd rfl (hn n r)
 |mA n z=>obtain⟨o',h1,_⟩:=h;rw [h1]at ho;cases ho;rfl
 |vec wm r ov=>obtain⟨⟨o',h1,_⟩,_⟩:=h;rw [h1]at ho;cases ho;rfl
theorem vA{σ:List (Nat × Nat)}:∀{S:ak} {k:Nat} {B:dQ} {j:Nat},(k,B)∈S->bf σ k=some j->(j,vB σ B)∈tW σ S
 |(i,b)::S,k,B,j,hm,hf=>by
  simp only [tW];rcases ajo.1 hm with e|hm
  ·cases e;rw [hf];simp
  ·split
   ·exact ajj _ (vA hm hf)
   ·exact vA hm hf
theorem sa{σ:List (Nat × Nat)}:∀{S:ak} {j:Nat},j∈dq (tW σ S)->∃i,i∈dq S/\bf σ i=some j
 |(i,b)::S,j,h=>by
  simp only [tW]at h;split at h
  ·rename_i j' mC
   simp only [dq,ajo]at h;rcases h with rfl|h
   ·exact⟨i,by simp [dq],mC⟩
   ·obtain⟨i',h1,h2⟩:=sa h;exact⟨i',by simp [dq,h1],h2⟩
  ·obtain⟨i',h1,h2⟩:=sa h;exact⟨i',by simp [dq,h1],h2⟩
theorem lV{σ:List (Nat × Nat)}(hσ:(jV σ).Nodup):∀{S:ak},(dq S).Nodup->(dq (tW σ S)).Nodup
 |[],_=>by simp [tW,dq]
 |(i,b)::S,h=>by
  simp only [dq,akw]at h;simp only [tW];split
  ·rename_i j hj
   simp only [dq,akw];refine⟨λhm=>?_,lV hσ h.2⟩;obtain⟨i',h1,h2⟩:=sa hm;obtain rfl:=qs hσ hj h2;exact h.1 h1
  ·exact lV hσ h.2
theorem sb:∀{V S:ak} {K:ak->Prop},nc V S K->∃S',K S'/\(∀k,k∉dq V->an S' k=an S k)/\((dq V).Nodup->∀k B,(k,B)∈V->an S' k=some B)
 |[],S,K,h=>⟨S,h,λ_ _=>rfl,λ_ k B hm=>by cases hm⟩
 |(i,b)::V,S,K,h=>by
  simp only [nc]at h
  have step:∃S1,nc V S1 K/\∀k,an S1 k=if i=k then some b else an S k:=by
   cases hf:an S i with
   |none=>
    rw [hf]at h;exact⟨_,h,λk=>aF⟩
   |some B=>
    rw [hf]at h;obtain⟨S1,h1,h2⟩:=cO h;refine⟨S1,h1,λk=>?_⟩;rw [h2 k]
    by_cases hk:i=k
    ·subst hk;simp [hf]
    ·simp [hk,Ne.symm hk]
  obtain⟨S1,h1,h2⟩:=step;obtain⟨S',h3,h4,h5⟩:=sb h1;refine⟨S',h3,λk hk=>?_,λhn k B hm=>?_⟩
  ·simp only [dq,ajo,not_or]at hk
   rw [h4 k hk.2,h2 k,ajm (Ne.symm hk.1)]
  ·simp only [dq,akw]at hn
   rcases ajo.1 hm with e|hm
   ·cases e
    rw [h4 _ hn.1,h2,ajq rfl]
   ·exact h5 hn.2 k B hm
theorem qt{S1 S2:ak}:∀{σ:List (Nat × Nat)} {i j:Nat},(i,j)∈σ->j∈gone S1 S2 σ\/((an S1 i).isSome/\(an S2 i).isSome/\loc i=false)
 |(a,b)::σ,i,j,h=>by
  simp only [gone];rcases ajo.1 h with e|h
  ·cases e
   split
   ·rename_i h1 h2 h3;exact .inr ⟨by rw [h1];rfl,by rw [h2];rfl,h3⟩
   ·exact .inl (by simp)
  ·rcases qt (S1:=S1) (S2:=S2) h with h|h
   ·exact .inl (by split<;>simp [h])
   ·exact .inr h
theorem sc{σ:List (Nat × Nat)}(hσ:(jV σ).Nodup):∀{R S:ak} {K:ak->Prop},(dq R).Nodup->CF σ R S K->
  ∃S',K S'/\∀k,an S' k=(match (dq R).find? (λi=>bf σ i==some k)with|some i=>(an R i).map (vB σ)|none=>an S k)
 |[],S,K,_,h=>⟨S,h,λk=>by simp [dq]⟩
 |(i,b)::R,S,K,hn,h=>by
  simp only [dq,akw]at hn;simp only [CF]at h
  have tail:∀{S1:ak},CF σ R S1 K->(∀k,an S1 k=if bf σ i=some k then some (vB σ b) else an S k)->
    ∃S',K S'/\∀k,an S' k=(match (dq ((i,b)::R)).find? (λi=>bf σ i==some k)with|some i'=>(an ((i,b)::R) i').map (vB σ)|none=>an S k):=by
   intro S1 h1 h2;obtain⟨S',h3,h4⟩:=sc hσ hn.2 h1;refine⟨S',h3,λk=>?_⟩;rw [h4 k];simp only [dq,List.find?_cons]
   by_cases yG:bf σ i=some k
   ·simp only [yG,beq_self_eq_true]
    have:(dq R).find? (λi=>bf σ i==some k)=none:=by
     rw [List.find?_eq_none];intro i' Aa hh;have:=qs hσ yG (by simpa using hh);subst this;exact hn.1 Aa
    rw [this];simp [h2 k,yG,aF]
   ·have hb:(bf σ i==some k)=false:=by simpa using yG
    simp only [hb];cases hfi:(dq R).find? (λi=>bf σ i==some k)with
    |none=>simp [h2 k,yG]
    |some i'=>
     have hm:=List.mem_of_find?_eq_some hfi;have bn:i≠i':=λe=>hn.1 (e▸hm);simp [aF,bn]
  cases hf:bf σ i with
  |none=>
   rw [hf]at h;exact tail h λk=>by simp [hf]
  |some j=>
   rw [hf]at h;simp only at h;cases tX:an S j with
   |some B=>
    rw [tX]at h;obtain⟨S1,h1,h2⟩:=cO h;refine tail h1 λk=>?_;rw [h2 k]
    by_cases dL:j=k
    ·subst dL;simp [tX,hf]
    ·simp [hf,dL,Ne.symm dL]
   |none=>
    rw [tX]at h;refine tail h λk=>?_;rw [aF]
    by_cases dL:j=k<;>simp [hf,dL]
theorem pd(st:St M0 O M S w):∀{l m:List AV} {vs:List Value},Qf S S' l m->aM (aC O w M) l vs->aM (aC (c9 S S' O) w (eD S' O M)) m vs
 |[],[],vs,_,h=>by cases vs<;>exact h
 |_::_,_::_,_::_,h,hv=>⟨jr st h.1 hv.1,pd st h.2 hv.2⟩
 |[],_::_,_,h,_=>h.elim
 |_::_,[],_,h,_=>h.elim
 |_::_,_::_,[],_,hv=>hv.elim
theorem jt{S1:ak}:∀{σ:List (Nat × Nat)} {i j:Nat},bf (cM S1 σ) i=some j↔(an S1 i).isSome/\bf σ i=some j
 |[],i,j=>by simp [cM,bf]
 |(a,b)::σ,i,j=>by
  have ih:=jt (S1:=S1) (σ:=σ) (i:=i) (j:=j);simp only [cM];cases hf:an S1 a with
  |some B=>
   simp only [qp]
   by_cases Uu:a=i
   ·subst Uu;simp [hf]
   ·simp only [Uu,if_false];exact ih
  |none=>
   simp only [qp]
   by_cases Uu:a=i
   ·subst Uu
    rw [ih];simp [hf]
   ·simp only [Uu,if_false];exact ih
theorem n5{S1:ak}:∀{σ:List (Nat × Nat)},(jV σ).Nodup->(jV (cM S1 σ)).Nodup
 |[],_=>by simp [cM,jV]
 |(a,b)::σ,h=>by
  simp only [jV,akw]at h;simp only [cM]
  have sub:∀{σ:List (Nat × Nat)} {x:Nat},x∈jV (cM S1 σ)->x∈jV σ:=by
   intro σ
   induction σ with
   |nil=>intro x hx;exact hx
   |cons e σ ih=>
    intro x hx;obtain⟨i,j⟩:=e;simp only [cM]at hx;split at hx
    ·simp only [jV,ajo]at hx ⊢
     exact hx.imp id ih
    ·simp only [jV,ajo];exact .inr (ih hx)
  split
  ·simp only [jV,akw]
   exact⟨λhm=>h.1 (sub hm),n5 h.2⟩
  ·exact n5 h.2
theorem vC(st:St M0 O M S w){σ:List (Nat × Nat)}(hσ:(jV σ).Nodup){S1:ak}(b5:∀i j,bf σ i=some j->(an S1 i).isSome)(aY:SS σ S1=true)(hS:∀j B,(j,B)∈tW σ S1->an S j=some B):
  ∃hw,St (eS (λi=>(bf σ i).bind O) M w hw) (λi=>(bf σ i).bind O) M S1 w/\(∀i,(an S1 i).isSome->∃j,bf σ i=some j/\(O j).isSome):=by
 have name:∀i B,an S1 i=some B->∃j,bf σ i=some j/\an S j=some (vB σ B)/\okB σ B=true:=λi B hB=>by
  have hm:=js hB;obtain⟨⟨j,hj⟩,hb⟩:=Hh aY hm;exact⟨j,hj,hS _ _ (vA hm hj),hb⟩
 have hd:∀i j,bf σ i=some j->(bf σ i).bind O=O j:=λi j h=>by rw [h];rfl
 have L4:∀i o,(bf σ i).bind O=some o->o.base=o:=λi o ho=>by
  cases hf:bf σ i with
  |none=>rw [hf]at ho;cases ho
  |some j=>
   rw [hf]at ho;obtain⟨B,hB⟩:=ajM.1 (b5 i j hf);obtain⟨j',h1,h2,h3⟩:=name i B hB;rw [hf]at h1;cases h1;exact(st.aZ j _ h2).base (λn r e=>by cases B<;>simp [vB]at e;simp [okB]at h3) ho
 have mL:∀i b,hasB (λi=>(bf σ i).bind O) i b->∃j,bf σ i=some j/\hasB O j b:=λi b hb=>by
  cases hf:bf σ i with
  |none=>simp [hasB,hf]at hb
  |some j=>exact⟨j,rfl,by simpa [hasB,hf]using hb⟩
 refine⟨λw' hs=>M0.hw w' (st.lS.trans hs λb off hb hm=>(by
  obtain⟨⟨k,hk⟩,h2⟩:=hm;obtain⟨j,_,hj⟩:=mL k b hk;exact⟨(st.fresh j b hj).resolve_left (Nat.not_le_of_lt hb),st.sub b off hb h2⟩)),⟨λi=>?_,λi B hB=>?_,λi i' b hi Aa=>?_,st.mlt,gH.refl _ _,λb off _ hm=>hm,λb off _ _ hm=>hm,λk b hk=>.inr ⟨k,hk⟩,λk o _ hk=>by rw [L4 k o hk];exact hk⟩,λi hi=>?_⟩
 ·cases hB:an S1 i with
  |none=>
   cases hf:bf σ i with
   |none=>rfl
   |some j=>have:=b5 i j hf;rw [hB]at this;cases this
  |some B=>
   obtain⟨j,h1,h3,_⟩:=name i B hB;show((bf σ i).bind O).isSome=_;rw [hd i j h1,st.gq j,h3];rfl
 ·obtain⟨j,h1,h3,h4⟩:=name i B hB
  have ZZ:=st.aZ j _ h3;cases B with
  |box l=>
   obtain⟨b,g1,cs,ty,g2,g3,g4⟩:=ZZ;exact⟨b,(hd i j h1).trans g1,cs,ty,g2,g3,nZ hd h4 g4⟩
  |map kd vk m=>
   obtain⟨b,g1,g2⟩:=ZZ;exact⟨b,(hd i j h1).trans g1,g2⟩
  |deep r hole=>simp [okB]at h4
  |dK=>simp [okB]at h4
  |mA=>simp [okB]at h4
  |vec wm r ov=>
   have ig:ov=[]:=by cases ov<;>first|rfl|(simp [okB]at h4)
   subst ig;obtain⟨⟨o,g1,g2,g3,g4,g5,g6⟩,_⟩:=ZZ;refine⟨⟨o,(hd i j h1).trans g1,g2,g3,g4,g5,?_⟩,.inl rfl⟩;cases fB:o.aZ with
   |none=>simp only [fB]at g6 ⊢;exact g6
   |some b=>simp only [fB]at g6 ⊢;exact g6
 ·obtain⟨j,h1,h2⟩:=mL i b hi
  obtain⟨j',O9,Hi⟩:=mL i' b Aa;obtain rfl:=st.inj _ _ _ h2 Hi;exact qs hσ h1 O9
 ·obtain⟨B,hB⟩:=ajM.1 hi
  obtain⟨j,h1,h3,_⟩:=name i B hB;exact⟨j,h1,by rw [st.gq j,h3];rfl⟩
theorem vD{Ok ρ1 ρ2:Env}{M2:a7}{w':World}{σ:List (Nat × Nat)}{S1 S2 Sk Sf:ak}{T:List AV}{a:Act}{ret:AV}{v:Value}(hσ:(jV σ).Nodup)(_hn2:(dq S2).Nodup)(GO:dz S2=true)(fV:CE (gone S1 S2 σ)=true)
  (ab4:∀i o,ρ1 i=some o->∃j,bf σ i=some j/\O j=some o) (W6:∀i j,(an S1 i).isSome->bf σ i=some j->ρ1 i=O j) (hk:Ok=iM O (gone S1 S2 σ)) (st0:St M0 O M S w) (st:St M0 Ok M Sk w) (tm:Tm Ok w M T a)
  {hw:Hj ρ1 M w} (st2:St (eS ρ1 M w hw) ρ2 M2 S2 w') (hv:aC ρ2 w' M2 ret v)
  (Wc:∀k,an Sf k=(match (dq S2).find? (λi=>bf σ i==some k)with|some i=>(an S2 i).map (vB σ)|none=>an Sk k)):
  ∃O',St M0 O' M2 Sf w'/\Tm O' w' M2 T a/\aC O' w' M2 (L3 σ ret) v:=by
 let nm:Nat->Option Nat:=λk=>(dq S2).find? (λi=>bf σ i==some k)
 have nm_some:∀{k i},nm k=some i->i∈dq S2/\bf σ i=some k:=λ{k i} h=>⟨List.mem_of_find?_eq_some h,by have:=List.find?_some h;simpa using this⟩
 have nm_of:∀{k i},(an S2 i).isSome->bf σ i=some k->nm k=some i:=λ{k i} h1 h2=>by
  cases hn:nm k with
  |none=>
   obtain⟨B,hB⟩:=ajM.1 h1;have:=List.find?_eq_none.1 hn i (Hg (js hB));simp [h2]at this
  |some i'=>
   obtain⟨_,h3⟩:=nm_some hn;rw [qs hσ h3 h2]
 let O':Env:=λk=>match nm k with|some i=>ρ2 i|none=>Ok k
 have L5:∀b,(eS ρ1 M w hw).pe b->∃j,hasB O j b:=λb ⟨i,hi⟩=>by
  cases ho:ρ1 i with
  |none=>simp [hasB,ho]at hi
  |some o=>
   obtain⟨j,_,h2⟩:=ab4 i o ho;exact⟨j,by simpa [hasB,h2,ho]using hi⟩
 have keepρ:∀k o,Ok k=some o->O' k=some o:=λk o ho=>by
  show(match nm k with|some i=>ρ2 i|none=>Ok k)=some o;cases hn:nm k with
  |none=>exact ho
  |some i=>
   obtain⟨h1,h2⟩:=nm_some hn;rcases qt (S1:=S1) (S2:=S2) (n4 h2)with h3|⟨h3,h4,h5⟩
   ·rw [hk]at ho;simp [iM,h3]at ho
   ·have hs:(ρ2 i).isSome:=by rw [st2.gq i];exact h4
    obtain⟨o2,Wd⟩:=ajM.1 hs;have h6:=st2.tV i o2 h5 Wd;obtain⟨B2,L6⟩:=ajM.1 h4;have h6:ρ1 i=some o2.base:=h6;rw [(st2.aZ i B2 L6).base (lU GO (js L6)) Wd]at h6;rw [W6 i k h3 h2]at h6
    have h7:Ok k=O k:=by
     rw [hk]at ho ⊢;simp only [iM]at ho ⊢;split at ho
     ·cases ho
     ·rename_i hng;rw [ajm hng]
    rw [h7,h6]at ho;show ρ2 i=some o;rw [Wd];exact ho
 have fwd:∀i j o,bf σ i=some j->ρ2 i=some o->O' j=some o:=λi j o h1 h2=>by
  have hs:(an S2 i).isSome:=by rw [<-st2.gq i,h2];rfl
  show(match nm j with|some i=>ρ2 i|none=>Ok j)=some o;rw [nm_of hs h1];exact h2
 have hkM:bE w M w' M2:=λb off c hc hm=>by
  have aX:=n6 hc;refine⟨st2.lS.cell hc (λhh=>hm hh.2),λh2=>hm (st2.sub b off aX h2)⟩
 have notlent:∀k b,nm k=none->hasB Ok k b->¬(eS ρ1 M w hw).pe b:=λk b hn hb ⟨i,hi⟩=>by
  have W7:Ok k=O k/\k∉gone S1 S2 σ:=by
   rw [hk]at hb ⊢
   by_cases hg:k∈gone S1 S2 σ
   ·simp [hasB,iM,hg]at hb
   ·exact⟨by simp [iM,hg],hg⟩
  cases ho:ρ1 i with
  |none=>simp [hasB,ho]at hi
  |some o=>
   obtain⟨j,h1,h2⟩:=ab4 i o ho;have hj:hasB O j b:=by simpa [hasB,h2,ho]using hi
   have KS:hasB O k b:=by simpa [hasB,W7.1]using hb
   obtain rfl:=st0.inj _ _ _ KS hj;rcases qt (S1:=S1) (S2:=S2) (n4 h1)with h3|⟨h3,h4,h5⟩
   ·exact W7.2 h3
   ·rw [nm_of h4 h1]at hn;cases hn
 have mL:∀k b,hasB O' k b->(∃i,nm k=some i/\hasB ρ2 i b)\/(nm k=none/\hasB Ok k b):=λk b hb=>by
  simp only [hasB,O']at hb;cases hn:nm k with
  |none=>rw [hn]at hb;exact .inr ⟨rfl,hb⟩
  |some i=>rw [hn]at hb;exact .inl ⟨i,rfl,hb⟩
 have s6:∀b,b<w.heap.size->¬(eS ρ1 M w hw).pe b->w'.heap[b]? =w.heap[b]?/\∀off,M2 b off↔M b off:=λb hb hl=>by
  refine⟨?_,λoff=>⟨λh=>st2.sub b off hb h,λh=>st2.eI b off hb hl h⟩⟩;rcases st2.lS.2 b hb with h|⟨cs,cs',ty,h1,h2,h3,h4⟩|⟨_,_,_,_,_,_,hh⟩
  ·exact h
  ·rw [h1,h2]
   have:cs'=cs:=Array.ext_getElem? λi=>h4 i (λhh=>hl hh.1);rw [this]
  ·exact absurd hh.1 hl
 refine⟨O',⟨λk=>?_,λk B hB=>?_,λi j b hi hj=>?_,st2.mlt,st.lS.trans st2.lS (λb off hb hm=>?_),λb off hb hm=>?_,λb off hb hl hm=>?_,λk b hb=>?_,λk o hl ho=>?_⟩,
  ⟨tm.defers,tm.size,λi=>aC.keep hkM keepρ (tm.tmp i)⟩,L1 fwd hv⟩
 ·rw [Wc k]
  show(match nm k with|some i=>ρ2 i|none=>Ok k).isSome=(match nm k with|some i=>_|none=>_:Option dQ).isSome;cases hn:nm k with
  |none=>exact st.gq k
  |some i=>simp only [Option.isSome_map];exact st2.gq i
 ·rw [Wc k]at hB
  change (match nm k with|some i=>_|none=>_:Option dQ)=some B at hB
  cases hn:nm k with
  |none=>
   rw [hn]at hB;have W7:O' k=Ok k:=by show(match nm k with|some i=>ρ2 i|none=>Ok k)=_;rw [hn]
   have h1:=eR.ext (O':=O') (w':=w') (M':=M2) hkM keepρ (λb hb=>s6 b (e8 st hb) (notlent k b hn hb)) (st.aZ k B hB);exact h1
  |some i=>
   rw [hn]at hB;replace hB:(an S2 i).map (vB σ)=some B:=hB;obtain⟨OZ,xF⟩:=nm_some hn;cases L6:an S2 i with
   |none=>rw [L6]at hB;cases hB
   |some B2=>
    rw [L6]at hB;cases hB;have KU:=st2.aZ i B2 L6;cases B2 with
    |box l=>
     obtain⟨b,g1,cs,ty,g2,g3,g4⟩:=KU;exact⟨b,fwd i k _ xF g1,cs,ty,g2,g3,na fwd g4⟩
    |map kd vk m=>
     obtain⟨b,g1,g2⟩:=KU;exact⟨b,fwd i k _ xF g1,g2⟩
    |deep r hole=>
     obtain⟨o,rows,g1,g2⟩:=KU;exact⟨o,rows,fwd i k _ xF g1,g2⟩
    |dK n r=>exact absurd rfl (lU GO (js L6) n r)
    |mA n z=>
     obtain⟨o,g1,g2⟩:=KU;exact⟨o,fwd i k _ xF g1,g2⟩
    |vec wm r ov=>
     obtain rfl:=vz GO (js L6) wm r ov rfl;obtain⟨⟨o,g1,g2,g3,g4,g5,g6⟩,_⟩:=KU;refine⟨⟨o,fwd i k _ xF g1,g2,g3,g4,g5,?_⟩,.inl rfl⟩;cases fB:o.aZ with
     |none=>simp only [fB]at g6 ⊢;exact g6
     |some b=>simp only [fB]at g6 ⊢;exact g6
 ·rcases mL i b hi with ⟨x,hx,Pa⟩|⟨hx,Pa⟩<;>rcases mL j b hj with ⟨y,hy,We⟩|⟨hy,We⟩
  ·obtain rfl:=st2.inj _ _ _ Pa We
   have h1:=(nm_some hx).2;rw [(nm_some hy).2]at h1;exact(ajN h1).symm
  ·have aX:=e8 st We
   exact absurd ((st2.fresh x b Pa).resolve_left (Nat.not_le_of_lt aX)) (notlent j b hy We)
  ·have aX:=e8 st Pa
   exact absurd ((st2.fresh y b We).resolve_left (Nat.not_le_of_lt aX)) (notlent i b hx Pa)
  ·exact st.inj _ _ _ Pa We
 ·obtain⟨j,hj⟩:=L5 b hm.1
  have zP:M b off:=hm.2;exact⟨(st0.fresh j b hj).resolve_left (Nat.not_le_of_lt hb),st0.sub b off hb zP⟩
 ·exact st.sub b off hb (st2.sub b off (ajT hb st.lS.1) hm)
 ·refine st2.eI b off (ajT hb st.lS.1) (λhh=>?_) (st.eI b off hb hl hm)
  obtain⟨j,hj⟩:=L5 b hh;exact st0.iv hb hl hj
 ·rcases mL k b hb with ⟨x,hx,Pa⟩|⟨hx,Pa⟩
  ·rcases st2.fresh x b Pa with h|h
   ·exact .inl (ajW st.lS.1 h)
   ·obtain⟨j,hj⟩:=L5 b h
    exact st0.fresh j b hj
  ·exact st.fresh k b Pa
 ·have ho:(match nm k with|some i=>ρ2 i|none=>Ok k)=some o:=ho
  cases hn:nm k with
  |none=>rw [hn]at ho;exact st.tV k o hl ho
  |some i=>
   rw [hn]at ho;obtain⟨h1,h2⟩:=nm_some hn;rcases qt (S1:=S1) (S2:=S2) (n4 h2)with h3|⟨h3,h4,h5⟩
   ·rw [CD fV k h3]at hl;cases hl
   ·have h6:ρ1 i=some o.base:=st2.tV i o h5 ho
    obtain⟨B2,L6⟩:=ajM.1 h4;rw [(st2.aZ i B2 L6).base (lU GO (js L6)) ho]at h6;rw [W6 i k h3 h2]at h6;exact st0.tV k o hl h6
theorem vE{F:Spec}(hF:ck P F){f:FuncId}{xs:List Operand}{x:Operand}{T:List AV}{K:AV->List AV->ak->Prop}(h:vF F f xs x T S K):eJ P f:=by
 rcases h with ⟨fz,σ,S1,as2,ret,S2,hf,_⟩|⟨fz,σ,S1,as2,X,ret,S2,ok,hf,_⟩
 ·exact(hF.m f as2 S1 ret S2 hf).1
 ·exact(hF.n f as2 S1 X ret S2 ok hf).1
theorem CG{F:Spec}(hF:ck P F){f:FuncId}{xs:List Operand}{x:Operand}{T:List AV}{K:AV->List AV->ak->Prop}{a:Act}(h:L7 F f xs x T S K)(st:St M0 O M S w)(tm:Tm O w M T a):
  ∃cs:List Value,a.eval x= .func (.func f) #[] cs.toArray/\Calls P f (xs.map a.eval++cs).toArray w λe w'=>∃u,e= .returned u/\∃O' M' T' S' v,K v T' S'/\St M0 O' M' S' w'/\Tm O' w' M' T' a/\T'.length=T.length/\aC O' w' M' v u:=by
 obtain⟨fz,σ,S1,as2,X,ret,S2,okz,hf,h⟩:=h;rw [aq]at h;obtain⟨aY,h⟩:=h
 have Uv:(lT (dq σ)=true/\lT (jV σ)=true/\lT (dq S1)=true)/\KR (cM S1 σ) as2=true/\SS (cM S1 σ) S1=true:=by
  unfold okN at aY;split at aY
  ·rename_i h1 h2 h3
   split at aY
   ·rename_i h5 h6;exact⟨⟨h1,h2,h3⟩,h5,h6⟩
   ·cases aY
  ·cases aY
 obtain⟨⟨d1,d2,d3⟩,SU,ok2⟩:=Uv;have hσ:=dI d2;obtain⟨T1,Sa,ρa,Ma,hh,sta,tma,Z0,_⟩:=fi h st tm;clear h;simp only [dA,Qg,aD]at hh;split at hh
 ·rename_i g cap hx
  rw [aq]at hh;obtain⟨hg,h⟩:=hh;obtain rfl:=aA.1 hg;obtain⟨S',h,_,L8⟩:=sb h;rw [aq]at h;obtain⟨nf,⟨hle,bw⟩,h⟩:=h;have db:=a8 tma x;rw [hx]at db;obtain⟨cs,db,bU⟩:=db;refine⟨cs.toList,by simpa using db,?_⟩;have b5:∀i j,bf (cM S1 σ) i=some j->(an S1 i).isSome:=λi j mR=>(jt.1 mR).1;have W8:=n5 (S1:=S1) hσ;have stb:=Ak sta hle;have tmb:Tm (c9 Sa S' ρa) w (eD S' ρa Ma) T1 a:=⟨tma.defers,tma.size,λi=>kf (λk hk hρ=>by rw [sta.gq k]at hρ;exact hρ) i nf (tma.tmp i)⟩
  have Z1:aM (aC (c9 Sa S' ρa) w (eD S' ρa Ma)) (yF (cM S1 σ) as2) (xs.map a.eval++cs.toList):=by
   refine pd sta bw ?_
   rw [show kI (xs.map (aT T1)) cap=xs.map (aT T1)++cap from by
    have:∀l m:List AV,kI l m=l++m:=λl m=>by induction l with|nil=>rfl|cons a l ih=>simp [kI,ih]
    exact this _ _]
   refine aM.append ?_ (bU.imp λ_ _=>cK)
   have:∀xs:List Operand,aM (aC ρa w Ma) (xs.map (aT T1)) (xs.map a.eval):=λxs=>by
    induction xs with
    |nil=>trivial
    |cons y ys ih=>exact⟨a8 tma y,ih⟩
   exact this xs
  obtain⟨xJ,st1,Z2⟩:=vC stb W8 b5 ok2 (λj B hm=>L8 (lV W8 (dI d3)) j B hm);have Uw:=lj (ρ1:=λi=>(bf (cM S1 σ) i).bind (c9 Sa S' ρa)) (λi j mR=>by simp only [mR];rfl) SU Z1;refine((hF.n g as2 S1 X ret S2 okz hf).2 _ _ w _ xJ st1 Uw).mono λe w' ⟨z,hz,v,ρ2,M2,he,st2,hv⟩=>⟨v,he,?_⟩;have h:=h z hz;rw [aq]at h;obtain⟨An,h⟩:=h
  have W9:lT (dq (S2 z))=true/\dz (S2 z)=true/\CE (gone S1 (S2 z) σ)=true:=by
   unfold Xa at An;split at An
   ·rename_i h1 h2 h3;exact⟨h1,h2,h3⟩
   ·cases An
  obtain⟨d4,ok3,ok4⟩:=W9;obtain⟨Tk,Sk,h,dK,tmk,L9⟩:=kG h stb tmb;obtain⟨Sf,hK,Wc⟩:=sc hσ (dI d4) h
  obtain⟨O',g1,g2,g3⟩:=vD (σ:=σ) (S1:=S1) (S2:=S2 z) (Sf:=Sf) (O:=c9 Sa S' ρa) hσ (dI d4) ok3 ok4 (λi o hi=>by
   cases mR:bf (cM S1 σ) i with
   |none=>simp [mR]at hi
   |some j=>exact⟨j,(jt.1 mR).2,by simpa [mR]using hi⟩) (λi j hs mR=>by
   have:bf (cM S1 σ) i=some j:=jt.2 ⟨hs,mR⟩;simp [this]) rfl stb dK tmk st2 hv Wc
  exact⟨O',M2,Tk,Sf,_,hK,g1,g2,L9.trans Z0,g3⟩
 ·exact hh.elim
theorem CH{F:Spec}(hF:ck P F){f:FuncId}{xs:List Operand}{x:Operand}{T:List AV}{K:AV->List AV->ak->Prop}{a:Act}(h:vF F f xs x T S K)(st:St M0 O M S w)(tm:Tm O w M T a):
  ∃cs:List Value,a.eval x= .func (.func f) #[] cs.toArray/\Calls P f (xs.map a.eval++cs).toArray w λe w'=>∃u,e= .returned u/\∃O' M' T' S' v,K v T' S'/\St M0 O' M' S' w'/\Tm O' w' M' T' a/\T'.length=T.length/\aC O' w' M' v u:=by
 rcases h with ⟨fz,σ,S1,as2,ret,S2,hf,h⟩|h
 rotate_left
 ·exact CG hF h st tm
 rw [aq]at h;obtain⟨aY,h⟩:=h
 have Uv:(lT (dq σ)=true/\lT (jV σ)=true/\lT (dq S1)=true/\lT (dq S2)=true)/\KR (cM S1 σ) as2=true/\SS (cM S1 σ) S1=true/\dz S2=true/\CE (gone S1 S2 σ)=true:=by
  unfold okM at aY;split at aY
  ·rename_i h1 h2 h3 h4
   split at aY
   ·rename_i h5 h6 h7 h8;exact⟨⟨h1,h2,h3,h4⟩,h5,h6,h7,h8⟩
   ·cases aY
  ·cases aY
 obtain⟨⟨d1,d2,d3,d4⟩,SU,ok2,ok3,ok4⟩:=Uv;have hσ:=dI d2;obtain⟨T1,Sa,ρa,Ma,hh,sta,tma,Z0,_⟩:=fi h st tm;clear h;simp only [dA,Qg,aD]at hh;split at hh
 ·rename_i g cap hx
  rw [aq]at hh;obtain⟨hg,h⟩:=hh;obtain rfl:=aA.1 hg;obtain⟨S',h,_,L8⟩:=sb h;rw [aq]at h;obtain⟨nf,⟨hle,bw⟩,h⟩:=h;have db:=a8 tma x;rw [hx]at db;obtain⟨cs,db,bU⟩:=db;refine⟨cs.toList,by simpa using db,?_⟩;have b5:∀i j,bf (cM S1 σ) i=some j->(an S1 i).isSome:=λi j mR=>(jt.1 mR).1;have W8:=n5 (S1:=S1) hσ;have stb:=Ak sta hle;have tmb:Tm (c9 Sa S' ρa) w (eD S' ρa Ma) T1 a:=⟨tma.defers,tma.size,λi=>kf (λk hk hρ=>by rw [sta.gq k]at hρ;exact hρ) i nf (tma.tmp i)⟩
  have Z1:aM (aC (c9 Sa S' ρa) w (eD S' ρa Ma)) (yF (cM S1 σ) as2) (xs.map a.eval++cs.toList):=by
   refine pd sta bw ?_
   rw [show kI (xs.map (aT T1)) cap=xs.map (aT T1)++cap from by
    have:∀l m:List AV,kI l m=l++m:=λl m=>by induction l with|nil=>rfl|cons a l ih=>simp [kI,ih]
    exact this _ _]
   refine aM.append ?_ (bU.imp λ_ _=>cK)
   have:∀xs:List Operand,aM (aC ρa w Ma) (xs.map (aT T1)) (xs.map a.eval):=λxs=>by
    induction xs with
    |nil=>trivial
    |cons y ys ih=>exact⟨a8 tma y,ih⟩
   exact this xs
  obtain⟨xJ,st1,Z2⟩:=vC stb W8 b5 ok2 (λj B hm=>L8 (lV W8 (dI d3)) j B hm);have Uw:=lj (ρ1:=λi=>(bf (cM S1 σ) i).bind (c9 Sa S' ρa)) (λi j mR=>by simp only [mR];rfl) SU Z1;obtain⟨Tk,Sk,h,dK,tmk,L9⟩:=kG h stb tmb;refine((hF.m g as2 S1 ret S2 hf).2 _ _ w _ xJ st1 Uw).mono λe w' ⟨v,ρ2,M2,he,st2,hv⟩=>⟨v,he,?_⟩;obtain⟨Sf,hK,Wc⟩:=sc hσ (dI d4) h
  obtain⟨O',g1,g2,g3⟩:=vD (σ:=σ) (S1:=S1) (S2:=S2) (Sf:=Sf) (O:=c9 Sa S' ρa) hσ (dI d4) ok3 ok4 (λi o hi=>by
   cases mR:bf (cM S1 σ) i with
   |none=>simp [mR]at hi
   |some j=>exact⟨j,(jt.1 mR).2,by simpa [mR]using hi⟩) (λi j hs mR=>by
   have:bf (cM S1 σ) i=some j:=jt.2 ⟨hs,mR⟩;simp [this]) rfl stb dK tmk st2 hv Wc
  exact⟨O',M2,Tk,Sf,_,hK,g1,g2,L9.trans Z0,g3⟩
 ·exact hh.elim
end
section
variable{P:Program}{TY:List cV}{w0 w:World}{M0:eE w0}{O:Env}{M:a7}{S S0:ak}{d:Nat}
theorem lk{O O':Env}{w w':World}{M M':a7}(hk:bE w M w' M'):∀{l:List AV} {vs:List Value},yH l=true->aM (aJ O w M) l vs->aM (aJ O' w' M') l vs
 |[],[],_,_=>trivial
 |[],_::_,_,h=>h.elim
 |_::_,[],_,h=>h.elim
 |a::l,v::vs,hi,h=>by
  cases a<;>try (cases hi;done)
  ·exact⟨h.1,lk hk hi h.2⟩
  ·exact⟨h.1,lk hk hi h.2⟩
  ·exact⟨bd.keep hk h.1,lk hk hi h.2⟩
  ·exact⟨h.1,lk hk hi h.2⟩
theorem vG{O O':Env}{w w':World}{M M':a7}{a:AV}{v:Value}(hp:pf a=true)(hk:bE w M w' M')(h:aC O w M a v):aC O' w' M' a v:=by
 cases a<;>try (cases hp;done)
 case ro r=>exact bd.keep hk h
 case agg l=>obtain⟨cs,h1,h2⟩:=h;exact⟨cs,h1,lk hk hp h2⟩
 all_goals exact h
theorem pg{a:Act}:∀{l:List AV} {T:List AV} {S:ak} {O:Env} {M:a7} {K:List AV->List AV->ak->Prop} {vs:List Value},vH l T S K->St M0 O M S w->Tm O w M T a->
  (∀(i:Nat) (x:AV) (v:Value),l[i]? =some x->vs[i]? =some v->pf x=true->aC O w M x v)->(∀(i:Nat) (k:Nat) (v:Value),l[i]? =some (AV.vec k)->vs[i]? =some v->(an S k).isSome->aJ O w M (.vec k) v)->l.length=vs.length->
  ∃l' T' S' O' M',K l' T' S'/\St M0 O' M' S' w/\Tm O' w M' T' a/\T'.length=T.length/\aM (aC O' w M') l' vs/\(∀x∈l',pf x=true)/\bE w M w M'
 |[],T,S,O,M,K,vs,h,st,tm,_,_,hl=>by
  have:vs=[]:=akj hl.symm;subst this;exact⟨[],T,S,O,M,h,st,tm,rfl,ag,by simp,bE.refl _ _⟩
 |x::l,T,S,O,M,K,vs,h,st,tm,hp,hv,hl=>by
  cases vs with
  |nil=>simp at hl
  |cons v vs=>
   have n7:l.length=vs.length:=by simpa using hl
   have plain:pf x=true->(vH l T S λm T S=>K (x::m) T S)->∃l' T' S' O' M',K l' T' S'/\St M0 O' M' S' w/\Tm O' w M' T' a/\T'.length=T.length/\aM (aC O' w M') l' (v::vs)/\(∀x∈l',pf x=true)/\bE w M w M':=by
    intro hx h;obtain⟨l',T',S',O',M',h1,h2,h3,h4,h5,h6,h7⟩:=pg (K:=λm T S=>K (x::m) T S) h st tm (λi y u hy hu=>hp (i+1) y u (by simpa using hy) (by simpa using hu)) (λi k u hy hu=>hv (i+1) k u (by simpa using hy) (by simpa using hu)) n7;refine⟨x::l',T',S',O',M',h1,h2,h3,h4,⟨vG hx h7 (hp 0 x v rfl rfl hx),h5⟩,λy hy=>?_,h7⟩;rcases ajo.1 hy with rfl|hy
    ·exact hx
    ·exact h6 y hy
   cases x with
   |vec k=>
    simp only [vH]at h;split at h
    ·rename_i wm r hf
     obtain⟨B',r',⟨Qh,Fj⟩,T1,S1,g1,g2,g3,g4,g5⟩:=qu h st tm;rw [hf]at Qh;cases Qh;simp only [oD,Option.some.injEq]at Fj;subst Fj
     have Xb:an S1 k=none:=by
      have:=g2.gq k;cases hh:an S1 k with
      |none=>rfl
      |some B=>rw [hh]at this;simp [aV]at this
     obtain⟨l',T',S',O',M',h1,h2,h3,h4,h5,h6,h7⟩:=pg (K:=λm T S=>K (.ro r::m) T S) g1 g2 g3
      (λi y u hy hu gw=>vG gw (jg _ _ _ _) (hp (i+1) y u (by simpa using hy) (by simpa using hu) gw))
      (λi j u hy hu hs=>by
       have dL:j≠k:=λe=>by subst e;rw [Xb]at hs;cases hs
       have xU:(an S j).isSome:=by
        have h1:=g2.gq j;rw [hs]at h1;rw [<-st.gq j];simpa [aV,dL]using h1
       obtain⟨o,h1,h2⟩:=hv (i+1) j u (by simpa using hy) (by simpa using hu) xU;exact⟨o,by simpa [aV,dL]using h1,h2⟩) n7
     have hro:bd w (dB M O k) r v:=g5 v (hv 0 k v rfl rfl (by rw [hf];rfl));refine⟨.ro r::l',T',S',O',M',h1,h2,h3,h4.trans g4,⟨bd.keep h7 hro,h5⟩,λy hy=>?_,λb off c hc hm=>h7 b off c hc λYO=>hm YO.1⟩;rcases ajo.1 hy with rfl|hy
     ·rfl
     ·exact h6 y hy
    ·exact h.elim
   |_=>
    simp only [vH,aq]at h;exact plain h.1 h.2
theorem Jg{A s t:Nat}{c l m X:List Value}(hl:l.length=A)(hm:m.length=s):
  (l++(m++c.drop (A+s))).take (A+s)++(X++(l++(m++c.drop (A+s))).drop (A+s+t))=l++(m++(X++c.drop (A+s+t))):=by
 have YS:(l++m).length=A+s:=by simp [hl,hm]
 rw [<-List.append_assoc l m,<-YS,List.take_left,List.drop_append,List.drop_of_length_le aa];simp [List.drop_drop,List.append_assoc]
theorem ph{sz:Nat}:∀{ps:List (Nat × Operand)} {n:Nat} {K:List Operand->Prop},pk n ps K->∀(e:Operand->Value) (cells:Array Value),(∀x∈ps.map (·.2),(e x).cells.size=sz)->(n+ps.length)*sz<=cells.size->
  ∃cells',Instr.fill (λi=>some (i*sz,sz)) cells (ps.map λ(i,x)=>(i,e x))=some cells'/\
   cells'.toList=cells.toList.take (n*sz)++(((ps.map (·.2)).flatMap λx=>(e x).cells.toList)++cells.toList.drop ((n+ps.length)*sz))
 |[],n,K,_,e,cells,_,_=>⟨cells,rfl,by simp⟩
 |(i,x)::ps,n,K,h,e,cells,hs,hle=>by
  simp only [pk]at h;split at h
  ·rename_i hb
   obtain rfl:=aA.1 hb;have hx:=hs x (by simp)
   have Z3:i*sz+sz+ps.length*sz<=cells.size:=by
    have:(i+(ps.length+1))*sz=i*sz+sz+ps.length*sz:=by simp only [ake,Nat.one_mul];omega
    simp only [ajY]at hle;omega
   have CI:=qw (i*sz) (e x).cells.toList 0 cells (by simp [hx];omega)
   have fD:(((e x).cells.zipIdx.foldl (λcs (c,j)=>cs.setIfInBounds (i*sz+j) c) cells).toList)=cells.toList.take (i*sz)++((e x).cells.toList++cells.toList.drop (i*sz+sz)):=by
    rw [<-Array.foldl_toList,Array.toList_zipIdx]
    simpa [hx]using CI
   have Z4:((e x).cells.zipIdx.foldl (λcs (c,j)=>cs.setIfInBounds (i*sz+j) c) cells).size=cells.size:=by
    rw [<-ajw,fD];simp [hx];omega
   obtain⟨cells',h1,h2⟩:=ph h e ((e x).cells.zipIdx.foldl (λcs (c,j)=>cs.setIfInBounds (i*sz+j) c) cells) (λy hy=>hs y (by simp at hy ⊢;exact .inr hy))
    (by rw [Z4];simp only [ake,Nat.one_mul];omega)
   refine⟨cells',?_,?_⟩
   ·simp only [akd,Instr.fill]
    rw [ajm]
    ·exact h1
    ·simp only [Bool.or_eq_true,decide_eq_true_eq,not_or,ne_eq,Decidable.not_not]
     exact⟨hx,aa⟩
   ·rw [h2,fD]
    have e1:(i+1)*sz=i*sz+sz:=by simp [Nat.add_mul]
    have e2:(i+1+ps.length)*sz=(i+(ps.length+1))*sz:=by congr 1;omega
    have e3:(i+(ps.length+1))*sz=i*sz+sz+ps.length*sz:=by simp only [ake,Nat.one_mul];omega
    rw [e1,e2,e3,Jg (by simp;omega) (by simp [hx])];simp only [akd,List.flatMap_cons,ajY,List.append_assoc,e3]
  ·exact h.elim
theorem se(az:aR P TY){F:Spec}{t n:Nat}{ps:Array (Nat × Operand)}{T:List AV}{K:AV->List AV->ak->Prop}{a:Act}{oo:Oper}(h:xW TY F d (.buildSlice t n ps) T S K)
  (ho:oo.op= .buildSlice t n ps) (st:St M0 O M S w) (tm:Tm O w M T a):fj P (execOp a.eval oo) w (bM w0 M0 a T.length K):=by
 simp only [xW,bS]at h;split at h
 ·rename_i e hd
  rw [aq,aq]at h;obtain⟨vI,hn,h⟩:=h;rw [Nat.ble_eq]at hn;have Fk:=h;have h:=(si h).1;split at h
  ·rename_i hlen
   have hlen:=sj hlen;rw [dA]at h
   have SV:∀(i:Nat) (x:AV) (v:Value),((ps.toList.map (·.2)).map (aT T))[i]? =some x->((ps.toList.map (·.2)).map a.eval)[i]? =some v->aC O w M x v:=λi x v hx hv=>by
    simp only [List.map_map,ajR,Option.map_eq_some_iff,Function.comp]at hx hv;obtain⟨p,h1,rfl⟩:=hx;obtain⟨p',h2,rfl⟩:=hv;rw [h1]at h2;cases h2;exact a8 tm p.2
   obtain⟨l',T1,S1,ρ1,M1,h,st1,tm1,Qi,bg,gw,_⟩:=pg (vs:=(ps.toList.map (·.2)).map a.eval) h st tm (λi x v hx hv _=>SV i x v hx hv) (λi k v hx hv _=>SV i _ v hx hv) (by simp);obtain⟨r0,h,s7,i,z,hi,gE,bu,tY,xX,_⟩:=ng (n:=0) az vI h;obtain⟨r,h,mV,Xc,cT⟩:=ni h;rw [aq]at h;obtain⟨aY,h⟩:=h;obtain⟨e',iK,hu,oT,aH⟩:=bW az aY;rw [hd]at iK;cases iK;obtain⟨xO,bU⟩:=cT ρ1 w M1 _ bg;have Fl:l'.length=n:=by rw [bg.length,ajS,hlen]
   have Fm:ps.toList.length=n:=by rw [<-hlen];simp
   have Qj:r.len=n:=by rw [mV,s7,Fl];omega
   have Ux:i.size=r.sz:=by rw [bu,oT]
   have Z5:n*i.size<=16777216:=by
    rw [bu];omega
   have hn:n<=16000000:=by
    have:=r.e9;have h1:n*1<=n*i.size:=Nat.mul_le_mul_left _ aa;rw [bu]at h1;omega
   obtain⟨cells',SW,Xd⟩:=ph (sz:=i.size) Fk a.eval ((Array.range (n*i.size)).map λj=>((if n*i.size=0 then #[] else z.cells):Array Value)[j % ((if n*i.size=0 then #[] else z.cells):Array Value).size]!)
    (λx hx=>by
     have:=xO (a.eval x) (ajU.2 ⟨x,hx,rfl⟩);rw [this,Ux,Xc]) (by simp [Fm])
   have Mb:cells'.toList=(ps.toList.map (·.2)).flatMap λx=>(a.eval x).cells.toList:=by
    rw [Xd];rw [List.drop_of_length_le (by simp [Fm])];simp
   have oE:cells'.size=n*r.sz:=by
    rw [<-ajw,Mb,List.length_flatMap]
    have:((ps.toList.map (·.2)).map λx=>(a.eval x).cells.toList.length)=(ps.toList.map (·.2)).map λ_=>r.sz:=by
     refine List.map_congr_left λx hx=>?_;have:=xO (a.eval x) (ajU.2 ⟨x,hx,rfl⟩);rw [ajw,this,Xc]
    rw [this,List.map_const',ajS,Fm,List.sum_replicate_nat]
   obtain⟨T',S',O',M',q1,q2,q3,q4,q5⟩:=iY h st1 tm1 (w':=w.alloc (.cells cells' e)) (cs:=cells') (ty:=e) (cap:=n) (wm:=0) (r:=r) rfl (by first|exact kg.refl _|exact⟨⟨rfl,rfl⟩,rfl,akg _⟩) oE aa (by simp only [LB];omega) (ajk _)
    (λq hq=>by
     have aX:q<cells'.size:=by rw [oE,<-Qj];exact hq
     refine⟨cells'[q],by simp [aX],bU q _ ?_⟩;have h0:r0.cells=0:=by simp [RO.cells,s7]
     rw [ajm aa,h0,Nat.sub_zero,List.flatMap_map,<-Mb,ajt];simp [aX])
   refine .val (v:=.slice (some ⟨w.heap.size,0,none⟩) n n) (w':=w.alloc (.cells cells' e)) ?_ ⟨O',M',T',_,_,q1,q2,q3,by rw [q4,Qi],_,iR q5,by simp [Sl.val,Qj]⟩;have cd:(underlying t).run P w= .ok (.slice e) w:=by simp [underlying,hu]
   have mM:(zeroValue e).run P w= .ok z w:=by simp [zeroValue,typeInfo,hi,gE]
   have tT:(sizeOf e).run P w= .ok i.size w:=by rw [aH.size,bu]
   have Ao:Instr.fill (λj=>some (j*i.size,i.size)) ((Array.range (n*i.size)).map λj=>((if n*i.size=0 then #[] else z.cells):Array Value)[j % ((if n*i.size=0 then #[] else z.cells):Array Value).size]!) (ps.map λ(j,x)=>(j,a.eval x)).toList=some cells':=by
    rw [Array.toList_map];exact SW
   by_cases h0:n*i.size=0
   ·simp [h0]at Ao
    simp [execOp,ho,Instr.buildSlice,cd,tT,h0,Ao,newRow]
   ·simp [h0]at Ao
    have:¬n*i.size>2 ^ 24:=aa;simp [execOp,ho,Instr.buildSlice,cd,tT,h0,this,mM,Ao,newRow]
  ·exact h.elim
 ·exact h.elim
theorem Ap(az:aR P TY){F:Spec}{t n:Nat}{ps:Array (Nat × Operand)}{T:List AV}{K:AV->Option dQ->Prop}(h:qK TY F d (.buildSlice t n ps) T S0 K):∃v B,K v B/\QS P d (.buildSlice t n ps) T S0 v B:=by
 simp only [qK]at h;split at h
 ·rename_i e hd
  rw [aq,aq]at h;obtain⟨vI,hn,h⟩:=h;rw [Nat.ble_eq]at hn;have Fk:=h;have h:=(si h).1;split at h
  ·rename_i hlen
   have hlen:=sj hlen;rw [dA,aq]at h;obtain⟨_,h⟩:=h;obtain⟨r0,h,s7,i,z,hi,gE,bu,tY,xX,_⟩:=ng (n:=0) az vI h;obtain⟨r,h,mV,Xc,cT⟩:=ni h;rw [aq]at h;obtain⟨aY,h⟩:=h;obtain⟨e',iK,hu,oT,aH⟩:=bW az aY;rw [hd]at iK;cases iK;refine⟨_,_,h,λw0 M0 O M w S' ev oo ho hc st he Mc=>?_,λ_ hb=>by cases hb⟩
   have bg:aM (aC O w M) ((ps.toList.map (·.2)).map (aT T)) ((ps.toList.map (·.2)).map ev):=by
    have:∀l:List Operand,(∀x∈l,aC O w M (aT T x) (ev x))->aM (aC O w M) (l.map (aT T)) (l.map ev):=by
     intro l
     induction l with
     |nil=>exact λ_=>trivial
     |cons x l ih=>exact λhh=>⟨hh x (by simp),ih λy hy=>hh y (by simp [hy])⟩
    refine this _ λx hx=>he x ?_;simp only [Op.operands];obtain⟨p,hp,rfl⟩:=ajU.1 hx
    first|exact Array.mem_map.2 ⟨p,aj6.1 hp,rfl⟩|(simp;exact⟨p.1,by simpa using hp⟩)
   obtain⟨xO,bU⟩:=cT O w M _ bg;have Fl:((ps.toList.map (·.2)).map (aT T)).length=n:=by rw [bg.length,ajS,hlen]
   have Fm:ps.toList.length=n:=by rw [<-hlen];simp
   have Qj:r.len=n:=by rw [mV,s7,Fl];omega
   have Ux:i.size=r.sz:=by rw [bu,oT]
   have Z5:n*i.size<=16777216:=by
    rw [bu];omega
   have hn:n<=16000000:=by
    have:=r.e9;have h1:n*1<=n*i.size:=Nat.mul_le_mul_left _ aa;rw [bu]at h1;omega
   obtain⟨cells',SW,Xd⟩:=ph (sz:=i.size) Fk ev ((Array.range (n*i.size)).map λj=>((if n*i.size=0 then #[] else z.cells):Array Value)[j % ((if n*i.size=0 then #[] else z.cells):Array Value).size]!)
    (λx hx=>by
     have:=xO (ev x) (ajU.2 ⟨x,hx,rfl⟩);rw [this,Ux,Xc]) (by simp [Fm])
   have Mb:cells'.toList=(ps.toList.map (·.2)).flatMap λx=>(ev x).cells.toList:=by
    rw [Xd];rw [List.drop_of_length_le (by simp [Fm])];simp
   have oE:cells'.size=n*r.sz:=by
    rw [<-ajw,Mb,List.length_flatMap]
    have:((ps.toList.map (·.2)).map λx=>(ev x).cells.toList.length)=(ps.toList.map (·.2)).map λ_=>r.sz:=by
     refine List.map_congr_left λx hx=>?_;have:=xO (ev x) (ajU.2 ⟨x,hx,rfl⟩);rw [ajw,this,Xc]
    rw [this,List.map_const',ajS,Fm,List.sum_replicate_nat]
   obtain⟨O',M',g1,g2,g3,g4⟩:=st.push (w':=w.alloc (.cells cells' e)) (cs:=cells') (ty:=e) (own:=.sl ⟨some w.heap.size,r.len,n,r.sz⟩) (B:=.vec 0 r []) (Mc (by simp)).1 (Mc (by simp)).2 rfl (by first|exact kg.refl _|exact⟨⟨rfl,rfl⟩,rfl,akg _⟩) (λ_ h=>(ajN h).symm)
    (λO' M' hρ hM hk fk=>⟨⟨_,hρ,rfl,rfl,by simp only [LB];omega,ajk _,by
     refine⟨by simp only;omega,cells',e,by show(w.heap.push _)[w.heap.size]? =_;simp,oE,λoff=>?_,λq hq=>?_⟩
     ·rw [hM off];simp
     ·have aX:q<cells'.size:=by rw [oE,<-Qj];exact hq
      refine⟨cells'[q],by simp [aX],ay.keep hk (bU q _ ?_)⟩;have h0:r0.cells=0:=by simp [RO.cells,s7]
      rw [ajm aa,h0,Nat.sub_zero,List.flatMap_map,<-Mb,ajt];simp [aX]⟩,.inl rfl⟩)
   refine .val (v:=.slice (some ⟨w.heap.size,0,none⟩) n n) (w':=w.alloc (.cells cells' e)) ?_ ⟨O',M',g1,⟨_,iR g2,by simp [Sl.val,Qj]⟩,g3,g4⟩;have cd:(underlying t).run P w= .ok (.slice e) w:=by simp [underlying,hu]
   have mM:(zeroValue e).run P w= .ok z w:=by simp [zeroValue,typeInfo,hi,gE]
   have tT:(sizeOf e).run P w= .ok i.size w:=by rw [aH.size,bu]
   have Ao:Instr.fill (λj=>some (j*i.size,i.size)) ((Array.range (n*i.size)).map λj=>((if n*i.size=0 then #[] else z.cells):Array Value)[j % ((if n*i.size=0 then #[] else z.cells):Array Value).size]!) (ps.map λ(j,x)=>(j,ev x)).toList=some cells':=by
    rw [Array.toList_map];exact SW
   by_cases h0:n*i.size=0
   ·simp [h0]at Ao
    simp [execOp,ho,Instr.buildSlice,cd,tT,h0,Ao,newRow]
   ·simp [h0]at Ao
    have:¬n*i.size>2 ^ 24:=aa;simp [execOp,ho,Instr.buildSlice,cd,tT,h0,this,mM,Ao,newRow]
  ·exact h.elim
 ·exact h.elim
theorem Xe{o:Sl}{r r':RO}(h:fp O w M o 0 r [])(hl:r'.len<=r.len)(hz:r'.sz=r.sz)(hc:∀q c,q<r'.cells->ay w M r q c->ay w M r' q c):fp O w M ⟨o.aZ,r'.len,o.cap,o.sz⟩ 0 r' []:=by
 obtain⟨k3,k4,k5,_,k7⟩:=h;refine⟨rfl,by rw [hz];exact k4,ajW hl k5,ajk _,?_⟩;cases hb:o.aZ with
 |none=>simp only [hb]at k7 ⊢;exact⟨aa,k7.2⟩
 |some b=>
  simp only [hb]at k7 ⊢;obtain⟨k8,cs,ty,k9,k10,k11,k12⟩:=k7;refine⟨aa,cs,ty,k9,k10,k11,λq hq=>?_⟩;have hle:r'.len*r'.sz<=r.len*r.sz:=by rw [hz];exact ajO _ hl
  obtain⟨c,h1,h2⟩:=k12 q (by simp only [RO.cells]at hq ⊢;omega);exact⟨c,h1,hc q c hq h2⟩
theorem fW{k:Nat}{T:List AV}{a:Act}{K:List AV->ak->Prop}(h:lh S k λS=>c6 k .any T λT=>cf k .any S λS=>K T S)(st:St M0 O M S w)(tm:Tm O w M T a)
  {ow ow':b6} (hk:O k=some ow) (Z6:∀b,ow'.has b->ow.has b) (L4:loc k=false->ow'.base=ow.base) {B:dQ} (hB:∀O',O' k=some ow'->eR O' w M k B):
  ∃T' S' O',K T' S'/\St M0 O' M ((k,B)::S') w/\Tm O' w M T' a/\T'.length=T.length/\O' k=some ow':=by
 have ho:∀b,ow'.has b->hasB O k b:=λb h=>by simp only [hasB,hk];exact Z6 b h
 exact(λ⟨T',S',g1,g2,g3,g4⟩=>⟨T',S',λj=>if j=k then some ow' else O j,g1,g2,g3,g4,by simp⟩)
  (fX h st tm (O':=λj=>if j=k then some ow' else O j) (w':=w) (M':=M) (B:=B) (bE.refl _ _) (λj hj=>by simp [hj]) (by simp) (λj hj b hb=>⟨rfl,λ_=>Iff.rfl⟩) (gH.refl _ _) st.mlt (λ_ _ _ hm=>hm) (λ_ _ _ _ hm=>hm) (λb cy=>st.fresh k b (ho b (by simpa [hasB]using cy)))
   (hB _ (by simp)) (λb cy j hj zY=>hj (st.inj _ _ _ zY (ho b (by simpa [hasB]using cy)))) (λow2 hl Wd=>by simp at Wd;subst Wd;rw [L4 hl];exact st.tV k ow hl hk))
theorem sk(az:aR P TY){t k:Nat}{x:Operand}{hi:Option Operand}{T:List AV}{K:AV->List AV->ak->Prop}{a:Act}{oo:Oper}(hx:aT T x= .vec k)(gv:∃e,(au TY t).d= .slice e/\∃B,an S k=some B/\match B with
   |.vec wm r []=>eF TY t r=true/\qK.Jh T hi r.len λhi=>(0<=hi/\hi<=(r.len:Int))/\Uy k wm r.len r hi T S K
   |.dK n0 r=>eF TY t r=true/\qK.Jh T hi r.len λhi=>(0<=hi/\hi<=(r.len:Int))/\CJ r 0 hi.toNat λr'=>s8 k (.dK n0 r') T S K
   |.mA n z=>qK.Jh T hi n λhi=>hi=0/\(vJ TY e λr=>bL (loc k)<|bL (eF TY t r)<|bL (Nat.beq r.sz z)<|s8 k (.vec 0 r []) T S K)
   |_=>False)
  (ho:oo.op= .slice t x none hi none) (st:St M0 O M S w) (tm:Tm O w M T a):fj P (execOp a.eval oo) w (bM w0 M0 a T.length K):=by
 have db:=a8 tm x;rw [hx]at db;obtain⟨o,k1,hv⟩:=db;obtain⟨e0,hd0,B,hf,h⟩:=gv
 have cut:∀{n m:Int} {r:RO},eF TY t r=true->o.len<=o.cap->(o.sz=r.sz)->(n=o.len)->((hi=none/\m=n)\/∃x k,hi=some x/\aT T x= .int k m)->0<=m->m<=o.len->
   (execOp a.eval oo).run P w= .ok (.value (.slice (o.aZ.map λb=>⟨b,0,none⟩) m.toNat o.cap)) w:=by
  intro n m r aY KV hz hn hm h0 h1;obtain⟨e',iK,hu,oT,aH⟩:=bW az aY;have cd:(underlying t).run P w= .ok (.slice e') w:=by simp [underlying,hu]
  subst hn;have hb:=gL (P:=P) (O:=O) (w:=w) (M:=M) (T:=T) (e:=a.eval) (l:=0) (h:=m) (lo:=none) (hi:=hi) (len:=o.len) KV (.inl ⟨rfl,rfl⟩) hm (λy _=>a8 tm y) (aj5 _) h0 h1;have cy:(Instr.sliceBounds true o.len o.cap none (hi.map a.eval) none).run P w= .ok (0,m.toNat,o.cap) w:=hb;simp [execOp,ho,hv,Sl.val,Instr.sliceAt,cd,Instr.slice,cy,aH.size,oT]
  try (cases o.aZ<;>simp [aU])
 have Xf:∀{r:RO},fp O w M o 0 r []->o.len<=o.cap:=λ{r} hV=>by
  obtain⟨k3,_,_,_,k7⟩:=hV;cases hb:o.aZ with
  |none=>simp only [hb]at k7;omega
  |some b=>simp only [hb]at k7;exact k7.1
 cases B with
 |vec wm r ov=>
  cases ov with
  |cons x y=>exact h.elim
  |nil=>
   obtain⟨aY,h⟩:=h;obtain⟨m,⟨⟨h0,h1⟩,hp⟩,hm⟩:=sm h;clear h;simp only [Uy,aq]at hp;obtain⟨ES,h⟩:=hp;obtain rfl:=aA.1 ES;obtain⟨r',h,g1,g2,g3⟩:=gM h (ajk _) aa;obtain⟨⟨o',k2,k3⟩,_⟩:=st.aZ k _ hf;obtain rfl:=cC k2 k1;have aN:=cut aY (Xf k3) k3.2.1 (by rw [k3.1]) hm h0 (by rw [k3.1];exact h1);have hV:=Xe (r':=r') k3 aa g2 (λq c hq hc=>g3 w M q c hq (by simpa using hc));have mV:r'.len=m.toNat:=aa;split at h
   ·obtain⟨T',S',O',q1,q2,q3,q4,q5⟩:=fW (ow':=.sl ⟨o.aZ,r'.len,o.cap,o.sz⟩) (B:=.vec 0 r' []) h st tm k2 (λb hb=>hb) (λhl=>by rename_i n7;rw [n7]at hl;cases hl) (λO' Qk=>⟨⟨_,Qk,hV.env⟩,.inl rfl⟩)
    exact .val aN ⟨O',M,T',_,_,q1,q2,q3,q4,_,iR q5,by rw [Sl.val,mV]⟩
   ·obtain⟨T',S',O',q1,q2,q3,q4,q5⟩:=fW (ow':=.st o ⟨o.aZ,r'.len,o.cap,o.sz⟩) (B:=.dK r.len r') h st tm k2 (λb hb=>hb.elim id id) (λ_=>rfl) (λO' Qk=>⟨o,_,Qk,hV.env,by rw [g2];exact k3.mA⟩)
    exact .val aN ⟨O',M,T',_,_,q1,q2,q3,q4,_,mD q5,by rw [Sl.val,mV]⟩
 |dK n0 r=>
  obtain⟨aY,h⟩:=h;obtain⟨m,⟨⟨h0,h1⟩,hp⟩,hm⟩:=sm h;clear h;obtain⟨r',h,g1,g2,g3⟩:=gM hp (ajk _) aa;obtain⟨o0,cur,k2,k3,k4⟩:=st.aZ k _ hf;have Ji:o=cur:=by rw [mD k2]at k1;exact(ajN k1).symm
  subst Ji;have aN:=cut aY (Xf k3) k3.2.1 (by rw [k3.1]) hm h0 (by rw [k3.1];exact h1);have hV:=Xe (r':=r') k3 aa g2 (λq c hq hc=>g3 w M q c hq (by simpa using hc));have mV:r'.len=m.toNat:=aa;obtain⟨T',S',O',q1,q2,q3,q4,q5⟩:=fW (ow':=.st o0 ⟨o.aZ,r'.len,o.cap,o.sz⟩) (B:=.dK n0 r') h st tm k2 (λb hb=>hb) (λ_=>rfl) (λO' Qk=>⟨o0,_,Qk,hV.env,by rw [g2];exact k4⟩);exact .val aN ⟨O',M,T',_,_,q1,q2,q3,q4,_,mD q5,by rw [Sl.val,mV]⟩
 |mA n z=>
  obtain⟨m,⟨rfl,hp⟩,hm⟩:=sm h;clear h
  obtain⟨r,⟨h,s7⟩⟩:∃r:RO,(bL (loc k)<|bL (eF TY t r)<|bL (Nat.beq r.sz z)<|s8 k (.vec 0 r []) T S K)/\r.len=0:=by
   unfold vJ sn at hp
   revert hp
   repeat' split
   all_goals (intro h;first|exact h.elim|exact⟨_,h,rfl⟩|exact⟨_,(aq.1 h).2,rfl⟩)
  rw [aq,aq,aq]at h;obtain⟨fV,aY,hz,h⟩:=h;obtain rfl:=aA.1 hz;obtain⟨o',k2,j1,j2,j3,j4⟩:=st.aZ k _ hf;obtain rfl:=cC k2 k1
  have KV:o.len<=o.cap:=by
   cases hb:o.aZ with
   |none=>simp only [hb]at j4;omega
   |some b=>simp only [hb]at j4;exact j4.1
  have aN:=cut aY KV j2 (by rw [j1]) hm (aj5 _) aa
  have hV:∀O',fp O' w M ⟨o.aZ,0,o.cap,o.sz⟩ 0 r []:=λO'=>by
   refine⟨s7.symm,j2,by rw [s7];exact ajk _,ajk _,?_⟩;cases hb:o.aZ with
   |none=>simp only [hb]at j4 ⊢;exact⟨s7,j4.2⟩
   |some b=>
    simp only [hb]at j4 ⊢;obtain⟨_,cs,ty,j6,j7,j8⟩:=j4;exact⟨ajk _,cs,ty,j6,j7,λoff=>by rw [j8 off];simp,λq hq=>by simp [RO.cells,s7]at hq⟩
  obtain⟨T',S',O',q1,q2,q3,q4,q5⟩:=fW (ow':=.sl ⟨o.aZ,0,o.cap,o.sz⟩) (B:=.vec 0 r []) h st tm k2 (λb hb=>hb) (λhl=>by rw [fV]at hl;cases hl) (λO' Qk=>⟨⟨_,Qk,hV O'⟩,.inl rfl⟩);exact .val aN ⟨O',M,T',_,_,q1,q2,q3,q4,_,iR q5,rfl⟩
 |_=>exact h.elim
theorem Fp(az:aR P TY){F:Spec}{t k:Nat}{x:Operand}{lo hi:Option Operand}{T:List AV}{K:AV->List AV->ak->Prop}{a:Act}{oo:Oper}(hx:aT T x= .vec k)(h:xW TY F d (.slice t x lo hi none) T S K)
  (ho:oo.op= .slice t x lo hi none) (st:St M0 O M S w) (tm:Tm O w M T a):fj P (execOp a.eval oo) w (bM w0 M0 a T.length K):=by
 simp only [xW,bS,aD,hx]at h;split at h
 ·rename_i wm r hf
  rw [aq,bV]at h;obtain⟨aY,h⟩:=h;obtain⟨m,hq,hm⟩:=sm h;clear h;obtain⟨⟨h0,h1⟩,h|h⟩:=hq
  rotate_left
  ·obtain⟨e',iK,_⟩:=bW az aY
   refine sk az hx ⟨e',iK,_,hf,aY,?_⟩ ho st tm;rcases hm with ⟨rfl,rfl⟩|⟨y,kk,rfl,hy⟩
   ·exact⟨⟨h0,h1⟩,h⟩
   ·simp only [qK.Jh,aD,hy,kJ];exact⟨⟨h0,h1⟩,h⟩
  obtain⟨r',h,g1,g2,g3⟩:=gM h (ajk _) aa;obtain⟨S',hK,hS⟩:=cO h;rw [hf]at hS;obtain⟨e',iK,hu,oT,aH⟩:=bW az aY;have db:=a8 tm x;rw [hx]at db;obtain⟨o,k1,hv⟩:=db;have Pb:=st.aZ k _ hf;obtain⟨⟨o',k2,k3,k4,k5,k6,k7⟩,_⟩:=Pb;obtain rfl:=cC k2 k1;replace k1:=k2
  have KV:o.len<=o.cap/\(o.aZ=none->o.len=0/\o.cap=0):=by
   cases hb:o.aZ with
   |none=>simp only [hb]at k7;exact⟨aa,λ_=>⟨aa,k7.2⟩⟩
   |some b=>simp only [hb]at k7;exact⟨k7.1,λhe=>by cases he⟩
  have cd:(underlying t).run P w= .ok (.slice e') w:=by simp [underlying,hu]
  have hb:=gL (P:=P) (O:=O) (w:=w) (M:=M) (T:=T) (e:=a.eval) (l:=0) (h:=m) (lo:=none) (hi:=hi) (len:=o.len) KV.1 (.inl ⟨rfl,rfl⟩) (by rw [k3];exact hm) (λy _=>a8 tm y) (aj5 _) h0 aa
  let M':a7:=λb off=>M b off/\¬(o.aZ=some b/\off<m.toNat*r.sz)
  have eB:bE w M w M':=λb off c hc hn=>⟨hc,λhm=>hn hm.1⟩;have iL:∀j,j≠k->∀b,hasB O j b->o.aZ≠some b:=λj hj b zY hb=>hj (st.inj _ _ _ zY (by simp [hasB,k1,b6.has,hb]))
  refine .val (v:=.slice (o.aZ.map λb=>⟨b,0,none⟩) m.toNat o.cap) (w':=w) ?_ ⟨O,M',T,S',_,hK,⟨λj=>?_,λj C hC=>?_,st.inj,λb off hm=>st.mlt b off hm.1,st.lS,λb off hb hm=>st.sub b off hb hm.1,λb off hb hl hm=>⟨st.eI b off hb hl hm,λhh=>absurd (by simp [hasB,k1,b6.has,hh.1]) (st.iv (k:=k) hb hl)⟩,st.fresh,st.tV⟩,
   ⟨tm.defers,tm.size,λi=>aC.keep eB (λ_ _ h=>h) (tm.tmp i)⟩,rfl,?_⟩
  ·have hz:(o.aZ.map λb=>(⟨b,0,none⟩:Addr)).map (λa=>a.add (0*r.sz))=o.aZ.map λb=>⟨b,0,none⟩:=by cases o.aZ<;>simp [aU]
   have cy:(Instr.sliceBounds true o.len o.cap none (hi.map a.eval) none).run P w= .ok (0,m.toNat,o.cap) w:=hb;simp [execOp,ho,hv,Sl.val,Instr.sliceAt,cd,Instr.slice,cy,aH.size,oT]
   try (cases o.aZ<;>simp [aU])
  ·rw [hS j,st.gq j]
   by_cases hj:j=k
   ·subst hj;simp [hf]
   ·simp [hj]
  ·rw [hS j]at hC
   by_cases hj:j=k
   ·subst hj
    simp at hC;subst hC;refine⟨⟨o,k1,k3,k4,k5,aa,?_⟩,.inl rfl⟩;cases fB:o.aZ with
    |none=>simp only [fB]at k7 ⊢;exact k7
    |some b=>
     simp only [fB]at k7 ⊢;obtain⟨k8,cs,ty,k9,k10,k11,k12⟩:=k7;refine⟨k8,cs,ty,k9,k10,λoff=>?_,λq hq=>?_⟩
     ·have Ql:max wm m.toNat*o.sz<=off↔wm*o.sz<=off/\m.toNat*o.sz<=off:=by
       rcases Nat.le_total wm m.toNat with hle|hle
       ·rw [Nat.max_eq_right hle];exact⟨λh'=>⟨ajW (ajO _ hle) h',h'⟩,λh'=>h'.2⟩
       ·rw [Nat.max_eq_left hle];exact⟨λh'=>⟨h',ajW (ajO _ hle) h'⟩,λh'=>h'.1⟩
      rw [Ql]
      constructor
      ·intro KW
       have:=(k11 off).1 KW.1;exact⟨⟨this.1,Nat.le_of_not_lt λaX=>KW.2 ⟨fB,by rw [<-k4];exact aX⟩⟩,this.2⟩
      ·intro KW
       exact⟨(k11 off).2 ⟨KW.1.1,KW.2⟩,λhh=>by have:=hh.2;rw [<-k4]at this;have:=KW.1.2;omega⟩
     ·obtain⟨c,k13,k14⟩:=k12 q hq;exact⟨c,k13,ay.keep eB k14⟩
   ·simp only [hj,if_false]at hC
    exact eR.ext eB (λ_ _ h=>h) (λb hb=>⟨rfl,λoff=>⟨λhm=>hm.1,λhm=>⟨hm,λhh=>iL j hj b hb hh.1⟩⟩⟩) (st.aZ j C hC)
  ·refine⟨by rw [g1];simp only [LB]at k5 ⊢;omega,_,_,by rw [g1,Nat.sub_zero],by rw [g1];omega,?_⟩
   cases fB:o.aZ with
   |none=>
    have:=(KV.2 fB).1;exact .inl (by simp only [RO.cells,g1];rw [show m.toNat - 0=0 from by omega];simp)
   |some b=>
    simp only [fB]at k7;obtain⟨k8,cs,ty,k9,k10,k11,k12⟩:=k7;refine .inr ⟨b,0,rfl,λq hq=>?_⟩;have Ac:q<m.toNat*r.sz:=by simpa [RO.cells,g1,g2]using hq
    have hle:m.toNat*r.sz<=r.len*r.sz:=ajO _ aa;obtain⟨c,k13,k14⟩:=k12 q (by simp only [RO.cells];omega);refine⟨c,by rw [cell_of_heap k9,ajQ];exact k13,λhm=>hm.2 ⟨fB,aa⟩,?_⟩;exact g3 w M' q c hq (ay.keep eB (by simpa using k14))
 ·rename_i n0 r hf
  rw [aq,bV]at h;obtain⟨aY,h⟩:=h;obtain⟨e',iK,_⟩:=bW az aY;exact sk az hx ⟨e',iK,_,hf,aY,h⟩ ho st tm
 ·rename_i r y hf
  split at h
  ·rw [aq]at h
   obtain⟨aY,h⟩:=h;obtain⟨kk,i,hy,h⟩:=dU h;rw [bV]at h;obtain⟨⟨h0,h1⟩,h⟩:=h;obtain⟨e',iK,hu,oT,aH⟩:=bW az aY;have db:=a8 tm x;rw [hx]at db;obtain⟨o,k1,hv⟩:=db;have Pb:=st.aZ k _ hf;obtain⟨⟨o',k2,k3,k4,k5,k6,k7⟩,_⟩:=Pb;obtain rfl:=cC k2 k1;replace k1:=iR k2
   have KV:o.len<=o.cap:=by
    cases hb:o.aZ with
    |none=>simp only [hb]at k7;omega
    |some b=>simp only [hb]at k7;exact k7.1
   have cd:(underlying t).run P w= .ok (.slice e') w:=by simp [underlying,hu]
   have hb:=gL (P:=P) (O:=O) (w:=w) (M:=M) (T:=T) (e:=a.eval) (l:=i) (h:=(o.len:Int)) (lo:=some y) (hi:=none) (len:=o.len) KV (.inr ⟨y,kk,rfl,hy⟩) (.inl ⟨rfl,rfl⟩) (λy _=>a8 tm y) h0 aa aa;refine .val (v:=o.Uz i.toNat) (w':=w) ?_ ⟨O,M,T,S,_,h,st,tm,rfl,o,k1,h0,aa,rfl⟩;have cy:(Instr.sliceBounds true o.len o.cap (some (a.eval y)) none none).run P w= .ok (i.toNat,o.len,o.cap) w:=hb;simp [execOp,ho,hv,Sl.val,Sl.Uz,Instr.sliceAt,cd,Instr.slice,cy,aH.size,oT,k4]
  ·exact h.elim
 ·rename_i n z hf
  split at h
  ·rename_i e' iK
   exact sk az hx ⟨e',iK,_,hf,h⟩ ho st tm
  ·exact h.elim
 ·exact h.elim
theorem xY(az:aR P TY){t e:Nat}{x y:Operand}{k:IntKind}{T:List AV}{a:Act}{oo:Oper}(hx:aT T x= .ar)(hy:aT T y= .int k 0)(hd:(au TY t).d= .slice e)(hz:1<=(au TY e).sz)
  (ho:oo.op= .slice t x none (some y) none) (tm:Tm O w M T a):(execOp a.eval oo).run P w= .ok (.value (.slice none 0 0)) w:=by
 have db:=a8 tm x;rw [hx]at db;have db:a.eval x= .slice none 0 0:=db;have hu:=bY az hd;have aH:=az.at (t:=e) (.inl aa);have cd:(underlying t).run P w= .ok (.slice e) w:=by simp [underlying,hu]
 have hb:=gL (P:=P) (O:=O) (w:=w) (M:=M) (T:=T) (e:=a.eval) (l:=0) (h:=0) (lo:=none) (hi:=some y) (len:=0) (cap:=0) (ajl _) (.inl ⟨rfl,rfl⟩) (.inr ⟨y,k,rfl,hy⟩) (λy _=>a8 tm y) (aj5 _) (aj5 _) aa;have cy:(Instr.sliceBounds true 0 0 none ((some y).map a.eval) none).run P w= .ok (0,0,0) w:=hb;simp only [Option.map_some]at cy;simp [execOp,ho,db,Instr.sliceAt,cd,Instr.slice,cy,aH.size]
theorem Fq(az:aR P TY){F:Spec}{c:Call}{T:List AV}{K:AV->List AV->ak->Prop}{a:Act}{oo:Oper}(dJ:c.callee= .builtin .copy)(h:xW TY F d (.call c) T S K)
  (ho:oo.op= .call c) (st:St M0 O M S w) (tm:Tm O w M T a):fj P (execOp a.eval oo) w (bM w0 M0 a T.length K):=by
 simp only [xW,bS,dJ]at h;split at h
 ·rename_i x y t t' bw Aq
  split at h
  ·rename_i UA
   have UA:=aA.1 UA;subst UA;have s3:c.args= #[x,y]:=by simpa using ajs List.toArray bw
   have mX:c.argTypes= #[t,t]:=by simpa using ajs List.toArray Aq
   rw [aD,aD]at h;have hx:=a8 tm x;have hy:=a8 tm y
   have bT:∀v w',(Builtin.copy_ #[t,t] oo.type #[a.eval x,a.eval y]).run P w= .ok v w'->(execOp a.eval oo).run P w= .ok (.value v) w':=λv w' hr=>by
    simp [execOp,ho,resolve,dJ,s3,mX,invoke,builtin,hr]
   generalize aT T x=ax at h hx;rcases Hk h st hy with ⟨h,rR⟩|⟨r',h,Md,ad,cap',rR,Ar⟩
   ·cases ax<;>exact h.elim
   cases ax<;>try exact h.elim
   rename_i k _;obtain⟨o,g1,g2⟩:=hx;simp only at h;split at h
   ·rename_i wm r hf
    simp only [aq]at h;obtain⟨ES,aY,UB,gE,hlen,h⟩:=h;obtain rfl:=aA.1 ES;have gE:=aA.1 gE;obtain⟨S',hK,hS⟩:=cO h;rw [hf]at hS;obtain⟨e',iK,hu,oT,aH⟩:=bW az aY;obtain⟨e2,Qm,_,Z7,_⟩:=bW az UB;rw [iK]at Qm;cases Qm;have yI:r'.sz=1:=by rw [<-Z7,oT,gE]
    have SX:(P.info? e').map (·.size)=some 1:=by
     obtain⟨i,_,hi,_,hs,_⟩:=aH.row;rw [hi];simp only [Option.map_some];rw [hs,oT,gE]
    obtain⟨⟨o',g3,g4,g5,g6,g7,g8⟩,_⟩:=st.aZ k _ hf;obtain rfl:=cC g3 g1;have vK:r'.cells=r'.len:=by simp [RO.cells,yI]
    by_cases h0:r'.len=0
    ·have aN:=run_copy_none (P:=P) w t t oo.type e' (o.aZ.map λb=>⟨b,0,none⟩) ad o.len o.cap r'.len cap' hu SX (by rw [h0];simp)
     refine .val (bT _ _ (by rw [g2,rR];exact aN)) ⟨O,M,T,S',_,hK,⟨λj=>?_,λj C hC=>?_,st.inj,st.mlt,st.lS,st.sub,st.eI,st.fresh,st.tV⟩,tm,rfl,ag⟩
     ·rw [hS j,st.gq j]
      by_cases hj:j=k
      ·subst hj;simp [hf]
      ·simp [hj]
     ·rw [hS j]at hC
      by_cases hj:j=k
      ·subst hj
       simp at hC;subst hC;refine⟨⟨o,g3,aa,by rw [yI,g5,gE],aa,ajk _,?_⟩,.inl rfl⟩;cases hb:o.aZ with
       |none=>simp only [hb]at g8 ⊢;exact⟨h0,g8.2⟩
       |some b=>
        simp only [hb]at g8 ⊢;obtain⟨g9,cs,ty,g10,g11,g12,_⟩:=g8;exact⟨g9,cs,ty,g10,g11,g12,λq hq=>by rw [vK]at hq;omega⟩
      ·simp only [hj,if_false]at hC
       exact st.aZ j C hC
    ·rcases Ar with hh|⟨b',off',rfl,hh⟩
     ·omega
     obtain⟨l,n1,n2,n3⟩:=ju hh;cases hb:o.aZ with
     |none=>simp only [hb]at g8;omega
     |some b=>
      simp only [hb]at g8;obtain⟨g9,cs,ty,g10,g11,g12,g13⟩:=g8
      have Me:∀v∈l,v.oneCell'=true:=λv hv=>by
       obtain⟨j,hj⟩:=List.mem_iff_getElem?.1 hv
       have oR:j<r'.cells:=by
        rw [<-n1];rcases ajF j l.length with h'|h'
        ·exact h'
        ·rw [aj0 h']at hj;cases hj
       obtain⟨c,h1,h2⟩:=n3 j oR;rw [hj]at h1;cases h1;exact lW h2.aO
      have tZ:0+l.length<=cs.size:=by rw [n1,vK,g11,g5,gE];omega
      have aN:=run_copy_row (P:=P) w t t oo.type e' b 0 o.len o.cap ⟨b',off',none⟩ r'.len cap' cs ty l hu SX g10 (by rw [n1,vK,g4,hlen];simp) (λj v hj=>by rw [aU];exact n2 j v hj) tZ Me
      let cs':=(cs.toList.take 0++l++cs.toList.drop (0+l.length)).toArray
      have eY:∀q,q<r'.len->cs'[q]? =l[q]? :=λq hq=>by
       simp only [cs',List.take_zero,List.nil_append,List.getElem?_toArray];rw [ajI (by rw [n1,vK];exact hq)]
      have oE:cs'.size=cs.size:=by simp [cs'];omega
      have b5:∀off,¬M b off->cs'[off]? =cs[off]? :=λoff hn=>by
       have h2:cs.size<=off:=Nat.le_of_not_lt λaX=>hn ((g12 off).2 ⟨by simp,aX⟩);rw [ajD h2,ajD (by rw [oE];exact h2)]
      have hw:=st.write (k:=k) (B':=.vec 0 r' []) (cs':=cs') hf (by simp [hasB,g3,b6.has,hb]) g10 oE b5 (λPc=>⟨⟨o,g3,aa,by rw [yI,g5,gE],aa,ajk _,by
       simp only [hb];refine⟨g9,cs',ty,setRow_heap w b cs cs' ty _ g10,by rw [oE];exact g11,λoff=>by rw [oE];exact g12 off,λq hq=>?_⟩;obtain⟨c,h1,h2⟩:=n3 q hq;exact⟨c,by rw [eY q (by rw [<-vK];exact hq)];exact h1,ay.keep Pc h2⟩⟩,.inl rfl⟩) hS
      refine .val (bT _ _ (by rw [g2,rR,Sl.val,hb];exact aN)) ⟨O,M,T,S',_,hK,hw.1,⟨tm.defers,tm.size,λj=>aC.keep hw.2 (λ_ _ h=>h) (tm.tmp j)⟩,rfl,ag⟩
   ·exact h.elim
  ·exact h.elim
 ·exact h.elim
theorem oU(v:Value)(n:Nat):(Builtin.zeroCells #[v] n).toList=List.replicate n v:=by
 apply List.ext_getElem?;intro j;simp only [Builtin.zeroCells,Array.toList_map,Array.toList_range,ajR,ajH];have hs:(#[v]:Array Value).size=1:=rfl;rw [hs,ajV]
 by_cases h:j<n
 ·rw [List.getElem?_range h];simp [h,Nat.mod_one]
 ·simp [h]
theorem CK(az:aR P TY){F:Spec}{c:Call}{T:List AV}{K:AV->List AV->ak->Prop}{a:Act}{oo:Oper}(dJ:c.callee= .builtin .clear)(h:xW TY F d (.call c) T S K)
  (ho:oo.op= .call c) (st:St M0 O M S w) (tm:Tm O w M T a):fj P (execOp a.eval oo) w (bM w0 M0 a T.length K):=by
 simp only [xW,bS,dJ]at h;split at h
 ·rename_i x t bw Aq
  have s3:c.args= #[x]:=by simpa using ajs List.toArray bw
  have mX:c.argTypes= #[t]:=by simpa using ajs List.toArray Aq
  rw [aD]at h;have hx:=a8 tm x
  have bT:∀v w',(Builtin.clear_ #[t] oo.type #[a.eval x]).run P w= .ok v w'->(execOp a.eval oo).run P w= .ok (.value v) w':=λv w' hr=>by
   simp [execOp,ho,resolve,dJ,s3,mX,invoke,builtin,hr]
  generalize aT T x=ax at h hx;cases ax<;>try exact h.elim
  rename_i k i;obtain⟨o,g1,g0,_,g2⟩:=hx;simp only at h;split at h
  ·rename_i wm kk l hf
   rw [aq]at h;obtain⟨aY,h⟩:=h;split at h
   ·rename_i e hd
    unfold Qn at h;split at h
    ·rename_i k' hde
     simp only [aq]at h;obtain⟨hkq,vI,⟨SF,bD⟩,h⟩:=h;obtain rfl:=b8 hkq;obtain⟨S',hK,hS⟩:=cO h;rw [hf]at hS;obtain⟨e',iK,hu,oT,aH⟩:=bW az aY;rw [hd]at iK;cases iK;have bn:(au TY e).zero≠[]:=λhe=>by rw [he]at vI;cases vI
     obtain⟨i',u,hi,_,_,_,_,hzero⟩:=aH.row;obtain⟨z,gE,uE⟩:=hzero bn;have SY:z= .int kk 0:=by have:=uE.2.2.2.1;rw [hde]at this;exact this
     have mM:∀w,(zeroValue e).run P w= .ok (.int kk 0) w:=λw=>by simp [zeroValue,typeInfo,hi,gE,SY]
     have cd:∀w,(underlying t).run P w= .ok (.slice e) w:=λw=>by simp [underlying,hu]
     obtain⟨⟨o',g3,g4,g5,g6,g7,g8⟩,_⟩:=st.aZ k _ hf;obtain rfl:=cC g3 g1;have g4:o.len=l.length:=g4;have g5:o.sz=1:=g5;have g6:l.length<=LB:=g6;have bD:i.toNat<=l.length:=aa;have n7:(l.take i.toNat++List.replicate (l.length - i.toNat) 0).length=l.length:=by simp;omega
     by_cases h0:i.toNat=l.length
     ·have aN:(Builtin.clear_ #[t] oo.type #[a.eval x]).run P w= .ok (.tuple #[]) w:=by
       have:o.len - i.toNat=0:=aa;rw [g2,Sl.Uz,this];generalize (if o.cap=i.toNat then (o.aZ.map λb=>(⟨b,0,none⟩:Addr)) else (o.aZ.map λb=>(⟨b,0,none⟩:Addr)).map (·.add (i.toNat*o.sz)))=ad;cases ad<;>simp [Builtin.clear_,cd]
      have Xg:l.take i.toNat++List.replicate (l.length - i.toNat) 0=l:=by rw [h0];simp
      rw [Xg]at hS;refine .val (bT _ _ aN) ⟨O,M,T,S',_,hK,⟨λj=>?_,λj C hC=>?_,st.inj,st.mlt,st.lS,st.sub,st.eI,st.fresh,st.tV⟩,tm,rfl,ag⟩
      ·rw [hS j,st.gq j]
       by_cases hj:j=k
       ·subst hj;simp [hf]
       ·simp [hj]
      ·rw [hS j]at hC
       by_cases hj:j=k
       ·subst hj
        simp at hC;subst hC;exact st.aZ j _ hf
       ·simp only [hj,if_false]at hC
        exact st.aZ j C hC
     ·cases hb:o.aZ with
      |none=>simp only [hb]at g8;have:=g8.1;simp only [RO.len]at this;omega
      |some b=>
       simp only [hb]at g8;obtain⟨g9,cs,ty,g10,g11,g12,g13⟩:=g8;have dZ:o.cap≠i.toNat:=aa;have hn:o.len - i.toNat=l.length - i.toNat:=by rw [g4]
       obtain⟨m,hm⟩:∃m,l.length - i.toNat=m+1:=⟨l.length - i.toNat - 1,aa⟩;have cX:=run_storeCells_at P b i.toNat ty (List.replicate (m+1) (Value.int kk 0)) 0 cs w g10 (by simp;rw [g11,g5];omega) (λv hv=>by rw [(List.mem_replicate.1 hv).2];rfl)
       have aN:(Builtin.clear_ #[t] oo.type #[a.eval x]).run P w= .ok (.tuple #[]) (w.setRow b (cs.toList.take (i.toNat+0)++List.replicate (m+1) (Value.int kk 0)++cs.toList.drop (i.toNat+0+(List.replicate (m+1) (Value.int kk 0)).length)).toArray):=by
        rw [g2,Sl.Uz,ajm dZ,hb,hn,hm];have Xh:(Value.int kk 0).cells= #[Value.int kk 0]:=rfl;simp only [Option.map_some,g5,ajV,aU,ajQ];simp only [Builtin.clear_,cd,mM,Xh,oU,cX,Sem.run_bind,Result.andThen_ok];simp [cd,mM,Xh,oU,cX]
       generalize qx:(cs.toList.take (i.toNat+0)++List.replicate (m+1) (Value.int kk 0)++cs.toList.drop (i.toNat+0+(List.replicate (m+1) (Value.int kk 0)).length)).toArray=cs' at aN;have da:i.toNat<=cs.toList.length:=by rw [ajw,g11,g5];omega
       have t1:(cs.toList.take i.toNat).length=i.toNat:=by rw [ajA];omega
       have hg:∀q,cs'[q]? =if q<i.toNat then cs[q]? else if q<l.length then some (Value.int kk 0) else cs[q]? :=λq=>by
        rw [<-qx,List.getElem?_toArray];simp only [akb,ajz]
        by_cases h1:q<i.toNat
        ·rw [ajq h1,ajI (by rw [ajp,t1,ajz];omega),ajI (by rw [t1];exact h1),List.getElem?_take_of_lt h1,ajt]
        ·rw [ajm h1]
         by_cases h2:q<l.length
         ·rw [ajq h2,ajI (by rw [ajp,t1,ajz];omega),aj2 (by rw [t1];omega),ajH,ajq (by rw [t1];omega)]
         ·rw [ajm h2,aj2 (by rw [ajp,t1,ajz];omega),akt,<-ajt]
          congr 1
          rw [ajp,t1,ajz];omega
       have oE:cs'.size=cs.size:=by
        rw [<-qx];simp only [List.size_toArray,ajp,ajA,ajz,aks,akb,ajw];rw [ajw]at da;rw [g11,g5];omega
       have b5:∀off,¬M b off->cs'[off]? =cs[off]? :=λoff Qo=>by
        rw [hg off]
        by_cases h1:off<i.toNat
        ·rw [ajq h1]
        ·rw [ajm h1]
         by_cases h2:off<l.length
         ·exact absurd ((g12 off).2 ⟨by rw [g5];omega,by rw [g11,g5];omega⟩) Qo
         ·rw [ajm h2]
       have hw:=st.write (k:=k) (B':=.vec wm (.ints kk (l.take i.toNat++List.replicate (l.length - i.toNat) 0)) []) (cs':=cs') hf (by simp [hasB,g3,b6.has,hb]) g10 oE b5 (λPc=>⟨⟨o,g3,by rw [g4];exact n7.symm,g5,by show List.length _<=LB;rw [n7];exact g6,by show wm<=List.length _;rw [n7];exact g7,by
        simp only [hb];refine⟨g9,cs',ty,setRow_heap w b cs cs' ty _ g10,by rw [oE];exact g11,λoff=>by rw [oE];exact g12 off,λq hq=>?_⟩;have hq:q<l.length:=by simpa [RO.cells,RO.len,RO.sz,n7]using hq
        rw [hg q]
        by_cases h1:q<i.toNat
        ·rw [ajq h1]
         obtain⟨c,h2,h3⟩:=g13 q (by simpa [RO.cells,RO.len,RO.sz]using hq);refine⟨c,h2,?_⟩
         have e1:(l.take i.toNat++List.replicate (l.length - i.toNat) 0).getD q 0=l.getD q 0:=by
          simp only [List.getD];rw [ajI (by simp;omega),List.getElem?_take_of_lt h1]
         show c= .int kk (List.getD _ q 0)/\eO kk (List.getD _ q 0);rw [e1];exact h3
        ·rw [ajm h1,ajq hq]
         refine⟨_,rfl,?_⟩
         have e1:(l.take i.toNat++List.replicate (l.length - i.toNat) (0:Int)).getD q 0=0:=by
          simp only [List.getD];rw [aj2 (by simp;omega),ajH];split<;>rfl
         show _=Value.int kk (List.getD _ q 0)/\eO kk (List.getD _ q 0);rw [e1];exact⟨rfl,by unfold eO;cases kk<;>decide⟩⟩,.inl rfl⟩) hS
       exact .val (bT _ _ aN) ⟨O,M,T,S',_,hK,hw.1,⟨tm.defers,tm.size,λj=>aC.keep hw.2 (λ_ _ h=>h) (tm.tmp j)⟩,rfl,ag⟩
    ·exact h.elim
   ·exact h.elim
  ·exact h.elim
 ·exact h.elim
theorem uF(az:aR P TY){F:Spec}{o:Op}{T:List AV}{K:AV->Option dQ->Prop}(hq:bS o=true)(h:qK TY F d o T S0 K):∃v B,K v B/\QS P d o T S0 v B:=by
 cases o<;>try (first|(cases hq;done)|exact h.elim)
 case move=>exact dc az h (.inl ⟨_,.inl rfl⟩)
 case assign=>exact dc az h (.inl ⟨_,.inr (.inl rfl)⟩)
 case pick=>exact dc az h (.inr (.inr (.inr (.inl ⟨_,_,_,rfl⟩))))
 case alloc=>exact CL az h
 case box=>exact Jj az h
 case build=>exact CN az h
 case load=>exact Fs az h
 case nilCheck=>exact dc az h (.inl ⟨_,.inr (.inr rfl)⟩)
 case binOp=>exact dc az h (.inr (.inr (.inl ⟨_,_,_,_,_,rfl⟩)))
 case unOp=>exact dc az h (.inr (.inl ⟨_,_,_,rfl⟩))
 case makeFunc=>exact dc az h (.inr (.inr (.inr (.inr (.inr ⟨_,_,_,rfl⟩)))))
 case makeSlice=>exact Fu az h
 case fieldAddr=>exact uc az h
 case field=>exact CP az h
 case indexAddr=>exact ud az h
 case index=>exact CQ az h
 case convert=>exact xZ az h
 case extract=>exact dc az h (.inr (.inr (.inr (.inr (.inl ⟨_,_,rfl⟩)))))
 case makeMap=>exact x3 az h
 case lookup=>exact As az h
 case call c=>
  simp only [bS]at hq;cases hc:c.callee with
  |builtin b=>exact x4 az hc h
  |invoke=>rw [hc]at hq;cases hq
  |value=>rw [hc]at hq;cases hq
theorem nj{f:FuncId}{c:Call}{oo:Oper}{e:Operand->Value}{x:Operand}{cs:List Value}(hc:eJ P f)(ho:oo.op= .call c)(hx:c.callee= .value x)(hv:e x= .func (.func f) #[] cs.toArray)(w:World):
  (execOp e oo).run P w= .ok (.enter f (c.args.toList.map e++cs).toArray) w:=by
 obtain⟨fn,h1,h2,h3⟩:=hc;have hb:fn.body.isNone=false:=by cases hh:fn.body<;>simp_all
 have e1:(#[]++c.args.map e++cs.toArray)=(c.args.toList.map e++cs).toArray:=by
  apply Array.ext';simp
 have cy:fn.body≠none:=λhh=>by rw [hh]at h3;cases h3
 rw [<-e1];simp [execOp,ho,resolve,hx,hv,Deferred.ofValue,invoke,callFunc,h1,h2,cy]
theorem jh{l m:List AV}:kI l m=l++m:=by
 induction l with
 |nil=>rfl
 |cons a l ih=>simp [kI,ih]
theorem qy{T:List AV}{a:Act}(tm:Tm O w M T a):∀(xs:List Operand),aM (aC O w M) (xs.map (aT T)) (xs.map a.eval)
 |[]=>trivial
 |x::xs=>⟨a8 tm x,qy tm xs⟩
theorem vL{F:Spec}(hF:ck P F){f:FuncId}{c:Call}{x:Operand}{cap:List AV}{T:List AV}{K:AV->List AV->ak->Prop}{a:Act}{oo:Oper}(ho:oo.op= .call c)(hx:c.callee= .value x)
  (db:aT T x= .fn f cap) (h:vM F d f ((c.args.toList.map (aT T))++cap) T S K) (st:St M0 O M S w) (tm:Tm O w M T a):fj P (execOp a.eval oo) w (bM w0 M0 a T.length K):=by
 have hv:=a8 tm x;rw [db]at hv;obtain⟨cs,hv,bU⟩:=hv;have aN:=nj (nk hF h) ho hx (e:=a.eval) (cs:=cs.toList) (by rw [hv]) w;refine .inr (.inr ⟨f,_,w,aN,?_⟩);refine(s9 hF h st tm ((qy tm c.args.toList).append (bU.imp λ_ _=>cK))).mono λe w' ⟨u,he,O',M',T',S',v,h1,h2,h3,h4,h5⟩=>⟨u,he,O',M',T',S',v,h1,h2,h3,h4,h5⟩
theorem CR{F:Spec}(hF:ck P F){f:FuncId}{c:Call}{x:Operand}{r:RO}{i:Int}{T:List AV}{K:AV->List AV->ak->Prop}{a:Act}{oo:Oper}(ho:oo.op= .call c)(hx:c.callee= .value x)
  (db:aT T x= .uD f r i) (h:vM F d f ((c.args.toList.map (aT T))++[.eZ r i]) T S K) (st:St M0 O M S w) (tm:Tm O w M T a):fj P (execOp a.eval oo) w (bM w0 M0 a T.length K):=by
 have hv:=a8 tm x;rw [db]at hv;obtain⟨b,off,cp,h1,h2,h3,hv⟩:=hv;have aN:=nj (nk hF h) ho hx (e:=a.eval) (cs:=[.pointer (some ⟨b,off+i.toNat*r.sz,none⟩)]) (by rw [hv]) w;refine .inr (.inr ⟨f,_,w,aN,?_⟩);have bU:aM (aC O w M) [.eZ r i] [.pointer (some ⟨b,off+i.toNat*r.sz,none⟩)]:=⟨⟨b,off,cp,h1,h2,h3,rfl⟩,ag⟩;refine(s9 hF h st tm ((qy tm c.args.toList).append bU)).mono λe w' ⟨u,he,O',M',T',S',v,h1,h2,h3,h4,h5⟩=>⟨u,he,O',M',T',S',v,h1,h2,h3,h4,h5⟩
theorem CS{b:Nat}{o o':Obj}(h:w.heap[b]? =some o)(b':Nat):(w.heap.setIfInBounds b o')[b']? =if b'=b then some o' else w.heap[b']? :=by
 have hb:b<w.heap.size:=by
  rcases ajF b w.heap.size with h'|h'
  ·exact h'
  ·rw [ajD h']at h;cases h
 rw [Array.getElem?_setIfInBounds]
 by_cases he:b=b'
 ·subst he;simp [hb]
 ·simp [he,Ne.symm he]
theorem mE(az:aR P TY){t:Nat}{x k y:Operand}{T:List AV}{K:AV->List AV->ak->Prop}{a:Act}{oo:Oper}(h:Hl TY t x k y T S K)
  (ho:oo.op= .mapUpdate t x k y\/oo.op= .insert t x k y) (st:St M0 O M S w) (tm:Tm O w M T a):fj P (execOp a.eval oo) w (bM w0 M0 a T.length K):=by
 unfold Hl at h;obtain⟨kt,et,kd,vk,h,hu,hk,z,hz,mM⟩:=qz az h;simp only [aD]at h;split at h
 ·rename_i j off hx
  split at h
  ·rename_i kd' vk' m hf
   rw [aq,aq]at h;obtain⟨h1,h2,h⟩:=h;obtain rfl:=Mf h1;obtain rfl:=Mg h2;obtain⟨key,x5,h⟩:=Au h;obtain⟨n,hn,h⟩:=Qp h;obtain⟨S',hK,hS⟩:=cO h;rw [hf]at hS;have mI:=a8 tm x;rw [hx]at mI;have mI:(O j).bind (b6.ref · off)=some (a.eval x):=mI;obtain⟨b,g1,es,c,g2,g3,g4⟩:=st.aZ j _ hf;have hex:=Av g1 mI;obtain⟨es',c',hr,bg⟩:=x6 (mty:=t) hu hk g2 g4 (Aw x5 (a8 tm k)) (Qq hn (a8 tm y));have s6:=λb'=>CS (o':=.map es' c') g2 b';have hM:M b 0:=(g3 0).2 rfl;have hb:hasB O j b:=by simp [hasB,g1,b6.has]
   have kK:∀M':a7,M' b 0->gH M' w { w with heap:=w.heap.setIfInBounds b (.map es' c') }:=λM' hM'=>⟨by simp,λb' cy=>by
    by_cases he:b'=b
    ·subst he;exact .inr (.inr ⟨es,es',c,c',g2,by simp [s6],hM'⟩)
    ·exact .inl (by simp [s6,he]),kg.refl _⟩
   have eB:bE w M { w with heap:=w.heap.setIfInBounds b (.map es' c') } M:=(kK M hM).keep λb off _ h=>h;have Qr:b<w.heap.size:=e8 st hb
   have st':St M0 O M S' { w with heap:=w.heap.setIfInBounds b (.map es' c') }:=by
    refine⟨λi=>?_,λi C hC=>?_,st.inj,λb off hm=>by simpa using st.mlt b off hm,?_,st.sub,st.eI,st.fresh,st.tV⟩
    ·rw [hS i,st.gq i]
     by_cases hi:i=j
     ·subst hi;simp [hf]
     ·simp [hi]
    ·rw [hS i]at hC
     by_cases hi:i=j
     ·subst hi
      simp at hC;subst hC;exact⟨b,g1,es',c',by simp [s6],g3,bg⟩
     ·simp only [hi,if_false]at hC
      exact eR.ext eB (λ_ _ h=>h) (λb' cy=>⟨by
       have:b'≠b:=λe=>hi (st.inj _ _ b (e▸cy) hb);simp [s6,this],λ_=>Iff.rfl⟩) (st.aZ i C hC)
    ·exact st.lS.trans (kK (λb' off=>b'=b/\M b' off) ⟨rfl,hM⟩) (λb' off cy he=>by obtain⟨rfl,hm⟩:=he;exact⟨(st.fresh j b' hb).resolve_left (Nat.not_le_of_lt cy),st.sub b' off cy hm⟩)
   refine .inr (.inl ⟨{ w with heap:=w.heap.setIfInBounds b (.map es' c') },?_,O,M,T,S',.any,hK,st',⟨tm.defers,tm.size,λi=>aC.keep eB (λ_ _ h=>h) (tm.tmp i)⟩,rfl,ag⟩);rcases ho with ho|ho<;>simp [execOp,ho,hex,hr]
  ·exact h.elim
 ·exact h.elim
theorem Jk(az:aR P TY){F:Spec}(hF:ck P F){o:Op}{T:List AV}{K:AV->List AV->ak->Prop}{a:Act}{oo:Oper}(h:xW TY F d o T S K)
  (ho:oo.op=o) (st:St M0 O M S w) (tm:Tm O w M T a):fj P (execOp a.eval oo) w (bM w0 M0 a T.length K):=by
 have quiet:∀{O:Env} {M:a7} {T':List AV} {S:ak} {K':AV->Option dQ->Prop},qK TY F d o T' S K'->(∃v B,K' v B/\QS P d o T' S v B)->St M0 O M S w->Tm O w M T' a->T'.length=T.length->((an S d=none/\loc d=true)\/∀v b,¬K' v (some b))->
   (∀v B,K' v B->K v T' (so d B S))->fj P (execOp a.eval oo) w (bM w0 M0 a T.length K):=by
  intro O M T' S K' _ hs st tm hlen hd hK;obtain⟨v,B,h1,h2⟩:=hs;refine(h2.1 w0 M0 O M w S a.eval oo ho (KX.refl S) st (λx _=>a8 tm x) (λhB=>?_)).mono λu w' ⟨O',M',g1,g2,g3,g4⟩=>⟨O',M',T',_,v,hK v B h1,g1,⟨tm.defers,tm.size,λi=>aC.keep g3 g4 (tm.tmp i)⟩,hlen,g2⟩;rcases hd with hd|hd
  ·exact hd
  ·cases B with
   |none=>exact absurd rfl hB
   |some b=>exact absurd h1 (hd v b)
 unfold xW at h;cases hq:bS o with
 |true=>
  rw [hq]at h;cases hm:lX o with
  |true=>
   rw [hm]at h;obtain⟨T',S',h1,h2,h3,h4,h5,fV⟩:=lY h st tm;exact quiet h1 (uF az hq h1) h2 h3 h4 (.inl ⟨h5,fV⟩) λv B hv=>by cases B<;>exact hv
  |false=>
   rw [hm]at h;exact quiet h (uF az hq h) st tm rfl (.inr λv b hv=>hv) λv B hv=>by cases B<;>first|exact hv.elim|exact hv
 |false=>
  cases o<;>try (first|(cases hq;done)|(rw [hq]at h;exact h.elim))
  case buildSlice t n ps=>exact se az (d:=d) (F:=F) (by simpa only [xW]using h) ho st tm
  case store t x y=>exact CT az (d:=d) (F:=F) (by simpa only [xW]using h) ho st tm
  case mapUpdate t x k y=>exact mE az h (.inl ho) st tm
  case insert t x k y=>exact mE az h (.inr ho) st tm
  case slice t x lo hi mx=>
   cases mx with
   |some z=>
    have h':qK TY F d (.slice t x lo hi (some z)) T S λv b=>match b with|none=>K v T S|some _=>False:=by
     simp only [bS]at h;exact h
    exact quiet h' (qA az h') st tm rfl (.inr λv b hv=>hv) λv B hv=>by cases B<;>first|exact hv.elim|exact hv
   |none=>
    by_cases hx:∃k,aT T x= .vec k
    ·obtain⟨k,hx⟩:=hx
     exact Fp az (d:=d) (F:=F) hx (by simpa only [xW]using h) ho st tm
    ·by_cases hn:aT T x= .ar
     ·simp only [bS,aD,hn]at h
      split at h
      ·rename_i y
       obtain⟨kk,n,hy,rfl,h⟩:=dU h;split at h
       ·rename_i e hd
        obtain⟨hz,h⟩:=aq.1 h;exact .val (xY az hn hy hd (ah hz) ho tm) ⟨O,M,T,S,_,h,st,tm,rfl,rfl⟩
       ·exact h.elim
      ·exact h.elim
     have h':qK TY F d (.slice t x lo hi none) T S λv b=>match b with|none=>K v T S|some _=>False:=by
      simp only [bS,aD]at h;split at h
      ·rename_i k hk;exact absurd ⟨k,hk⟩ hx
      ·rename_i hk;exact absurd hk hn
      ·exact h
     exact quiet h' (tf az h') st tm rfl (.inr λv b hv=>hv) λv B hv=>by cases B<;>first|exact hv.elim|exact hv
  case call c=>
   simp only [bS]at hq h;cases hc:c.callee with
   |invoke=>rw [hc]at h;exact h.elim
   |builtin b=>
    rw [hc]at hq;cases b<;>try (cases hq;done)
    ·exact Ax az (d:=d) (F:=F) hc (by simpa only [xW,bS,hc]using h) ho st tm
    ·exact CK az (d:=d) (F:=F) hc (by simpa only [xW,bS,hc]using h) ho st tm
    ·exact Fq az (d:=d) (F:=F) hc (by simpa only [xW,bS,hc]using h) ho st tm
   |value x=>
    rw [hc]at h
    have mcall:∀{f:FuncId},vF F f c.args.toList x T S K->fj P (execOp a.eval oo) w (bM w0 M0 a T.length K):=λ{f} h=>by
     obtain⟨cs,h1,h2⟩:=CH hF h st tm;have aN:=nj (vE hF h) ho hc (e:=a.eval) (cs:=cs) h1 w;exact .inr (.inr ⟨f,_,w,aN,h2.mono λe w' ⟨u,he,O',M',T',S',v,h1,h2,h3,h4,h5⟩=>⟨u,he,O',M',T',S',v,h1,h2,h3,h4,h5⟩⟩)
    cases x with
    |func f=>
     rcases h with h|h|h
     ·simp only [dA]at h
      exact vL hF (cap:=[]) ho hc rfl (by simpa using h) st tm
     ·exact mcall h
     ·simp only [dA]at h
      have aN:=nj (uf hF h) ho hc (e:=a.eval) (cs:=[]) rfl w;rw [List.append_nil]at aN;exact .inr (.inr ⟨f,_,w,aN,(Ay hF h st tm (qy tm c.args.toList)).mono λe w' ⟨u,he,O',M',T',S',v,h1,h2,h3,h4,h5⟩=>⟨u,he,O',M',T',S',v,h1,h2,h3,h4,h5⟩⟩)
    |_=>
     simp only [aD]at h;split at h
     ·rename_i f cap hx
      rcases h with h|h
      ·simp only [dA,jh]at h
       exact vL hF ho hc hx h st tm
      ·exact mcall h
     ·rename_i f r i hx
      simp only [dA,jh]at h;exact CR hF ho hc hx h st tm
     ·exact h.elim
theorem Az(az:aR P TY){o:Op}{T:List AV}{K:AV->List AV->ak->Prop}{a:Act}{oo:Oper}(h:Mh TY d o T S K)
  (ho:oo.op=o) (st:St M0 O M S w) (tm:Tm O w M T a):fj P (execOp a.eval oo) w (bM w0 M0 a T.length K):=by
 cases o<;>try exact h.elim
 rename_i t x;obtain⟨T1,S1,h,st1,tm1,Qi,dF,fV⟩:=lY h st tm;rw [aD]at h;have hx:=a8 tm1 x;split at h
 ·rename_i k i kU
  rw [kU]at hx;split at h
  ·rename_i r hf
   rw [aq,aq]at h;obtain⟨aY,L9,h⟩:=h;have h:=Mi h;obtain⟨S2,hK,hS⟩:=cO h;rw [hf]at hS;obtain⟨o,b,g1,g2,g3,g4,g5⟩:=hx;obtain⟨o',rows,g6,hD⟩:=st1.aZ k _ hf;rw [oV g6]at g1;cases g1;have hlen:=hD.len;have Z8:d≠k:=λe=>by rw [<-e,dF]at hf;cases hf
   obtain⟨ρ2,st2,UC,bg⟩:=st1.Qs (S':=(d,.vec 0 (r.row i.toNat) [])::S2) dF fV L9 g6 hD ⟨g3,aa⟩ hf (λj=>by
    rw [aF]
    by_cases hj:j=d
    ·simp [hj]
    ·rw [ajm (Ne.symm hj),ajm hj,hS j];rfl)
   have h7:=hD.outer;simp only [g2]at h7;obtain⟨g19,cs,ty,g20,g21,g22,g23⟩:=h7;have bD:i.toNat<r.len:=aa;obtain⟨c,s3,mX⟩:=g23 i.toNat bD;have mX:=mX.resolve_left (by simp);subst mX;obtain⟨hs,oF⟩:=gN aY;have AA:=lq hD.rq;have aH:=az.at (t:=t) (.inl (by rw [hs,AA];decide));have Mj:bN (au TY t).d=false:=by rw [oF];have:=hD.rq;cases r<;>first|rfl|cases this
   have hl:=fF (t:=t) (b:=b) (off:=i.toNat) (c:=(rows.getD i.toNat cG).val) aH Mj (by rw [cell_of_heap g20];exact s3);refine .val (v:=(rows.getD i.toNat cG).val) (w':=w) ?_ ⟨ρ2,dB M O d,T1,_,.vec d,hK,st2,⟨tm1.defers,tm1.size,λj=>(tm1.tmp j).view UC⟩,Qi,bg⟩;rw [hD.Pd,ajV]at g5;simp [execOp,ho,g5,hl]
  ·exact h.elim
 ·exact h.elim
theorem Jl(az:aR P TY){F:Spec}(hF:ck P F){o:Op}{T:List AV}{K:AV->List AV->ak->Prop}{a:Act}{oo:Oper}(h:Pe TY F d o T S K)
  (ho:oo.op=o) (st:St M0 O M S w) (tm:Tm O w M T a):fj P (execOp a.eval oo) w (bM w0 M0 a T.length K):=by
 unfold Pe at h;split at h
 ·exact Az az h ho st tm
 ·exact Jk az hF h ho st tm
end
def uG(x y:AV):Prop:=x=y\/∃e e',x= .bool e/\y= .bool e'/\e.val=e'.val
theorem uG.refl(x:AV):uG x x:=.inl rfl
theorem uG.symm{x y:AV}(h:uG x y):uG y x:=by
 rcases h with rfl|⟨e,e',h1,h2,h3⟩
 ·exact .inl rfl
 ·exact .inr ⟨e',e,h2,h1,h3.symm⟩
theorem uG.trans{x y z:AV}(h:uG x y)(h':uG y z):uG x z:=by
 rcases h with rfl|⟨e,e',rfl,rfl,h3⟩
 ·exact h'
 ·rcases h' with rfl|⟨f,f',h4,rfl,h6⟩
  ·exact .inr ⟨e,e',rfl,rfl,h3⟩
  ·cases h4;exact .inr ⟨e,f',rfl,rfl,h3.trans h6⟩
theorem uG.rep{x y:AV}{O:Env}{w:World}{M:a7}{v:Value}(h:uG x y)(hv:aC O w M x v):aC O w M y v:=by
 rcases h with rfl|⟨e,e',rfl,rfl,h3⟩
 ·exact hv
 ·have hv:v= .bool e.val:=hv
  exact(by rw [hv,h3]:v= .bool e'.val)
def n8(ops:Array Oper)(T:List AV)(g:Option (Nat × Bool))(r:Bool):Prop:=
 match g with
 |none=>r=true
 |some (j,want)=>∃d,(ops[j]?).bind (·.dst)=some d/\((∃e,nth T d= .bool e/\r=(some e.val==some want))\/(nth T d= .cL []/\r=false))
theorem yJ{ops:Array Oper}{g:Option (Nat × Bool)}{T:List AV}{yes no:List AV->Prop}(h:fY ops.toList g T yes no):
  ∃r T',n8 ops T g r/\T'.length=T.length/\(∀t,uG (nth T t) (nth T' t))/\(if r then yes T' else no T'):=by
 unfold fY at h;split at h
 ·exact⟨true,T,rfl,rfl,λt=>uG.refl _,h⟩
 ·rename_i j want
  split at h
  ·rename_i d hd
   have iK:(ops[j]?).bind (·.dst)=some d:=by
    simp only [List.getD,ajt]at hd;cases ho:ops[j]? with
    |none=>rw [ho]at hd;exact absurd hd (by simp;rintro⟨⟩)
    |some o=>rw [ho]at hd;simpa using hd
   split at h
   ·rename_i e he
    have h1:=sq h;rw [fZ]at h1;refine⟨some e.val==some want,T.set d (.bool (.lit e.val)),⟨d,iK,.inl ⟨e,he,rfl⟩⟩,ajv,λt=>?_,?_⟩
    ·rw [iZ]
     split
     ·rename_i ht;obtain⟨rfl,_⟩:=ht
      rw [he];exact .inr ⟨e,.lit e.val,rfl,rfl,rfl⟩
     ·exact uG.refl _
    ·revert h1;cases e.val<;>cases want<;>intro h1<;>exact h1
   ·rename_i he
    exact⟨false,T,⟨d,iK,.inr ⟨he,rfl⟩⟩,rfl,λt=>uG.refl _,by simpa using h⟩
   ·exact h.elim
  ·exact h.elim
theorem qB{ops:Array Oper}{j d:Nat}{want:Bool}{a:Act}{O:Env}{w:World}{M:a7}(h1:(ops[j]?).bind (·.dst)=some d)(h3:aC O w M (.cL []) (a.tmps.getD d undef)):(yielded ops a.tmps j==some want)=false:=by
 obtain⟨cs,h4,_⟩:=h3;unfold yielded;rw [h1];simp only [Option.bind_some];cases hd:a.tmps[d]? with
 |none=>rfl
 |some v=>
  have:a.tmps.getD d undef=v:=by simp [Array.getD_eq_getD_getElem?,hd]
  rw [this]at h4;subst h4
  rfl
theorem AB{ops:Array Oper}{o:Oper}{T:List AV}{r:Bool}{a:Act}{O:Env}{w:World}{M:a7}(h:n8 ops T o.guard r)(bu:a.tmps.size=T.length)
  (hd:∀j want d,o.guard=some (j,want)->(ops[j]?).bind (·.dst)=some d->aC O w M (nth T d) (a.tmps.getD d undef)):
  Region.wanted o (yielded ops a.tmps)=r:=by
 unfold n8 at h;unfold Region.wanted;cases hg:o.guard with
 |none=>rw [hg]at h;exact h.symm
 |some jw=>
  obtain⟨j,want⟩:=jw;rw [hg]at h;obtain⟨d,h1,h2⟩:=h;have h3:=hd j want d hg h1;rcases h2 with ⟨e,h2,rfl⟩|⟨h2,rfl⟩
  ·rw [h2]at h3
   have h3:a.tmps.getD d undef= .bool e.val:=h3
   have aX:d<a.tmps.size:=by
    rcases ajF d a.tmps.size with h'|h'
    ·exact h'
    ·rw [AD T d aa]at h2;cases h2
   have h4:a.tmps[d]? =some (.bool e.val):=by
    rw [ajE aX];simp [Array.getD,aX]at h3;rw [h3]
   simp [yielded,h1,h4]
  ·rw [h2]at h3
   exact qB h1 h3
section
variable{P:Program}{TY:List cV}{w0 w:World}{M0:eE w0}{O:Env}{M:a7}{S:ak}{d:Nat}{Q:Exit->Act->World->Prop}
theorem Tm.aeq{T T':List AV}{a:Act}(tm:Tm O w M T a)(hl:T'.length=T.length)(h:∀t,uG (nth T t) (nth T' t)):Tm O w M T' a:=
 ⟨tm.defers,by rw [hl];exact tm.size,λi=>(h i).rep (tm.tmp i)⟩
theorem Tm.put{T:List AV}{a:Act}{dst:Option Nat}{v:AV}{u:Value}(tm:Tm O w M T a)(hv:aC O w M v u){K:List AV->Prop}(h:ja dst T v K):
  ∃T',K T'/\T'.length=T.length/\Tm O w M T' (a.put dst u):=by
 cases dst with
 |none=>exact⟨T,h,rfl,tm⟩
 |some d=>
  simp only [ja,fZ]at h;refine⟨_,h,ajv,tm.defers,by simp [Act.put,tm.size],λi=>?_⟩;rw [iZ]
  by_cases hi:i=d
  ·subst hi
   by_cases aX:i<T.length
   ·simp [aX,Act.put,tm.size,hv]
   ·rw [ajm (by simp [aX])]
    rw [AD T i aa];trivial
  ·rw [ajm (by simp [hi])]
   have:(a.put (some d) u).tmps.getD i undef=a.tmps.getD i undef:=by
    simp [Act.put,Array.getD_eq_getD_getElem?,Array.getElem?_setIfInBounds_ne (Ne.symm hi)]
   rw [this];exact tm.tmp i
def End(w0:World)(M0:eE w0)(n:Nat)(K:List AV->ak->Prop)(a:Act)(w:World):Prop:=
 ∃O M T S,K T S/\St M0 O M S w/\Tm O w M T a/\T.length=n
theorem lZ(az:aR P TY){F:Spec}(hF:ck P F){ops:Array Oper}{i:Nat}{o:Oper}(hi:ops[i]? =some o){T:List AV}{K:List AV->ak->Prop}{N:Act->World->Prop}{a:Act}
  (h:fY ops.toList o.guard T (λT=>Pe TY F (o.dst.getD 999) o.op T S λv T S=>ja o.dst T v λT=>K T S) (λT=>ja o.dst T (.cL []) λT=>K T S))
  (st:St M0 O M S w) (tm:Tm O w M T a) (hN:∀a w,End w0 M0 T.length K a w->N a w):wpOp P ops Q i N a w:=by
 obtain⟨r,T1,hg,hl,heq,h1⟩:=yJ h;have hw:=AB (O:=O) (w:=w) (M:=M) hg tm.size (λj want d _ _=>tm.tmp d);have tm1:=tm.aeq hl heq;simp only [wpOp,hi];cases r with
 |true=>
  rw [ajq hw];rw [ajq rfl]at h1;refine .inl ((Jl az hF (oo:=o) h1 rfl st tm1).wp λu w' ⟨O',M',T',S',v,g1,g2,g3,g4,g5⟩=>hN _ _ ?_);obtain⟨T2,h2,h3,h4⟩:=g3.put g5 g1;exact⟨O',M',T2,S',h2,g2,h4,by rw [h3,g4,hl]⟩
 |false=>
  rw [ajm (by rw [hw];simp)];rw [ajm (by simp)]at h1;obtain⟨T2,h2,h3,h4⟩:=tm1.put (v:=.cL []) (u:=undef) ⟨#[],rfl,ag⟩ h1;exact hN _ _ ⟨O,M,T2,S,h2,st,h4,by rw [h3,hl]⟩
theorem vN(az:aR P TY){F:Spec}(hF:ck P F){ops:Array Oper}:∀(rest:List Oper) (i:Nat) {T:List AV} {S:ak} {O:Env} {M:a7} {w:World} {K:List AV->ak->Prop} {a:Act},
  ops.toList.drop i=rest->Jm TY F ops.toList rest T S K->St M0 O M S w->Tm O w M T a->(∀a w,End w0 M0 T.length K a w->Q .normal a w)->wpOps P ops Q (List.range' i rest.length) a w
 |[],i,T,S,O,M,w,K,a,_,h,st,tm,hQ=>hQ _ _ ⟨O,M,T,S,h,st,tm,rfl⟩
 |o::rest,i,T,S,O,M,w,K,a,hr,h,st,tm,hQ=>by
  have hi:ops[i]? =some o:=by
   have:=ajs (·.head?) hr;simp [List.head?_drop]at this;exact this
  have Fj:ops.toList.drop (i+1)=rest:=by
   have:=ajs List.tail hr
   simpa [List.tail_drop]using this
  rw [ajY,List.range'_succ,wpOps_cons];simp only [Jn,sr]at h;refine lZ (K:=λT S=>Jm TY F ops.toList rest T S K) az hF hi h st tm λa w ⟨O',M',T',S',h1,h2,h3,h4⟩=>?_;exact vN az hF rest (i+1) Fj h1 h2 h3 (λa w hE=>hQ a w (by rw [h4]at hE;exact hE))
end
end Go.AM
end
