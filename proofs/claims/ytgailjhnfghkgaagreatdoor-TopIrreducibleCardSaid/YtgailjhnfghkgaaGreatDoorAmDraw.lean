import Derived.Test.YtgailjhnfghkgaaGreatDoorAmAppend
import Derived.Laws.IdiomCopy
section
namespace Go.AM
open Go
theorem Bw:∀{S:ai} {k:Nat} {B:dH},aj S k=some B->∀{p:Nat->dH->Prop},(∀e∈S,p e.1 e.2)->p k B
 |[],_,_,h,_,_=>by cases h
 |(j,b)::S,k,B,h,p,hp=>by
  rw [aD]at h;split at h
  ·rename_i he;subst he;cases h;exact hp (j,b) (by simp)
  ·exact Bw h λ e he=>hp e (List.mem_cons_of_mem _ he)
theorem pM{S S':ai}:∀{R:ai} {k:Nat} {B':dH},JF S S' R->aj R k=some B'->
  (match aj S k with|some b=>Yq S S' b B'|none=>match B' with|.vec wm r []=>loc k=true/\wm=0/\r.len=0|_=>False)
 |[],_,_,_,h=>by cases h
 |(j,b)::R,k,B',h,hf=>by
  rw [aD]at hf;split at hf
  ·rename_i he
   subst he;cases hf;have h1:=h.1
   revert h1
   cases aj S j with
   |some=>exact id
   |none=>
    cases b with
    |box=>exact id
    |map=>exact id
    |deep=>exact id
    |dE=>exact id
    |ma=>exact id
    |vec wm r ov=>
     cases ov with
     |nil=>exact λ h=>al.1 h
     |cons=>exact id
  ·exact pM h.2 hf
def dc(S S':ai)(ρ:Env):Env:=λ k=>match aj S' k with
 |none=>none
 |some B'=>match aj S k with
  |some _=>ρ k
  |none=>match B' with|.vec _ r _=>some (.sl ⟨none,0,0,r.sz⟩)|_=>none
def ec(S':ai)(ρ:Env)(M:aX):aX:=λ b off=>M b off/\∀k,hasB ρ k b->∃B',aj S' k=some B'/\∀wm r ov,B'= .vec wm r ov->wm*r.sz<=off
section
variable{P:Program}{TY:List cP}{w0 w:World}{M0:ef w0}{ρ:Env}{M:aX}{S S':ai}
theorem pN(S':ai)(ρ:Env)(w:World)(M:aX):bB w M w (ec S' ρ M):=λ _ _ _ h h'=>⟨h,λ hm=>h' hm.1⟩
theorem mI{k:Nat}(h:(aj S' k).isSome)(h':(aj S k).isSome):dc S S' ρ k=ρ k:=by
 obtain⟨B,hB⟩:=Option.isSome_iff_exists.1 h;obtain⟨B',q8⟩:=Option.isSome_iff_exists.1 h';simp [dc,hB,q8]
theorem iP{k:Nat}(h:sx S k):(aj S k).isSome:=by
 unfold sx at h;cases hf:aj S k<;>simp_all
theorem nD{k:Nat}(h:FX S k):aj S k=none:=by
 unfold FX at h;cases hf:aj S k<;>simp_all
theorem fk{k:Nat}{B:dH}{r:RO}{v:Value}(hB:eA ρ w M k B)(hf:n7 B=some r)(hd:aj S' k=none)(hv:aH ρ w M (.vec k) v):a8 w (ec S' ρ M) r v:=
 rv (λ _ _ h=>h.1) (λ b off h h'=>by obtain⟨B',q8,_⟩:=h'.2 k h;rw [hd]at q8;cases q8) hB hf hv
theorem Sr(st:St M0 ρ M S w){a b:AV}{v:Value}(h:NN S S' a b):
  (az ρ w M a v->az (dc S S' ρ) w (ec S' ρ M) b v)/\(ck ρ w M a v->ck (dc S S' ρ) w (ec S' ρ M) b v)/\(aH ρ w M a v->aH (dc S S' ρ) w (ec S' ρ M) b v):=by
 have hk:=pN S' ρ w M;cases b with
 |any=>exact⟨λ _=>trivial,λ _=>trivial,λ hv=>aH.aM hv⟩
 |int k n=>
  cases a<;>try exact h.elim
  simp only [NN,al]at h;obtain⟨h1,rfl⟩:=h;obtain rfl:=bZ h1;exact⟨id,id,id⟩
 |bool e=>
  cases a<;>try exact h.elim
  rename_i e';have h:e'.val=e.val:=h;refine⟨λ hv=>?_,λ hv=>?_,λ hv=>?_⟩<;>(have hv:v= .bool e'.val:=hv;exact(by rw [hv,h]:v= .bool e.val))
 |ro r=>
  have nil_ro:r.len=0->v= .slice none 0 0->a8 w (ec S' ρ M) r v:=λ hr hv=>by
   subst hv;exact⟨by rw [hr];exact Nat.zero_le _,none,0,by rw [hr],by rw [hr];exact Nat.le_refl _,.inl (by simp [RO.cells,hr])⟩
  cases a<;>try exact h.elim
  ·have h:_=r:=h
   subst h;exact⟨λ hv=>a8.keep hk hv,λ hv=>a8.keep hk hv,λ hv=>a8.keep hk hv⟩
  ·rename_i k
   simp only [NN]at h;split at h
   ·rename_i wm r0 hf
    have hB:=st.aW k _ hf;split at h
    ·rename_i hd
     obtain⟨_,rfl⟩:=h;exact⟨λ hv=>fk hB rfl hd hv,λ hv=>fk hB rfl hd hv,λ hv=>fk hB rfl hd hv⟩
    ·rename_i wm' s hd
     rw [al,bS]at h;obtain⟨bk,hw,rfl⟩:=h
     have key:aH ρ w M (.vec k) v->a8 w (ec S' ρ M) r0 v:=λ hv=>by
      obtain⟨o,h8,rfl⟩:=hv;obtain⟨⟨o',h2,h3⟩,_⟩:=hB;obtain rfl:=cx h2 h8;refine uI (λ _ _ h=>h.1) (λ b off hb aS hm=>?_) h3;obtain⟨B',h4,h5⟩:=hm.2 k (by simp [hasB,h2,bY.has,hb]);rw [hd]at h4;have h6:=h5 wm' s [] (Option.some.inj h4).symm;rw [<-ay.1 bk]at h6;have h7:r0.len*r0.sz<=wm'*r0.sz:=Nat.mul_le_mul_right _ hw;unfold RO.cells at aS;omega
     exact⟨key,key,key⟩
    ·exact h.elim
   ·rename_i r0 hf
    obtain⟨hd,rfl⟩:=h;have hB:=st.aW k _ hf;exact⟨λ hv=>fk hB rfl (nD hd) hv,λ hv=>fk hB rfl (nD hd) hv,λ hv=>fk hB rfl (nD hd) hv⟩
   ·exact h.elim
  ·exact⟨λ hv=>nil_ro h hv,λ hv=>nil_ro h hv,λ hv=>nil_ro h hv⟩
 |vec k'=>
  cases a<;>try exact h.elim
  ·obtain⟨rfl,h1,h2⟩:=h
   have he:=mI (ρ:=ρ) (iP h1) (iP h2);refine⟨λ hv=>?_,λ hv=>?_,λ hv=>?_⟩<;>(obtain⟨o,g1,g2⟩:=hv;exact⟨o,by rw [he];exact g1,g2⟩)
  ·simp only [NN]at h
   split at h
   ·rename_i h1 h2
    rename_i wm0 r0 ov0;have he:dc S S' ρ k'=some (.sl ⟨none,0,0,r0.sz⟩):=by simp only [dc,h1,h2]
    refine⟨λ hv=>?_,λ hv=>?_,λ hv=>?_⟩<;>(have hv:v= .slice none 0 0:=hv;exact⟨_,iD he,by rw [hv];rfl⟩)
   ·exact h.elim
 |ptr k' o'=>
  cases a<;>try exact h.elim
  obtain⟨rfl,rfl,h1,h2⟩:=h;have he:=mI (ρ:=ρ) (iP h1) (iP h2);refine⟨λ hv=>?_,λ hv=>?_,λ hv=>?_⟩<;>(have hv:(ρ _).bind (bY.ref · _)=some v:=hv;exact(by rw [he];exact hv:((dc S S' ρ) _).bind (bY.ref · _)=some v))
 |ao=>
  cases a<;>try exact h.elim
  exact⟨id,id,id⟩
 |bK=>
  cases a<;>try exact h.elim
  exact⟨id,id,id⟩
 |str l=>
  cases a<;>try exact h.elim
  have h:_=l:=h;subst h;exact⟨id,id,id⟩
 |eH r i=>
  cases a<;>try exact h.elim
  obtain⟨rfl,rfl⟩:=h;refine⟨λ hv=>?_,λ hv=>?_,λ hv=>?_⟩<;>(obtain⟨b,off,cap,h1,h2⟩:=hv;exact⟨b,off,cap,h1.keep hk,h2⟩)
 |tP f r i=>
  cases a<;>try exact h.elim
  obtain⟨rfl,rfl,rfl⟩:=h;refine⟨λ hv=>?_,λ hv=>?_,λ hv=>?_⟩<;>(obtain⟨b,off,cap,h1,h2⟩:=hv;exact⟨b,off,cap,h1.keep hk,h2⟩)
 |fn f l=>
  cases l with
  |cons x l=>cases a<;>exact h.elim
  |nil=>
   cases a<;>try exact h.elim
   rename_i g m;cases m<;>try exact h.elim
   have h:g=f:=h;subst h;exact⟨λ⟨cs,h1,h2⟩=>⟨cs,h1,Bx h2⟩,id,id⟩
 |_=>exact h.elim
theorem Ki(st:St M0 ρ M S w):∀{l m:List AV} {vs:List Value},Ss S S' l m->aJ (aH ρ w M) l vs->aJ (aH (dc S S' ρ) w (ec S' ρ M)) m vs
 |[],[],_,_,h=>by cases ‹List Value›<;>exact h
 |_::_,_::_,_::_,h,hv=>⟨(Sr st h.1).2.2 hv.1,Ki st h.2 hv.2⟩
 |[],_::_,_,h,_=>h.elim
 |_::_,[],_,h,_=>h.elim
 |_::_,_::_,[],_,hv=>hv.elim
theorem Vu(st:St M0 ρ M S w):∀{l m:List AV} {vs:List Value},Q2 S S' l m->aJ (ck ρ w M) l vs->aJ (ck (dc S S' ρ) w (ec S' ρ M)) m vs
 |[],[],_,_,h=>by cases ‹List Value›<;>exact h
 |a::l,b::m,v::vs,h,hv=>by
  refine⟨?_,Vu st h.2 hv.2⟩;have h1:=h.1;cases b with
  |agg y=>
   cases a<;>try exact h1.elim
   obtain⟨cs,h2,h3⟩:=hv.1;exact⟨cs,h2,Ki st h1 h3⟩
  |_=>exact(Sr st h1).2.1 hv.1
 |[],_::_,_,h,_=>h.elim
 |_::_,[],_,h,_=>h.elim
 |_::_,_::_,[],_,hv=>hv.elim
theorem iX(st:St M0 ρ M S w){a b:AV}{v:Value}(h:FY S S' a b)(hv:az ρ w M a v):az (dc S S' ρ) w (ec S' ρ M) b v:=by
 cases b with
 |agg m=>
  cases a<;>try exact h.elim
  obtain⟨cs,h2,h3⟩:=hv;exact⟨cs,h2,Ki st h h3⟩
 |cC m=>
  cases a<;>try exact h.elim
  obtain⟨cs,h2,h3⟩:=hv;exact⟨cs,h2,Vu st h h3⟩
 |fn f m=>
  cases a<;>try exact h.elim
  obtain⟨cs,h2,h3⟩:=hv;obtain⟨rfl,h⟩:=h;exact⟨cs,h2,Ki st h h3⟩
 |_=>simp only [FY]at h;exact(Sr st h).1 hv
theorem mJ{a:AV}{v:Value}(hn:uJ S' a=true)(hS:∀k,(aj S' k).isSome->(ρ k).isSome->(aj S k).isSome):
  ((∀l,a≠.agg l)->(∀l,a≠.cC l)->(∀f l,a≠.fn f l)->az ρ w M a v->az (dc S S' ρ) w (ec S' ρ M) a v)/\((∀l,a≠.agg l)->ck ρ w M a v->ck (dc S S' ρ) w (ec S' ρ M) a v)/\(aH ρ w M a v->aH (dc S S' ρ) w (ec S' ρ M) a v):=by
 have hk:=pN S' ρ w M;have l7:∀k,(match aj S' k with|some _=>true|none=>false)=true->(aj S' k).isSome:=λ k h=>by cases hf:aj S' k<;>simp_all
 have live:∀k,(aj S' k).isSome->∀o,ρ k=some o->dc S S' ρ k=some o:=λ k h o ho=>by
  rw [mI h (hS k h (by rw [ho];rfl))];exact ho
 cases a with
 |vec k=>refine⟨λ _ _ _ hv=>?_,λ _ hv=>?_,λ hv=>?_⟩<;>(obtain⟨o,g1,g2⟩:=hv;exact⟨o,a6 (live k (l7 k hn)) g1,g2⟩)
 |ptr k off=>refine⟨λ _ _ _ hv=>?_,λ _ hv=>?_,λ hv=>?_⟩<;>exact a6 (live k (l7 k hn)) hv
 |dS k i=>refine⟨λ _ _ _ hv=>?_,λ _ hv=>?_,λ hv=>?_⟩<;>(obtain⟨o,b,g1,g2⟩:=hv;exact⟨o,b,a6 (live k (l7 k hn)) g1,g2⟩)
 |gd k i j=>refine⟨λ _ _ _ hv=>?_,λ _ hv=>?_,λ hv=>?_⟩<;>(obtain⟨o,b,g1,g2⟩:=hv;exact⟨o,b,a6 (live k (l7 k hn)) g1,g2⟩)
 |gf k i=>refine⟨λ _ _ _ hv=>?_,λ _ hv=>?_,λ hv=>?_⟩<;>(obtain⟨o,g1,g2⟩:=hv;exact⟨o,a6 (live k (l7 k hn)) g1,g2⟩)
 |ro r=>exact⟨λ _ _ _ hv=>a8.keep hk hv,λ _ hv=>a8.keep hk hv,λ hv=>a8.keep hk hv⟩
 |eH r i=>refine⟨λ _ _ _ hv=>?_,λ _ hv=>?_,λ hv=>?_⟩<;>(obtain⟨b,off,cap,h1,h2⟩:=hv;exact⟨b,off,cap,h1.keep hk,h2⟩)
 |tP f r i=>refine⟨λ _ _ _ hv=>?_,λ _ hv=>?_,λ hv=>?_⟩<;>(obtain⟨b,off,cap,h1,h2⟩:=hv;exact⟨b,off,cap,h1.keep hk,h2⟩)
 |any=>exact⟨λ _ _ _ _=>trivial,λ _ _=>trivial,id⟩
 |int k n=>exact⟨λ _ _ _=>id,λ _=>id,id⟩
 |bool e=>exact⟨λ _ _ _=>id,λ _=>id,id⟩
 |ao=>exact⟨λ _ _ _=>id,λ _=>id,id⟩
 |bK=>exact⟨λ _ _ _=>id,λ _=>id,id⟩
 |may b n=>exact⟨λ _ _ _=>id,λ _=>id,id⟩
 |full r=>exact⟨λ _ _ _ hv=>⟨a8.keep hk hv.1,hv.2⟩,λ _ hv=>⟨a8.keep hk hv.1,hv.2⟩,λ hv=>⟨a8.keep hk hv.1,hv.2⟩⟩
 |str l=>exact⟨λ _ _ _=>id,λ _=>id,id⟩
 |new r=>exact⟨λ _ _ _ hv=>hv.elim,λ _ hv=>hv.elim,λ hv=>hv.elim⟩
 |agg l=>exact⟨λ h=>absurd rfl (h l),λ h=>absurd rfl (h l),λ hv=>hv.elim⟩
 |cC l=>exact⟨λ _ h=>absurd rfl (h l),λ _ hv=>hv.elim,λ hv=>hv.elim⟩
 |fn f l=>
  cases l with
  |nil=>exact⟨λ _ _ h=>absurd rfl (h f []),λ _=>id,id⟩
  |cons x l=>exact⟨λ _ _ h=>absurd rfl (h f _),λ _ hv=>hv.elim,λ hv=>hv.elim⟩
theorem jQ(hS:∀k,(aj S' k).isSome->(ρ k).isSome->(aj S k).isSome):∀{l:List AV} {vs:List Value},mK S' l=true->aJ (aH ρ w M) l vs->aJ (aH (dc S S' ρ) w (ec S' ρ M)) l vs
 |[],[],_,_=>trivial
 |a::l,v::vs,hn,hv=>by
  simp only [mK]at hn;split at hn
  ·rename_i ha;exact⟨(mJ ha hS).2.2 hv.1,jQ hS hn hv.2⟩
  ·cases hn
 |[],_::_,_,hv=>hv.elim
 |_::_,[],_,hv=>hv.elim
theorem mL(hS:∀k,(aj S' k).isSome->(ρ k).isSome->(aj S k).isSome):∀{l:List AV} {vs:List Value},oP S' l=true->aJ (ck ρ w M) l vs->aJ (ck (dc S S' ρ) w (ec S' ρ M)) l vs
 |[],[],_,_=>trivial
 |a::l,v::vs,hn,hv=>by
  cases a with
  |agg m=>
   simp only [oP]at hn;split at hn
   ·rename_i ha
    obtain⟨cs,h1,h2⟩:=hv.1;exact⟨⟨cs,h1,jQ hS ha h2⟩,mL hS hn hv.2⟩
   ·cases hn
  |_=>
   simp only [oP]at hn;split at hn
   ·rename_i ha;exact⟨(mJ ha hS).2.1 (by simp) hv.1,mL hS hn hv.2⟩
   ·cases hn
 |[],_::_,_,hv=>hv.elim
 |_::_,[],_,hv=>hv.elim
theorem jR(hS:∀k,(aj S' k).isSome->(ρ k).isSome->(aj S k).isSome):∀{T:List AV} (i:Nat) {v:Value},gm S' T=true->az ρ w M (nth T i) v->az (dc S S' ρ) w (ec S' ρ M) (nth T i) v
 |[],_,_,_,_=>trivial
 |a::T,i,v,hn,hv=>by
  have split':(match a with
   |.agg m=>mK S' m=true
   |.fn _ m=>mK S' m=true
   |.cC m=>oP S' m=true
   |a=>uJ S' a=true)/\gm S' T=true:=by
   cases a<;>simp only [gm]at hn<;>(split at hn)<;>first|exact⟨by assumption,hn⟩|cases hn
  obtain⟨h1,h2⟩:=split';cases i with
  |succ i=>exact jR hS i h2 hv
  |zero=>
   have hv:az ρ w M a v:=hv;show az _ w _ a v;cases a with
   |agg m=>obtain⟨cs,g1,g2⟩:=hv;exact⟨cs,g1,jQ hS h1 g2⟩
   |fn f m=>obtain⟨cs,g1,g2⟩:=hv;exact⟨cs,g1,jQ hS h1 g2⟩
   |cC m=>obtain⟨cs,g1,g2⟩:=hv;exact⟨cs,g1,mL hS h1 g2⟩
   |_=>exact(mJ h1 hS).1 (by simp) (by simp) (by simp) hv
theorem zu(st:St M0 ρ M S w)(h:JF S S' S'):St M0 (dc S S' ρ) (ec S' ρ M) S' w:=by
 have hk:=pN S' ρ w M
 have mH:∀k b,hasB (dc S S' ρ) k b->hasB ρ k b/\(aj S' k).isSome:=by
  intro k b hb;simp only [hasB,dc]at hb;cases h1:aj S' k with
  |none=>rw [h1]at hb;simp at hb
  |some B'=>
   rw [h1]at hb;cases h2:aj S k with
   |some B=>rw [h2]at hb;exact⟨hb,rfl⟩
   |none=>rw [h2]at hb;cases B'<;>simp [bY.has]at hb
 have ix:∀k b,hasB ρ k b->(aj S' k).isSome->∀off,ec S' ρ M b off↔M b off/\∀wm r ov,aj S' k=some (.vec wm r ov)->wm*r.sz<=off:=by
  intro k b hb hs off;obtain⟨B',q8⟩:=Option.isSome_iff_exists.1 hs
  constructor
  ·intro hm
   refine⟨hm.1,λ wm r ov hf=>?_⟩;obtain⟨B2,h1,h2⟩:=hm.2 k hb;exact h2 wm r ov (by rw [h1]at hf;exact Option.some.inj hf)
  ·intro hm
   refine⟨hm.1,λ j hj=>?_⟩;obtain rfl:=st.inj _ _ _ hj hb;exact⟨B',q8,λ wm r ov he=>hm.2 wm r ov (by rw [q8,he])⟩
 refine⟨λ k=>?_,λ k B' q8=>?_,λ i j b hi hj=>st.inj _ _ _ (mH _ _ hi).1 (mH _ _ hj).1,λ b off hm=>st.mlt b off hm.1,st.lD,λ b off hb hm=>st.sub b off hb hm.1,λ b off hb hl hm=>⟨st.eu b off hb hl hm,λ k Be=>absurd Be (st.gU hb hl)⟩,λ k b hb=>st.fresh k b (mH k b hb).1,λ k o hk ho=>?_⟩
 ·simp only [dc]
  cases h1:aj S' k with
  |none=>rfl
  |some B'=>
   have h2:=pM h h1;cases h3:aj S k with
   |some B=>simp only [st.ga k,h3];rfl
   |none=>
    rw [h3]at h2;cases B' with
    |vec wm r ov=>rfl
    |_=>exact h2.elim
 ·have h2:=pM h q8
  cases h3:aj S k with
  |none=>
   rw [h3]at h2;cases B' with
   |box l=>exact h2.elim
   |map=>exact h2.elim
   |deep=>exact h2.elim
   |dE=>exact h2.elim
   |ma=>exact h2.elim
   |vec wm r ov=>
    cases ov with
    |cons=>exact h2.elim
    |nil=>
     obtain⟨_,hw,hr⟩:=h2;exact⟨⟨⟨none,0,0,r.sz⟩,by simp [dc,q8,h3],hr.symm,rfl,by rw [hr];exact Nat.zero_le _,aa,hr,rfl⟩,.inl rfl⟩
  |some B=>
   rw [h3]at h2;have hρ:=mI (ρ:=ρ) (S:=S) (S':=S') (k:=k) (by rw [q8];rfl) (by rw [h3];rfl);have hB:=st.aW k B h3;have uK:(aj S' k).isSome:=by rw [q8];rfl
   cases B with
   |box l=>
    cases B' with
    |vec=>exact h2.elim
    |map=>exact h2.elim
    |deep=>exact h2.elim
    |dE=>exact h2.elim
    |ma=>exact h2.elim
    |box m=>
     obtain⟨b,g1,cs,ty,g2,g3,g4⟩:=hB;refine⟨b,by rw [hρ];exact g1,cs,ty,g2,λ off=>?_,Ki st h2 g4⟩;rw [ix k b (by simp [hasB,g1,bY.has]) uK off,<-g3 off];exact⟨λ hm=>hm.1,λ hm=>⟨hm,λ wm r ov hf=>by rw [q8]at hf;cases hf⟩⟩
   |map kd vk m=>
    cases B' with
    |map kd' vk' m'=>
     have h2:(kd=kd'/\vk=vk')/\m=m':=h2;obtain⟨⟨rfl,rfl⟩,rfl⟩:=h2;obtain⟨b,g1,es,n,g2,g3,g4⟩:=hB;refine⟨b,by rw [hρ];exact g1,es,n,g2,λ off=>?_,g4⟩;rw [ix k b (by simp [hasB,g1,bY.has]) uK off,<-g3 off];exact⟨λ hm=>hm.1,λ hm=>⟨hm,λ wm r ov hf=>by rw [q8]at hf;cases hf⟩⟩
    |_=>first|done|exact h2.elim
   |deep r hole=>
    cases B' with
    |deep r' Vv=>
     cases hole<;>cases Vv<;>try exact h2.elim
     have h2:r=r':=h2;subst h2;obtain⟨o,rows,g1,g2⟩:=hB;refine⟨o,rows,by rw [hρ];exact g1,g2.ext hk λ b hb=>⟨rfl,λ off=>?_⟩⟩;rw [ix k b (by simp only [hasB,g1];exact hb) uK off];exact⟨λ hm=>hm.1,λ hm=>⟨hm,λ wm r ov hf=>by rw [q8]at hf;cases hf⟩⟩
    |_=>cases hole<;>exact h2.elim
   |dE n r=>
    cases B' with
    |dE n' r'=>
     have h2:n=n'/\r=r':=h2;obtain⟨rfl,rfl⟩:=h2;obtain⟨o,cur,g1,g2,g3⟩:=hB
     have hm:∀b,(bY.st o cur).has b->∀off,ec S' ρ M b off↔M b off:=λ b hb off=>by
      rw [ix k b (by simp only [hasB,g1];exact hb) uK off];exact⟨λ hm=>hm.1,λ hm=>⟨hm,λ wm r ov hf=>by rw [q8]at hf;cases hf⟩⟩
     exact⟨o,cur,by rw [hρ];exact g1,g2.HT hk λ b hb=>⟨rfl,hm b (.inr hb)⟩,g3.ext λ b hb=>⟨rfl,hm b (.inl hb)⟩⟩
    |_=>exact h2.elim
   |ma n z=>
    cases B' with
    |ma n' z'=>
     have h2:n=n'/\z=z':=h2;obtain⟨rfl,rfl⟩:=h2;obtain⟨o,g1,g3⟩:=hB
     have hm:∀b,(bY.sl o).has b->∀off,ec S' ρ M b off↔M b off:=λ b hb off=>by
      rw [ix k b (by simp only [hasB,g1];exact hb) uK off];exact⟨λ hm=>hm.1,λ hm=>⟨hm,λ wm r ov hf=>by rw [q8]at hf;cases hf⟩⟩
     exact⟨o,by rw [hρ];exact g1,g3.ext λ b hb=>⟨rfl,hm b hb⟩⟩
    |_=>exact h2.elim
   |vec wm r ov=>
    cases B' with
    |map=>cases ov<;>first|exact h2.elim|(rename_i x y;cases y<;>exact h2.elim)
    |deep=>cases ov<;>first|exact h2.elim|(rename_i x y;cases y<;>exact h2.elim)
    |box m=>cases ov<;>first|exact h2.elim|(rename_i x y;cases y<;>exact h2.elim)
    |dE n' r'=>cases ov<;>first|exact h2.elim|(rename_i x y;cases y<;>exact h2.elim)
    |ma n' z'=>
     cases ov with
     |cons x y=>cases y<;>exact h2.elim
     |nil=>
      have h2:wm=0/\r.len=n'/\r.sz=z':=h2;obtain⟨rfl,rfl,rfl⟩:=h2;obtain⟨⟨o,g1,g2⟩,_⟩:=hB;refine⟨o,by rw [hρ];exact g1,g2.ma.ext λ b hb=>⟨rfl,λ off=>?_⟩⟩;rw [ix k b (by simp only [hasB,g1];exact hb) uK off];exact⟨λ hm=>hm.1,λ hm=>⟨hm,λ wm r ov hf=>by rw [q8]at hf;cases hf⟩⟩
    |vec wm' r' ov'=>
     obtain⟨⟨o,g1,g2,g3,g4,g5,g6⟩,gQ⟩:=hB
     have xW:∀b,o.aW=some b->r'.sz=r.sz->wm<=wm'->(∀cs:Array Value,(∀off,M b off↔wm*o.sz<=off/\off<cs.size)->∀off,ec S' ρ M b off↔wm'*o.sz<=off/\off<cs.size):=by
      intro b hb hz hw cs hM off;rw [ix k b (by simp [hasB,g1,bY.has,hb]) uK off,hM off];have hle:wm*o.sz<=wm'*o.sz:=Nat.mul_le_mul_right _ hw
      constructor
      ·intro hm
       have:=hm.2 wm' r' ov' q8;rw [hz,<-g3]at this;exact⟨this,hm.1.2⟩
      ·intro hm
       refine⟨⟨aa,hm.2⟩,λ wm2 r2 ov2 hf=>?_⟩;rw [q8]at hf;cases hf;rw [hz,<-g3];exact hm.1
     match ov,ov',h2 with
     |[],[],h2=>
      obtain⟨⟨Su,hw2⟩,rfl⟩:=h2;refine⟨⟨o,by rw [hρ];exact g1,g2,g3,g4,hw2,?_⟩,.inl rfl⟩;cases fp:o.aW with
      |none=>simp only [fp]at g6 ⊢;exact g6
      |some b=>
       simp only [fp]at g6 ⊢;obtain⟨g7,cs,ty,g8,g9,g10,g11⟩:=g6;refine⟨g7,cs,ty,g8,g9,xW b fp rfl Su cs g10,λ q hq=>?_⟩;obtain⟨c,g12,g13⟩:=g11 q hq;exact⟨c,g12,av.keep hk g13⟩
     |[(i,j)],[],h2=>
      simp only [Yq]at h2;split at h2
      ·rename_i wmj s hj
       obtain⟨hd,hw',oK⟩:=h2;rcases gQ with gQ|⟨i',j',gQ,DR,Ed,UH,Q3⟩
       ·cases gQ
       cases gQ;obtain⟨r2,zw,xX,tQ,_,cM⟩:=pO oK aa;subst zw;refine⟨⟨o,by rw [hρ];exact g1,by rw [g2,xX],by rw [g3,tQ],by rw [xX];exact g4,by rw [xX];exact hw',?_⟩,.inl rfl⟩;cases fp:o.aW with
       |none=>simp only [fp]at g6 ⊢;rw [xX];exact g6
       |some b=>
        simp only [fp]at g6 ⊢;obtain⟨g7,cs,ty,g8,g9,g10,g11⟩:=g6;refine⟨g7,cs,ty,g8,g9,xW b fp tQ aa cs g10,λ q hq=>?_⟩;obtain⟨c,g12,g13⟩:=g11 q (by simpa [RO.cells,xX,tQ]using hq);refine⟨c,g12,?_⟩;split at g13
        ·rename_i he
         rw [show q=i.toNat from by omega];exact(cM w _).1 c (fk (st.aW j _ hj) rfl (nD hd) g13)
        ·rename_i he
         exact(cM w _).2 q c aa (av.keep hk g13)
      ·exact h2.elim
     |[(i,j)],[(i',j')],h2=>
      obtain⟨rfl,rfl,rfl,rfl,xb,xX⟩:=h2;rcases gQ with gQ|⟨i',j',gQ,DR,Ed,UH,Q3⟩
      ·cases gQ
      cases gQ;refine⟨⟨o,by rw [hρ];exact g1,g2,g3,g4,Nat.zero_le _,?_⟩,.inr ⟨_,_,rfl,DR,rfl,UH,Q3⟩⟩;cases fp:o.aW with
      |none=>simp only [fp]at g6 ⊢;exact g6
      |some b=>
       simp only [fp]at g6 ⊢;obtain⟨g7,cs,ty,g8,g9,g10,g11⟩:=g6;refine⟨g7,cs,ty,g8,g9,xW b fp rfl aa cs g10,λ q hq=>?_⟩;obtain⟨c,g12,g13⟩:=g11 q hq;refine⟨c,g12,?_⟩;split at g13
       ·rename_i he
        simp only [he,if_true];obtain⟨o2,k1,k2⟩:=g13;exact⟨o2,by rw [mI (iP xb) (iP xX)];exact k1,k2⟩
       ·rename_i he
        simp only [he,if_false];exact av.keep hk g13
     |[],_::_,h2=>exact h2.elim
     |[_],_::_::_,h2=>exact h2.elim
     |_::_::_,_,h2=>exact h2.elim
 ·simp only [dc]at ho
  cases h1:aj S' k with
  |none=>rw [h1]at ho;cases ho
  |some B'=>
   have h2:=pM h h1;rw [h1]at ho;cases h3:aj S k with
   |some B=>rw [h3]at ho;exact st.tn k o hk ho
   |none=>
    rw [h3]at h2;cases B' with
    |box l=>exact h2.elim
    |map=>exact h2.elim
    |deep=>exact h2.elim
    |dE=>exact h2.elim
    |ma=>exact h2.elim
    |vec wm r ov=>
     cases ov with
     |cons=>exact h2.elim
     |nil=>rw [h2.1]at hk;cases hk
end
end Go.AM
end
section
namespace Go.AM
open Go
section
variable{P:Program}{TY:List cP}{w0 w:World}{M0:ef w0}{ρ:Env}{M:aX}{S S':ai}
theorem xn{k:Nat}{T:List AV}{a:Act}{K:List AV->ai->Prop}(h:kL S k λ S=>cU k .any T λ T=>b5 k .any S λ S=>K T S)(st:St M0 ρ M S w)(tm:Tm ρ w M T a):
  ∃T' S',K T' S'/\St M0 (aR ρ k) M S' w/\Tm (aR ρ k) w M T' a/\T'.length=T.length:=by
 obtain⟨S1,h1,xe⟩:=gq h;obtain⟨T',h2,hlen,hT⟩:=fH h1;obtain⟨S',h3,FZ⟩:=fI h2;have mM:Conv k .any ρ w M (aR ρ k) w M:=⟨bB.refl _ _,λ j hj o ho=>by simpa [aR,hj]using ho,λ v hv=>aH.aM hv⟩
 have dA:aj S' k=none:=by
  have:=FZ k;rw [xe k]at this;simpa using this
 refine⟨T',S',h3,⟨λ j=>?_,λ j B hB=>?_,λ i j b hi hj=>?_,st.mlt,st.lD,st.sub,st.eu,λ x b hx=>?_,λ x o hx ho=>?_⟩,
  ⟨tm.defers,by rw [hlen];exact tm.size,λ i=>hT _ _ _ _ _ _ mM (λ v _=>⟨ag,ag⟩) i _ (tm.tmp i)⟩,hlen⟩
 ·by_cases hj:j=k
  ·subst hj;simp [aR,dA]
  ·have:=FZ j
   rw [xe j]at this;simp only [hj,if_false]at this;simp only [aR,hj,if_false,st.ga j];cases hf:aj S j with
   |none=>simp only [hf]at this;simp [this]
   |some B=>simp only [hf]at this;obtain⟨B',h4,_⟩:=this;simp [h4]
 ·have hj:j≠k:=λ e=>by subst e;rw [dA]at hB;cases hB
  have:=FZ j;rw [xe j]at this;simp only [hj,if_false]at this;cases hf:aj S j with
  |none=>simp only [hf]at this;rw [this]at hB;cases hB
  |some B0=>
   simp only [hf]at this;obtain⟨B',h4,h5⟩:=this;rw [h4]at hB;cases hB;exact h5 ρ w M _ _ j mM (by simp [aR,hj]) (λ b hb off=>Iff.rfl) (st.aW j B0 hf)
 ·have h1:∀x,hasB (aR ρ k) x b->hasB ρ x b:=λ x hx=>by
   by_cases kH:x=k
   ·subst kH;simp [hasB,aR]at hx
   ·simpa [hasB,aR,kH]using hx
  exact st.inj _ _ _ (h1 _ hi) (h1 _ hj)
 ·by_cases kH:x=k
  ·subst kH;simp [hasB,aR]at hx
  ·exact st.fresh x b (by simpa [hasB,aR,kH]using hx)
 ·by_cases kH:x=k
  ·subst kH;simp [aR]at ho
  ·exact st.tn x o hx (by simpa [aR,kH]using ho)
def iy(ρ:Env)(ks:List Nat):Env:=λ k=>if k∈ks then none else ρ k
theorem kb{a:Act}:∀{ks:List Nat} {T:List AV} {S:ai} {ρ:Env} {K:List AV->ai->Prop},mN ks T S K->St M0 ρ M S w->Tm ρ w M T a->
  ∃T' S',K T' S'/\St M0 (iy ρ ks) M S' w/\Tm (iy ρ ks) w M T' a/\T'.length=T.length
 |[],T,S,ρ,K,h,st,tm=>by
  have e:iy ρ []=ρ:=by funext k;simp [iy]
  rw [e];exact⟨T,S,h,st,tm,rfl⟩
 |k::ks,T,S,ρ,K,h,st,tm=>by
  obtain⟨T1,S1,h1,h2,h3,h4⟩:=xn h st tm;obtain⟨T',S',h5,h6,h7,h8⟩:=kb h1 h2 h3
  have e:iy (aR ρ k) ks=iy ρ (k::ks):=by
   funext j
   simp only [iy,aR,List.mem_cons]
   by_cases hj:j∈ks
   ·simp [hj]
   ·by_cases dM:j=k
    ·simp [dM]
    ·simp [hj,dM]
  rw [e]at h6 h7;exact⟨T',S',h5,h6,h7,h8.trans h4⟩
section
variable{σ:List (Nat × Nat)}{ρ1 ρ2:Env}{M2:aX}
theorem xY{b:AV}{v:Value}(aU:Ee σ b=true)(h:aH ρ w M (kf σ b) v)(hd:∀i j,ba σ i=some j->ρ1 i=ρ j):aH ρ1 w M b v:=by
 cases b with
 |vec k=>
  simp only [Ee]at aU;simp only [kf]at h;cases hf:ba σ k with
  |none=>rw [hf]at aU;cases aU
  |some j=>rw [hf]at h;obtain⟨o,h1,h2⟩:=h;exact⟨o,by rw [hd k j hf];exact h1,h2⟩
 |ptr k off=>
  simp only [Ee]at aU;simp only [kf]at h;cases hf:ba σ k with
  |none=>rw [hf]at aU;cases aU
  |some j=>
   rw [hf]at h;have h:(ρ j).bind (bY.ref · off)=some v:=h;rw [<-hd k j hf]at h;exact h
 |dS k i=>
  simp only [Ee]at aU;simp only [kf]at h;cases hf:ba σ k with
  |none=>rw [hf]at aU;cases aU
  |some j=>rw [hf]at h;obtain⟨o,b,h1,h2⟩:=h;exact⟨o,b,by rw [hd k j hf];exact h1,h2⟩
 |gd k i c=>
  simp only [Ee]at aU;simp only [kf]at h;cases hf:ba σ k with
  |none=>rw [hf]at aU;cases aU
  |some j=>rw [hf]at h;obtain⟨o,b,h1,h2⟩:=h;exact⟨o,b,by rw [hd k j hf];exact h1,h2⟩
 |gf k i=>
  simp only [Ee]at aU;simp only [kf]at h;cases hf:ba σ k with
  |none=>rw [hf]at aU;cases aU
  |some j=>rw [hf]at h;obtain⟨o,h1,h2⟩:=h;exact⟨o,by rw [hd k j hf];exact h1,h2⟩
 |fn f l=>cases l<;>first|exact h|cases aU
 |agg l=>cases aU
 |cC l=>cases aU
 |new r=>cases aU
 |_=>exact h
theorem uL(hd:∀i j o,ba σ i=some j->ρ2 i=some o->ρ j=some o){b:AV}{v:Value}(h:aH ρ2 w M b v):aH ρ w M (kf σ b) v:=by
 cases b with
 |vec k=>
  simp only [kf];cases hf:ba σ k with
  |none=>exact aH.aM h
  |some j=>obtain⟨o,h1,h2⟩:=h;exact⟨o,a6 (λ o'=>hd k j o' hf) h1,h2⟩
 |ptr k off=>
  simp only [kf];cases hf:ba σ k with
  |none=>exact aH.aM h
  |some j=>exact a6 (λ o'=>hd k j o' hf) h
 |dS k i=>
  simp only [kf];cases hf:ba σ k with
  |none=>exact aH.aM h
  |some j=>obtain⟨o,b,h1,h2⟩:=h;exact⟨o,b,a6 (λ o'=>hd k j o' hf) h1,h2⟩
 |gd k i c=>
  simp only [kf];cases hf:ba σ k with
  |none=>exact aH.aM h
  |some j=>obtain⟨o,b,h1,h2⟩:=h;exact⟨o,b,a6 (λ o'=>hd k j o' hf) h1,h2⟩
 |gf k i=>
  simp only [kf];cases hf:ba σ k with
  |none=>exact aH.aM h
  |some j=>obtain⟨o,h1,h2⟩:=h;exact⟨o,a6 (λ o'=>hd k j o' hf) h1,h2⟩
 |fn f l=>cases l<;>first|exact h|exact aH.aM h
 |agg l=>exact h.elim
 |cC l=>exact h.elim
 |new r=>exact h.elim
 |any=>exact h
 |_=>exact h
theorem nE(hd:∀i j,ba σ i=some j->ρ1 i=ρ j):∀{l:List AV} {vs:List Value},UI σ l=true->aJ (aH ρ w M) (Ef σ l) vs->aJ (aH ρ1 w M) l vs
 |[],[],_,_=>trivial
 |a::l,v::vs,aU,h=>by
  simp only [UI]at aU;split at aU
  ·rename_i ha;exact⟨xY ha h.1 hd,nE hd aU h.2⟩
  ·cases aU
 |[],_::_,_,h=>h.elim
 |_::_,[],_,h=>h.elim
theorem mO(hd:∀i j o,ba σ i=some j->ρ2 i=some o->ρ j=some o):∀{l:List AV} {vs:List Value},aJ (aH ρ2 w M) l vs->aJ (aH ρ w M) (Ef σ l) vs
 |[],[],_=>trivial
 |_a::_l,_v::_vs,h=>⟨uL hd h.1,mO hd h.2⟩
 |[],_::_,h=>h.elim
 |_::_,[],h=>h.elim
theorem zx{b:AV}{v:Value}(h:aH ρ w M b v):ck ρ w M b v:=by
 cases b with
 |agg l=>exact h.elim
 |any=>trivial
 |_=>simp only [ck];exact h
theorem Bz(hd:∀i j o,ba σ i=some j->ρ2 i=some o->ρ j=some o):∀{l:List AV} {vs:List Value},aJ (ck ρ2 w M) l vs->aJ (ck ρ w M) (Sv σ l) vs
 |[],[],_=>trivial
 |a::l,v::vs,h=>by
  refine⟨?_,Bz hd h.2⟩;have h1:=h.1;cases a with
  |agg m=>obtain⟨cs,h2,h3⟩:=h1;exact⟨cs,h2,mO hd h3⟩
  |any=>trivial
  |_=>
   simp only [ck]at h1;exact zx (uL hd h1)
 |[],_::_,h=>h.elim
 |_::_,[],h=>h.elim
theorem Kj(hd:∀i j o,ba σ i=some j->ρ2 i=some o->ρ j=some o){a:AV}{v:Value}(h:az ρ2 w M a v):az ρ w M (Kk σ a) v:=by
 cases a with
 |agg m=>obtain⟨cs,h2,h3⟩:=h;exact⟨cs,h2,mO hd h3⟩
 |cC m=>obtain⟨cs,h2,h3⟩:=h;exact⟨cs,h2,Bz hd h3⟩
 |fn f m=>obtain⟨cs,h2,h3⟩:=h;exact⟨cs,h2,mO hd h3⟩
 |any=>trivial
 |_=>simp only [az]at h;exact cE (uL hd h)
theorem kM(hd:∀i j,ba σ i=some j->ρ1 i=ρ j):∀{l:List AV} {vs:List Value},JG σ l=true->aJ (az ρ w M) (xZ σ l) vs->aJ (az ρ1 w M) l vs
 |[],[],_,_=>trivial
 |a::l,v::vs,aU,h=>by
  have hC:∀{b:AV},Ee σ b=true->az ρ w M (kf σ b) v->az ρ1 w M b v:=λ{b} hb hv=>by
   by_cases HU:b= .any
   ·subst HU;trivial
   ·refine cE (xY hb ?_ hd)
    revert hv
    cases b with
    |any=>exact absurd rfl HU
    |agg l=>cases hb
    |cC l=>cases hb
    |new r=>cases hb
    |fn f l=>
     cases l with
     |nil=>rintro⟨cs,h1,h2⟩;obtain⟨l⟩:=cs;cases l<;>first|exact h1|exact h2.elim
     |cons=>cases hb
    |vec k=>simp only [Ee]at hb;simp only [kf];cases hf:ba σ k<;>rw [hf]at hb<;>first|cases hb;done|exact id
    |ptr k o=>simp only [Ee]at hb;simp only [kf];cases hf:ba σ k<;>rw [hf]at hb<;>first|cases hb;done|exact id
    |dS k o=>simp only [Ee]at hb;simp only [kf];cases hf:ba σ k<;>rw [hf]at hb<;>first|cases hb;done|exact id
    |gd k o c=>simp only [Ee]at hb;simp only [kf];cases hf:ba σ k<;>rw [hf]at hb<;>first|cases hb;done|exact id
    |gf k o=>simp only [Ee]at hb;simp only [kf];cases hf:ba σ k<;>rw [hf]at hb<;>first|cases hb;done|exact id
    |_=>exact id
  cases a with
  |agg m=>
   simp only [JG]at aU;split at aU
   ·rename_i hm
    obtain⟨⟨cs,h2,h3⟩,h4⟩:=h;exact⟨⟨cs,h2,nE hd hm h3⟩,kM hd aU h4⟩
   ·cases aU
  |fn f m=>
   simp only [JG]at aU;split at aU
   ·rename_i hm
    obtain⟨⟨cs,h2,h3⟩,h4⟩:=h;exact⟨⟨cs,h2,nE hd hm h3⟩,kM hd aU h4⟩
   ·cases aU
  |cC m=>simp [JG,Ee]at aU
  |_=>
   simp only [JG]at aU;split at aU
   ·rename_i hm
    exact⟨hC hm h.1,kM hd aU h.2⟩
   ·cases aU
 |[],_::_,_,h=>h.elim
 |_::_,[],_,h=>h.elim
end
theorem uM:∀{n:Nat} {l:List Nat},OH n l=false->n∉l
 |_,[],_=>by simp
 |n,m::l,h=>by
  simp only [OH]at h;split at h
  ·cases h
  ·rename_i hb
   simp only [List.mem_cons,not_or];exact⟨beq_false hb,uM h⟩
theorem dC:∀{l:List Nat},lE l=true->l.Nodup
 |[],_=>by simp
 |n::l,h=>by
  simp only [lE]at h;split at h
  ·cases h
  ·rename_i hb;exact List.nodup_cons.2 ⟨uM hb,dC h⟩
theorem BA:∀{l:List Nat},BB l=true->∀n∈l,loc n=true
 |[],_,_,hn=>by cases hn
 |m::l,h,n,hn=>by
  simp only [BB]at h;split at h
  ·rename_i hm
   rcases List.mem_cons.1 hn with rfl|hn
   ·exact hm
   ·exact BA h n hn
  ·cases h
theorem pP{i j k:Nat}{σ:List (Nat × Nat)}:ba ((i,j)::σ) k=if i=k then some j else ba σ k:=by
 simp only [ba];cases h:Nat.beq i k with
 |true=>simp [ay.1 h]
 |false=>simp [beq_false h]
theorem nF:∀{σ:List (Nat × Nat)} {i j:Nat},ba σ i=some j->(i,j)∈σ
 |[],_,_,h=>by cases h
 |(a,b)::σ,i,j,h=>by
  rw [pP]at h;split at h
  ·rename_i e;subst e;cases h;simp
  ·exact List.mem_cons_of_mem _ (nF h)
theorem zy:∀{σ:List (Nat × Nat)} {i j:Nat},(i,j)∈σ->j∈jH σ
 |(a,b)::σ,i,j,h=>by
  simp only [jH,List.mem_cons];rcases List.mem_cons.1 h with e|h
  ·cases e;exact .inl rfl
  ·exact .inr (zy h)
theorem pQ:∀{σ:List (Nat × Nat)},(jH σ).Nodup->∀{i i' j:Nat},ba σ i=some j->ba σ i'=some j->i=i'
 |[],_,_,_,_,h,_=>by cases h
 |(a,b)::σ,hn,i,i',j,h,h'=>by
  simp only [jH,List.nodup_cons]at hn;rw [pP]at h h';split at h
  ·rename_i e
   subst e;split at h'
   ·rename_i e;exact e
   ·cases h;exact absurd (zy (nF h')) hn.1
  ·split at h'
   ·cases h';exact absurd (zy (nF h)) hn.1
   ·exact pQ hn.2 h h'
theorem F1{α:Type}:∀{S:List (Nat × α)} {k:Nat} {B:α},(k,B)∈S->k∈dg S
 |(j,b)::S,k,B,h=>by
  simp only [dg,List.mem_cons];rcases List.mem_cons.1 h with e|h
  ·cases e;exact .inl rfl
  ·exact .inr (F1 h)
theorem iY:∀{S:ai} {k:Nat} {B:dH},aj S k=some B->(k,B)∈S
 |(j,b)::S,k,B,h=>by
  rw [aD]at h;split at h
  ·rename_i e;subst e;cases h;simp
  ·exact List.mem_cons_of_mem _ (iY h)
theorem F2{σ:List (Nat × Nat)}:∀{S:ai},Q4 σ S=true->∀{k:Nat} {B:dH},(k,B)∈S->(∃j,ba σ k=some j)/\okB σ B=true
 |(i,b)::S,h,k,B,hm=>by
  simp only [Q4]at h;split at h
  ·rename_i j hj hb
   rcases List.mem_cons.1 hm with e|hm
   ·cases e;exact⟨⟨_,hj⟩,hb⟩
   ·exact F2 h hm
  ·cases h
theorem uN:∀{S:ai},dq S=true->∀{k:Nat} {B:dH},(k,B)∈S->∀wm r ov,B= .vec wm r ov->ov=[]
 |(i,b)::S,h,k,B,hm,wm,r,ov,e=>by
  subst e;rcases List.mem_cons.1 hm with e|hm
  ·cases e
   cases ov with
   |nil=>rfl
   |cons x l=>simp [dq]at h
  ·refine uN (S:=S) ?_ hm wm r ov rfl
   cases b with
   |box l=>exact h
   |map=>exact h
   |deep r hole=>cases hole<;>first|exact h|(simp [dq]at h)
   |dE=>simp [dq]at h
   |ma=>exact h
   |vec wm' r' ov'=>cases ov'<;>first|exact h|(simp [dq]at h)
theorem lF:∀{S:ai},dq S=true->∀{k:Nat} {B:dH},(k,B)∈S->∀n r,B≠.dE n r
 |(i,b)::S,h,k,B,hm,n,r=>λ e=>by
  subst e;rcases List.mem_cons.1 hm with e|hm
  ·cases e;simp [dq]at h
  ·refine lF (S:=S) ?_ hm n r rfl
   cases b with
   |box l=>exact h
   |map=>exact h
   |deep r hole=>cases hole<;>first|exact h|(simp [dq]at h)
   |dE=>simp [dq]at h
   |ma=>exact h
   |vec wm' r' ov'=>cases ov'<;>first|exact h|(simp [dq]at h)
theorem eA.base{ρ:Env}{w:World}{M:aX}{k:Nat}{B:dH}{o:bY}(h:eA ρ w M k B)(hn:∀n r,B≠.dE n r)(ho:ρ k=some o):o.base=o:=by
 cases B with
 |box l=>obtain⟨b,h1,_⟩:=h;rw [h1]at ho;cases ho;rfl
 |map kd vk m=>obtain⟨b,h1,_⟩:=h;rw [h1]at ho;cases ho;rfl
 |deep r hole=>obtain⟨o',rows,h1,_⟩:=h;rw [h1]at ho;cases ho;rfl
 |dE n r=>exact absurd rfl (hn n r)
 |ma n z=>obtain⟨o',h1,_⟩:=h;rw [h1]at ho;cases ho;rfl
 |vec wm r ov=>obtain⟨⟨o',h1,_⟩,_⟩:=h;rw [h1]at ho;cases ho;rfl
theorem uO{σ:List (Nat × Nat)}:∀{S:ai} {k:Nat} {B:dH} {j:Nat},(k,B)∈S->ba σ k=some j->(j,uP σ B)∈tp σ S
 |(i,b)::S,k,B,j,hm,hf=>by
  simp only [tp];rcases List.mem_cons.1 hm with e|hm
  ·cases e;rw [hf];simp
  ·split
   ·exact List.mem_cons_of_mem _ (uO hm hf)
   ·exact uO hm hf
theorem rA{σ:List (Nat × Nat)}:∀{S:ai} {j:Nat},j∈dg (tp σ S)->∃i,i∈dg S/\ba σ i=some j
 |(i,b)::S,j,h=>by
  simp only [tp]at h;split at h
  ·rename_i j' mb
   simp only [dg,List.mem_cons]at h;rcases h with rfl|h
   ·exact⟨i,by simp [dg],mb⟩
   ·obtain⟨i',h1,h2⟩:=rA h;exact⟨i',by simp [dg,h1],h2⟩
  ·obtain⟨i',h1,h2⟩:=rA h;exact⟨i',by simp [dg,h1],h2⟩
theorem lG{σ:List (Nat × Nat)}(hσ:(jH σ).Nodup):∀{S:ai},(dg S).Nodup->(dg (tp σ S)).Nodup
 |[],_=>by simp [tp,dg]
 |(i,b)::S,h=>by
  simp only [dg,List.nodup_cons]at h;simp only [tp];split
  ·rename_i j hj
   simp only [dg,List.nodup_cons];refine⟨λ hm=>?_,lG hσ h.2⟩;obtain⟨i',h1,h2⟩:=rA hm;obtain rfl:=pQ hσ hj h2;exact h.1 h1
  ·exact lG hσ h.2
theorem rB:∀{V S:ai} {K:ai->Prop},mP V S K->∃S',K S'/\(∀k,k∉dg V->aj S' k=aj S k)/\((dg V).Nodup->∀k B,(k,B)∈V->aj S' k=some B)
 |[],S,K,h=>⟨S,h,λ _ _=>rfl,λ _ k B hm=>by cases hm⟩
 |(i,b)::V,S,K,h=>by
  simp only [mP]at h
  have step:∃S1,mP V S1 K/\∀k,aj S1 k=if i=k then some b else aj S k:=by
   cases hf:aj S i with
   |none=>
    rw [hf]at h;exact⟨_,h,λ k=>aD⟩
   |some B=>
    rw [hf]at h;obtain⟨S1,h1,h2⟩:=cI h;refine⟨S1,h1,λ k=>?_⟩;rw [h2 k]
    by_cases hk:i=k
    ·subst hk;simp [hf]
    ·simp [hk,Ne.symm hk]
  obtain⟨S1,h1,h2⟩:=step;obtain⟨S',h3,h4,h5⟩:=rB h1;refine⟨S',h3,λ k hk=>?_,λ hn k B hm=>?_⟩
  ·simp only [dg,List.mem_cons,not_or]at hk
   rw [h4 k hk.2,h2 k,if_neg (Ne.symm hk.1)]
  ·simp only [dg,List.nodup_cons]at hn
   rcases List.mem_cons.1 hm with e|hm
   ·cases e
    rw [h4 _ hn.1,h2,if_pos rfl]
   ·exact h5 hn.2 k B hm
theorem pR{S1 S2:ai}:∀{σ:List (Nat × Nat)} {i j:Nat},(i,j)∈σ->j∈gone S1 S2 σ\/((aj S1 i).isSome/\(aj S2 i).isSome/\loc i=false)
 |(a,b)::σ,i,j,h=>by
  simp only [gone];rcases List.mem_cons.1 h with e|h
  ·cases e
   split
   ·rename_i h1 h2 h3;exact .inr ⟨by rw [h1];rfl,by rw [h2];rfl,h3⟩
   ·exact .inl (by simp)
  ·rcases pR (S1:=S1) (S2:=S2) h with h|h
   ·exact .inl (by split<;>simp [h])
   ·exact .inr h
theorem rC{σ:List (Nat × Nat)}(hσ:(jH σ).Nodup):∀{R S:ai} {K:ai->Prop},(dg R).Nodup->BC σ R S K->
  ∃S',K S'/\∀k,aj S' k=(match (dg R).find? (λ i=>ba σ i==some k)with|some i=>(aj R i).map (uP σ)|none=>aj S k)
 |[],S,K,_,h=>⟨S,h,λ k=>by simp [dg]⟩
 |(i,b)::R,S,K,hn,h=>by
  simp only [dg,List.nodup_cons]at hn;simp only [BC]at h
  have tail:∀{S1:ai},BC σ R S1 K->(∀k,aj S1 k=if ba σ i=some k then some (uP σ b) else aj S k)->
    ∃S',K S'/\∀k,aj S' k=(match (dg ((i,b)::R)).find? (λ i=>ba σ i==some k)with|some i'=>(aj ((i,b)::R) i').map (uP σ)|none=>aj S k):=by
   intro S1 h1 h2;obtain⟨S',h3,h4⟩:=rC hσ hn.2 h1;refine⟨S',h3,λ k=>?_⟩;rw [h4 k];simp only [dg,List.find?_cons]
   by_cases x3:ba σ i=some k
   ·simp only [x3,beq_self_eq_true]
    have:(dg R).find? (λ i=>ba σ i==some k)=none:=by
     rw [List.find?_eq_none];intro i' zm hh;have:=pQ hσ x3 (by simpa using hh);subst this;exact hn.1 zm
    rw [this];simp [h2 k,x3,aD]
   ·have hb:(ba σ i==some k)=false:=by simpa using x3
    simp only [hb];cases hfi:(dg R).find? (λ i=>ba σ i==some k)with
    |none=>simp [h2 k,x3]
    |some i'=>
     have hm:=List.mem_of_find?_eq_some hfi;have bm:i≠i':=λ e=>hn.1 (e▸hm);simp [aD,bm]
  cases hf:ba σ i with
  |none=>
   rw [hf]at h;exact tail h λ k=>by simp [hf]
  |some j=>
   rw [hf]at h;simp only at h;cases tq:aj S j with
   |some B=>
    rw [tq]at h;obtain⟨S1,h1,h2⟩:=cI h;refine tail h1 λ k=>?_;rw [h2 k]
    by_cases dM:j=k
    ·subst dM;simp [tq,hf]
    ·simp [hf,dM,Ne.symm dM]
   |none=>
    rw [tq]at h;refine tail h λ k=>?_;rw [aD]
    by_cases dM:j=k<;>simp [hf,dM]
theorem oQ(st:St M0 ρ M S w):∀{l m:List AV} {vs:List Value},OI S S' l m->aJ (az ρ w M) l vs->aJ (az (dc S S' ρ) w (ec S' ρ M)) m vs
 |[],[],vs,_,h=>by cases vs<;>exact h
 |_::_,_::_,_::_,h,hv=>⟨iX st h.1 hv.1,oQ st h.2 hv.2⟩
 |[],_::_,_,h,_=>h.elim
 |_::_,[],_,h,_=>h.elim
 |_::_,_::_,[],_,hv=>hv.elim
theorem iZ{S1:ai}:∀{σ:List (Nat × Nat)} {i j:Nat},ba (cG S1 σ) i=some j↔(aj S1 i).isSome/\ba σ i=some j
 |[],i,j=>by simp [cG,ba]
 |(a,b)::σ,i,j=>by
  have ih:=iZ (S1:=S1) (σ:=σ) (i:=i) (j:=j);simp only [cG];cases hf:aj S1 a with
  |some B=>
   simp only [pP]
   by_cases Sw:a=i
   ·subst Sw;simp [hf]
   ·simp only [Sw,if_false];exact ih
  |none=>
   simp only [pP]
   by_cases Sw:a=i
   ·subst Sw
    rw [ih];simp [hf]
   ·simp only [Sw,if_false];exact ih
theorem nG{S1:ai}:∀{σ:List (Nat × Nat)},(jH σ).Nodup->(jH (cG S1 σ)).Nodup
 |[],_=>by simp [cG,jH]
 |(a,b)::σ,h=>by
  simp only [jH,List.nodup_cons]at h;simp only [cG]
  have sub:∀{σ:List (Nat × Nat)} {x:Nat},x∈jH (cG S1 σ)->x∈jH σ:=by
   intro σ
   induction σ with
   |nil=>intro x hx;exact hx
   |cons e σ ih=>
    intro x hx;obtain⟨i,j⟩:=e;simp only [cG]at hx;split at hx
    ·simp only [jH,List.mem_cons]at hx ⊢
     exact hx.imp id ih
    ·simp only [jH,List.mem_cons];exact .inr (ih hx)
  split
  ·simp only [jH,List.nodup_cons]
   exact⟨λ hm=>h.1 (sub hm),nG h.2⟩
  ·exact nG h.2
theorem uQ(st:St M0 ρ M S w){σ:List (Nat × Nat)}(hσ:(jH σ).Nodup){S1:ai}(bX:∀i j,ba σ i=some j->(aj S1 i).isSome)(aU:Q4 σ S1=true)(hS:∀j B,(j,B)∈tp σ S1->aj S j=some B):
  ∃hw,St (eB (λ i=>(ba σ i).bind ρ) M w hw) (λ i=>(ba σ i).bind ρ) M S1 w/\(∀i,(aj S1 i).isSome->∃j,ba σ i=some j/\(ρ j).isSome):=by
 have name:∀i B,aj S1 i=some B->∃j,ba σ i=some j/\aj S j=some (uP σ B)/\okB σ B=true:=λ i B hB=>by
  have hm:=iY hB;obtain⟨⟨j,hj⟩,hb⟩:=F2 aU hm;exact⟨j,hj,hS _ _ (uO hm hj),hb⟩
 have hd:∀i j,ba σ i=some j->(ba σ i).bind ρ=ρ j:=λ i j h=>by rw [h];rfl
 have Kl:∀i o,(ba σ i).bind ρ=some o->o.base=o:=λ i o ho=>by
  cases hf:ba σ i with
  |none=>rw [hf]at ho;cases ho
  |some j=>
   rw [hf]at ho;obtain⟨B,hB⟩:=Option.isSome_iff_exists.1 (bX i j hf);obtain⟨j',h1,h2,h3⟩:=name i B hB;rw [hf]at h1;cases h1;exact(st.aW j _ h2).base (λ n r e=>by cases B<;>simp [uP]at e;simp [okB]at h3) ho
 have mq:∀i b,hasB (λ i=>(ba σ i).bind ρ) i b->∃j,ba σ i=some j/\hasB ρ j b:=λ i b hb=>by
  cases hf:ba σ i with
  |none=>simp [hasB,hf]at hb
  |some j=>exact⟨j,rfl,by simpa [hasB,hf]using hb⟩
 refine⟨λ w' hs=>M0.hw w' (st.lD.trans hs λ b off hb hm=>(by
  obtain⟨⟨k,hk⟩,h2⟩:=hm;obtain⟨j,_,hj⟩:=mq k b hk;exact⟨(st.fresh j b hj).resolve_left (Nat.not_le_of_lt hb),st.sub b off hb h2⟩)),⟨λ i=>?_,λ i B hB=>?_,λ i i' b hi zm=>?_,st.mlt,gk.refl _ _,λ b off _ hm=>hm,λ b off _ _ hm=>hm,λ k b hk=>.inr ⟨k,hk⟩,λ k o _ hk=>by rw [Kl k o hk];exact hk⟩,λ i hi=>?_⟩
 ·cases hB:aj S1 i with
  |none=>
   cases hf:ba σ i with
   |none=>rfl
   |some j=>have:=bX i j hf;rw [hB]at this;cases this
  |some B=>
   obtain⟨j,h1,h3,_⟩:=name i B hB;show((ba σ i).bind ρ).isSome=_;rw [hd i j h1,st.ga j,h3];rfl
 ·obtain⟨j,h1,h3,h4⟩:=name i B hB
  have Yr:=st.aW j _ h3;cases B with
  |box l=>
   obtain⟨b,g1,cs,ty,g2,g3,g4⟩:=Yr;exact⟨b,(hd i j h1).trans g1,cs,ty,g2,g3,nE hd h4 g4⟩
  |map kd vk m=>
   obtain⟨b,g1,g2⟩:=Yr;exact⟨b,(hd i j h1).trans g1,g2⟩
  |deep r hole=>simp [okB]at h4
  |dE=>simp [okB]at h4
  |ma=>simp [okB]at h4
  |vec wm r ov=>
   have gQ:ov=[]:=by cases ov<;>first|rfl|(simp [okB]at h4)
   subst gQ;obtain⟨⟨o,g1,g2,g3,g4,g5,g6⟩,_⟩:=Yr;refine⟨⟨o,(hd i j h1).trans g1,g2,g3,g4,g5,?_⟩,.inl rfl⟩;cases fp:o.aW with
   |none=>simp only [fp]at g6 ⊢;exact g6
   |some b=>simp only [fp]at g6 ⊢;exact g6
 ·obtain⟨j,h1,h2⟩:=mq i b hi
  obtain⟨j',NO,F3⟩:=mq i' b zm;obtain rfl:=st.inj _ _ _ h2 F3;exact pQ hσ h1 NO
 ·obtain⟨B,hB⟩:=Option.isSome_iff_exists.1 hi
  obtain⟨j,h1,h3,_⟩:=name i B hB;exact⟨j,h1,by rw [st.ga j,h3];rfl⟩
theorem uR{ρk ρ1 ρ2:Env}{M2:aX}{w':World}{σ:List (Nat × Nat)}{S1 S2 Sk Sf:ai}{T:List AV}{a:Act}{ret:AV}{v:Value}(hσ:(jH σ).Nodup)(_hn2:(dg S2).Nodup)(Km:dq S2=true)(fJ:BB (gone S1 S2 σ)=true)
  (aap:∀i o,ρ1 i=some o->∃j,ba σ i=some j/\ρ j=some o) (Vw:∀i j,(aj S1 i).isSome->ba σ i=some j->ρ1 i=ρ j) (hk:ρk=iy ρ (gone S1 S2 σ)) (st0:St M0 ρ M S w) (st:St M0 ρk M Sk w) (tm:Tm ρk w M T a)
  {hw:F4 ρ1 M w} (st2:St (eB ρ1 M w hw) ρ2 M2 S2 w') (hv:az ρ2 w' M2 ret v)
  (UJ:∀k,aj Sf k=(match (dg S2).find? (λ i=>ba σ i==some k)with|some i=>(aj S2 i).map (uP σ)|none=>aj Sk k)):
  ∃ρ',St M0 ρ' M2 Sf w'/\Tm ρ' w' M2 T a/\az ρ' w' M2 (Kk σ ret) v:=by
 let nm:Nat->Option Nat:=λ k=>(dg S2).find? (λ i=>ba σ i==some k)
 have nm_some:∀{k i},nm k=some i->i∈dg S2/\ba σ i=some k:=λ{k i} h=>⟨List.mem_of_find?_eq_some h,by have:=List.find?_some h;simpa using this⟩
 have nm_of:∀{k i},(aj S2 i).isSome->ba σ i=some k->nm k=some i:=λ{k i} h1 h2=>by
  cases hn:nm k with
  |none=>
   obtain⟨B,hB⟩:=Option.isSome_iff_exists.1 h1;have:=List.find?_eq_none.1 hn i (F1 (iY hB));simp [h2]at this
  |some i'=>
   obtain⟨_,h3⟩:=nm_some hn;rw [pQ hσ h3 h2]
 let ρ':Env:=λ k=>match nm k with|some i=>ρ2 i|none=>ρk k
 have Ko:∀b,(eB ρ1 M w hw).oR b->∃j,hasB ρ j b:=λ b ⟨i,hi⟩=>by
  cases ho:ρ1 i with
  |none=>simp [hasB,ho]at hi
  |some o=>
   obtain⟨j,_,h2⟩:=aap i o ho;exact⟨j,by simpa [hasB,h2,ho]using hi⟩
 have keepρ:∀k o,ρk k=some o->ρ' k=some o:=λ k o ho=>by
  show(match nm k with|some i=>ρ2 i|none=>ρk k)=some o;cases hn:nm k with
  |none=>exact ho
  |some i=>
   obtain⟨h1,h2⟩:=nm_some hn;rcases pR (S1:=S1) (S2:=S2) (nF h2)with h3|⟨h3,h4,h5⟩
   ·rw [hk]at ho;simp [iy,h3]at ho
   ·have hs:(ρ2 i).isSome:=by rw [st2.ga i];exact h4
    obtain⟨o2,UK⟩:=Option.isSome_iff_exists.1 hs;have h6:=st2.tn i o2 h5 UK;obtain⟨B2,Kp⟩:=Option.isSome_iff_exists.1 h4;have h6:ρ1 i=some o2.base:=h6;rw [(st2.aW i B2 Kp).base (lF Km (iY Kp)) UK]at h6;rw [Vw i k h3 h2]at h6
    have h7:ρk k=ρ k:=by
     rw [hk]at ho ⊢;simp only [iy]at ho ⊢;split at ho
     ·cases ho
     ·rename_i hng;rw [if_neg hng]
    rw [h7,h6]at ho;show ρ2 i=some o;rw [UK];exact ho
 have fwd:∀i j o,ba σ i=some j->ρ2 i=some o->ρ' j=some o:=λ i j o h1 h2=>by
  have hs:(aj S2 i).isSome:=by rw [<-st2.ga i,h2];rfl
  show(match nm j with|some i=>ρ2 i|none=>ρk j)=some o;rw [nm_of hs h1];exact h2
 have hkM:bB w M w' M2:=λ b off c hc hm=>by
  have aS:=nH hc;refine⟨st2.lD.cell hc (λ hh=>hm hh.2),λ h2=>hm (st2.sub b off aS h2)⟩
 have notlent:∀k b,nm k=none->hasB ρk k b->¬(eB ρ1 M w hw).oR b:=λ k b hn hb ⟨i,hi⟩=>by
  have Vx:ρk k=ρ k/\k∉gone S1 S2 σ:=by
   rw [hk]at hb ⊢
   by_cases hg:k∈gone S1 S2 σ
   ·simp [hasB,iy,hg]at hb
   ·exact⟨by simp [iy,hg],hg⟩
  cases ho:ρ1 i with
  |none=>simp [hasB,ho]at hi
  |some o=>
   obtain⟨j,h1,h2⟩:=aap i o ho;have hj:hasB ρ j b:=by simpa [hasB,h2,ho]using hi
   have JA:hasB ρ k b:=by simpa [hasB,Vx.1]using hb
   obtain rfl:=st0.inj _ _ _ JA hj;rcases pR (S1:=S1) (S2:=S2) (nF h1)with h3|⟨h3,h4,h5⟩
   ·exact Vx.2 h3
   ·rw [nm_of h4 h1]at hn;cases hn
 have mq:∀k b,hasB ρ' k b->(∃i,nm k=some i/\hasB ρ2 i b)\/(nm k=none/\hasB ρk k b):=λ k b hb=>by
  simp only [hasB,ρ']at hb;cases hn:nm k with
  |none=>rw [hn]at hb;exact .inr ⟨rfl,hb⟩
  |some i=>rw [hn]at hb;exact .inl ⟨i,rfl,hb⟩
 have sy:∀b,b<w.heap.size->¬(eB ρ1 M w hw).oR b->w'.heap[b]? =w.heap[b]?/\∀off,M2 b off↔M b off:=λ b hb hl=>by
  refine⟨?_,λ off=>⟨λ h=>st2.sub b off hb h,λ h=>st2.eu b off hb hl h⟩⟩;rcases st2.lD.2 b hb with h|⟨cs,cs',ty,h1,h2,h3,h4⟩|⟨_,_,_,_,_,_,hh⟩
  ·exact h
  ·rw [h1,h2]
   have:cs'=cs:=Array.ext_getElem? λ i=>h4 i (λ hh=>hl hh.1);rw [this]
  ·exact absurd hh.1 hl
 refine⟨ρ',⟨λ k=>?_,λ k B hB=>?_,λ i j b hi hj=>?_,st2.mlt,st.lD.trans st2.lD (λ b off hb hm=>?_),λ b off hb hm=>?_,λ b off hb hl hm=>?_,λ k b hb=>?_,λ k o hl ho=>?_⟩,
  ⟨tm.defers,tm.size,λ i=>az.keep hkM keepρ (tm.tmp i)⟩,Kj fwd hv⟩
 ·rw [UJ k]
  show(match nm k with|some i=>ρ2 i|none=>ρk k).isSome=(match nm k with|some i=>_|none=>_:Option dH).isSome;cases hn:nm k with
  |none=>exact st.ga k
  |some i=>simp only [Option.isSome_map];exact st2.ga i
 ·rw [UJ k]at hB
  change (match nm k with|some i=>_|none=>_:Option dH)=some B at hB
  cases hn:nm k with
  |none=>
   rw [hn]at hB;have Vx:ρ' k=ρk k:=by show(match nm k with|some i=>ρ2 i|none=>ρk k)=_;rw [hn]
   have h1:=eA.ext (ρ':=ρ') (w':=w') (M':=M2) hkM keepρ (λ b hb=>sy b (eV st hb) (notlent k b hn hb)) (st.aW k B hB);exact h1
  |some i=>
   rw [hn]at hB;replace hB:(aj S2 i).map (uP σ)=some B:=hB;obtain⟨Q3,xR⟩:=nm_some hn;cases Kp:aj S2 i with
   |none=>rw [Kp]at hB;cases hB
   |some B2=>
    rw [Kp]at hB;cases hB;have JH:=st2.aW i B2 Kp;cases B2 with
    |box l=>
     obtain⟨b,g1,cs,ty,g2,g3,g4⟩:=JH;exact⟨b,fwd i k _ xR g1,cs,ty,g2,g3,mO fwd g4⟩
    |map kd vk m=>
     obtain⟨b,g1,g2⟩:=JH;exact⟨b,fwd i k _ xR g1,g2⟩
    |deep r hole=>
     obtain⟨o,rows,g1,g2⟩:=JH;exact⟨o,rows,fwd i k _ xR g1,g2⟩
    |dE n r=>exact absurd rfl (lF Km (iY Kp) n r)
    |ma n z=>
     obtain⟨o,g1,g2⟩:=JH;exact⟨o,fwd i k _ xR g1,g2⟩
    |vec wm r ov=>
     obtain rfl:=uN Km (iY Kp) wm r ov rfl;obtain⟨⟨o,g1,g2,g3,g4,g5,g6⟩,_⟩:=JH;refine⟨⟨o,fwd i k _ xR g1,g2,g3,g4,g5,?_⟩,.inl rfl⟩;cases fp:o.aW with
     |none=>simp only [fp]at g6 ⊢;exact g6
     |some b=>simp only [fp]at g6 ⊢;exact g6
 ·rcases mq i b hi with ⟨x,hx,NP⟩|⟨hx,NP⟩<;>rcases mq j b hj with ⟨y,hy,UL⟩|⟨hy,UL⟩
  ·obtain rfl:=st2.inj _ _ _ NP UL
   have h1:=(nm_some hx).2;rw [(nm_some hy).2]at h1;exact(Option.some.inj h1).symm
  ·have aS:=eV st UL
   exact absurd ((st2.fresh x b NP).resolve_left (Nat.not_le_of_lt aS)) (notlent j b hy UL)
  ·have aS:=eV st NP
   exact absurd ((st2.fresh y b UL).resolve_left (Nat.not_le_of_lt aS)) (notlent i b hx NP)
  ·exact st.inj _ _ _ NP UL
 ·obtain⟨j,hj⟩:=Ko b hm.1
  have DU:M b off:=hm.2;exact⟨(st0.fresh j b hj).resolve_left (Nat.not_le_of_lt hb),st0.sub b off hb DU⟩
 ·exact st.sub b off hb (st2.sub b off (Nat.lt_of_lt_of_le hb st.lD.1) hm)
 ·refine st2.eu b off (Nat.lt_of_lt_of_le hb st.lD.1) (λ hh=>?_) (st.eu b off hb hl hm)
  obtain⟨j,hj⟩:=Ko b hh;exact st0.gU hb hl hj
 ·rcases mq k b hb with ⟨x,hx,NP⟩|⟨hx,NP⟩
  ·rcases st2.fresh x b NP with h|h
   ·exact .inl (Nat.le_trans st.lD.1 h)
   ·obtain⟨j,hj⟩:=Ko b h
    exact st0.fresh j b hj
  ·exact st.fresh k b NP
 ·have ho:(match nm k with|some i=>ρ2 i|none=>ρk k)=some o:=ho
  cases hn:nm k with
  |none=>rw [hn]at ho;exact st.tn k o hl ho
  |some i=>
   rw [hn]at ho;obtain⟨h1,h2⟩:=nm_some hn;rcases pR (S1:=S1) (S2:=S2) (nF h2)with h3|⟨h3,h4,h5⟩
   ·rw [BA fJ k h3]at hl;cases hl
   ·have h6:ρ1 i=some o.base:=st2.tn i o h5 ho
    obtain⟨B2,Kp⟩:=Option.isSome_iff_exists.1 h4;rw [(st2.aW i B2 Kp).base (lF Km (iY Kp)) ho]at h6;rw [Vw i k h3 h2]at h6;exact st0.tn k o hl h6
theorem uS{F:Spec}(hF:b6 P F){f:FuncId}{xs:List Operand}{x:Operand}{T:List AV}{K:AV->List AV->ai->Prop}(h:uT F f xs x T S K):eC P f:=by
 rcases h with ⟨fz,σ,S1,as2,ret,S2,hf,_⟩|⟨fz,σ,S1,as2,X,ret,S2,ok,hf,_⟩
 ·exact(hF.m f as2 S1 ret S2 hf).1
 ·exact(hF.n f as2 S1 X ret S2 ok hf).1
theorem BD{F:Spec}(hF:b6 P F){f:FuncId}{xs:List Operand}{x:Operand}{T:List AV}{K:AV->List AV->ai->Prop}{a:Act}(h:Kq F f xs x T S K)(st:St M0 ρ M S w)(tm:Tm ρ w M T a):
  ∃cs:List Value,a.eval x= .func (.func f) #[] cs.toArray/\Calls P f (xs.map a.eval++cs).toArray w λ e w'=>∃u,e= .returned u/\∃ρ' M' T' S' v,K v T' S'/\St M0 ρ' M' S' w'/\Tm ρ' w' M' T' a/\T'.length=T.length/\az ρ' w' M' v u:=by
 obtain⟨fz,σ,S1,as2,X,ret,S2,okz,hf,h⟩:=h;rw [al]at h;obtain⟨aU,h⟩:=h
 have Sx:(lE (dg σ)=true/\lE (jH σ)=true/\lE (dg S1)=true)/\JG (cG S1 σ) as2=true/\Q4 (cG S1 σ) S1=true:=by
  unfold okN at aU;split at aU
  ·rename_i h1 h2 h3
   split at aU
   ·rename_i h5 h6;exact⟨⟨h1,h2,h3⟩,h5,h6⟩
   ·cases aU
  ·cases aU
 obtain⟨⟨d1,d2,d3⟩,Q5,ok2⟩:=Sx;have hσ:=dC d2;obtain⟨T1,Sa,ρa,Ma,hh,sta,tma,Ys,_⟩:=e8 h st tm;clear h;simp only [dr,OJ,aB]at hh;split at hh
 ·rename_i g cap hx
  rw [al]at hh;obtain⟨hg,h⟩:=hh;obtain rfl:=ay.1 hg;obtain⟨S',h,_,Kr⟩:=rB h;rw [al]at h;obtain⟨mQ,⟨hle,bn⟩,h⟩:=h;have cX:=aY tma x;rw [hx]at cX;obtain⟨cs,cX,bR⟩:=cX;refine⟨cs.toList,by simpa using cX,?_⟩;have bX:∀i j,ba (cG S1 σ) i=some j->(aj S1 i).isSome:=λ i j mo=>(iZ.1 mo).1;have Vy:=nG (S1:=S1) hσ;have stb:=zu sta hle;have tmb:Tm (dc Sa S' ρa) w (ec S' ρa Ma) T1 a:=⟨tma.defers,tma.size,λ i=>jR (λ k hk hρ=>by rw [sta.ga k]at hρ;exact hρ) i mQ (tma.tmp i)⟩
  have Yt:aJ (az (dc Sa S' ρa) w (ec S' ρa Ma)) (xZ (cG S1 σ) as2) (xs.map a.eval++cs.toList):=by
   refine oQ sta bn ?_
   rw [show kg (xs.map (aP T1)) cap=xs.map (aP T1)++cap from by
    have:∀l m:List AV,kg l m=l++m:=λ l m=>by induction l with|nil=>rfl|cons a l ih=>simp [kg,ih]
    exact this _ _]
   refine aJ.append ?_ (bR.imp λ _ _=>cE)
   have:∀xs:List Operand,aJ (az ρa w Ma) (xs.map (aP T1)) (xs.map a.eval):=λ xs=>by
    induction xs with
    |nil=>trivial
    |cons y ys ih=>exact⟨aY tma y,ih⟩
   exact this xs
  obtain⟨xc,st1,Yu⟩:=uQ stb Vy bX ok2 (λ j B hm=>Kr (lG Vy (dC d3)) j B hm);have Sy:=kM (ρ1:=λ i=>(ba (cG S1 σ) i).bind (dc Sa S' ρa)) (λ i j mo=>by simp only [mo];rfl) Q5 Yt;refine((hF.n g as2 S1 X ret S2 okz hf).2 _ _ w _ xc st1 Sy).mono λ e w' ⟨z,hz,v,ρ2,M2,he,st2,hv⟩=>⟨v,he,?_⟩;have h:=h z hz;rw [al]at h;obtain⟨zz,h⟩:=h
  have Vz:lE (dg (S2 z))=true/\dq (S2 z)=true/\BB (gone S1 (S2 z) σ)=true:=by
   unfold VA at zz;split at zz
   ·rename_i h1 h2 h3;exact⟨h1,h2,h3⟩
   ·cases zz
  obtain⟨d4,ok3,ok4⟩:=Vz;obtain⟨Tk,Sk,h,dE,tmk,Ks⟩:=kb h stb tmb;obtain⟨Sf,hK,UJ⟩:=rC hσ (dC d4) h
  obtain⟨ρ',g1,g2,g3⟩:=uR (σ:=σ) (S1:=S1) (S2:=S2 z) (Sf:=Sf) (ρ:=dc Sa S' ρa) hσ (dC d4) ok3 ok4 (λ i o hi=>by
   cases mo:ba (cG S1 σ) i with
   |none=>simp [mo]at hi
   |some j=>exact⟨j,(iZ.1 mo).2,by simpa [mo]using hi⟩) (λ i j hs mo=>by
   have:ba (cG S1 σ) i=some j:=iZ.2 ⟨hs,mo⟩;simp [this]) rfl stb dE tmk st2 hv UJ
  exact⟨ρ',M2,Tk,Sf,_,hK,g1,g2,Ks.trans Ys,g3⟩
 ·exact hh.elim
theorem BF{F:Spec}(hF:b6 P F){f:FuncId}{xs:List Operand}{x:Operand}{T:List AV}{K:AV->List AV->ai->Prop}{a:Act}(h:uT F f xs x T S K)(st:St M0 ρ M S w)(tm:Tm ρ w M T a):
  ∃cs:List Value,a.eval x= .func (.func f) #[] cs.toArray/\Calls P f (xs.map a.eval++cs).toArray w λ e w'=>∃u,e= .returned u/\∃ρ' M' T' S' v,K v T' S'/\St M0 ρ' M' S' w'/\Tm ρ' w' M' T' a/\T'.length=T.length/\az ρ' w' M' v u:=by
 rcases h with ⟨fz,σ,S1,as2,ret,S2,hf,h⟩|h
 rotate_left
 ·exact BD hF h st tm
 rw [al]at h;obtain⟨aU,h⟩:=h
 have Sx:(lE (dg σ)=true/\lE (jH σ)=true/\lE (dg S1)=true/\lE (dg S2)=true)/\JG (cG S1 σ) as2=true/\Q4 (cG S1 σ) S1=true/\dq S2=true/\BB (gone S1 S2 σ)=true:=by
  unfold okM at aU;split at aU
  ·rename_i h1 h2 h3 h4
   split at aU
   ·rename_i h5 h6 h7 h8;exact⟨⟨h1,h2,h3,h4⟩,h5,h6,h7,h8⟩
   ·cases aU
  ·cases aU
 obtain⟨⟨d1,d2,d3,d4⟩,Q5,ok2,ok3,ok4⟩:=Sx;have hσ:=dC d2;obtain⟨T1,Sa,ρa,Ma,hh,sta,tma,Ys,_⟩:=e8 h st tm;clear h;simp only [dr,OJ,aB]at hh;split at hh
 ·rename_i g cap hx
  rw [al]at hh;obtain⟨hg,h⟩:=hh;obtain rfl:=ay.1 hg;obtain⟨S',h,_,Kr⟩:=rB h;rw [al]at h;obtain⟨mQ,⟨hle,bn⟩,h⟩:=h;have cX:=aY tma x;rw [hx]at cX;obtain⟨cs,cX,bR⟩:=cX;refine⟨cs.toList,by simpa using cX,?_⟩;have bX:∀i j,ba (cG S1 σ) i=some j->(aj S1 i).isSome:=λ i j mo=>(iZ.1 mo).1;have Vy:=nG (S1:=S1) hσ;have stb:=zu sta hle;have tmb:Tm (dc Sa S' ρa) w (ec S' ρa Ma) T1 a:=⟨tma.defers,tma.size,λ i=>jR (λ k hk hρ=>by rw [sta.ga k]at hρ;exact hρ) i mQ (tma.tmp i)⟩
  have Yt:aJ (az (dc Sa S' ρa) w (ec S' ρa Ma)) (xZ (cG S1 σ) as2) (xs.map a.eval++cs.toList):=by
   refine oQ sta bn ?_
   rw [show kg (xs.map (aP T1)) cap=xs.map (aP T1)++cap from by
    have:∀l m:List AV,kg l m=l++m:=λ l m=>by induction l with|nil=>rfl|cons a l ih=>simp [kg,ih]
    exact this _ _]
   refine aJ.append ?_ (bR.imp λ _ _=>cE)
   have:∀xs:List Operand,aJ (az ρa w Ma) (xs.map (aP T1)) (xs.map a.eval):=λ xs=>by
    induction xs with
    |nil=>trivial
    |cons y ys ih=>exact⟨aY tma y,ih⟩
   exact this xs
  obtain⟨xc,st1,Yu⟩:=uQ stb Vy bX ok2 (λ j B hm=>Kr (lG Vy (dC d3)) j B hm);have Sy:=kM (ρ1:=λ i=>(ba (cG S1 σ) i).bind (dc Sa S' ρa)) (λ i j mo=>by simp only [mo];rfl) Q5 Yt;obtain⟨Tk,Sk,h,dE,tmk,Ks⟩:=kb h stb tmb;refine((hF.m g as2 S1 ret S2 hf).2 _ _ w _ xc st1 Sy).mono λ e w' ⟨v,ρ2,M2,he,st2,hv⟩=>⟨v,he,?_⟩;obtain⟨Sf,hK,UJ⟩:=rC hσ (dC d4) h
  obtain⟨ρ',g1,g2,g3⟩:=uR (σ:=σ) (S1:=S1) (S2:=S2) (Sf:=Sf) (ρ:=dc Sa S' ρa) hσ (dC d4) ok3 ok4 (λ i o hi=>by
   cases mo:ba (cG S1 σ) i with
   |none=>simp [mo]at hi
   |some j=>exact⟨j,(iZ.1 mo).2,by simpa [mo]using hi⟩) (λ i j hs mo=>by
   have:ba (cG S1 σ) i=some j:=iZ.2 ⟨hs,mo⟩;simp [this]) rfl stb dE tmk st2 hv UJ
  exact⟨ρ',M2,Tk,Sf,_,hK,g1,g2,Ks.trans Ys,g3⟩
 ·exact hh.elim
end
end Go.AM
end
section
namespace Go.AM
open Go
section
variable{P:Program}{TY:List cP}{w0 w:World}{M0:ef w0}{ρ:Env}{M:aX}{S S0:ai}{d:Nat}
theorem kN{ρ ρ':Env}{w w':World}{M M':aX}(hk:bB w M w' M'):∀{l:List AV} {vs:List Value},x4 l=true->aJ (aH ρ w M) l vs->aJ (aH ρ' w' M') l vs
 |[],[],_,_=>trivial
 |[],_::_,_,h=>h.elim
 |_::_,[],_,h=>h.elim
 |a::l,v::vs,hi,h=>by
  cases a<;>try (cases hi;done)
  ·exact⟨h.1,kN hk hi h.2⟩
  ·exact⟨h.1,kN hk hi h.2⟩
  ·exact⟨a8.keep hk h.1,kN hk hi h.2⟩
  ·exact⟨h.1,kN hk hi h.2⟩
theorem uU{ρ ρ':Env}{w w':World}{M M':aX}{a:AV}{v:Value}(hp:oS a=true)(hk:bB w M w' M')(h:az ρ w M a v):az ρ' w' M' a v:=by
 cases a<;>try (cases hp;done)
 case ro r=>exact a8.keep hk h
 case agg l=>obtain⟨cs,h1,h2⟩:=h;exact⟨cs,h1,kN hk hp h2⟩
 all_goals exact h
theorem oT{a:Act}:∀{l:List AV} {T:List AV} {S:ai} {ρ:Env} {M:aX} {K:List AV->List AV->ai->Prop} {vs:List Value},uV l T S K->St M0 ρ M S w->Tm ρ w M T a->
  (∀(i:Nat) (x:AV) (v:Value),l[i]? =some x->vs[i]? =some v->oS x=true->az ρ w M x v)->(∀(i:Nat) (k:Nat) (v:Value),l[i]? =some (AV.vec k)->vs[i]? =some v->(aj S k).isSome->aH ρ w M (.vec k) v)->l.length=vs.length->
  ∃l' T' S' ρ' M',K l' T' S'/\St M0 ρ' M' S' w/\Tm ρ' w M' T' a/\T'.length=T.length/\aJ (az ρ' w M') l' vs/\(∀x∈l',oS x=true)/\bB w M w M'
 |[],T,S,ρ,M,K,vs,h,st,tm,_,_,hl=>by
  have:vs=[]:=List.eq_nil_of_length_eq_zero hl.symm;subst this;exact⟨[],T,S,ρ,M,h,st,tm,rfl,ag,by simp,bB.refl _ _⟩
 |x::l,T,S,ρ,M,K,vs,h,st,tm,hp,hv,hl=>by
  cases vs with
  |nil=>simp at hl
  |cons v vs=>
   have nI:l.length=vs.length:=by simpa using hl
   have plain:oS x=true->(uV l T S λ m T S=>K (x::m) T S)->∃l' T' S' ρ' M',K l' T' S'/\St M0 ρ' M' S' w/\Tm ρ' w M' T' a/\T'.length=T.length/\aJ (az ρ' w M') l' (v::vs)/\(∀x∈l',oS x=true)/\bB w M w M':=by
    intro hx h;obtain⟨l',T',S',ρ',M',h1,h2,h3,h4,h5,h6,h7⟩:=oT (K:=λ m T S=>K (x::m) T S) h st tm (λ i y u hy hu=>hp (i+1) y u (by simpa using hy) (by simpa using hu)) (λ i k u hy hu=>hv (i+1) k u (by simpa using hy) (by simpa using hu)) nI;refine⟨x::l',T',S',ρ',M',h1,h2,h3,h4,⟨uU hx h7 (hp 0 x v rfl rfl hx),h5⟩,λ y hy=>?_,h7⟩;rcases List.mem_cons.1 hy with rfl|hy
    ·exact hx
    ·exact h6 y hy
   cases x with
   |vec k=>
    simp only [uV]at h;split at h
    ·rename_i wm r hf
     obtain⟨B',r',⟨OK,Eh⟩,T1,S1,g1,g2,g3,g4,g5⟩:=pS h st tm;rw [hf]at OK;cases OK;simp only [n7,Option.some.injEq]at Eh;subst Eh
     have VB:aj S1 k=none:=by
      have:=g2.ga k;cases hh:aj S1 k with
      |none=>rfl
      |some B=>rw [hh]at this;simp [aR]at this
     obtain⟨l',T',S',ρ',M',h1,h2,h3,h4,h5,h6,h7⟩:=oT (K:=λ m T S=>K (.ro r::m) T S) g1 g2 g3
      (λ i y u hy hu gb=>uU gb (iQ _ _ _ _) (hp (i+1) y u (by simpa using hy) (by simpa using hu) gb))
      (λ i j u hy hu hs=>by
       have dM:j≠k:=λ e=>by subst e;rw [VB]at hs;cases hs
       have xo:(aj S j).isSome:=by
        have h1:=g2.ga j;rw [hs]at h1;rw [<-st.ga j];simpa [aR,dM]using h1
       obtain⟨o,h1,h2⟩:=hv (i+1) j u (by simpa using hy) (by simpa using hu) xo;exact⟨o,by simpa [aR,dM]using h1,h2⟩) nI
     have hro:a8 w (dt M ρ k) r v:=g5 v (hv 0 k v rfl rfl (by rw [hf];rfl));refine⟨.ro r::l',T',S',ρ',M',h1,h2,h3,h4.trans g4,⟨a8.keep h7 hro,h5⟩,λ y hy=>?_,λ b off c hc hm=>h7 b off c hc λ Xm=>hm Xm.1⟩;rcases List.mem_cons.1 hy with rfl|hy
     ·rfl
     ·exact h6 y hy
    ·exact h.elim
   |_=>
    simp only [uV,al]at h;exact plain h.1 h.2
theorem HV{A s t:Nat}{c l m X:List Value}(hl:l.length=A)(hm:m.length=s):
  (l++(m++c.drop (A+s))).take (A+s)++(X++(l++(m++c.drop (A+s))).drop (A+s+t))=l++(m++(X++c.drop (A+s+t))):=by
 have Xn:(l++m).length=A+s:=by simp [hl,hm]
 rw [<-List.append_assoc l m,<-Xn,List.take_left,List.drop_append,List.drop_of_length_le aa];simp [List.drop_drop,List.append_assoc]
theorem oU{sz:Nat}:∀{ps:List (Nat × Operand)} {n:Nat} {K:List Operand->Prop},oV n ps K->∀(e:Operand->Value) (cells:Array Value),(∀x∈ps.map (·.2),(e x).cells.size=sz)->(n+ps.length)*sz<=cells.size->
  ∃cells',Instr.fill (λ i=>some (i*sz,sz)) cells (ps.map λ(i,x)=>(i,e x))=some cells'/\
   cells'.toList=cells.toList.take (n*sz)++(((ps.map (·.2)).flatMap λ x=>(e x).cells.toList)++cells.toList.drop ((n+ps.length)*sz))
 |[],n,K,_,e,cells,_,_=>⟨cells,rfl,by simp⟩
 |(i,x)::ps,n,K,h,e,cells,hs,hle=>by
  simp only [oV]at h;split at h
  ·rename_i hb
   obtain rfl:=ay.1 hb;have hx:=hs x (by simp)
   have Yv:i*sz+sz+ps.length*sz<=cells.size:=by
    have:(i+(ps.length+1))*sz=i*sz+sz+ps.length*sz:=by simp only [Nat.add_mul,Nat.one_mul];omega
    simp only [List.length_cons]at hle;omega
   have BG:=pT (i*sz) (e x).cells.toList 0 cells (by simp [hx];omega)
   have jS:(((e x).cells.zipIdx.foldl (λ cs (c,j)=>cs.setIfInBounds (i*sz+j) c) cells).toList)=cells.toList.take (i*sz)++((e x).cells.toList++cells.toList.drop (i*sz+sz)):=by
    rw [<-Array.foldl_toList,Array.toList_zipIdx]
    simpa [hx]using BG
   have Yw:((e x).cells.zipIdx.foldl (λ cs (c,j)=>cs.setIfInBounds (i*sz+j) c) cells).size=cells.size:=by
    rw [<-Array.length_toList,jS];simp [hx];omega
   obtain⟨cells',h1,h2⟩:=oU h e ((e x).cells.zipIdx.foldl (λ cs (c,j)=>cs.setIfInBounds (i*sz+j) c) cells) (λ y hy=>hs y (by simp at hy ⊢;exact .inr hy))
    (by rw [Yw];simp only [Nat.add_mul,Nat.one_mul];omega)
   refine⟨cells',?_,?_⟩
   ·simp only [List.map_cons,Instr.fill]
    rw [if_neg]
    ·exact h1
    ·simp only [Bool.or_eq_true,decide_eq_true_eq,not_or,ne_eq,Decidable.not_not]
     exact⟨hx,aa⟩
   ·rw [h2,jS]
    have e1:(i+1)*sz=i*sz+sz:=by simp [Nat.add_mul]
    have e2:(i+1+ps.length)*sz=(i+(ps.length+1))*sz:=by congr 1;omega
    have e3:(i+(ps.length+1))*sz=i*sz+sz+ps.length*sz:=by simp only [Nat.add_mul,Nat.one_mul];omega
    rw [e1,e2,e3,HV (by simp;omega) (by simp [hx])];simp only [List.map_cons,List.flatMap_cons,List.length_cons,List.append_assoc,e3]
  ·exact h.elim
theorem rD(aw:aO P TY){F:Spec}{t n:Nat}{ps:Array (Nat × Operand)}{T:List AV}{K:AV->List AV->ai->Prop}{a:Act}{oo:Oper}(h:xp TY F d (.buildSlice t n ps) T S K)
  (ho:oo.op= .buildSlice t n ps) (st:St M0 ρ M S w) (tm:Tm ρ w M T a):e9 P (execOp a.eval oo) w (bI w0 M0 a T.length K):=by
 simp only [xp,bP]at h;split at h
 ·rename_i e hd
  rw [al,al]at h;obtain⟨uW,hn,h⟩:=h;rw [Nat.ble_eq]at hn;have Ei:=h;have h:=(rE h).1;split at h
  ·rename_i hlen
   have hlen:=rF hlen;rw [dr]at h
   have Q6:∀(i:Nat) (x:AV) (v:Value),((ps.toList.map (·.2)).map (aP T))[i]? =some x->((ps.toList.map (·.2)).map a.eval)[i]? =some v->az ρ w M x v:=λ i x v hx hv=>by
    simp only [List.map_map,List.getElem?_map,Option.map_eq_some_iff,Function.comp]at hx hv;obtain⟨p,h1,rfl⟩:=hx;obtain⟨p',h2,rfl⟩:=hv;rw [h1]at h2;cases h2;exact aY tm p.2
   obtain⟨l',T1,S1,ρ1,M1,h,st1,tm1,OL,bc,gb,_⟩:=oT (vs:=(ps.toList.map (·.2)).map a.eval) h st tm (λ i x v hx hv _=>Q6 i x v hx hv) (λ i k v hx hv _=>Q6 i _ v hx hv) (by simp);obtain⟨r0,h,sA,i,z,hi,gg,bk,tt,xq,_⟩:=mR (n:=0) aw uW h;obtain⟨r,h,pA,VC,cM⟩:=mS h;rw [al]at h;obtain⟨aU,h⟩:=h;obtain⟨e',iw,hu,oz,aI⟩:=bT aw aU;rw [hd]at iw;cases iw;obtain⟨xf,bR⟩:=cM ρ1 w M1 _ bc;have Ej:l'.length=n:=by rw [bc.length,List.length_map,hlen]
   have Ek:ps.toList.length=n:=by rw [<-hlen];simp
   have Og:r.len=n:=by rw [pA,sA,Ej];omega
   have Sz:i.size=r.sz:=by rw [bk,oz]
   have Yx:n*i.size<=16777216:=by
    rw [bk];omega
   have hn:n<=16000000:=by
    have:=r.eW;have h1:n*1<=n*i.size:=Nat.mul_le_mul_left _ aa;rw [bk]at h1;omega
   obtain⟨cells',Q7,VD⟩:=oU (sz:=i.size) Ei a.eval ((Array.range (n*i.size)).map λ j=>((if n*i.size=0 then #[] else z.cells):Array Value)[j % ((if n*i.size=0 then #[] else z.cells):Array Value).size]!)
    (λ x hx=>by
     have:=xf (a.eval x) (List.mem_map.2 ⟨x,hx,rfl⟩);rw [this,Sz,VC]) (by simp [Ek])
   have Kt:cells'.toList=(ps.toList.map (·.2)).flatMap λ x=>(a.eval x).cells.toList:=by
    rw [VD];rw [List.drop_of_length_le (by simp [Ek])];simp
   have n8:cells'.size=n*r.sz:=by
    rw [<-Array.length_toList,Kt,List.length_flatMap]
    have:((ps.toList.map (·.2)).map λ x=>(a.eval x).cells.toList.length)=(ps.toList.map (·.2)).map λ _=>r.sz:=by
     refine List.map_congr_left λ x hx=>?_;have:=xf (a.eval x) (List.mem_map.2 ⟨x,hx,rfl⟩);rw [Array.length_toList,this,VC]
    rw [this,List.map_const',List.length_map,Ek,List.sum_replicate_nat]
   obtain⟨T',S',ρ',M',q1,q2,q3,q4,q5⟩:=iJ h st1 tm1 (w':=w.alloc (.cells cells' e)) (cs:=cells') (ty:=e) (cap:=n) (wm:=0) (r:=r) rfl (by first|exact jT.refl _|exact⟨⟨rfl,rfl⟩,rfl,Nat.le_succ _⟩) n8 aa (by simp only [LB];omega) (Nat.zero_le _)
    (λ q hq=>by
     have aS:q<cells'.size:=by rw [n8,<-Og];exact hq
     refine⟨cells'[q],by simp [aS],bR q _ ?_⟩;have h0:r0.cells=0:=by simp [RO.cells,sA]
     rw [if_neg aa,h0,Nat.sub_zero,List.flatMap_map,<-Kt,Array.getElem?_toList];simp [aS])
   refine .val (v:=.slice (some ⟨w.heap.size,0,none⟩) n n) (w':=w.alloc (.cells cells' e)) ?_ ⟨ρ',M',T',_,_,q1,q2,q3,by rw [q4,OL],_,iD q5,by simp [Sl.val,Og]⟩;have b7:(underlying t).run P w= .ok (.slice e) w:=by simp [underlying,hu]
   have mr:(zeroValue e).run P w= .ok z w:=by simp [zeroValue,typeInfo,hi,gg]
   have tk:(sizeOf e).run P w= .ok i.size w:=by rw [aI.size,bk]
   have zA:Instr.fill (λ j=>some (j*i.size,i.size)) ((Array.range (n*i.size)).map λ j=>((if n*i.size=0 then #[] else z.cells):Array Value)[j % ((if n*i.size=0 then #[] else z.cells):Array Value).size]!) (ps.map λ(j,x)=>(j,a.eval x)).toList=some cells':=by
    rw [Array.toList_map];exact Q7
   by_cases h0:n*i.size=0
   ·simp [h0]at zA
    simp [execOp,ho,Instr.buildSlice,b7,tk,h0,zA,newRow]
   ·simp [h0]at zA
    have:¬n*i.size>2 ^ 24:=aa;simp [execOp,ho,Instr.buildSlice,b7,tk,h0,this,mr,zA,newRow]
  ·exact h.elim
 ·exact h.elim
theorem zB(aw:aO P TY){F:Spec}{t n:Nat}{ps:Array (Nat × Operand)}{T:List AV}{K:AV->Option dH->Prop}(h:qK TY F d (.buildSlice t n ps) T S0 K):∃v B,K v B/\QS P d (.buildSlice t n ps) T S0 v B:=by
 simp only [qK]at h;split at h
 ·rename_i e hd
  rw [al,al]at h;obtain⟨uW,hn,h⟩:=h;rw [Nat.ble_eq]at hn;have Ei:=h;have h:=(rE h).1;split at h
  ·rename_i hlen
   have hlen:=rF hlen;rw [dr,al]at h;obtain⟨_,h⟩:=h;obtain⟨r0,h,sA,i,z,hi,gg,bk,tt,xq,_⟩:=mR (n:=0) aw uW h;obtain⟨r,h,pA,VC,cM⟩:=mS h;rw [al]at h;obtain⟨aU,h⟩:=h;obtain⟨e',iw,hu,oz,aI⟩:=bT aw aU;rw [hd]at iw;cases iw;refine⟨_,_,h,λ w0 M0 ρ M w S' ev oo ho hc st he Ku=>?_,λ _ hb=>by cases hb⟩
   have bc:aJ (az ρ w M) ((ps.toList.map (·.2)).map (aP T)) ((ps.toList.map (·.2)).map ev):=by
    have:∀l:List Operand,(∀x∈l,az ρ w M (aP T x) (ev x))->aJ (az ρ w M) (l.map (aP T)) (l.map ev):=by
     intro l
     induction l with
     |nil=>exact λ _=>trivial
     |cons x l ih=>exact λ hh=>⟨hh x (by simp),ih λ y hy=>hh y (by simp [hy])⟩
    refine this _ λ x hx=>he x ?_;simp only [Op.operands];obtain⟨p,hp,rfl⟩:=List.mem_map.1 hx
    first|exact Array.mem_map.2 ⟨p,Array.mem_toList_iff.1 hp,rfl⟩|(simp;exact⟨p.1,by simpa using hp⟩)
   obtain⟨xf,bR⟩:=cM ρ w M _ bc;have Ej:((ps.toList.map (·.2)).map (aP T)).length=n:=by rw [bc.length,List.length_map,hlen]
   have Ek:ps.toList.length=n:=by rw [<-hlen];simp
   have Og:r.len=n:=by rw [pA,sA,Ej];omega
   have Sz:i.size=r.sz:=by rw [bk,oz]
   have Yx:n*i.size<=16777216:=by
    rw [bk];omega
   have hn:n<=16000000:=by
    have:=r.eW;have h1:n*1<=n*i.size:=Nat.mul_le_mul_left _ aa;rw [bk]at h1;omega
   obtain⟨cells',Q7,VD⟩:=oU (sz:=i.size) Ei ev ((Array.range (n*i.size)).map λ j=>((if n*i.size=0 then #[] else z.cells):Array Value)[j % ((if n*i.size=0 then #[] else z.cells):Array Value).size]!)
    (λ x hx=>by
     have:=xf (ev x) (List.mem_map.2 ⟨x,hx,rfl⟩);rw [this,Sz,VC]) (by simp [Ek])
   have Kt:cells'.toList=(ps.toList.map (·.2)).flatMap λ x=>(ev x).cells.toList:=by
    rw [VD];rw [List.drop_of_length_le (by simp [Ek])];simp
   have n8:cells'.size=n*r.sz:=by
    rw [<-Array.length_toList,Kt,List.length_flatMap]
    have:((ps.toList.map (·.2)).map λ x=>(ev x).cells.toList.length)=(ps.toList.map (·.2)).map λ _=>r.sz:=by
     refine List.map_congr_left λ x hx=>?_;have:=xf (ev x) (List.mem_map.2 ⟨x,hx,rfl⟩);rw [Array.length_toList,this,VC]
    rw [this,List.map_const',List.length_map,Ek,List.sum_replicate_nat]
   obtain⟨ρ',M',g1,g2,g3,g4⟩:=st.push (w':=w.alloc (.cells cells' e)) (cs:=cells') (ty:=e) (own:=.sl ⟨some w.heap.size,r.len,n,r.sz⟩) (B:=.vec 0 r []) (Ku (by simp)).1 (Ku (by simp)).2 rfl (by first|exact jT.refl _|exact⟨⟨rfl,rfl⟩,rfl,Nat.le_succ _⟩) (λ _ h=>(Option.some.inj h).symm)
    (λ ρ' M' hρ hM hk fa=>⟨⟨_,hρ,rfl,rfl,by simp only [LB];omega,Nat.zero_le _,by
     refine⟨by simp only;omega,cells',e,by show(w.heap.push _)[w.heap.size]? =_;simp,n8,λ off=>?_,λ q hq=>?_⟩
     ·rw [hM off];simp
     ·have aS:q<cells'.size:=by rw [n8,<-Og];exact hq
      refine⟨cells'[q],by simp [aS],av.keep hk (bR q _ ?_)⟩;have h0:r0.cells=0:=by simp [RO.cells,sA]
      rw [if_neg aa,h0,Nat.sub_zero,List.flatMap_map,<-Kt,Array.getElem?_toList];simp [aS]⟩,.inl rfl⟩)
   refine .val (v:=.slice (some ⟨w.heap.size,0,none⟩) n n) (w':=w.alloc (.cells cells' e)) ?_ ⟨ρ',M',g1,⟨_,iD g2,by simp [Sl.val,Og]⟩,g3,g4⟩;have b7:(underlying t).run P w= .ok (.slice e) w:=by simp [underlying,hu]
   have mr:(zeroValue e).run P w= .ok z w:=by simp [zeroValue,typeInfo,hi,gg]
   have tk:(sizeOf e).run P w= .ok i.size w:=by rw [aI.size,bk]
   have zA:Instr.fill (λ j=>some (j*i.size,i.size)) ((Array.range (n*i.size)).map λ j=>((if n*i.size=0 then #[] else z.cells):Array Value)[j % ((if n*i.size=0 then #[] else z.cells):Array Value).size]!) (ps.map λ(j,x)=>(j,ev x)).toList=some cells':=by
    rw [Array.toList_map];exact Q7
   by_cases h0:n*i.size=0
   ·simp [h0]at zA
    simp [execOp,ho,Instr.buildSlice,b7,tk,h0,zA,newRow]
   ·simp [h0]at zA
    have:¬n*i.size>2 ^ 24:=aa;simp [execOp,ho,Instr.buildSlice,b7,tk,h0,this,mr,zA,newRow]
  ·exact h.elim
 ·exact h.elim
theorem VE{o:Sl}{r r':RO}(h:fb ρ w M o 0 r [])(hl:r'.len<=r.len)(hz:r'.sz=r.sz)(hc:∀q c,q<r'.cells->av w M r q c->av w M r' q c):fb ρ w M ⟨o.aW,r'.len,o.cap,o.sz⟩ 0 r' []:=by
 obtain⟨k3,k4,k5,_,k7⟩:=h;refine⟨rfl,by rw [hz];exact k4,Nat.le_trans hl k5,Nat.zero_le _,?_⟩;cases hb:o.aW with
 |none=>simp only [hb]at k7 ⊢;exact⟨aa,k7.2⟩
 |some b=>
  simp only [hb]at k7 ⊢;obtain⟨k8,cs,ty,k9,k10,k11,k12⟩:=k7;refine⟨aa,cs,ty,k9,k10,k11,λ q hq=>?_⟩;have hle:r'.len*r'.sz<=r.len*r.sz:=by rw [hz];exact Nat.mul_le_mul_right _ hl
  obtain⟨c,h1,h2⟩:=k12 q (by simp only [RO.cells]at hq ⊢;omega);exact⟨c,h1,hc q c hq h2⟩
theorem fK{k:Nat}{T:List AV}{a:Act}{K:List AV->ai->Prop}(h:kL S k λ S=>cU k .any T λ T=>b5 k .any S λ S=>K T S)(st:St M0 ρ M S w)(tm:Tm ρ w M T a)
  {ow ow':bY} (hk:ρ k=some ow) (Yy:∀b,ow'.has b->ow.has b) (Kl:loc k=false->ow'.base=ow.base) {B:dH} (hB:∀ρ',ρ' k=some ow'->eA ρ' w M k B):
  ∃T' S' ρ',K T' S'/\St M0 ρ' M ((k,B)::S') w/\Tm ρ' w M T' a/\T'.length=T.length/\ρ' k=some ow':=by
 have ho:∀b,ow'.has b->hasB ρ k b:=λ b h=>by simp only [hasB,hk];exact Yy b h
 exact(λ⟨T',S',g1,g2,g3,g4⟩=>⟨T',S',λ j=>if j=k then some ow' else ρ j,g1,g2,g3,g4,by simp⟩)
  (fL h st tm (ρ':=λ j=>if j=k then some ow' else ρ j) (w':=w) (M':=M) (B:=B) (bB.refl _ _) (λ j hj=>by simp [hj]) (by simp) (λ j hj b hb=>⟨rfl,λ _=>Iff.rfl⟩) (gk.refl _ _) st.mlt (λ _ _ _ hm=>hm) (λ _ _ _ _ hm=>hm) (λ b cr=>st.fresh k b (ho b (by simpa [hasB]using cr)))
   (hB _ (by simp)) (λ b cr j hj zD=>hj (st.inj _ _ _ zD (ho b (by simpa [hasB]using cr)))) (λ ow2 hl UK=>by simp at UK;subst UK;rw [Kl hl];exact st.tn k ow hl hk))
theorem rG(aw:aO P TY){t k:Nat}{x:Operand}{hi:Option Operand}{T:List AV}{K:AV->List AV->ai->Prop}{a:Act}{oo:Oper}(hx:aP T x= .vec k)(gi:∃e,(aq TY t).d= .slice e/\∃B,aj S k=some B/\match B with
   |.vec wm r []=>eo TY t r=true/\qK.HW T hi r.len λ hi=>(0<=hi/\hi<=(r.len:Int))/\SA k wm r.len r hi T S K
   |.dE n0 r=>eo TY t r=true/\qK.HW T hi r.len λ hi=>(0<=hi/\hi<=(r.len:Int))/\BH r 0 hi.toNat λ r'=>sB k (.dE n0 r') T S K
   |.ma n z=>qK.HW T hi n λ hi=>hi=0/\(uX TY e λ r=>bH (loc k)<|bH (eo TY t r)<|bH (Nat.beq r.sz z)<|sB k (.vec 0 r []) T S K)
   |_=>False)
  (ho:oo.op= .slice t x none hi none) (st:St M0 ρ M S w) (tm:Tm ρ w M T a):e9 P (execOp a.eval oo) w (bI w0 M0 a T.length K):=by
 have cX:=aY tm x;rw [hx]at cX;obtain⟨o,k1,hv⟩:=cX;obtain⟨e0,hd0,B,hf,h⟩:=gi
 have cut:∀{n m:Int} {r:RO},eo TY t r=true->o.len<=o.cap->(o.sz=r.sz)->(n=o.len)->((hi=none/\m=n)\/∃x k,hi=some x/\aP T x= .int k m)->0<=m->m<=o.len->
   (execOp a.eval oo).run P w= .ok (.value (.slice (o.aW.map λ b=>⟨b,0,none⟩) m.toNat o.cap)) w:=by
  intro n m r aU JI hz hn hm h0 h1;obtain⟨e',iw,hu,oz,aI⟩:=bT aw aU;have b7:(underlying t).run P w= .ok (.slice e') w:=by simp [underlying,hu]
  subst hn;have hb:=gu (P:=P) (ρ:=ρ) (w:=w) (M:=M) (T:=T) (e:=a.eval) (l:=0) (h:=m) (lo:=none) (hi:=hi) (len:=o.len) JI (.inl ⟨rfl,rfl⟩) hm (λ y _=>aY tm y) (Int.le_refl _) h0 h1;have cr:(Instr.sliceBounds true o.len o.cap none (hi.map a.eval) none).run P w= .ok (0,m.toNat,o.cap) w:=hb;simp [execOp,ho,hv,Sl.val,Instr.sliceAt,b7,Instr.slice,cr,aI.size,oz]
  try (cases o.aW<;>simp [aQ])
 have VF:∀{r:RO},fb ρ w M o 0 r []->o.len<=o.cap:=λ{r} hV=>by
  obtain⟨k3,_,_,_,k7⟩:=hV;cases hb:o.aW with
  |none=>simp only [hb]at k7;omega
  |some b=>simp only [hb]at k7;exact k7.1
 cases B with
 |vec wm r ov=>
  cases ov with
  |cons x y=>exact h.elim
  |nil=>
   obtain⟨aU,h⟩:=h;obtain⟨m,⟨⟨h0,h1⟩,hp⟩,hm⟩:=rH h;clear h;simp only [SA,al]at hp;obtain⟨DW,h⟩:=hp;obtain rfl:=ay.1 DW;obtain⟨r',h,g1,g2,g3⟩:=gv h (Nat.zero_le _) aa;obtain⟨⟨o',k2,k3⟩,_⟩:=st.aW k _ hf;obtain rfl:=cx k2 k1;have aK:=cut aU (VF k3) k3.2.1 (by rw [k3.1]) hm h0 (by rw [k3.1];exact h1);have hV:=VE (r':=r') k3 aa g2 (λ q c hq hc=>g3 w M q c hq (by simpa using hc));have pA:r'.len=m.toNat:=aa;split at h
   ·obtain⟨T',S',ρ',q1,q2,q3,q4,q5⟩:=fK (ow':=.sl ⟨o.aW,r'.len,o.cap,o.sz⟩) (B:=.vec 0 r' []) h st tm k2 (λ b hb=>hb) (λ hl=>by rename_i nI;rw [nI]at hl;cases hl) (λ ρ' OM=>⟨⟨_,OM,hV.env⟩,.inl rfl⟩)
    exact .val aK ⟨ρ',M,T',_,_,q1,q2,q3,q4,_,iD q5,by rw [Sl.val,pA]⟩
   ·obtain⟨T',S',ρ',q1,q2,q3,q4,q5⟩:=fK (ow':=.st o ⟨o.aW,r'.len,o.cap,o.sz⟩) (B:=.dE r.len r') h st tm k2 (λ b hb=>hb.elim id id) (λ _=>rfl) (λ ρ' OM=>⟨o,_,OM,hV.env,by rw [g2];exact k3.ma⟩)
    exact .val aK ⟨ρ',M,T',_,_,q1,q2,q3,q4,_,mc q5,by rw [Sl.val,pA]⟩
 |dE n0 r=>
  obtain⟨aU,h⟩:=h;obtain⟨m,⟨⟨h0,h1⟩,hp⟩,hm⟩:=rH h;clear h;obtain⟨r',h,g1,g2,g3⟩:=gv hp (Nat.zero_le _) aa;obtain⟨o0,cur,k2,k3,k4⟩:=st.aW k _ hf;have HX:o=cur:=by rw [mc k2]at k1;exact(Option.some.inj k1).symm
  subst HX;have aK:=cut aU (VF k3) k3.2.1 (by rw [k3.1]) hm h0 (by rw [k3.1];exact h1);have hV:=VE (r':=r') k3 aa g2 (λ q c hq hc=>g3 w M q c hq (by simpa using hc));have pA:r'.len=m.toNat:=aa;obtain⟨T',S',ρ',q1,q2,q3,q4,q5⟩:=fK (ow':=.st o0 ⟨o.aW,r'.len,o.cap,o.sz⟩) (B:=.dE n0 r') h st tm k2 (λ b hb=>hb) (λ _=>rfl) (λ ρ' OM=>⟨o0,_,OM,hV.env,by rw [g2];exact k4⟩);exact .val aK ⟨ρ',M,T',_,_,q1,q2,q3,q4,_,mc q5,by rw [Sl.val,pA]⟩
 |ma n z=>
  obtain⟨m,⟨rfl,hp⟩,hm⟩:=rH h;clear h
  obtain⟨r,⟨h,sA⟩⟩:∃r:RO,(bH (loc k)<|bH (eo TY t r)<|bH (Nat.beq r.sz z)<|sB k (.vec 0 r []) T S K)/\r.len=0:=by
   unfold uX rI at hp
   revert hp
   repeat' split
   all_goals (intro h;first|exact h.elim|exact⟨_,h,rfl⟩|exact⟨_,(al.1 h).2,rfl⟩)
  rw [al,al,al]at h;obtain⟨fJ,aU,hz,h⟩:=h;obtain rfl:=ay.1 hz;obtain⟨o',k2,j1,j2,j3,j4⟩:=st.aW k _ hf;obtain rfl:=cx k2 k1
  have JI:o.len<=o.cap:=by
   cases hb:o.aW with
   |none=>simp only [hb]at j4;omega
   |some b=>simp only [hb]at j4;exact j4.1
  have aK:=cut aU JI j2 (by rw [j1]) hm (Int.le_refl _) aa
  have hV:∀ρ',fb ρ' w M ⟨o.aW,0,o.cap,o.sz⟩ 0 r []:=λ ρ'=>by
   refine⟨sA.symm,j2,by rw [sA];exact Nat.zero_le _,Nat.zero_le _,?_⟩;cases hb:o.aW with
   |none=>simp only [hb]at j4 ⊢;exact⟨sA,j4.2⟩
   |some b=>
    simp only [hb]at j4 ⊢;obtain⟨_,cs,ty,j6,j7,j8⟩:=j4;exact⟨Nat.zero_le _,cs,ty,j6,j7,λ off=>by rw [j8 off];simp,λ q hq=>by simp [RO.cells,sA]at hq⟩
  obtain⟨T',S',ρ',q1,q2,q3,q4,q5⟩:=fK (ow':=.sl ⟨o.aW,0,o.cap,o.sz⟩) (B:=.vec 0 r []) h st tm k2 (λ b hb=>hb) (λ hl=>by rw [fJ]at hl;cases hl) (λ ρ' OM=>⟨⟨_,OM,hV ρ'⟩,.inl rfl⟩);exact .val aK ⟨ρ',M,T',_,_,q1,q2,q3,q4,_,iD q5,rfl⟩
 |_=>exact h.elim
theorem El(aw:aO P TY){F:Spec}{t k:Nat}{x:Operand}{lo hi:Option Operand}{T:List AV}{K:AV->List AV->ai->Prop}{a:Act}{oo:Oper}(hx:aP T x= .vec k)(h:xp TY F d (.slice t x lo hi none) T S K)
  (ho:oo.op= .slice t x lo hi none) (st:St M0 ρ M S w) (tm:Tm ρ w M T a):e9 P (execOp a.eval oo) w (bI w0 M0 a T.length K):=by
 simp only [xp,bP,aB,hx]at h;split at h
 ·rename_i wm r hf
  rw [al,bS]at h;obtain⟨aU,h⟩:=h;obtain⟨m,hq,hm⟩:=rH h;clear h;obtain⟨⟨h0,h1⟩,h|h⟩:=hq
  rotate_left
  ·obtain⟨e',iw,_⟩:=bT aw aU
   refine rG aw hx ⟨e',iw,_,hf,aU,?_⟩ ho st tm;rcases hm with ⟨rfl,rfl⟩|⟨y,kk,rfl,hy⟩
   ·exact⟨⟨h0,h1⟩,h⟩
   ·simp only [qK.HW,aB,hy,kn];exact⟨⟨h0,h1⟩,h⟩
  obtain⟨r',h,g1,g2,g3⟩:=gv h (Nat.zero_le _) aa;obtain⟨S',hK,hS⟩:=cI h;rw [hf]at hS;obtain⟨e',iw,hu,oz,aI⟩:=bT aw aU;have cX:=aY tm x;rw [hx]at cX;obtain⟨o,k1,hv⟩:=cX;have NQ:=st.aW k _ hf;obtain⟨⟨o',k2,k3,k4,k5,k6,k7⟩,_⟩:=NQ;obtain rfl:=cx k2 k1;replace k1:=k2
  have JI:o.len<=o.cap/\(o.aW=none->o.len=0/\o.cap=0):=by
   cases hb:o.aW with
   |none=>simp only [hb]at k7;exact⟨aa,λ _=>⟨aa,k7.2⟩⟩
   |some b=>simp only [hb]at k7;exact⟨k7.1,λ he=>by cases he⟩
  have b7:(underlying t).run P w= .ok (.slice e') w:=by simp [underlying,hu]
  have hb:=gu (P:=P) (ρ:=ρ) (w:=w) (M:=M) (T:=T) (e:=a.eval) (l:=0) (h:=m) (lo:=none) (hi:=hi) (len:=o.len) JI.1 (.inl ⟨rfl,rfl⟩) (by rw [k3];exact hm) (λ y _=>aY tm y) (Int.le_refl _) h0 aa
  let M':aX:=λ b off=>M b off/\¬(o.aW=some b/\off<m.toNat*r.sz)
  have dW:bB w M w M':=λ b off c hc hn=>⟨hc,λ hm=>hn hm.1⟩;have ix:∀j,j≠k->∀b,hasB ρ j b->o.aW≠some b:=λ j hj b zD hb=>hj (st.inj _ _ _ zD (by simp [hasB,k1,bY.has,hb]))
  refine .val (v:=.slice (o.aW.map λ b=>⟨b,0,none⟩) m.toNat o.cap) (w':=w) ?_ ⟨ρ,M',T,S',_,hK,⟨λ j=>?_,λ j C hC=>?_,st.inj,λ b off hm=>st.mlt b off hm.1,st.lD,λ b off hb hm=>st.sub b off hb hm.1,λ b off hb hl hm=>⟨st.eu b off hb hl hm,λ hh=>absurd (by simp [hasB,k1,bY.has,hh.1]) (st.gU (k:=k) hb hl)⟩,st.fresh,st.tn⟩,
   ⟨tm.defers,tm.size,λ i=>az.keep dW (λ _ _ h=>h) (tm.tmp i)⟩,rfl,?_⟩
  ·have hz:(o.aW.map λ b=>(⟨b,0,none⟩:Addr)).map (λ a=>a.add (0*r.sz))=o.aW.map λ b=>⟨b,0,none⟩:=by cases o.aW<;>simp [aQ]
   have cr:(Instr.sliceBounds true o.len o.cap none (hi.map a.eval) none).run P w= .ok (0,m.toNat,o.cap) w:=hb;simp [execOp,ho,hv,Sl.val,Instr.sliceAt,b7,Instr.slice,cr,aI.size,oz]
   try (cases o.aW<;>simp [aQ])
  ·rw [hS j,st.ga j]
   by_cases hj:j=k
   ·subst hj;simp [hf]
   ·simp [hj]
  ·rw [hS j]at hC
   by_cases hj:j=k
   ·subst hj
    simp at hC;subst hC;refine⟨⟨o,k1,k3,k4,k5,aa,?_⟩,.inl rfl⟩;cases fp:o.aW with
    |none=>simp only [fp]at k7 ⊢;exact k7
    |some b=>
     simp only [fp]at k7 ⊢;obtain⟨k8,cs,ty,k9,k10,k11,k12⟩:=k7;refine⟨k8,cs,ty,k9,k10,λ off=>?_,λ q hq=>?_⟩
     ·have ON:max wm m.toNat*o.sz<=off↔wm*o.sz<=off/\m.toNat*o.sz<=off:=by
       rcases Nat.le_total wm m.toNat with hle|hle
       ·rw [Nat.max_eq_right hle];exact⟨λ h'=>⟨Nat.le_trans (Nat.mul_le_mul_right _ hle) h',h'⟩,λ h'=>h'.2⟩
       ·rw [Nat.max_eq_left hle];exact⟨λ h'=>⟨h',Nat.le_trans (Nat.mul_le_mul_right _ hle) h'⟩,λ h'=>h'.1⟩
      rw [ON]
      constructor
      ·intro JJ
       have:=(k11 off).1 JJ.1;exact⟨⟨this.1,Nat.le_of_not_lt λ aS=>JJ.2 ⟨fp,by rw [<-k4];exact aS⟩⟩,this.2⟩
      ·intro JJ
       exact⟨(k11 off).2 ⟨JJ.1.1,JJ.2⟩,λ hh=>by have:=hh.2;rw [<-k4]at this;have:=JJ.1.2;omega⟩
     ·obtain⟨c,k13,k14⟩:=k12 q hq;exact⟨c,k13,av.keep dW k14⟩
   ·simp only [hj,if_false]at hC
    exact eA.ext dW (λ _ _ h=>h) (λ b hb=>⟨rfl,λ off=>⟨λ hm=>hm.1,λ hm=>⟨hm,λ hh=>ix j hj b hb hh.1⟩⟩⟩) (st.aW j C hC)
  ·refine⟨by rw [g1];simp only [LB]at k5 ⊢;omega,_,_,by rw [g1,Nat.sub_zero],by rw [g1];omega,?_⟩
   cases fp:o.aW with
   |none=>
    have:=(JI.2 fp).1;exact .inl (by simp only [RO.cells,g1];rw [show m.toNat - 0=0 from by omega];simp)
   |some b=>
    simp only [fp]at k7;obtain⟨k8,cs,ty,k9,k10,k11,k12⟩:=k7;refine .inr ⟨b,0,rfl,λ q hq=>?_⟩;have zk:q<m.toNat*r.sz:=by simpa [RO.cells,g1,g2]using hq
    have hle:m.toNat*r.sz<=r.len*r.sz:=Nat.mul_le_mul_right _ aa;obtain⟨c,k13,k14⟩:=k12 q (by simp only [RO.cells];omega);refine⟨c,by rw [cell_of_heap k9,Nat.zero_add];exact k13,λ hm=>hm.2 ⟨fp,aa⟩,?_⟩;exact g3 w M' q c hq (av.keep dW (by simpa using k14))
 ·rename_i n0 r hf
  rw [al,bS]at h;obtain⟨aU,h⟩:=h;obtain⟨e',iw,_⟩:=bT aw aU;exact rG aw hx ⟨e',iw,_,hf,aU,h⟩ ho st tm
 ·rename_i r y hf
  split at h
  ·rw [al]at h
   obtain⟨aU,h⟩:=h;obtain⟨kk,i,hy,h⟩:=dO h;rw [bS]at h;obtain⟨⟨h0,h1⟩,h⟩:=h;obtain⟨e',iw,hu,oz,aI⟩:=bT aw aU;have cX:=aY tm x;rw [hx]at cX;obtain⟨o,k1,hv⟩:=cX;have NQ:=st.aW k _ hf;obtain⟨⟨o',k2,k3,k4,k5,k6,k7⟩,_⟩:=NQ;obtain rfl:=cx k2 k1;replace k1:=iD k2
   have JI:o.len<=o.cap:=by
    cases hb:o.aW with
    |none=>simp only [hb]at k7;omega
    |some b=>simp only [hb]at k7;exact k7.1
   have b7:(underlying t).run P w= .ok (.slice e') w:=by simp [underlying,hu]
   have hb:=gu (P:=P) (ρ:=ρ) (w:=w) (M:=M) (T:=T) (e:=a.eval) (l:=i) (h:=(o.len:Int)) (lo:=some y) (hi:=none) (len:=o.len) JI (.inr ⟨y,kk,rfl,hy⟩) (.inl ⟨rfl,rfl⟩) (λ y _=>aY tm y) h0 aa aa;refine .val (v:=o.SB i.toNat) (w':=w) ?_ ⟨ρ,M,T,S,_,h,st,tm,rfl,o,k1,h0,aa,rfl⟩;have cr:(Instr.sliceBounds true o.len o.cap (some (a.eval y)) none none).run P w= .ok (i.toNat,o.len,o.cap) w:=hb;simp [execOp,ho,hv,Sl.val,Sl.SB,Instr.sliceAt,b7,Instr.slice,cr,aI.size,oz,k4]
  ·exact h.elim
 ·rename_i n z hf
  split at h
  ·rename_i e' iw
   exact rG aw hx ⟨e',iw,_,hf,h⟩ ho st tm
  ·exact h.elim
 ·exact h.elim
theorem xr(aw:aO P TY){t e:Nat}{x y:Operand}{k:IntKind}{T:List AV}{a:Act}{oo:Oper}(hx:aP T x= .ao)(hy:aP T y= .int k 0)(hd:(aq TY t).d= .slice e)(hz:1<=(aq TY e).sz)
  (ho:oo.op= .slice t x none (some y) none) (tm:Tm ρ w M T a):(execOp a.eval oo).run P w= .ok (.value (.slice none 0 0)) w:=by
 have cX:=aY tm x;rw [hx]at cX;have cX:a.eval x= .slice none 0 0:=cX;have hu:=bV aw hd;have aI:=aw.at (t:=e) (.inl aa);have b7:(underlying t).run P w= .ok (.slice e) w:=by simp [underlying,hu]
 have hb:=gu (P:=P) (ρ:=ρ) (w:=w) (M:=M) (T:=T) (e:=a.eval) (l:=0) (h:=0) (lo:=none) (hi:=some y) (len:=0) (cap:=0) (Nat.le_refl _) (.inl ⟨rfl,rfl⟩) (.inr ⟨y,k,rfl,hy⟩) (λ y _=>aY tm y) (Int.le_refl _) (Int.le_refl _) aa;have cr:(Instr.sliceBounds true 0 0 none ((some y).map a.eval) none).run P w= .ok (0,0,0) w:=hb;simp only [Option.map_some]at cr;simp [execOp,ho,cX,Instr.sliceAt,b7,Instr.slice,cr,aI.size]
theorem Em(aw:aO P TY){F:Spec}{c:Call}{T:List AV}{K:AV->List AV->ai->Prop}{a:Act}{oo:Oper}(dD:c.callee= .builtin .copy)(h:xp TY F d (.call c) T S K)
  (ho:oo.op= .call c) (st:St M0 ρ M S w) (tm:Tm ρ w M T a):e9 P (execOp a.eval oo) w (bI w0 M0 a T.length K):=by
 simp only [xp,bP,dD]at h;split at h
 ·rename_i x y t t' bn zE
  split at h
  ·rename_i SC
   have SC:=ay.1 SC;subst SC;have sw:c.args= #[x,y]:=by simpa using congrArg List.toArray bn
   have mF:c.argTypes= #[t,t]:=by simpa using congrArg List.toArray zE
   rw [aB,aB]at h;have hx:=aY tm x;have hy:=aY tm y
   have bQ:∀v w',(Builtin.copy_ #[t,t] oo.type #[a.eval x,a.eval y]).run P w= .ok v w'->(execOp a.eval oo).run P w= .ok (.value v) w':=λ v w' hr=>by
    simp [execOp,ho,resolve,dD,sw,mF,invoke,builtin,hr]
   generalize aP T x=ax at h hx;rcases F5 h st hy with ⟨h,q9⟩|⟨r',h,Kv,ad,cap',q9,zF⟩
   ·cases ax<;>exact h.elim
   cases ax<;>try exact h.elim
   rename_i k _;obtain⟨o,g1,g2⟩:=hx;simp only at h;split at h
   ·rename_i wm r hf
    simp only [al]at h;obtain⟨DW,aU,SD,gg,hlen,h⟩:=h;obtain rfl:=ay.1 DW;have gg:=ay.1 gg;obtain⟨S',hK,hS⟩:=cI h;rw [hf]at hS;obtain⟨e',iw,hu,oz,aI⟩:=bT aw aU;obtain⟨e2,OO,_,Yz,_⟩:=bT aw SD;rw [iw]at OO;cases OO;have x5:r'.sz=1:=by rw [<-Yz,oz,gg]
    have Q8:(P.info? e').map (·.size)=some 1:=by
     obtain⟨i,_,hi,_,hs,_⟩:=aI.row;rw [hi];simp only [Option.map_some];rw [hs,oz,gg]
    obtain⟨⟨o',g3,g4,g5,g6,g7,g8⟩,_⟩:=st.aW k _ hf;obtain rfl:=cx g3 g1;have uY:r'.cells=r'.len:=by simp [RO.cells,x5]
    by_cases h0:r'.len=0
    ·have aK:=run_copy_none (P:=P) w t t oo.type e' (o.aW.map λ b=>⟨b,0,none⟩) ad o.len o.cap r'.len cap' hu Q8 (by rw [h0];simp)
     refine .val (bQ _ _ (by rw [g2,q9];exact aK)) ⟨ρ,M,T,S',_,hK,⟨λ j=>?_,λ j C hC=>?_,st.inj,st.mlt,st.lD,st.sub,st.eu,st.fresh,st.tn⟩,tm,rfl,ag⟩
     ·rw [hS j,st.ga j]
      by_cases hj:j=k
      ·subst hj;simp [hf]
      ·simp [hj]
     ·rw [hS j]at hC
      by_cases hj:j=k
      ·subst hj
       simp at hC;subst hC;refine⟨⟨o,g3,aa,by rw [x5,g5,gg],aa,Nat.zero_le _,?_⟩,.inl rfl⟩;cases hb:o.aW with
       |none=>simp only [hb]at g8 ⊢;exact⟨h0,g8.2⟩
       |some b=>
        simp only [hb]at g8 ⊢;obtain⟨g9,cs,ty,g10,g11,g12,_⟩:=g8;exact⟨g9,cs,ty,g10,g11,g12,λ q hq=>by rw [uY]at hq;omega⟩
      ·simp only [hj,if_false]at hC
       exact st.aW j C hC
    ·rcases zF with hh|⟨b',off',rfl,hh⟩
     ·omega
     obtain⟨l,n1,n2,n3⟩:=ja hh;cases hb:o.aW with
     |none=>simp only [hb]at g8;omega
     |some b=>
      simp only [hb]at g8;obtain⟨g9,cs,ty,g10,g11,g12,g13⟩:=g8
      have Kw:∀v∈l,v.oneCell'=true:=λ v hv=>by
       obtain⟨j,hj⟩:=List.mem_iff_getElem?.1 hv
       have oy:j<r'.cells:=by
        rw [<-n1];rcases Nat.lt_or_ge j l.length with h'|h'
        ·exact h'
        ·rw [List.getElem?_eq_none h']at hj;cases hj
       obtain⟨c,h1,h2⟩:=n3 j oy;rw [hj]at h1;cases h1;exact lH h2.aM
      have tu:0+l.length<=cs.size:=by rw [n1,uY,g11,g5,gg];omega
      have aK:=run_copy_row (P:=P) w t t oo.type e' b 0 o.len o.cap ⟨b',off',none⟩ r'.len cap' cs ty l hu Q8 g10 (by rw [n1,uY,g4,hlen];simp) (λ j v hj=>by rw [aQ];exact n2 j v hj) tu Kw
      let cs':=(cs.toList.take 0++l++cs.toList.drop (0+l.length)).toArray
      have eI:∀q,q<r'.len->cs'[q]? =l[q]? :=λ q hq=>by
       simp only [cs',List.take_zero,List.nil_append,List.getElem?_toArray];rw [List.getElem?_append_left (by rw [n1,uY];exact hq)]
      have n8:cs'.size=cs.size:=by simp [cs'];omega
      have bX:∀off,¬M b off->cs'[off]? =cs[off]? :=λ off hn=>by
       have h2:cs.size<=off:=Nat.le_of_not_lt λ aS=>hn ((g12 off).2 ⟨by simp,aS⟩);rw [Array.getElem?_eq_none h2,Array.getElem?_eq_none (by rw [n8];exact h2)]
      have hw:=st.write (k:=k) (B':=.vec 0 r' []) (cs':=cs') hf (by simp [hasB,g3,bY.has,hb]) g10 n8 bX (λ NR=>⟨⟨o,g3,aa,by rw [x5,g5,gg],aa,Nat.zero_le _,by
       simp only [hb];refine⟨g9,cs',ty,setRow_heap w b cs cs' ty _ g10,by rw [n8];exact g11,λ off=>by rw [n8];exact g12 off,λ q hq=>?_⟩;obtain⟨c,h1,h2⟩:=n3 q hq;exact⟨c,by rw [eI q (by rw [<-uY];exact hq)];exact h1,av.keep NR h2⟩⟩,.inl rfl⟩) hS
      refine .val (bQ _ _ (by rw [g2,q9,Sl.val,hb];exact aK)) ⟨ρ,M,T,S',_,hK,hw.1,⟨tm.defers,tm.size,λ j=>az.keep hw.2 (λ _ _ h=>h) (tm.tmp j)⟩,rfl,ag⟩
   ·exact h.elim
  ·exact h.elim
 ·exact h.elim
theorem oA(v:Value)(n:Nat):(Builtin.zeroCells #[v] n).toList=List.replicate n v:=by
 apply List.ext_getElem?;intro j;simp only [Builtin.zeroCells,Array.toList_map,Array.toList_range,List.getElem?_map,List.getElem?_replicate];have hs:(#[v]:Array Value).size=1:=rfl;rw [hs,Nat.mul_one]
 by_cases h:j<n
 ·rw [List.getElem?_range h];simp [h,Nat.mod_one]
 ·simp [h]
theorem BI(aw:aO P TY){F:Spec}{c:Call}{T:List AV}{K:AV->List AV->ai->Prop}{a:Act}{oo:Oper}(dD:c.callee= .builtin .clear)(h:xp TY F d (.call c) T S K)
  (ho:oo.op= .call c) (st:St M0 ρ M S w) (tm:Tm ρ w M T a):e9 P (execOp a.eval oo) w (bI w0 M0 a T.length K):=by
 simp only [xp,bP,dD]at h;split at h
 ·rename_i x t bn zE
  have sw:c.args= #[x]:=by simpa using congrArg List.toArray bn
  have mF:c.argTypes= #[t]:=by simpa using congrArg List.toArray zE
  rw [aB]at h;have hx:=aY tm x
  have bQ:∀v w',(Builtin.clear_ #[t] oo.type #[a.eval x]).run P w= .ok v w'->(execOp a.eval oo).run P w= .ok (.value v) w':=λ v w' hr=>by
   simp [execOp,ho,resolve,dD,sw,mF,invoke,builtin,hr]
  generalize aP T x=ax at h hx;cases ax<;>try exact h.elim
  rename_i k i;obtain⟨o,g1,g0,_,g2⟩:=hx;simp only at h;split at h
  ·rename_i wm kk l hf
   rw [al]at h;obtain⟨aU,h⟩:=h;split at h
   ·rename_i e hd
    unfold OP at h;split at h
    ·rename_i k' hde
     simp only [al]at h;obtain⟨hkq,uW,⟨Q0,bL⟩,h⟩:=h;obtain rfl:=bZ hkq;obtain⟨S',hK,hS⟩:=cI h;rw [hf]at hS;obtain⟨e',iw,hu,oz,aI⟩:=bT aw aU;rw [hd]at iw;cases iw;have bm:(aq TY e).zero≠[]:=λ he=>by rw [he]at uW;cases uW
     obtain⟨i',u,hi,_,_,_,_,hzero⟩:=aI.row;obtain⟨z,gg,tQ⟩:=hzero bm;have Q9:z= .int kk 0:=by have:=tQ.2.2.2.1;rw [hde]at this;exact this
     have mr:∀w,(zeroValue e).run P w= .ok (.int kk 0) w:=λ w=>by simp [zeroValue,typeInfo,hi,gg,Q9]
     have b7:∀w,(underlying t).run P w= .ok (.slice e) w:=λ w=>by simp [underlying,hu]
     obtain⟨⟨o',g3,g4,g5,g6,g7,g8⟩,_⟩:=st.aW k _ hf;obtain rfl:=cx g3 g1;have g4:o.len=l.length:=g4;have g5:o.sz=1:=g5;have g6:l.length<=LB:=g6;have bL:i.toNat<=l.length:=aa;have nI:(l.take i.toNat++List.replicate (l.length - i.toNat) 0).length=l.length:=by simp;omega
     by_cases h0:i.toNat=l.length
     ·have aK:(Builtin.clear_ #[t] oo.type #[a.eval x]).run P w= .ok (.tuple #[]) w:=by
       have:o.len - i.toNat=0:=aa;rw [g2,Sl.SB,this];generalize (if o.cap=i.toNat then (o.aW.map λ b=>(⟨b,0,none⟩:Addr)) else (o.aW.map λ b=>(⟨b,0,none⟩:Addr)).map (·.add (i.toNat*o.sz)))=ad;cases ad<;>simp [Builtin.clear_,b7]
      have VG:l.take i.toNat++List.replicate (l.length - i.toNat) 0=l:=by rw [h0];simp
      rw [VG]at hS;refine .val (bQ _ _ aK) ⟨ρ,M,T,S',_,hK,⟨λ j=>?_,λ j C hC=>?_,st.inj,st.mlt,st.lD,st.sub,st.eu,st.fresh,st.tn⟩,tm,rfl,ag⟩
      ·rw [hS j,st.ga j]
       by_cases hj:j=k
       ·subst hj;simp [hf]
       ·simp [hj]
      ·rw [hS j]at hC
       by_cases hj:j=k
       ·subst hj
        simp at hC;subst hC;exact st.aW j _ hf
       ·simp only [hj,if_false]at hC
        exact st.aW j C hC
     ·cases hb:o.aW with
      |none=>simp only [hb]at g8;have:=g8.1;simp only [RO.len]at this;omega
      |some b=>
       simp only [hb]at g8;obtain⟨g9,cs,ty,g10,g11,g12,g13⟩:=g8;have dT:o.cap≠i.toNat:=aa;have hn:o.len - i.toNat=l.length - i.toNat:=by rw [g4]
       obtain⟨m,hm⟩:∃m,l.length - i.toNat=m+1:=⟨l.length - i.toNat - 1,aa⟩;have c8:=run_storeCells_at P b i.toNat ty (List.replicate (m+1) (Value.int kk 0)) 0 cs w g10 (by simp;rw [g11,g5];omega) (λ v hv=>by rw [(List.mem_replicate.1 hv).2];rfl)
       have aK:(Builtin.clear_ #[t] oo.type #[a.eval x]).run P w= .ok (.tuple #[]) (w.setRow b (cs.toList.take (i.toNat+0)++List.replicate (m+1) (Value.int kk 0)++cs.toList.drop (i.toNat+0+(List.replicate (m+1) (Value.int kk 0)).length)).toArray):=by
        rw [g2,Sl.SB,if_neg dT,hb,hn,hm];have VH:(Value.int kk 0).cells= #[Value.int kk 0]:=rfl;simp only [Option.map_some,g5,Nat.mul_one,aQ,Nat.zero_add];simp only [Builtin.clear_,b7,mr,VH,oA,c8,Sem.run_bind,Result.andThen_ok];simp [b7,mr,VH,oA,c8]
       generalize pU:(cs.toList.take (i.toNat+0)++List.replicate (m+1) (Value.int kk 0)++cs.toList.drop (i.toNat+0+(List.replicate (m+1) (Value.int kk 0)).length)).toArray=cs' at aK;have da:i.toNat<=cs.toList.length:=by rw [Array.length_toList,g11,g5];omega
       have t1:(cs.toList.take i.toNat).length=i.toNat:=by rw [List.length_take];omega
       have hg:∀q,cs'[q]? =if q<i.toNat then cs[q]? else if q<l.length then some (Value.int kk 0) else cs[q]? :=λ q=>by
        rw [<-pU,List.getElem?_toArray];simp only [Nat.add_zero,List.length_replicate]
        by_cases h1:q<i.toNat
        ·rw [if_pos h1,List.getElem?_append_left (by rw [List.length_append,t1,List.length_replicate];omega),List.getElem?_append_left (by rw [t1];exact h1),List.getElem?_take_of_lt h1,Array.getElem?_toList]
        ·rw [if_neg h1]
         by_cases h2:q<l.length
         ·rw [if_pos h2,List.getElem?_append_left (by rw [List.length_append,t1,List.length_replicate];omega),List.getElem?_append_right (by rw [t1];omega),List.getElem?_replicate,if_pos (by rw [t1];omega)]
         ·rw [if_neg h2,List.getElem?_append_right (by rw [List.length_append,t1,List.length_replicate];omega),List.getElem?_drop,<-Array.getElem?_toList]
          congr 1
          rw [List.length_append,t1,List.length_replicate];omega
       have n8:cs'.size=cs.size:=by
        rw [<-pU];simp only [List.size_toArray,List.length_append,List.length_take,List.length_replicate,List.length_drop,Nat.add_zero,Array.length_toList];rw [Array.length_toList]at da;rw [g11,g5];omega
       have bX:∀off,¬M b off->cs'[off]? =cs[off]? :=λ off OQ=>by
        rw [hg off]
        by_cases h1:off<i.toNat
        ·rw [if_pos h1]
        ·rw [if_neg h1]
         by_cases h2:off<l.length
         ·exact absurd ((g12 off).2 ⟨by rw [g5];omega,by rw [g11,g5];omega⟩) OQ
         ·rw [if_neg h2]
       have hw:=st.write (k:=k) (B':=.vec wm (.ints kk (l.take i.toNat++List.replicate (l.length - i.toNat) 0)) []) (cs':=cs') hf (by simp [hasB,g3,bY.has,hb]) g10 n8 bX (λ NR=>⟨⟨o,g3,by rw [g4];exact nI.symm,g5,by show List.length _<=LB;rw [nI];exact g6,by show wm<=List.length _;rw [nI];exact g7,by
        simp only [hb];refine⟨g9,cs',ty,setRow_heap w b cs cs' ty _ g10,by rw [n8];exact g11,λ off=>by rw [n8];exact g12 off,λ q hq=>?_⟩;have hq:q<l.length:=by simpa [RO.cells,RO.len,RO.sz,nI]using hq
        rw [hg q]
        by_cases h1:q<i.toNat
        ·rw [if_pos h1]
         obtain⟨c,h2,h3⟩:=g13 q (by simpa [RO.cells,RO.len,RO.sz]using hq);refine⟨c,h2,?_⟩
         have e1:(l.take i.toNat++List.replicate (l.length - i.toNat) 0).getD q 0=l.getD q 0:=by
          simp only [List.getD];rw [List.getElem?_append_left (by simp;omega),List.getElem?_take_of_lt h1]
         show c= .int kk (List.getD _ q 0)/\eD kk (List.getD _ q 0);rw [e1];exact h3
        ·rw [if_neg h1,if_pos hq]
         refine⟨_,rfl,?_⟩
         have e1:(l.take i.toNat++List.replicate (l.length - i.toNat) (0:Int)).getD q 0=0:=by
          simp only [List.getD];rw [List.getElem?_append_right (by simp;omega),List.getElem?_replicate];split<;>rfl
         show _=Value.int kk (List.getD _ q 0)/\eD kk (List.getD _ q 0);rw [e1];exact⟨rfl,by unfold eD;cases kk<;>decide⟩⟩,.inl rfl⟩) hS
       exact .val (bQ _ _ aK) ⟨ρ,M,T,S',_,hK,hw.1,⟨tm.defers,tm.size,λ j=>az.keep hw.2 (λ _ _ h=>h) (tm.tmp j)⟩,rfl,ag⟩
    ·exact h.elim
   ·exact h.elim
  ·exact h.elim
 ·exact h.elim
theorem tR(aw:aO P TY){F:Spec}{o:Op}{T:List AV}{K:AV->Option dH->Prop}(hq:bP o=true)(h:qK TY F d o T S0 K):∃v B,K v B/\QS P d o T S0 v B:=by
 cases o<;>try (first|(cases hq;done)|exact h.elim)
 case move=>exact cY aw h (.inl ⟨_,.inl rfl⟩)
 case assign=>exact cY aw h (.inl ⟨_,.inr (.inl rfl)⟩)
 case pick=>exact cY aw h (.inr (.inr (.inr (.inl ⟨_,_,_,rfl⟩))))
 case alloc=>exact BJ aw h
 case box=>exact HY aw h
 case build=>exact BK aw h
 case load=>exact En aw h
 case nilCheck=>exact cY aw h (.inl ⟨_,.inr (.inr rfl)⟩)
 case binOp=>exact cY aw h (.inr (.inr (.inl ⟨_,_,_,_,_,rfl⟩)))
 case unOp=>exact cY aw h (.inr (.inl ⟨_,_,_,rfl⟩))
 case makeFunc=>exact cY aw h (.inr (.inr (.inr (.inr (.inr ⟨_,_,_,rfl⟩)))))
 case makeSlice=>exact Eo aw h
 case fieldAddr=>exact tv aw h
 case field=>exact BL aw h
 case indexAddr=>exact tw aw h
 case index=>exact BM aw h
 case convert=>exact xt aw h
 case extract=>exact cY aw h (.inr (.inr (.inr (.inr (.inl ⟨_,_,rfl⟩)))))
 case makeMap=>exact xu aw h
 case lookup=>exact zG aw h
 case call c=>
  simp only [bP]at hq;cases hc:c.callee with
  |builtin b=>exact xv aw hc h
  |invoke=>rw [hc]at hq;cases hq
  |value=>rw [hc]at hq;cases hq
theorem mT{f:FuncId}{c:Call}{oo:Oper}{e:Operand->Value}{x:Operand}{cs:List Value}(hc:eC P f)(ho:oo.op= .call c)(hx:c.callee= .value x)(hv:e x= .func (.func f) #[] cs.toArray)(w:World):
  (execOp e oo).run P w= .ok (.enter f (c.args.toList.map e++cs).toArray) w:=by
 obtain⟨fn,h1,h2,h3⟩:=hc;have hb:fn.body.isNone=false:=by cases hh:fn.body<;>simp_all
 have e1:(#[]++c.args.map e++cs.toArray)=(c.args.toList.map e++cs).toArray:=by
  apply Array.ext';simp
 have cr:fn.body≠none:=λ hh=>by rw [hh]at h3;cases h3
 rw [<-e1];simp [execOp,ho,resolve,hx,hv,Deferred.ofValue,invoke,callFunc,h1,h2,cr]
theorem iR{l m:List AV}:kg l m=l++m:=by
 induction l with
 |nil=>rfl
 |cons a l ih=>simp [kg,ih]
theorem pV{T:List AV}{a:Act}(tm:Tm ρ w M T a):∀(xs:List Operand),aJ (az ρ w M) (xs.map (aP T)) (xs.map a.eval)
 |[]=>trivial
 |x::xs=>⟨aY tm x,pV tm xs⟩
theorem uZ{F:Spec}(hF:b6 P F){f:FuncId}{c:Call}{x:Operand}{cap:List AV}{T:List AV}{K:AV->List AV->ai->Prop}{a:Act}{oo:Oper}(ho:oo.op= .call c)(hx:c.callee= .value x)
  (cX:aP T x= .fn f cap) (h:u3 F d f ((c.args.toList.map (aP T))++cap) T S K) (st:St M0 ρ M S w) (tm:Tm ρ w M T a):e9 P (execOp a.eval oo) w (bI w0 M0 a T.length K):=by
 have hv:=aY tm x;rw [cX]at hv;obtain⟨cs,hv,bR⟩:=hv;have aK:=mT (mU hF h) ho hx (e:=a.eval) (cs:=cs.toList) (by rw [hv]) w;refine .inr (.inr ⟨f,_,w,aK,?_⟩);refine(sC hF h st tm ((pV tm c.args.toList).append (bR.imp λ _ _=>cE))).mono λ e w' ⟨u,he,ρ',M',T',S',v,h1,h2,h3,h4,h5⟩=>⟨u,he,ρ',M',T',S',v,h1,h2,h3,h4,h5⟩
theorem BN{F:Spec}(hF:b6 P F){f:FuncId}{c:Call}{x:Operand}{r:RO}{i:Int}{T:List AV}{K:AV->List AV->ai->Prop}{a:Act}{oo:Oper}(ho:oo.op= .call c)(hx:c.callee= .value x)
  (cX:aP T x= .tP f r i) (h:u3 F d f ((c.args.toList.map (aP T))++[.eH r i]) T S K) (st:St M0 ρ M S w) (tm:Tm ρ w M T a):e9 P (execOp a.eval oo) w (bI w0 M0 a T.length K):=by
 have hv:=aY tm x;rw [cX]at hv;obtain⟨b,off,cp,h1,h2,h3,hv⟩:=hv;have aK:=mT (mU hF h) ho hx (e:=a.eval) (cs:=[.pointer (some ⟨b,off+i.toNat*r.sz,none⟩)]) (by rw [hv]) w;refine .inr (.inr ⟨f,_,w,aK,?_⟩);have bR:aJ (az ρ w M) [.eH r i] [.pointer (some ⟨b,off+i.toNat*r.sz,none⟩)]:=⟨⟨b,off,cp,h1,h2,h3,rfl⟩,ag⟩;refine(sC hF h st tm ((pV tm c.args.toList).append bR)).mono λ e w' ⟨u,he,ρ',M',T',S',v,h1,h2,h3,h4,h5⟩=>⟨u,he,ρ',M',T',S',v,h1,h2,h3,h4,h5⟩
theorem BO{b:Nat}{o o':Obj}(h:w.heap[b]? =some o)(b':Nat):(w.heap.setIfInBounds b o')[b']? =if b'=b then some o' else w.heap[b']? :=by
 have hb:b<w.heap.size:=by
  rcases Nat.lt_or_ge b w.heap.size with h'|h'
  ·exact h'
  ·rw [Array.getElem?_eq_none h']at h;cases h
 rw [Array.getElem?_setIfInBounds]
 by_cases he:b=b'
 ·subst he;simp [hb]
 ·simp [he,Ne.symm he]
theorem me(aw:aO P TY){t:Nat}{x k y:Operand}{T:List AV}{K:AV->List AV->ai->Prop}{a:Act}{oo:Oper}(h:F7 TY t x k y T S K)
  (ho:oo.op= .mapUpdate t x k y\/oo.op= .insert t x k y) (st:St M0 ρ M S w) (tm:Tm ρ w M T a):e9 P (execOp a.eval oo) w (bI w0 M0 a T.length K):=by
 unfold F7 at h;obtain⟨kt,et,kd,vk,h,hu,hk,z,hz,mr⟩:=pW aw h;simp only [aB]at h;split at h
 ·rename_i j off hx
  split at h
  ·rename_i kd' vk' m hf
   rw [al,al]at h;obtain⟨h1,h2,h⟩:=h;obtain rfl:=Kx h1;obtain rfl:=Ky h2;obtain⟨key,xi,h⟩:=zH h;obtain⟨n,hn,h⟩:=OR h;obtain⟨S',hK,hS⟩:=cI h;rw [hf]at hS;have mA:=aY tm x;rw [hx]at mA;have mA:(ρ j).bind (bY.ref · off)=some (a.eval x):=mA;obtain⟨b,g1,es,c,g2,g3,g4⟩:=st.aW j _ hf;have hex:=zI g1 mA;obtain⟨es',c',hr,bc⟩:=xw (mty:=t) hu hk g2 g4 (zJ xi (aY tm k)) (OS hn (aY tm y));have sy:=λ b'=>BO (o':=.map es' c') g2 b';have hM:M b 0:=(g3 0).2 rfl;have hb:hasB ρ j b:=by simp [hasB,g1,bY.has]
   have ko:∀M':aX,M' b 0->gk M' w { w with heap:=w.heap.setIfInBounds b (.map es' c') }:=λ M' hM'=>⟨by simp,λ b' cr=>by
    by_cases he:b'=b
    ·subst he;exact .inr (.inr ⟨es,es',c,c',g2,by simp [sy],hM'⟩)
    ·exact .inl (by simp [sy,he]),jT.refl _⟩
   have dW:bB w M { w with heap:=w.heap.setIfInBounds b (.map es' c') } M:=(ko M hM).keep λ b off _ h=>h;have OT:b<w.heap.size:=eV st hb
   have st':St M0 ρ M S' { w with heap:=w.heap.setIfInBounds b (.map es' c') }:=by
    refine⟨λ i=>?_,λ i C hC=>?_,st.inj,λ b off hm=>by simpa using st.mlt b off hm,?_,st.sub,st.eu,st.fresh,st.tn⟩
    ·rw [hS i,st.ga i]
     by_cases hi:i=j
     ·subst hi;simp [hf]
     ·simp [hi]
    ·rw [hS i]at hC
     by_cases hi:i=j
     ·subst hi
      simp at hC;subst hC;exact⟨b,g1,es',c',by simp [sy],g3,bc⟩
     ·simp only [hi,if_false]at hC
      exact eA.ext dW (λ _ _ h=>h) (λ b' cr=>⟨by
       have:b'≠b:=λ e=>hi (st.inj _ _ b (e▸cr) hb);simp [sy,this],λ _=>Iff.rfl⟩) (st.aW i C hC)
    ·exact st.lD.trans (ko (λ b' off=>b'=b/\M b' off) ⟨rfl,hM⟩) (λ b' off cr he=>by obtain⟨rfl,hm⟩:=he;exact⟨(st.fresh j b' hb).resolve_left (Nat.not_le_of_lt cr),st.sub b' off cr hm⟩)
   refine .inr (.inl ⟨{ w with heap:=w.heap.setIfInBounds b (.map es' c') },?_,ρ,M,T,S',.any,hK,st',⟨tm.defers,tm.size,λ i=>az.keep dW (λ _ _ h=>h) (tm.tmp i)⟩,rfl,ag⟩);rcases ho with ho|ho<;>simp [execOp,ho,hex,hr]
  ·exact h.elim
 ·exact h.elim
theorem HZ(aw:aO P TY){F:Spec}(hF:b6 P F){o:Op}{T:List AV}{K:AV->List AV->ai->Prop}{a:Act}{oo:Oper}(h:xp TY F d o T S K)
  (ho:oo.op=o) (st:St M0 ρ M S w) (tm:Tm ρ w M T a):e9 P (execOp a.eval oo) w (bI w0 M0 a T.length K):=by
 have quiet:∀{ρ:Env} {M:aX} {T':List AV} {S:ai} {K':AV->Option dH->Prop},qK TY F d o T' S K'->(∃v B,K' v B/\QS P d o T' S v B)->St M0 ρ M S w->Tm ρ w M T' a->T'.length=T.length->((aj S d=none/\loc d=true)\/∀v b,¬K' v (some b))->
   (∀v B,K' v B->K v T' (rJ d B S))->e9 P (execOp a.eval oo) w (bI w0 M0 a T.length K):=by
  intro ρ M T' S K' _ hs st tm hlen hd hK;obtain⟨v,B,h1,h2⟩:=hs;refine(h2.1 w0 M0 ρ M w S a.eval oo ho (JK.refl S) st (λ x _=>aY tm x) (λ hB=>?_)).mono λ u w' ⟨ρ',M',g1,g2,g3,g4⟩=>⟨ρ',M',T',_,v,hK v B h1,g1,⟨tm.defers,tm.size,λ i=>az.keep g3 g4 (tm.tmp i)⟩,hlen,g2⟩;rcases hd with hd|hd
  ·exact hd
  ·cases B with
   |none=>exact absurd rfl hB
   |some b=>exact absurd h1 (hd v b)
 unfold xp at h;cases hq:bP o with
 |true=>
  rw [hq]at h;cases hm:lI o with
  |true=>
   rw [hm]at h;obtain⟨T',S',h1,h2,h3,h4,h5,fJ⟩:=lJ h st tm;exact quiet h1 (tR aw hq h1) h2 h3 h4 (.inl ⟨h5,fJ⟩) λ v B hv=>by cases B<;>exact hv
  |false=>
   rw [hm]at h;exact quiet h (tR aw hq h) st tm rfl (.inr λ v b hv=>hv) λ v B hv=>by cases B<;>first|exact hv.elim|exact hv
 |false=>
  cases o<;>try (first|(cases hq;done)|(rw [hq]at h;exact h.elim))
  case buildSlice t n ps=>exact rD aw (d:=d) (F:=F) (by simpa only [xp]using h) ho st tm
  case store t x y=>exact BP aw (d:=d) (F:=F) (by simpa only [xp]using h) ho st tm
  case mapUpdate t x k y=>exact me aw h (.inl ho) st tm
  case insert t x k y=>exact me aw h (.inr ho) st tm
  case slice t x lo hi mx=>
   cases mx with
   |some z=>
    have h':qK TY F d (.slice t x lo hi (some z)) T S λ v b=>match b with|none=>K v T S|some _=>False:=by
     simp only [bP]at h;exact h
    exact quiet h' (pX aw h') st tm rfl (.inr λ v b hv=>hv) λ v B hv=>by cases B<;>first|exact hv.elim|exact hv
   |none=>
    by_cases hx:∃k,aP T x= .vec k
    ·obtain⟨k,hx⟩:=hx
     exact El aw (d:=d) (F:=F) hx (by simpa only [xp]using h) ho st tm
    ·by_cases hn:aP T x= .ao
     ·simp only [bP,aB,hn]at h
      split at h
      ·rename_i y
       obtain⟨kk,n,hy,rfl,h⟩:=dO h;split at h
       ·rename_i e hd
        obtain⟨hz,h⟩:=al.1 h;exact .val (xr aw hn hy hd (ah hz) ho tm) ⟨ρ,M,T,S,_,h,st,tm,rfl,rfl⟩
       ·exact h.elim
      ·exact h.elim
     have h':qK TY F d (.slice t x lo hi none) T S λ v b=>match b with|none=>K v T S|some _=>False:=by
      simp only [bP,aB]at h;split at h
      ·rename_i k hk;exact absurd ⟨k,hk⟩ hx
      ·rename_i hk;exact absurd hk hn
      ·exact h
     exact quiet h' (sD aw h') st tm rfl (.inr λ v b hv=>hv) λ v B hv=>by cases B<;>first|exact hv.elim|exact hv
  case call c=>
   simp only [bP]at hq h;cases hc:c.callee with
   |invoke=>rw [hc]at h;exact h.elim
   |builtin b=>
    rw [hc]at hq;cases b<;>try (cases hq;done)
    ·exact zK aw (d:=d) (F:=F) hc (by simpa only [xp,bP,hc]using h) ho st tm
    ·exact BI aw (d:=d) (F:=F) hc (by simpa only [xp,bP,hc]using h) ho st tm
    ·exact Em aw (d:=d) (F:=F) hc (by simpa only [xp,bP,hc]using h) ho st tm
   |value x=>
    rw [hc]at h
    have mcall:∀{f:FuncId},uT F f c.args.toList x T S K->e9 P (execOp a.eval oo) w (bI w0 M0 a T.length K):=λ{f} h=>by
     obtain⟨cs,h1,h2⟩:=BF hF h st tm;have aK:=mT (uS hF h) ho hc (e:=a.eval) (cs:=cs) h1 w;exact .inr (.inr ⟨f,_,w,aK,h2.mono λ e w' ⟨u,he,ρ',M',T',S',v,h1,h2,h3,h4,h5⟩=>⟨u,he,ρ',M',T',S',v,h1,h2,h3,h4,h5⟩⟩)
    cases x with
    |func f=>
     rcases h with h|h|h
     ·simp only [dr]at h
      exact uZ hF (cap:=[]) ho hc rfl (by simpa using h) st tm
     ·exact mcall h
     ·simp only [dr]at h
      have aK:=mT (tx hF h) ho hc (e:=a.eval) (cs:=[]) rfl w;rw [List.append_nil]at aK;exact .inr (.inr ⟨f,_,w,aK,(zL hF h st tm (pV tm c.args.toList)).mono λ e w' ⟨u,he,ρ',M',T',S',v,h1,h2,h3,h4,h5⟩=>⟨u,he,ρ',M',T',S',v,h1,h2,h3,h4,h5⟩⟩)
    |_=>
     simp only [aB]at h;split at h
     ·rename_i f cap hx
      rcases h with h|h
      ·simp only [dr,iR]at h
       exact uZ hF ho hc hx h st tm
      ·exact mcall h
     ·rename_i f r i hx
      simp only [dr,iR]at h;exact BN hF ho hc hx h st tm
     ·exact h.elim
theorem zM(aw:aO P TY){o:Op}{T:List AV}{K:AV->List AV->ai->Prop}{a:Act}{oo:Oper}(h:Kz TY d o T S K)
  (ho:oo.op=o) (st:St M0 ρ M S w) (tm:Tm ρ w M T a):e9 P (execOp a.eval oo) w (bI w0 M0 a T.length K):=by
 cases o<;>try exact h.elim
 rename_i t x;obtain⟨T1,S1,h,st1,tm1,OL,dA,fJ⟩:=lJ h st tm;rw [aB]at h;have hx:=aY tm1 x;split at h
 ·rename_i k i kH
  rw [kH]at hx;split at h
  ·rename_i r hf
   rw [al,al]at h;obtain⟨aU,Ks,h⟩:=h;have h:=KA h;obtain⟨S2,hK,hS⟩:=cI h;rw [hf]at hS;obtain⟨o,b,g1,g2,g3,g4,g5⟩:=hx;obtain⟨o',rows,g6,hD⟩:=st1.aW k _ hf;rw [oB g6]at g1;cases g1;have hlen:=hD.len;have YA:d≠k:=λ e=>by rw [<-e,dA]at hf;cases hf
   obtain⟨ρ2,st2,SE,bc⟩:=st1.OU (S':=(d,.vec 0 (r.row i.toNat) [])::S2) dA fJ Ks g6 hD ⟨g3,aa⟩ hf (λ j=>by
    rw [aD]
    by_cases hj:j=d
    ·simp [hj]
    ·rw [if_neg (Ne.symm hj),if_neg hj,hS j];rfl)
   have h7:=hD.outer;simp only [g2]at h7;obtain⟨g19,cs,ty,g20,g21,g22,g23⟩:=h7;have bL:i.toNat<r.len:=aa;obtain⟨c,sw,mF⟩:=g23 i.toNat bL;have mF:=mF.resolve_left (by simp);subst mF;obtain⟨hs,n9⟩:=gw aU;have zN:=kO hD.rq;have aI:=aw.at (t:=t) (.inl (by rw [hs,zN];decide));have KB:bJ (aq TY t).d=false:=by rw [n9];have:=hD.rq;cases r<;>first|rfl|cases this
   have hl:=fv (t:=t) (b:=b) (off:=i.toNat) (c:=(rows.getD i.toNat cz).val) aI KB (by rw [cell_of_heap g20];exact sw);refine .val (v:=(rows.getD i.toNat cz).val) (w':=w) ?_ ⟨ρ2,dt M ρ d,T1,_,.vec d,hK,st2,⟨tm1.defers,tm1.size,λ j=>(tm1.tmp j).view SE⟩,OL,bc⟩;rw [hD.NS,Nat.mul_one]at g5;simp [execOp,ho,g5,hl]
  ·exact h.elim
 ·exact h.elim
theorem H0(aw:aO P TY){F:Spec}(hF:b6 P F){o:Op}{T:List AV}{K:AV->List AV->ai->Prop}{a:Act}{oo:Oper}(h:NT TY F d o T S K)
  (ho:oo.op=o) (st:St M0 ρ M S w) (tm:Tm ρ w M T a):e9 P (execOp a.eval oo) w (bI w0 M0 a T.length K):=by
 unfold NT at h;split at h
 ·exact zM aw h ho st tm
 ·exact HZ aw hF h ho st tm
end
end Go.AM
end
section
namespace Go.AM
open Go
def tS(x y:AV):Prop:=x=y\/∃e e',x= .bool e/\y= .bool e'/\e.val=e'.val
theorem tS.refl(x:AV):tS x x:=.inl rfl
theorem tS.symm{x y:AV}(h:tS x y):tS y x:=by
 rcases h with rfl|⟨e,e',h1,h2,h3⟩
 ·exact .inl rfl
 ·exact .inr ⟨e',e,h2,h1,h3.symm⟩
theorem tS.trans{x y z:AV}(h:tS x y)(h':tS y z):tS x z:=by
 rcases h with rfl|⟨e,e',rfl,rfl,h3⟩
 ·exact h'
 ·rcases h' with rfl|⟨f,f',h4,rfl,h6⟩
  ·exact .inr ⟨e,e',rfl,rfl,h3⟩
  ·cases h4;exact .inr ⟨e,f',rfl,rfl,h3.trans h6⟩
theorem tS.rep{x y:AV}{ρ:Env}{w:World}{M:aX}{v:Value}(h:tS x y)(hv:az ρ w M x v):az ρ w M y v:=by
 rcases h with rfl|⟨e,e',rfl,rfl,h3⟩
 ·exact hv
 ·have hv:v= .bool e.val:=hv
  exact(by rw [hv,h3]:v= .bool e'.val)
def nJ(ops:Array Oper)(T:List AV)(g:Option (Nat × Bool))(r:Bool):Prop:=
 match g with
 |none=>r=true
 |some (j,want)=>∃d,(ops[j]?).bind (·.dst)=some d/\((∃e,nth T d= .bool e/\r=(some e.val==some want))\/(nth T d= .cC []/\r=false))
theorem x6{ops:Array Oper}{g:Option (Nat × Bool)}{T:List AV}{yes no:List AV->Prop}(h:fM ops.toList g T yes no):
  ∃r T',nJ ops T g r/\T'.length=T.length/\(∀t,tS (nth T t) (nth T' t))/\(if r then yes T' else no T'):=by
 unfold fM at h;split at h
 ·exact⟨true,T,rfl,rfl,λ t=>tS.refl _,h⟩
 ·rename_i j want
  split at h
  ·rename_i d hd
   have iw:(ops[j]?).bind (·.dst)=some d:=by
    simp only [List.getD,Array.getElem?_toList]at hd;cases ho:ops[j]? with
    |none=>rw [ho]at hd;exact absurd hd (by simp;rintro⟨⟩)
    |some o=>rw [ho]at hd;simpa using hd
   split at h
   ·rename_i e he
    have h1:=rK h;rw [fN]at h1;refine⟨some e.val==some want,T.set d (.bool (.lit e.val)),⟨d,iw,.inl ⟨e,he,rfl⟩⟩,List.length_set,λ t=>?_,?_⟩
    ·rw [iK]
     split
     ·rename_i ht;obtain⟨rfl,_⟩:=ht
      rw [he];exact .inr ⟨e,.lit e.val,rfl,rfl,rfl⟩
     ·exact tS.refl _
    ·revert h1;cases e.val<;>cases want<;>intro h1<;>exact h1
   ·rename_i he
    exact⟨false,T,⟨d,iw,.inr ⟨he,rfl⟩⟩,rfl,λ t=>tS.refl _,by simpa using h⟩
   ·exact h.elim
  ·exact h.elim
theorem pY{ops:Array Oper}{j d:Nat}{want:Bool}{a:Act}{ρ:Env}{w:World}{M:aX}(h1:(ops[j]?).bind (·.dst)=some d)(h3:az ρ w M (.cC []) (a.tmps.getD d undef)):(yielded ops a.tmps j==some want)=false:=by
 obtain⟨cs,h4,_⟩:=h3;unfold yielded;rw [h1];simp only [Option.bind_some];cases hd:a.tmps[d]? with
 |none=>rfl
 |some v=>
  have:a.tmps.getD d undef=v:=by simp [Array.getD_eq_getD_getElem?,hd]
  rw [this]at h4;subst h4
  rfl
theorem zO{ops:Array Oper}{o:Oper}{T:List AV}{r:Bool}{a:Act}{ρ:Env}{w:World}{M:aX}(h:nJ ops T o.guard r)(bk:a.tmps.size=T.length)
  (hd:∀j want d,o.guard=some (j,want)->(ops[j]?).bind (·.dst)=some d->az ρ w M (nth T d) (a.tmps.getD d undef)):
  Region.wanted o (yielded ops a.tmps)=r:=by
 unfold nJ at h;unfold Region.wanted;cases hg:o.guard with
 |none=>rw [hg]at h;exact h.symm
 |some jw=>
  obtain⟨j,want⟩:=jw;rw [hg]at h;obtain⟨d,h1,h2⟩:=h;have h3:=hd j want d hg h1;rcases h2 with ⟨e,h2,rfl⟩|⟨h2,rfl⟩
  ·rw [h2]at h3
   have h3:a.tmps.getD d undef= .bool e.val:=h3
   have aS:d<a.tmps.size:=by
    rcases Nat.lt_or_ge d a.tmps.size with h'|h'
    ·exact h'
    ·rw [zP T d aa]at h2;cases h2
   have h4:a.tmps[d]? =some (.bool e.val):=by
    rw [Array.getElem?_eq_getElem aS];simp [Array.getD,aS]at h3;rw [h3]
   simp [yielded,h1,h4]
  ·rw [h2]at h3
   exact pY h1 h3
section
variable{P:Program}{TY:List cP}{w0 w:World}{M0:ef w0}{ρ:Env}{M:aX}{S:ai}{d:Nat}{Q:Exit->Act->World->Prop}
theorem Tm.aeq{T T':List AV}{a:Act}(tm:Tm ρ w M T a)(hl:T'.length=T.length)(h:∀t,tS (nth T t) (nth T' t)):Tm ρ w M T' a:=
 ⟨tm.defers,by rw [hl];exact tm.size,λ i=>(h i).rep (tm.tmp i)⟩
theorem Tm.put{T:List AV}{a:Act}{dst:Option Nat}{v:AV}{u:Value}(tm:Tm ρ w M T a)(hv:az ρ w M v u){K:List AV->Prop}(h:iL dst T v K):
  ∃T',K T'/\T'.length=T.length/\Tm ρ w M T' (a.put dst u):=by
 cases dst with
 |none=>exact⟨T,h,rfl,tm⟩
 |some d=>
  simp only [iL,fN]at h;refine⟨_,h,List.length_set,tm.defers,by simp [Act.put,tm.size],λ i=>?_⟩;rw [iK]
  by_cases hi:i=d
  ·subst hi
   by_cases aS:i<T.length
   ·simp [aS,Act.put,tm.size,hv]
   ·rw [if_neg (by simp [aS])]
    rw [zP T i aa];trivial
  ·rw [if_neg (by simp [hi])]
   have:(a.put (some d) u).tmps.getD i undef=a.tmps.getD i undef:=by
    simp [Act.put,Array.getD_eq_getD_getElem?,Array.getElem?_setIfInBounds_ne (Ne.symm hi)]
   rw [this];exact tm.tmp i
def End(w0:World)(M0:ef w0)(n:Nat)(K:List AV->ai->Prop)(a:Act)(w:World):Prop:=
 ∃ρ M T S,K T S/\St M0 ρ M S w/\Tm ρ w M T a/\T.length=n
theorem lK(aw:aO P TY){F:Spec}(hF:b6 P F){ops:Array Oper}{i:Nat}{o:Oper}(hi:ops[i]? =some o){T:List AV}{K:List AV->ai->Prop}{N:Act->World->Prop}{a:Act}
  (h:fM ops.toList o.guard T (λ T=>NT TY F (o.dst.getD 999) o.op T S λ v T S=>iL o.dst T v λ T=>K T S) (λ T=>iL o.dst T (.cC []) λ T=>K T S))
  (st:St M0 ρ M S w) (tm:Tm ρ w M T a) (hN:∀a w,End w0 M0 T.length K a w->N a w):wpOp P ops Q i N a w:=by
 obtain⟨r,T1,hg,hl,heq,h1⟩:=x6 h;have hw:=zO (ρ:=ρ) (w:=w) (M:=M) hg tm.size (λ j want d _ _=>tm.tmp d);have tm1:=tm.aeq hl heq;simp only [wpOp,hi];cases r with
 |true=>
  rw [if_pos hw];rw [if_pos rfl]at h1;refine .inl ((H0 aw hF (oo:=o) h1 rfl st tm1).wp λ u w' ⟨ρ',M',T',S',v,g1,g2,g3,g4,g5⟩=>hN _ _ ?_);obtain⟨T2,h2,h3,h4⟩:=g3.put g5 g1;exact⟨ρ',M',T2,S',h2,g2,h4,by rw [h3,g4,hl]⟩
 |false=>
  rw [if_neg (by rw [hw];simp)];rw [if_neg (by simp)]at h1;obtain⟨T2,h2,h3,h4⟩:=tm1.put (v:=.cC []) (u:=undef) ⟨#[],rfl,ag⟩ h1;exact hN _ _ ⟨ρ,M,T2,S,h2,st,h4,by rw [h3,hl]⟩
theorem u5(aw:aO P TY){F:Spec}(hF:b6 P F){ops:Array Oper}:∀(rest:List Oper) (i:Nat) {T:List AV} {S:ai} {ρ:Env} {M:aX} {w:World} {K:List AV->ai->Prop} {a:Act},
  ops.toList.drop i=rest->H2 TY F ops.toList rest T S K->St M0 ρ M S w->Tm ρ w M T a->(∀a w,End w0 M0 T.length K a w->Q .normal a w)->wpOps P ops Q (List.range' i rest.length) a w
 |[],i,T,S,ρ,M,w,K,a,_,h,st,tm,hQ=>hQ _ _ ⟨ρ,M,T,S,h,st,tm,rfl⟩
 |o::rest,i,T,S,ρ,M,w,K,a,hr,h,st,tm,hQ=>by
  have hi:ops[i]? =some o:=by
   have:=congrArg (·.head?) hr;simp [List.head?_drop]at this;exact this
  have Eh:ops.toList.drop (i+1)=rest:=by
   have:=congrArg List.tail hr
   simpa [List.tail_drop]using this
  rw [List.length_cons,List.range'_succ,wpOps_cons];simp only [H3,rL]at h;refine lK (K:=λ T S=>H2 TY F ops.toList rest T S K) aw hF hi h st tm λ a w ⟨ρ',M',T',S',h1,h2,h3,h4⟩=>?_;exact u5 aw hF rest (i+1) Eh h1 h2 h3 (λ a w hE=>hQ a w (by rw [h4]at hE;exact hE))
end
end Go.AM
end
