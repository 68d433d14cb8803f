import Derived.Test.YtgailjhnfghkgaaGreatDoorAmDraw
import Derived.Scope
section
namespace Go.AM
open Go
section
variable{P:Program}{TY:List cV}{w0 w:World}{M0:eE w0}{O:Env}{M:a7}{S S0:ak}{d:Nat}
theorem CY{w':World}{M':a7}:∀{l:List AV} {vs:List Value},pq l=0->aM (lz w w' M') l vs->aM (cx O w' M') l vs
 |[],[],_,_=>trivial
 |a::l,v::vs,hn,h=>by
  have ha:x7 a=0:=by
   simp only [pq]at hn;cases a<;>first|rfl|(simp [x7]at hn)
  exact⟨AE ha (bE.refl _ _) h.1,CY (by rw [pv ha]at hn;exact hn) h.2⟩
 |[],_::_,_,h=>h.elim
 |_::_,[],_,h=>h.elim
theorem Jr{a:AV}{v:Value}{w':World}{M':a7}(hn:S5 a=true)(h:AF w w' M' a v):aC O w' M' a v:=by
 cases a with
 |cL l=>
  obtain⟨cs,rfl,bU⟩:=h;have hn:pq l=0:=aA.1 hn;exact⟨cs,rfl,CY hn bU⟩
 |new r=>cases hn
 |_=>simp only [AF]at h;exact aC.keep (bE.refl _ _) (λk o ho=>by cases ho) h
theorem Fw{ret:AV}{K:AV->Option dQ->Prop}(h:CZ d ret K):
  ∃v B,K v B/\∀(w0:World) (M0:eE w0) (O:Env) (M:a7) (S:ak) (w w':World) (M2:a7) (u:Value),St M0 O M S w->gH (λ_ _=>False) w w'->
   (∀b off,b<w.heap.size->(M2 b off↔M b off))->(∀b off,M2 b off->b<w'.heap.size)->AF w w' M2 ret u->(B≠none->an S d=none/\loc d=true)->Out w0 M0 O M S w d B v u w':=by
 cases ret with
 |new r=>
  refine⟨.vec d,some (.vec 0 r []),h,λw0 M0 O M S w w' M2 u st hs hold aX pw hd=>?_⟩;obtain⟨st',hk⟩:=st.same hs hold aX;obtain⟨o,rfl,hV,rS⟩:=pw;obtain⟨hd,fV⟩:=hd (by simp);have st2:=st'.take (d:=d) hd hV (λb hb k hk=>absurd (e8 st hk) (by have:=rS b hb;omega)) (λb hb=>ajW st.lS.1 (rS b hb)) fV;refine⟨_,M2,st2,⟨o,by simp [b6.yM],rfl⟩,hk,λk o' oW=>?_⟩
  have oG:k≠d:=λe=>by
   subst e;have:=st.gq k;rw [hd,oW]at this;cases this
  simp [oG,oW]
 |_=>
  simp only [CZ]at h;rw [aq]at h;obtain⟨hn,h⟩:=h;have h:=gO.1 h;refine⟨_,none,h,λw0 M0 O M S w w' M2 u st hs hold aX pw hd=>?_⟩;obtain⟨st',hk⟩:=st.same hs hold aX;exact⟨O,M2,st',Jr hn pw,hk,λ_ _ h=>h⟩
theorem C3{T:List AV}{e:Operand->Value}:∀{xs:List Operand},(∀x∈xs,aC O w M (aT T x) (e x))->aM (aC O w M) (xs.map (aT T)) (xs.map e)
 |[],_=>trivial
 |x::xs,h=>⟨h x (by simp),C3 λy hy=>h y (ajj _ hy)⟩
theorem C4{F:Spec}(hF:ck P F){c:Call}{f:FuncId}{T:List AV}{K:AV->Option dQ->Prop}(hc:c.callee= .value (.func f))(h:qK TY F d (.call c) T S0 K):
  ∃v B,K v B/\QS P d (.call c) T S0 v B:=by
 simp only [qK,hc,dA]at h;obtain⟨as',ks,⟨as2,ret,hf,bw,h⟩,BX,bg⟩:=fG h
 have hq:(safe ret=true\/ks=[])/\CZ d ret K:=by
  cases hs:safe ret<;>rw [hs]at h
  ·cases ks with
   |nil=>exact⟨.inr rfl,h⟩
   |cons=>exact h.elim
  ·exact⟨.inl rfl,by cases ks<;>exact h⟩
 obtain⟨v,B,hK,Xm⟩:=Fw hq.2;refine⟨v,B,hK,λw0 M0 O M w S' e oo ho aae st he hd=>?_,λAc=>by simp [bS,hc]at Ac⟩;have hx:=he (.func f) (by simp [Op.operands,Call.operands,hc]);obtain⟨cs,hx,bU⟩:=hx
 have aaf:cs= #[]:=by
  obtain⟨l⟩:=cs;cases l with
  |nil=>rfl
  |cons=>exact bU.elim
 have aN:=nj (hF.q f as2 ret hf).1 ho hc (e:=e) (cs:=[]) (by rw [hx,aaf]) w;rw [List.append_nil]at aN;have hv:aM (aC O w M) (c.args.toList.map (aT T)) (c.args.toList.map e):=C3 λx hx=>he x (by simp [Op.operands,Call.operands,hc];exact .inr (aj6.1 hx))
 have Xn:=oa bw (bg O w M (λk B hB hs=>by
  obtain⟨o,ho⟩:=ajM.1 hs;exact st.aZ k B (st.find aae hB ho)) ks _ (λk hk=>hk) hv)
 refine .inr (.inr ⟨f,_,w,aN,?_⟩);refine((hF.q f as2 ret hf).2 (fa M O ks) w _ (M0.hw w st.lS) (λb off hm=>st.mlt b off hm.1) Xn).mono λe' w' ⟨u,he',hs,M'',hold,aX,pw⟩=>⟨u,he',?_⟩;rcases hq.1 with vR|rfl
 ·let M2:a7:=λb off=>(b<w.heap.size/\M b off)\/(w.heap.size<=b/\M'' b off)
  have Mr:∀b off,b<w.heap.size->(M2 b off↔M b off):=λb off hb=>⟨λhm=>hm.elim (λh=>h.2) (λh=>absurd h.1 aa),λhm=>.inl ⟨hb,hm⟩⟩;have Ms:∀b off,w.heap.size<=b->(M2 b off↔M'' b off):=λb off hb=>⟨λhm=>hm.elim (λh=>absurd h.1 aa) (λh=>h.2),λhm=>.inr ⟨hb,hm⟩⟩
  exact Xm w0 M0 O M S' w w' M2 u st hs Mr (λb off hm=>by
   rcases hm with hm|hm
   ·exact ajT hm.1 hs.1
   ·exact aX b off hm.2) (C5 Ms vR pw) hd
 ·exact Xm w0 M0 O M S' w w' M'' u st hs (λb off hb=>(hold b off hb).trans ⟨λh=>h.1,λh=>⟨h,λk hk=>by cases hk⟩⟩) aX pw hd
theorem vS(az:aR P TY){F:Spec}(hF:ck P F){o:Op}{T:List AV}{K:AV->Option dQ->Prop}(h:qK TY F d o T S0 K):∃v B,K v B/\QS P d o T S0 v B:=by
 cases hq:bS o with
 |true=>exact uF az hq h
 |false=>
  cases o<;>try (first|(cases hq;done)|exact h.elim)
  case slice t x lo hi mx=>
   cases mx with
   |none=>exact tf az h
   |some _=>exact qA az h
  case buildSlice t n ps=>exact Ap az h
  case call c=>
   cases hc:c.callee with
   |value x=>
    cases x with
    |func f=>exact C4 hF hc h
    |_=>simp only [qK,hc]at h
   |builtin b=>
    simp only [bS,hc]at hq;cases b<;>first|(cases hq;done)|(simp only [qK,hc]at h)
   |invoke=>simp only [qK,hc]at h
def S6(P:Program)(ops:Array Oper)(T':List AV)(S':ak)(o:Oper)(j:Nat)(B:Option dQ)(q:Nat):Prop:=
 ∃r Tg Tj Sj v,n8 ops Tg o.guard r/\(r=true->QS P (o.dst.getD 999) o.op Tj Sj v B)/\(r=false->v= .cL []/\B=none)/\
  (∀d,o.dst=some d->d<T'.length->uG v (nth T' d))/\(B≠none->∃d,o.dst=some d/\loc d=true)/\
  (∀t∈o.looksAt ops,(∀i,j<=i->i<q->bK ops i≠some t)->uG (nth T' t) (nth Tg t)/\uG (nth T' t) (nth Tj t))/\
  (∀k C,an Sj k=some C->an S' k=some C)
theorem Hq(az:aR P TY){F:Spec}(hF:ck P F){ops:Array Oper}(S7:∀i j d,bK ops i=some d->bK ops j=some d->i=j){K:List AV->ak->Prop}:
  ∀(rest:List Oper) (gs:List Bool) (i:Nat) {T:List AV} {S:ak},ops.toList.drop i=rest->jv TY F ops.toList gs rest T S K->
   ∃(n:Nat) (T':List AV) (S':ak) (Bs:Nat->Option dQ),n<=rest.length/\(n=rest.length\/gs[n]? =some true)/\jv TY F ops.toList (gs.drop n) (rest.drop n) T' S' K/\T'.length=T.length/\
    (∀t,(∀j,i<=j->j<i+n->bK ops j≠some t)->uG (nth T t) (nth T' t))/\
    (∀j,i<=j->j<i+n->∃o,ops[j]? =some o/\S6 P ops T' S' o j (Bs j) (i+n))/\
    (∀j d b,i<=j->j<i+n->bK ops j=some d->Bs j=some b->an S' d=some b)/\
    (∀k,(∀j,i<=j->j<i+n->bK ops j=some k->Bs j=none)->an S' k=an S k)/\
    (∀k C,an S k=some C->an S' k=some C)/\(∀j d,i<=j->j<i+n->bK ops j=some d->Bs j≠none->an S d=none)/\(∀j,j<n->gs[j]? =some false)
 |[],gs,i,T,S,_,h=>⟨0,T,S,λ_=>none,ajl _,.inl rfl,by simpa [Js]using h,rfl,λ_ _=>uG.refl _,λj h1 h2=>by omega,λj d b h1 h2=>by omega,λ_ _=>rfl,λ_ _ h=>h,λj d h1 h2=>by omega,λj h=>by omega⟩
 |o::rest,[],i,T,S,_,h=>h.elim
 |o::rest,true::gs,i,T,S,_,h=>⟨0,T,S,λ_=>none,ajk _,.inr rfl,h,rfl,λ_ _=>uG.refl _,λj h1 h2=>by omega,λj d b h1 h2=>by omega,λ_ _=>rfl,λ_ _ h=>h,λj d h1 h2=>by omega,λj h=>by omega⟩
 |o::rest,false::gs,i,T,S,hr,h=>by
  have hi:ops[i]? =some o:=by
   have:=ajs (·.head?) hr;simp [List.head?_drop]at this;exact this
  have uC:bK ops i=o.dst:=by simp [bK,hi]
  have Fj:ops.toList.drop (i+1)=rest:=by
   have:=ajs List.tail hr
   simpa [List.tail_drop]using this
  simp only [vT]at h;obtain⟨r,T1,hg,rX,heq,h1⟩:=yJ h
  have step:∃v B T2 S2,jv TY F ops.toList gs rest T2 S2 K/\T2.length=T.length/\(r=true->QS P (o.dst.getD 999) o.op T1 S v B)/\(r=false->v= .cL []/\B=none)/\
    (∀t,o.dst≠some t->nth T2 t=nth T1 t)/\(∀t,o.dst=some t->t<T.length->nth T2 t=v)/\S2=so (o.dst.getD 999) B S/\(B≠none->∃d,o.dst=some d/\an S d=none/\loc d=true):=by
   cases r with
   |true=>
    rw [ajq rfl]at h1;cases hd:o.dst with
    |none=>
     rw [hd]at h1;obtain⟨v,B,h2,h3⟩:=vS az hF h1;cases B with
     |some b=>exact h2.elim
     |none=>exact⟨v,none,T1,S,h2,rX,λ_=>h3,λe=>(by cases e),λ_ _=>rfl,λ_ e=>(by cases e),rfl,λe=>absurd rfl e⟩
    |some d=>
     rw [hd]at h1;obtain⟨v,B,h2,h3⟩:=vS az hF h1
     have pc:∀t,some d≠some t->nth (T1.set d v) t=nth T1 t:=λt ht=>by
      rw [iZ,ajm (λe=>ht (by rw [e.1]))]
     have C6:∀t,some d=some t->t<T.length->nth (T1.set d v) t=v:=λt ht aX=>by
      obtain rfl:=ajN ht;have UG:d<T1.length:=by rw [rX];exact aX
      rw [iZ,ajq ⟨rfl,UG⟩]
     cases B with
     |none=>
      simp only [fZ]at h2;exact⟨v,none,T1.set d v,S,h2,by rw [ajv,rX],λ_=>h3,λe=>(by cases e),pc,C6,rfl,λe=>absurd rfl e⟩
     |some b=>
      simp only [Fx]at h2;split at h2
      ·rename_i hf
       rw [aq,fZ]at h2;obtain⟨fV,h2⟩:=h2;exact⟨v,some b,T1.set d v,_,h2,by rw [ajv,rX],λ_=>h3,λe=>(by cases e),pc,C6,rfl,λ_=>⟨d,rfl,hf,fV⟩⟩
      ·exact h2.elim
   |false=>
    rw [ajm (by simp)]at h1;cases hd:o.dst with
    |none=>
     rw [hd]at h1;exact⟨.cL [],none,T1,S,h1,rX,λe=>(by cases e),λ_=>⟨rfl,rfl⟩,λ_ _=>rfl,λ_ e=>(by cases e),rfl,λe=>absurd rfl e⟩
    |some d=>
     rw [hd]at h1;simp only [ja,fZ]at h1;refine⟨.cL [],none,T1.set d (.cL []),S,h1,by rw [ajv,rX],λe=>(by cases e),λ_=>⟨rfl,rfl⟩,λt ht=>?_,λt ht aX=>?_,rfl,λe=>absurd rfl e⟩
     ·rw [iZ,ajm (λe=>ht (by rw [e.1]))]
     ·obtain rfl:=ajN ht
      have UG:d<T1.length:=by rw [rX];exact aX
      rw [iZ,ajq ⟨rfl,UG⟩]
  obtain⟨v,B,T2,S2,h2,xM,hq,Jf,hT2,aag,rfl,hB⟩:=step
  have Mt:∀k C,an S k=some C->an (so (o.dst.getD 999) B S) k=some C:=λk C hk=>by
   cases B with
   |none=>exact hk
   |some b=>
    obtain⟨d,hd,hf,_⟩:=hB (by simp);simp only [so,aF,hd,Option.getD_some];rw [ajm (λe=>by subst e;rw [hf]at hk;cases hk)];exact hk
  obtain⟨n,T',S',Bs,g1,g2,g3,g4,g5,g6,g7,g8,g9,g10,g11⟩:=Hq az hF S7 rest gs (i+1) Fj h2
  have Xo:∀t,(∀j,i<=j->j<i+(n+1)->bK ops j≠some t)->uG (nth T t) (nth T' t)/\uG (nth T1 t) (nth T' t):=λt ht=>by
   have e1:=hT2 t (by rw [<-uC];exact ht i (ajl _) aa);have e2:=g5 t λj mS jX=>ht j aa aa;rw [e1]at e2;exact⟨(heq t).trans e2,e2⟩
  obtain⟨Bf,KU,Wg⟩:∃Bf:Nat->Option dQ,Bf i=B/\∀j,j≠i->Bf j=Bs j:=⟨λj=>if j=i then B else Bs j,by simp,λj h=>by simp [h]⟩
  refine⟨n+1,T',S',Bf,by simp;omega,?_,by simpa using g3,g4.trans xM,λt ht=>(Xo t ht).1,λj mS jX=>?_,λj d b mS jX hd hb=>?_,λk hk=>?_,λk C hk=>g9 k C (Mt k C hk),λj d mS jX hd hb=>?_,λj hj=>by
   rcases j with _|j
   ·rfl
   ·simpa using g11 j aa⟩
  ·rcases g2 with g2|g2
   ·exact .inl (by simp [g2])
   ·exact .inr (by simpa using g2)
  ·by_cases l4:j=i
   ·subst l4
    refine⟨o,hi,r,T,T1,S,v,hg,λhr=>?_,λhr=>?_,λd hd aX=>?_,λhb=>?_,λt _ ht=>?_,λk C hk=>g9 k C (Mt k C hk)⟩
    ·rw [KU];exact hq hr
    ·rw [KU];exact Jf hr
    ·have e1:=aag d hd (by rw [g4,xM]at aX;exact aX)
     rw [<-e1];refine g5 d λj' Xp Xq he=>?_;have:=S7 j' j d he (by rw [uC,hd]);omega
    ·rw [KU]at hb
     obtain⟨d,hd,_,fV⟩:=hB hb;exact⟨d,hd,fV⟩
    ·have:=Xo t λj' Xp Xq=>ht j' Xp Xq
     exact⟨this.1.symm,this.2.symm⟩
   ·obtain⟨o',oW,aN⟩:=g6 j aa aa
    exact⟨o',oW,by rw [Wg j l4,show i+(n+1)=i+1+n from by omega];exact aN⟩
  ·by_cases l4:j=i
   ·subst l4
    rw [KU]at hb;subst hb;rw [uC]at hd;have:an (so (o.dst.getD 999) (some b) S) d=some b:=by simp [so,aF,hd]
    exact g9 d b this
   ·rw [Wg j l4]at hb
    exact g7 j d b aa aa hd hb
  ·have e1:=g8 k λj mS jX hd=>by
    have:=hk j aa aa hd
    rwa [Wg j aa]at this
   rw [e1];cases Xr:B with
   |none=>rfl
   |some b=>
    obtain⟨d,hd,_⟩:=hB (by rw [Xr];simp);simp only [so,aF,hd,Option.getD_some];rw [ajm];intro e;subst e;have:=hk i (ajl _) aa (by rw [uC,hd]);rw [KU,Xr]at this;cases this
  ·by_cases l4:j=i
   ·subst l4
    rw [KU]at hb;obtain⟨d',iK,hf,_⟩:=hB hb;rw [uC,iK]at hd;cases hd;exact hf
   ·rw [Wg j l4]at hb
    have e1:=g10 j d aa aa hd hb;cases hf:an S d with
    |none=>rfl
    |some C=>rw [Mt d C hf]at e1;cases e1
def On(l:Array Bool)(i:Nat):Prop:=l[i]? =some true
theorem Mu(e:Edge):Region.binds .any e=e7 e:=by
 unfold Region.binds e7;cases e.ground<;>rfl
theorem mem_ready{ops:Array Oper}{l:Array Bool}(hl:l.size=ops.size){i:Nat}:
  i∈Region.ready .any ops l↔∃o,ops[i]? =some o/\¬On l i/\∀e∈o.after,e7 e=true->On l e.on:=by
 unfold Region.ready On;simp only [akq,ajJ,ajB,Bool.not_eq_true',Mu]
 constructor
 ·rintro⟨h1,h2,h3⟩
  have hi:i<l.size:=aa;refine⟨ops[i],by simp [h1],λhh=>?_,λe he hb=>?_⟩
  ·simp [Array.getD,hi]at h2
   simp [hi]at hh;rw [hh]at h2;cases h2
  ·simp only [ajE h1,Option.map_some,Option.getD_some,Array.all_eq_true_iff_forall_mem]at h3
   have:=h3 e he;simp only [hb,Bool.not_true,Bool.false_or]at this;rw [ajG]at this;cases hh:l[e.on]? with
   |none=>rw [hh]at this;cases this
   |some b=>rw [hh]at this;simp at this;rw [this]
 ·rintro⟨o,h1,h2,h3⟩
  have hi:i<ops.size:=by
   rcases ajF i ops.size with h|h
   ·exact h
   ·rw [ajD h]at h1;cases h1
  have Aa:i<l.size:=aa;refine⟨hi,?_,?_⟩
  ·simp [Array.getD,Aa]
   cases hh:l[i]with
   |false=>rfl
   |true=>exact absurd (by simp [Aa,hh]) h2
  ·rw [h1]
   simp only [Option.map_some,Option.getD_some,Array.all_eq_true_iff_forall_mem];intro e he;cases hb:e7 e with
   |false=>rfl
   |true=>
    have:=h3 e he hb;simp [Array.getD_eq_getD_getElem?,this]
theorem count_set:∀(l:List Bool) (i:Nat),l[i]? =some false->(l.set i true).count false+1=l.count false
 |[],i,h=>by simp at h
 |a::l,0,h=>by simp at h;subst h;simp
 |a::l,i+1,h=>by
  have:=count_set l i (by simpa using h);simp only [List.set_cons_succ,List.count_cons];omega
def ET(l:Array Bool):Nat:=l.toList.count false
theorem oc{l:Array Bool}{i:Nat}(hi:i<l.size)(h:¬On l i):ET (l.setIfInBounds i true)+1=ET l:=by
 unfold ET;rw [Array.toList_setIfInBounds];refine count_set _ _ ?_;rw [ajt];have h:¬l[i]? =some true:=h;rw [ajE hi]at h ⊢;cases hh:l[i]with
 |false=>rfl
 |true=>rw [hh]at h;exact absurd rfl h
theorem qE{l:Array Bool}(h:ET l=0){i:Nat}(hi:i<l.size):On l i:=by
 unfold ET at h;rw [List.count_eq_zero]at h;unfold On;rw [ajE hi];cases hh:l[i]with
 |true=>rfl
 |false=>exact absurd (by rw [aj6,<-hh];exact Array.getElem_mem hi) h
theorem nn{l:Array Bool}{i j:Nat}(hi:i<l.size):On (l.setIfInBounds i true) j↔j=i\/On l j:=by
 unfold On
 by_cases h:i=j
 ·subst h;simp [hi]
 ·rw [ajZ h]
  exact⟨.inr,λh'=>h'.resolve_left (Ne.symm h)⟩
structure C7(ops:Array Oper)(g:List Bool)(C:Nat->List Nat):Prop where
 back:∀i o,ops[i]? =some o->∀e∈o.after,e7 e=true->e.on<i
 Jt:∀i o,ops[i]? =some o->∀j∈C i,∃e∈o.after,e7 e=true/\(e.on=j\/j∈C e.on)
 looks:∀i o,ops[i]? =some o->∀t∈o.looksAt ops,∀j,bK ops j=some t->(j<i/\j∈C i)\/(g.getD j false=true/\i<j)
 lone:∀i,i<ops.size->g.getD i false=true->∀j,j<ops.size->(j<i/\j∈C i)\/j=i\/(i<j/\i∈C j)\/(j<i/\uH ops j=true)
 Mv:∀i j d,bK ops i=some d->bK ops j=some d->i=j
theorem Fy{ops:Array Oper}{j:Nat}{d:Nat}(h:bK ops j=some d):j<ops.size:=by
 unfold bK at h;rcases ajF j ops.size with h'|h'
 ·exact h'
 ·rw [ajD h']at h;cases h
theorem Mw{ops:Array Oper}{g:List Bool}(h:Fz ops g=true):C7 ops g (λi=>(uI ops.toList []).getD i []):=by
 have key:∀i o,ops[i]? =some o->FA ops g (uI ops.toList []) i=true:=λi o ho=>by
  have hi:i<ops.size:=by
   rcases ajF i ops.size with h|h
   ·exact h
   ·rw [ajD h]at ho;cases ho
  exact aj7.1 h i (ajJ.2 hi)
 have part:∀i o,ops[i]? =some o->_:=λi o ho=>by
  have:=key i o ho;simp only [FA,ho,ajB]at this;exact this
 refine⟨λi o ho e he hb=>?_,λi o ho j hj=>?_,λi o ho t ht j hj=>?_,λi hi hg j hj=>?_,λi j d hi hj=>?_⟩
 ·have:=aj7.1 (part i o ho).1.1.1.1 e (aj6.2 he)
  simpa [hb]using this
 ·have:=aj7.1 (part i o ho).1.1.1.2 j hj
  obtain⟨e,he,h1⟩:=List.any_eq_true.1 this;simp only [ajB,Bool.or_eq_true,beq_iff_eq,List.contains_iff_mem]at h1;exact⟨e,aj6.1 he,h1.1,h1.2⟩
 ·have:=aj7.1 (part i o ho).1.1.2 t ht
  have:=aj7.1 this j (ajJ.2 (Fy hj))
  simpa [hj]using this
 ·have:=(part i ops[i] (ajE hi)).1.2
  simp only [hg,Bool.not_true,Bool.false_or]at this;have:=aj7.1 this j (ajJ.2 hj);simp only [Bool.or_eq_true,ajB,decide_eq_true_eq,beq_iff_eq,List.contains_iff_mem]at this;rcases this with ((h|h)|h)|h
  ·exact .inl h
  ·exact .inr (.inl h)
  ·exact .inr (.inr (.inl h))
  ·exact .inr (.inr (.inr h))
 ·have Aa:=Fy hi
  have:=(part i ops[i] (ajE Aa)).2;have:=aj7.1 this j (ajJ.2 (Fy hj));simp only [Bool.or_eq_true,beq_iff_eq,Bool.not_eq_true']at this;rcases this with (h|h)|h
  ·exact h
  ·rw [hi]at h;cases h
  ·rw [hi,hj]at h;simp at h
def oe(C:Nat->List Nat)(l:Array Bool):Prop:=∀i,On l i->∀j∈C i,On l j
theorem l5{ops:Array Oper}{g:List Bool}{C:Nat->List Nat}(E:C7 ops g C){l:Array Bool}(da:oe C l){i:Nat}{o:Oper}(ho:ops[i]? =some o)(h:∀e∈o.after,e7 e=true->On l e.on):∀j∈C i,On l j:=λj hj=>by
 obtain⟨e,he,hb,h1⟩:=E.Jt i o ho j hj;rcases h1 with rfl|h1
 ·exact h e he hb
 ·exact da _ (h e he hb) j h1
theorem vU{ops:Array Oper}{g:List Bool}{C:Nat->List Nat}(E:C7 ops g C){l:Array Bool}(da:oe C l){i:Nat}{o:Oper}(hi:i<l.size)(ho:ops[i]? =some o)(h:∀e∈o.after,e7 e=true->On l e.on):oe C (l.setIfInBounds i true):=λk hk j hj=>by
 rw [nn hi]at hk ⊢;rcases hk with rfl|hk
 ·exact .inr (l5 E da ho h j hj)
 ·exact .inr (da k hk j hj)
theorem St.congr{S':ak}(h:∀k,an S' k=an S k)(st:St M0 O M S w):St M0 O M S' w:=
 ⟨λk=>by rw [h];exact st.gq k,λk B hB=>st.aZ k B (by rw [<-h];exact hB),st.inj,st.mlt,st.lS,st.sub,st.eI,st.fresh,st.tV⟩
theorem fj.Xs {s:Sem Next}{R R':Value->World->Prop}(h:fj P s w R)(hn:∀v w',R v w'->R' v w'):fj P s w R':=by
 rcases h with ⟨v,w',h1,h2⟩|⟨w',h1,h2⟩|⟨f,args,w',h1,h2⟩
 ·exact .inl ⟨v,w',h1,hn _ _ h2⟩
 ·exact .inr (.inl ⟨w',h1,hn _ _ h2⟩)
 ·exact .inr (.inr ⟨f,args,w',h1,h2.mono λe w'' ⟨v,he,hv⟩=>⟨v,he,hn _ _ hv⟩⟩)
theorem Ju{o:Oper}{e:Operand->Value}{R:Value->World->Prop}(hf:AG o=true)(h:fj P (execOp e o) w R):∃u,(∀w',(execOp e o).run P w'= .ok (.value u) w')/\R u w:=by
 have key:∀{u:Value},(∀w',(execOp e o).run P w'= .ok (.value u) w')->∃u,(∀w',(execOp e o).run P w'= .ok (.value u) w')/\R u w:=λ{u} hu=>by
  refine⟨u,hu,?_⟩;rcases h with ⟨v,w',h1,h2⟩|⟨w',h1,h2⟩|⟨f,args,w',h1,h2⟩
  ·rw [hu w]at h1;cases h1;exact h2
  ·rw [hu w]at h1;cases h1
  ·rw [hu w]at h1;cases h1
 unfold AG at hf;rw [ajB]at hf;obtain⟨_,hf⟩:=hf;split at hf
 ·rename_i x ho
  exact key (u:=e x) λw'=>by simp [execOp,ho]
 ·rename_i x ho
  exact key (u:=e x) λw'=>by simp [execOp,ho]
 ·rename_i c x y ho
  cases hc:e c with
  |bool b=>exact key (u:=if b then e x else e y) λw'=>by simp [execOp,ho,hc,asBool]
  |_=>
   exfalso;rcases h with ⟨v,w',h1,h2⟩|⟨w',h1,h2⟩|⟨f,args,w',h1,h2⟩<;>simp [execOp,ho,hc,asBool]at h1<;>cases h1
 ·rename_i x i ho
  cases hc:e x with
  |tuple vs=>
   cases hv:vs[i]? with
   |some u=>exact key (u:=u) λw'=>by simp [execOp,ho,hc,Instr.extract,hv]
   |none=>
    exfalso;rcases h with ⟨v,w',h1,h2⟩|⟨w',h1,h2⟩|⟨f,args,w',h1,h2⟩<;>simp [execOp,ho,hc,Instr.extract,hv]at h1<;>cases h1
  |_=>
   exfalso;rcases h with ⟨v,w',h1,h2⟩|⟨w',h1,h2⟩|⟨f,args,w',h1,h2⟩<;>simp [execOp,ho,hc,Instr.extract]at h1<;>cases h1
 ·cases hf
theorem Qv{ops:Array Oper}{g:List Bool}{C:Nat->List Nat}(E:C7 ops g C){R:Exit->Act->World->Prop}(Jv:∀c a w,¬R (.panic c) a w){p n:Nat}{T':List AV}{S':ak}{Bs:Nat->Option dQ}
  (hp:p+n<=ops.size) (vV:p+n=ops.size\/g.getD (p+n) false=true) (I5:∀j,p<=j->j<p+n->g.getD j false=false) (aN:∀j,p<=j->j<p+n->∃o,ops[j]? =some o/\S6 P ops T' S' o j (Bs j) (p+n))
  (hB:∀j d b,p<=j->j<p+n->bK ops j=some d->Bs j=some b->an S' d=some b)
  (next:∀(O:Env) (M:a7) (a:Act) (w:World) (l:Array Bool) (fuel:Nat),l.size=ops.size->(∀i,i<ops.size->(On l i↔i<p+n))->oe C l->ET l<=fuel->St M0 O M S' w->Tm O w M T' a->wpAny P .any ops R fuel l a w):
  ∀(fuel:Nat) (l:Array Bool) (O:Env) (M:a7) (a:Act) (w:World) (SL:ak),l.size=ops.size->(∀i,i<p->On l i)->(∀i,p+n<=i->¬On l i)->oe C l->ET l<=fuel->
   St M0 O M SL w->a.defers=[]->a.tmps.size=T'.length->(∀t,(∀j,p<=j->j<p+n->¬On l j->bK ops j≠some t)->aC O w M (nth T' t) (a.tmps.getD t undef))->
   (∀k,(∀j,p<=j->j<p+n->¬On l j->bK ops j=some k->Bs j=none)->an SL k=an S' k)->
   (∀j k,p<=j->j<p+n->¬On l j->bK ops j=some k->Bs j≠none->an SL k=none)->wpAny P .any ops R fuel l a w:=by
 intro fuel
 induction fuel with
 |zero=>
  intro l O M a w SL hl h1 h2 da hu st UH bu Pg xN YX;have b5:∀i,i<ops.size->On l i:=λi hi=>qE aa aa;refine next O M a w l 0 hl (λi hi=>⟨λ_=>?_,λ_=>b5 i hi⟩) da aa (st.congr λk=>(xN k λj mS jX hn _=>absurd (b5 j aa) hn).symm) ⟨UH,bu,λt=>Pg t λj mS jX hn=>absurd (b5 j aa) hn⟩;rcases ajF i (p+n)with h|h
  ·exact h
  ·exact absurd (b5 i hi) (h2 i h)
 |succ fuel ih=>
  intro l O M a w SL hl h1 h2 da hu st UH bu Pg xN YX
  by_cases b5:∀i,i<p+n->On l i
  ·refine next O M a w l (fuel+1) hl (λi hi=>⟨λh=>?_,λh=>b5 i h⟩) da hu (st.congr λk=>(xN k λj mS jX hn _=>absurd (b5 j jX) hn).symm) ⟨UH,bu,λt=>Pg t λj mS jX hn=>absurd (b5 j jX) hn⟩
   rcases ajF i (p+n)with h'|h'
   ·exact h'
   ·exact absurd h (h2 i h')
  ·
   have xT:∃i,i<p+n/\¬On l i/\∀j,j<i->On l j:=by
    have:∃i,i<p+n/\¬On l i:=by
     obtain⟨i,hi⟩:=Classical.not_forall.1 b5;exact⟨i,Classical.not_imp.1 hi⟩
    obtain⟨i,hi,dj⟩:=this
    induction i using Nat.strongRecOn with
    |ind i ihi=>
     by_cases hj:∃j,j<i/\¬On l j
     ·obtain⟨j,mS,jX⟩:=hj
      exact ihi j mS aa jX
     ·exact⟨i,hi,dj,λj l4=>ajy λhn=>hj ⟨j,l4,hn⟩⟩
   obtain⟨i0,Wa,Qw,AH⟩:=xT;have C8:i0<ops.size:=aa;have AJ:i0∈Region.ready .any ops l:=(mem_ready hl).2 ⟨ops[i0],ajE C8,Qw,λe he hb=>AH _ (E.back i0 _ (ajE C8) e he hb)⟩
   have core:∀(i:Nat) (o:Oper),ops[i]? =some o->¬On l i->(∀e∈o.after,e7 e=true->On l e.on)->p<=i->i<p+n->
     ∃r,Region.wanted o (yielded ops a.tmps)=r/\(r=true->fj P (execOp a.eval o) w (λu w'=>wpAny P .any ops R fuel (l.setIfInBounds i true) (a.put o.dst u) w'))/\
      (r=false->wpAny P .any ops R fuel (l.setIfInBounds i true) (a.put o.dst undef) w):=by
    intro i o ho dj gP Mx lQ;have FB:i<ops.size:=aa;have YY:=l5 E da ho gP;obtain⟨o',oW,hor⟩:=aN i Mx lQ;rw [ho]at oW;cases oW;obtain⟨r,Tg,Tj,Sj,v,hg,hq,Jf,hv,hBd,S8,hSj⟩:=hor;have bD:i<l.size:=aa;have uC:bK ops i=o.dst:=by simp [bK,ho]
    have My:∀t∈o.looksAt ops,aC O w M (nth T' t) (a.tmps.getD t undef)/\∀j,i<=j->j<p+n->bK ops j≠some t:=λt ht=>by
     refine⟨Pg t λj mS jX hn hd=>?_,λj mR jX hd=>?_⟩
     ·rcases E.looks i o ho t ht j hd with h|h
      ·exact hn (YY j h.2)
      ·rw [I5 j mS jX]at h;cases h.1
     ·rcases E.looks i o ho t ht j hd with h|h
      ·omega
      ·rw [I5 j aa jX]at h;cases h.1
    have Xt:Region.wanted o (yielded ops a.tmps)=r:=by
     have hgT:∀j want d,o.guard=some (j,want)->(ops[j]?).bind (·.dst)=some d->d∈o.looksAt ops:=λj want d Qx hd=>by
      unfold Oper.looksAt;rw [Qx];simp [hd]
     unfold Region.wanted;cases Qx:o.guard with
     |none=>
      unfold n8 at hg;rw [Qx]at hg;exact hg.symm
     |some jw=>
      obtain⟨j,want⟩:=jw;unfold n8 at hg;rw [Qx]at hg;obtain⟨d,h3,h4⟩:=hg;have hm:=hgT j want d Qx h3;obtain⟨h5,h6⟩:=My d hm;have h7:=(S8 d hm h6).1.rep h5;rcases h4 with ⟨e,h4,rfl⟩|⟨h4,rfl⟩
      case inr=>rw [h4]at h7;exact qB h3 h7
      rw [h4]at h7;have h7:a.tmps.getD d undef= .bool e.val:=h7
      have aX:d<a.tmps.size:=by
       rcases ajF d a.tmps.size with h'|h'
       ·exact h'
       ·rw [ajG,ajD h']at h7
        cases h7
      have h8:a.tmps[d]? =some (.bool e.val):=by
       rw [ajE aX];simp [Array.getD,aX]at h7;rw [h7]
      simp [yielded,h3,h8]
    have AK:ET (l.setIfInBounds i true)<=fuel:=by have:=oc bD dj;omega
    have pc:∀j,¬On (l.setIfInBounds i true) j->¬On l j/\j≠i:=λj hj=>⟨λh=>hj ((nn bD).2 (.inr h)),λh=>hj ((nn bD).2 (.inl h))⟩;have C6:∀j,¬On l j->j≠i->¬On (l.setIfInBounds i true) j:=λj hj bn h=>((nn bD).1 h).elim bn hj
    have fin:∀(O':Env) (M':a7) (w':World) (u:Value),St M0 O' M' (so (o.dst.getD 999) (Bs i) SL) w'->aC O' w' M' v u->bE w M w' M'->(∀k x,O k=some x->O' k=some x)->
      wpAny P .any ops R fuel (l.setIfInBounds i true) (a.put o.dst u) w':=by
     intro O' M' w' u st' AK hk hρ
     refine ih (l.setIfInBounds i true) O' M' (a.put o.dst u) w' _ (by simp [hl]) (λj hj=>(nn bD).2 (.inr (h1 j hj))) (λj hj C9=>?_) (vU E da bD ho gP) aa st' (by cases hd:o.dst<;>simp [Act.put,UH])
      (by cases hd:o.dst<;>simp [Act.put,bu]) (λt ht=>?_) (λk hk=>?_) (λj k mS jX hn hd hb=>?_)
     ·rcases (nn bD).1 C9 with h3|h3
      ·omega
      ·exact h2 j hj h3
     ·by_cases Hr:o.dst=some t
      ·rw [Hr]
       by_cases aX:t<a.tmps.size
       ·have e1:(a.put (some t) u).tmps.getD t undef=u:=by simp [Act.put,aX]
        rw [e1];exact(hv t Hr (by rw [<-bu];exact aX)).rep AK
       ·rw [AD T' t aa];trivial
      ·have e1:(a.put o.dst u).tmps.getD t undef=a.tmps.getD t undef:=by
        cases hd:o.dst with
        |none=>rfl
        |some d=>
         have bn:d≠t:=λe=>Hr (by rw [hd,e]);simp [Act.put,Array.getD_eq_getD_getElem?,Array.getElem?_setIfInBounds_ne bn]
       rw [e1];refine aC.keep hk hρ (Pg t λj mS jX hn hd=>?_)
       by_cases l4:j=i
       ·subst l4;exact Hr (by rw [<-uC];exact hd)
       ·exact ht j mS jX (C6 j hn l4) hd
     ·by_cases SJ:o.dst=some k/\Bs i≠none
      ·obtain⟨SJ,hb⟩:=SJ
       cases Jw:Bs i with
       |none=>exact absurd Jw hb
       |some b=>
        rw [hB i k b Mx lQ (by rw [uC,SJ]) Jw];simp [so,aF,SJ]
      ·have e1:an (so (o.dst.getD 999) (Bs i) SL) k=an SL k:=by
        cases Jw:Bs i with
        |none=>rfl
        |some b=>
         obtain⟨d,hd,_⟩:=hBd (by rw [Jw];simp);simp only [so,aF,hd,Option.getD_some];rw [ajm (λe=>SJ ⟨by rw [hd,e],by rw [Jw];simp⟩)]
       rw [e1];refine xN k λj mS jX hn hd=>?_
       by_cases l4:j=i
       ·subst l4
        exact ajy λhb=>SJ ⟨by rw [<-uC];exact hd,hb⟩
       ·exact hk j mS jX (C6 j hn l4) hd
     ·obtain⟨hn1,Wh⟩:=pc j hn
      have e1:=YX j k mS jX hn1 hd hb;cases Jw:Bs i with
      |none=>exact e1
      |some b=>
       obtain⟨d,iK,_⟩:=hBd (by rw [Jw];simp);simp only [so,aF,iK,Option.getD_some];rw [ajm (λe=>Wh (E.Mv j i k hd (by rw [uC,iK,e])))];exact e1
    refine⟨r,Xt,λhr=>?_,λhr=>?_⟩
    ·refine(((hq hr).1 w0 M0 O M w SL a.eval o rfl (λk D D' hD oX=>?_) st (λx hx=>?_) (λhb=>?_)).Xs λu w' ⟨O',M',g1,g2,g3,g4⟩=>fin O' M' w' u g1 g2 g3 g4)
     ·have e1:=hSj k D hD
      by_cases hk:∀j,p<=j->j<p+n->¬On l j->bK ops j=some k->Bs j=none
      ·rw [xN k hk,e1]at oX
       exact ajN oX
      ·exfalso
       refine hk λj mS jX hn hd=>ajy λhb=>?_;rw [YX j k mS jX hn hd hb]at oX;cases oX
     ·cases x with
      |tmp t=>
       have hm:t∈o.looksAt ops:=by
        unfold Oper.looksAt;exact ajK.2 (.inl (List.mem_filterMap.2 ⟨.tmp t,aj6.2 hx,rfl⟩))
       obtain⟨h5,h6⟩:=My t hm;have:=(S8 t hm h6).2.rep h5;have e1:a.eval (.tmp t)=a.tmps.getD t undef:=by simp [Act.eval,Array.getD_eq_getD_getElem?]
       rw [e1];exact this
      |const v=>exact yN _ _ _ _
      |global g=>trivial
      |func f=>exact⟨#[],rfl,ag⟩
     ·obtain⟨d,hd,fV⟩:=hBd hb
      rw [hd];exact⟨YX i d Mx lQ dj (by rw [uC,hd]) hb,fV⟩
    ·obtain⟨rfl,Wg⟩:=Jf hr
     refine fin O M w undef ?_ ⟨#[],rfl,ag⟩ (bE.refl _ _) (λ_ _ h=>h);rw [Wg];exact st
   by_cases Hp:uH ops i0=true
   ·
    simp only [uH,ajB,ajE C8]at Hp;obtain⟨⟨SW,Xd⟩,hf3⟩:=Hp;have aal:p<=i0:=Nat.le_of_not_lt λh=>Qw (h1 i0 h);obtain⟨r,hw,UI,_⟩:=core i0 _ (ajE C8) Qw (λe he hb=>AH _ (E.back i0 _ (ajE C8) e he hb)) aal Wa
    have hg:ops[i0].guard=none:=by
     unfold AG at SW;cases UJ:ops[i0].guard with
     |none=>rfl
     |some _=>rw [UJ]at SW;cases SW
    have PB:Region.wanted ops[i0] (yielded ops a.tmps)=true:=by simp [Region.wanted,hg]
    obtain⟨u,Xu,vW⟩:=Ju SW (UI (hw.symm.trans PB))
    exact wpAny_first (v:=u) (ajE C8) (λj o cs b hj=>Region.noSelect_spec Xd j o cs b hj) (λc a w hc=>absurd hc (Jv _ _ _)) fuel l a w
     (λj oj hj l4 YZ hn=>Region.free_spec (ajE C8) hf3 j oj hj l4 (by
      have hjs:j<ops.size:=(ajL.1 hj).1
      have FC:i0<=j:=Nat.le_of_not_lt λaX=>by
       have C9:=AH j aX;unfold On at C9;rw [ajG,C9]at YZ;cases YZ
      rw [ajG,List.getElem?_toArray,aj2 (by simpa using FC),ajH];simp only [ajz];rw [ajq aa];rfl) hn) AJ (.inl ⟨PB,Xu⟩) vW
   refine⟨λmN=>(by rw [mN]at AJ;cases AJ),λi hi=>?_⟩;obtain⟨o,ho,dj,gP⟩:=(mem_ready hl).1 hi
   have FB:i<ops.size:=by
    rcases ajF i ops.size with h|h
    ·exact h
    ·rw [ajD h]at ho;cases ho
   have YY:=l5 E da ho gP;have Mx:p<=i:=Nat.le_of_not_lt λh=>dj (h1 i h)
   have lQ:i<p+n:=by
    rcases ajF i (p+n)with h|h
    ·exact h
    ·exfalso
     rcases vV with vV|vV
     ·omega
     ·rcases E.lone (p+n) aa vV i FB with h3|h3|h3|h3
      ·omega
      ·subst h3
       rcases E.lone (p+n) aa vV i0 C8 with h4|h4|h4|h4
       ·exact Qw (YY _ h4.2)
       ·omega
       ·omega
       ·exact Hp h4.2
      ·exact h2 (p+n) (ajl _) (YY _ h3.2)
      ·omega
   obtain⟨r,hw,UI,aam⟩:=core i o ho dj gP Mx lQ;unfold wpOp;rw [ho];show(if Region.wanted o (yielded ops a.tmps)=true then _ else _);rw [hw];cases r with
   |true=>rw [ajq rfl];exact .inl ((UI rfl).wp λu w' h=>h)
   |false=>rw [ajm (by simp)];exact aam rfl
theorem Jx(az:aR P TY){F:Spec}(hF:ck P F){ops:Array Oper}{g:List Bool}{C:Nat->List Nat}(E:C7 ops g C){R:Exit->Act->World->Prop}(Jv:∀c a w,¬R (.panic c) a w){K:List AV->ak->Prop}{len:Nat}
  (hR:∀a w,End w0 M0 len K a w->R .normal a w):∀(m p:Nat) (O:Env) (M:a7) (a:Act) (w:World) (T:List AV) (S:ak) (l:Array Bool) (fuel:Nat),ops.size - p<=m->p<=ops.size->l.size=ops.size->(∀i,i<ops.size->(On l i↔i<p))->oe C l->ET l<=fuel->
   jv TY F ops.toList (g.drop p) (ops.toList.drop p) T S K->St M0 O M S w->Tm O w M T a->T.length=len->wpAny P .any ops R fuel l a w:=by
 intro m
 induction m with
 |zero=>
  intro p O M a w T S l fuel hm hp hl C9 da hu h st tm hlen;have Lu:p=ops.size:=aa
  have mN:Region.ready .any ops l=[]:=by
   rw [List.eq_nil_iff_forall_not_mem];intro i hi;obtain⟨o,ho,dj,_⟩:=(mem_ready hl).1 hi
   have FB:i<ops.size:=by
    rcases ajF i ops.size with h|h
    ·exact h
    ·rw [ajD h]at ho;cases ho
   exact dj ((C9 i FB).2 aa)
  have hd:ops.toList.drop p=[]:=List.drop_of_length_le (by simp [Lu]);rw [hd]at h;have h:K T S:=by cases hg:g.drop p<;>rw [hg]at h<;>exact h
  have hq:=hR a w ⟨O,M,T,S,h,st,tm,hlen⟩;cases fuel with
  |zero=>exact⟨mN,hq⟩
  |succ fuel=>exact⟨λ_=>hq,λi hi=>(by rw [mN]at hi;cases hi)⟩
 |succ m ih=>
  intro p O M a w T S l fuel hm hp hl C9 da hu h st tm hlen
  by_cases Lu:p=ops.size
  ·exact ih p O M a w T S l fuel aa hp hl C9 da hu h st tm hlen
  have Lu:p<ops.size:=aa;have hnp:¬On l p:=λhh=>absurd ((C9 p Lu).1 hh) (Nat.lt_irrefl _);obtain⟨n,T',S',Bs,g1,g2,g3,g4,g5,g6,g7,g8,g9,g10,g11⟩:=Hq az hF E.Mv (ops.toList.drop p) (g.drop p) p rfl h;have Xv:(ops.toList.drop p).length=ops.size - p:=by simp
  have vV:p+n=ops.size\/g[p+n]? =some true:=by
   rcases g2 with g2|g2
   ·exact .inl aa
   ·rw [akt]at g2
    exact .inr g2
  rw [List.drop_drop,List.drop_drop]at g3
  by_cases hn:n=0
  ·subst hn
   have hg:g[p]? =some true:=by
    rcases vV with vV|vV
    ·omega
    ·exact vV
   have ug:p<g.length:=by
    rcases ajF p g.length with h'|h'
    ·exact h'
    ·rw [aj0 h']at hg;cases hg
   have Y0:g[p]=true:=by rw [ajP ug]at hg;exact ajN hg
   have ho:ops[p]? =some ops[p]:=ajE Lu;have e1:g.drop p=true::g.drop (p+1):=by rw [List.drop_eq_getElem_cons ug,Y0]
   have e2:ops.toList.drop p=ops[p]::ops.toList.drop (p+1):=by rw [List.drop_eq_getElem_cons (by simpa using Lu),Array.getElem_toList]
   rw [e1,e2]at h;simp only [vT,sr]at h;cases fuel with
   |zero=>exact absurd (qE (i:=p) (Nat.le_zero.1 hu) aa) hnp
   |succ fuel=>
    have Mz:p∈Region.ready .any ops l:=(mem_ready hl).2 ⟨_,ho,hnp,λe he hb=>by
     have:=E.back p _ ho e he hb;exact(C9 e.on aa).2 this⟩
    refine⟨λmN=>(by rw [mN]at Mz;cases Mz),λi hi=>?_⟩;obtain⟨o,Y1,dj,gP⟩:=(mem_ready hl).1 hi
    have FB:i<ops.size:=by
     rcases ajF i ops.size with h|h
     ·exact h
     ·rw [ajD h]at Y1;cases Y1
    have Mx:i=p:=by
     rcases E.lone p Lu (by simp [List.getD,hg]) i FB with h3|h3|h3|h3
     ·exact absurd ((C9 i FB).2 h3.1) dj
     ·exact h3
     ·exact absurd (l5 E da Y1 gP p h3.2) hnp
     ·exact absurd ((C9 i FB).2 h3.1) dj
    subst Mx;refine lZ (K:=λT S=>jv TY F ops.toList (g.drop (i+1)) (ops.toList.drop (i+1)) T S K) az hF ho h st tm λa w ⟨O',M',T',S',h1,h2,h3,h4⟩=>?_;have bD:i<l.size:=aa;refine ih (i+1) O' M' a w T' S' _ fuel aa aa (by simp [hl]) (λj hj=>?_) (vU E da bD Y1 gP) (by have:=oc bD dj;omega) h1 h2 h3 (h4.trans hlen);rw [nn bD,C9 j hj];omega
  ·have Wi:p+n<=ops.size:=aa
   refine Qv E Jv Wi (vV.imp id λhh=>by simp [List.getD,hh]) (λj mS jX=>by
    have:=g11 (j - p) aa;rw [akt,show p+(j - p)=j by omega]at this;simp [List.getD,this]) g6 g7 (λO' M' a' w' l' fuel' n7 aao Qy AK st' tm'=>ih (p+n) O' M' a' w' T' S' l' fuel' aa Wi n7 aao Qy AK g3 st' tm' (g4.trans hlen))
    fuel l O M a w S hl (λi hi=>(C9 i aa).2 hi) (λi hi hh=>?_) da hu st tm.defers (by rw [g4];exact tm.size) (λt ht=>(g5 t λj mS jX=>ht j mS jX λhh=>?_).rep (tm.tmp t)) (λk hk=>(g8 k λj mS jX hd=>hk j mS jX (λhh=>?_) hd).symm) (λj k mS jX _ hd hb=>g10 j k mS jX hd hb)
   ·rcases ajF i ops.size with h'|h'
    ·have:=(C9 i h').1 hh;omega
    ·unfold On at hh;rw [ajD aa]at hh;cases hh
   ·have:=(C9 j aa).1 hh;omega
   ·have:=(C9 j aa).1 hh;omega
theorem np{a:Act}:∀{ks:List Nat} {T:List AV} {S:ak} {O:Env} {M:a7} {K:List AV->ak->Prop},su ks T S K->St M0 O M S w->Tm O w M T a->
  ∃T' S' O' M',K T' S'/\St M0 O' M' S' w/\Tm O' w M' T' a/\T'.length=T.length
 |[],T,S,O,M,K,h,st,tm=>⟨T,S,O,M,h,st,tm,rfl⟩
 |k::ks,T,S,O,M,K,h,st,tm=>by
  simp only [su]at h;split at h
  ·exact np h st tm
  ·obtain⟨T1,S1,h1,h2,h3,h4,_,_⟩:=lY h st tm
   obtain⟨T',S',O',M',h5,h6,h7,h8⟩:=np h1 h2 h3;exact⟨T',S',O',M',h5,h6,h7,h8.trans h4⟩
theorem FD(az:aR P TY){F:Spec}(hF:ck P F)(hm:P.follows .mixedOrders=true){ops:Array Oper}{g:List Bool}{T:List AV}{K:List AV->ak->Prop}{R:Exit->Act->World->Prop}{a:Act}{id:Nat}
  (aY:Fz ops g=true) (h:su (makes g ops.toList) T S λT S=>jv TY F ops.toList g ops.toList T S K) (st:St M0 O M S w) (tm:Tm O w M T a)
  (hR:∀a w,End w0 M0 T.length K a w->R .normal a w):(Code.region id ops true).wp P R a w:=by
 obtain⟨T1,S1,ρ1,M1,h1,st1,tm1,rX⟩:=np h st tm
 let R':Exit->Act->World->Prop:=λe a w=>e= .normal/\R .normal a w
 have main:(Code.region id ops true).wp P R' a w:=by
  refine wp_region_any hm ?_;have hs:gH (λ_ _=>False) w { w with drawn:=w.drawn+1 }:=gH.heap _ rfl ⟨⟨rfl,rfl⟩,rfl,akg _⟩;obtain⟨st2,hk⟩:=st1.same (M':=M1) hs (λ_ _ _=>Iff.rfl) (λb off KW=>st1.mlt b off KW);have E:=Mw aY
  have dF:∀i,¬On (Array.replicate ops.size false) i:=λi hi=>by
   unfold On at hi;rw [Array.getElem?_replicate]at hi;split at hi<;>cases hi
  exact Jx az hF E (R:=R') (λc a w hc=>by cases hc.1) (λa w hE=>⟨rfl,hR a w hE⟩) ops.size 0 ρ1 M1 a _ T1 S1 _ ops.size aa (ajk _) (by simp) (λi _=>⟨λhi=>absurd hi (dF i),λhi=>by omega⟩) (λi hi=>absurd hi (dF i)) (by simp [ET]) (by simpa using h1) st2
   ⟨tm1.defers,tm1.size,λi=>aC.keep hk (λ_ _ h=>h) (tm1.tmp i)⟩ rX
 intro b k cs;obtain⟨e,a',w',⟨rfl,h1⟩,h2⟩:=main b k cs;exact⟨_,a',w',h1,h2⟩
end
section
variable{P:Program}{TY:List cV}{w0 w:World}{M0:eE w0}{O:Env}{M:a7}{S S0:ak}{d:Nat}
theorem FE(az:aR P TY){F:Spec}{o:Oper}{T:List AV}{K:AV->Option dQ->Prop}(hp:Da o=true)(h:qK TY F d o.op T S0 K):
  ∃v,K v none/\∀(O:Env) (w:World) (M:a7) (e:Operand->Value),St M0 O M S0 w->(∀x∈o.op.operands,aC O w M (aT T x) (e x))->∃u,(∀w',(execOp e o).run P w'= .ok (.value u) w')/\aC O w M v u:=by
 unfold Da at hp;rw [ajB]at hp;obtain⟨_,hp⟩:=hp;split at hp
 ·rename_i x ho
  rw [ho]at h;simp only [qK,aD]at h;exact⟨_,h,λO w M e _ he=>⟨e x,λw'=>by simp [execOp,ho],he x (by rw [ho];simp [Op.operands])⟩⟩
 ·rename_i x ho
  rw [ho]at h;simp only [qK,aD]at h;exact⟨_,h,λO w M e _ he=>⟨e x,λw'=>by simp [execOp,ho],he x (by rw [ho];simp [Op.operands])⟩⟩
 ·rename_i t x lo hi ho
  rw [ho]at h;simp only [qK,aD]at h;split at h
  ·rename_i r hx
   rw [aq,bV]at h;obtain⟨aY,h⟩:=h;obtain⟨l,h,hl⟩:=MA h;obtain⟨m,h,hm⟩:=sm h;obtain⟨⟨⟨h0,h1⟩,h2⟩,h⟩:=h;obtain⟨r',hK,g1,g2,g3⟩:=gM h aa aa;obtain⟨e',iK,hu,oT,aH⟩:=bW az aY;refine⟨_,hK,λO w M e _ he=>?_⟩;have db:=he x (by rw [ho];simp [Op.operands]);rw [hx]at db;obtain⟨h5,a,cap,hv,dZ,h6⟩:=db;refine⟨.slice (if cap=l.toNat then a else a.map (·.add (l.toNat*r.sz))) (m.toNat - l.toNat) (cap - l.toNat),λw'=>?_,?_⟩
   ·have cd:(underlying t).run P w'= .ok (.slice e') w':=by simp [underlying,hu]
    have hb:=gL (P:=P) (O:=O) (w:=w') (M:=M) (T:=T) (e:=e) (l:=l) (h:=m) dZ hl hm (λy hy=>by
     have rR:=he y (by rw [ho];rcases hy with rfl|rfl<;>simp [Op.operands]);rcases hy with hy|hy
     ·rcases hl with ⟨hl,_⟩|⟨z,k,hl,hz⟩
      ·rw [hl]at hy;cases hy
      ·rw [hl]at hy;cases hy;rw [hz]at rR ⊢;exact rR
     ·rcases hm with ⟨hm,_⟩|⟨z,k,hm,hz⟩
      ·rw [hm]at hy;cases hy
      ·rw [hm]at hy;cases hy;rw [hz]at rR ⊢;exact rR) h0 h1 h2
    simp [execOp,ho,hv,Instr.sliceAt,cd,Instr.slice,hb,aH.size,oT]
   ·refine⟨by rw [g1];simp only [LB]at h5 ⊢;omega,_,_,by rw [g1],by rw [g1];omega,?_⟩
    rcases aj1 r'.cells with h7|h7
    ·exact .inl h7
    ·have hlen:0<r'.len:=by
      rcases aj1 r'.len with h8|h8
      ·simp [RO.cells,h8]at h7
      ·exact h8
     rw [g1]at hlen;rcases h6 with h6|⟨b,off,rfl,h6⟩
     ·have:=r.e9
      have:0<r.cells:=Nat.mul_pos aa this;omega
     ·refine .inr ⟨b,off+l.toNat*r.sz,?_,λq hq=>?_⟩
      ·rw [ajm aa];simp [aU]
      ·have aX:l.toNat*r.sz+q<r.cells:=by
        have h8:r'.cells=(m.toNat - l.toNat)*r.sz:=by simp [RO.cells,g1,g2]
        have h9:l.toNat*r.sz+(m.toNat - l.toNat)*r.sz=m.toNat*r.sz:=by rw [<-ake];congr 1;omega
        have cA:m.toNat*r.sz<=r.len*r.sz:=ajO _ aa;simp only [RO.cells]at h8 hq ⊢;omega
       obtain⟨c,h8,h9,cA⟩:=h6 _ aX;rw [<-Nat.add_assoc]at h8 h9;exact⟨c,h8,h9,g3 w M q c hq cA⟩
  ·exact h.elim
 ·rename_i t x f ho
  rw [ho]at h;simp only [qK,aD]at h;split at h
  ·rename_i k off fs hx hd
   split at h
   ·rename_i lb K2
    split at h
    ·rename_i o' u' oW
     split at h
     ·rename_i hz
      obtain⟨F',hu,tX⟩:=di az hd;have hg:=cu oW;rw [tX,ajR]at hg;cases hF:F'.toList[f]? with
      |none=>rw [hF]at hg;cases hg
      |some g=>
       rw [hF]at hg;cases hg;rw [ajt]at hF;have aH:=az.at (t:=g.type) (.inl (λe=>by rw [e]at hz;cases hz));refine⟨_,h,λO w M e st he=>?_⟩;have h1:=he x (by rw [ho];simp [Op.operands]);rw [hx]at h1;have h1:(O k).bind (b6.ref · off)=some (e x):=h1;obtain⟨b,h3,_⟩:=st.aZ k _ K2;have h2:=sw h3 h1;refine⟨.pointer (some ⟨b,off+g.offset,none⟩),λw'=>?_,Db _ h3⟩;have cd:(underlying t).run P w'= .ok (.struct F') w':=by simp [underlying,hu]
       have bu:=aH.size w';have bn:(au TY g.type).sz≠0:=λe=>by rw [e]at hz;cases hz
       simp [execOp,ho,h2,Instr.fieldAt,cd,hF,Instr.sureAddr,fieldPlace,bu,bn,aU]
     ·exact h.elim
    ·exact h.elim
   ·exact h.elim
  ·rename_i k i fs hx hd
   split at h
   ·rename_i o' u' oW
    split at h
    ·rename_i hz
     obtain⟨F',hu,tX⟩:=di az hd;have hg:=cu oW;rw [tX,ajR]at hg;cases hF:F'.toList[f]? with
     |none=>rw [hF]at hg;cases hg
     |some g=>
      rw [hF]at hg;cases hg;rw [ajt]at hF;have aH:=az.at (t:=g.type) (.inl (λe=>by rw [e]at hz;cases hz));refine⟨_,h,λO w M e st he=>?_⟩;have h1:=he x (by rw [ho];simp [Op.operands]);rw [hx]at h1;obtain⟨o2,b,g1,g2,g3,g4,g5⟩:=h1;refine⟨.pointer (some ⟨b,i.toNat*o2.sz+g.offset,none⟩),λw'=>?_,o2,b,g1,g2,g3,g4,rfl⟩;have cd:(underlying t).run P w'= .ok (.struct F') w':=by simp [underlying,hu]
      have bu:=aH.size w';have bn:(au TY g.type).sz≠0:=λe=>by rw [e]at hz;cases hz
      simp [execOp,ho,g5,Instr.fieldAt,cd,hF,Instr.sureAddr,fieldPlace,bu,bn,aU]
    ·exact h.elim
   ·exact h.elim
  ·exact h.elim
 ·rename_i x ho
  rw [ho]at h;simp only [qK,aD]at h;split at h
  ·rename_i k off hx
   refine⟨_,h,λO w M e _ he=>?_⟩;have:=he x (by rw [ho];simp [Op.operands]);rw [hx]at this;have h1:(O k).bind (b6.ref · off)=some (e x):=this;obtain⟨b,⟨_,h2⟩|⟨_,h2⟩⟩:=vX h1
   ·exact⟨e x,λw'=>by simp [execOp,ho,h2],h1⟩
   ·exact⟨e x,λw'=>by simp [execOp,ho,h2],h1⟩
  ·rename_i f l hx
   refine⟨_,h,λO w M e _ he=>?_⟩;have:=he x (by rw [ho];simp [Op.operands]);rw [hx]at this;obtain⟨cs,h1,h2⟩:=this;exact⟨e x,λw'=>by simp [execOp,ho,h1],cs,h1,h2⟩
  ·rename_i k i hx
   refine⟨_,h,λO w M e _ he=>?_⟩;have:=he x (by rw [ho];simp [Op.operands]);rw [hx]at this;obtain⟨o,b,h1,h2,h3,h4,h5⟩:=this;exact⟨e x,λw'=>by simp [execOp,ho,h5],o,b,h1,h2,h3,h4,h5⟩
  ·rename_i r i hx
   refine⟨_,h,λO w M e _ he=>?_⟩;have:=he x (by rw [ho];simp [Op.operands]);rw [hx]at this;obtain⟨b,off,cap,h1,h2,h3,h4⟩:=this;exact⟨e x,λw'=>by simp [execOp,ho,h4],b,off,cap,h1,h2,h3,h4⟩
  ·exact h.elim
 ·cases hp
theorem sx{ops:Array Oper}{l:Array Bool}{i:Nat}(h:i∈Region.ready .any ops l):∃o,ops[i]? =some o/\ops.toList.getD i default=o/\l.getD i true=false:=by
 obtain⟨h0,o,ho,_⟩:=Go.mem_ready.1 h;exact⟨o,ho,by simp [List.getD,ho],h0⟩
theorem AL{l:Array Bool}{i:Nat}(h:l.getD i true=false):i<l.size/\¬On l i:=by
 rw [ajG]at h;unfold On;cases hh:l[i]? with
 |none=>rw [hh]at h;cases h
 |some b=>
  rw [hh]at h;have h:b=false:=h;subst h;refine⟨?_,by simp⟩;rcases ajF i l.size with h'|h'
  ·exact h'
  ·rw [ajD h']at hh;cases hh
theorem qG:∀{st:List (List AV × ak)} {n:Nat} {K:List AV->ak->Prop},Xw st n K->∃T S,st[n]? =some (T,S)/\K T S
 |[],_,_,h=>h.elim
 |(T,S)::_,0,_,h=>⟨T,S,rfl,h⟩
 |_::l,n+1,_,h=>by
  obtain⟨T,S,h1,h2⟩:=qG (st:=l) h;exact⟨T,S,by simpa using h1,h2⟩
theorem vY{F:Spec}{ops:List Oper}{sts:List (List AV × ak)}{K:List AV->ak->Prop}:∀{N:List (Nat × List (Nat × Nat))} {k n:Nat},Qz TY F ops sts K N k->n<N.length->
  Xw sts (k+n) λT S=>match (eC N n).2 with|[]=>K T S|nx=>MB TY F ops sts T S nx
 |[],_,_,_,hn=>absurd hn (aju _)
 |_::_,k,0,h,_=>h.1
 |_::N,k,n+1,h,hn=>by
  have:=vY (N:=N) (n:=n) h.2 (by simpa using hn);rw [show k+1+n=k+(n+1) by omega]at this;exact this
theorem Dc{F:Spec}{ops:List Oper}{sts:List (List AV × ak)}{T:List AV}{S:ak}:∀{l:List (Nat × Nat)} {e:Nat × Nat},MB TY F ops sts T S l->e∈l->
  (match ops.getD e.1 default with
  |o=>fY ops o.guard T
   (λT=>dN o.dst λd=>Pe TY F d o.op T S λv T S=>ja o.dst T v λT=>Jy sts e.2 T S)
   (λT=>ja o.dst T (.cL []) λT=>Jy sts e.2 T S))
 |_::_,_,h,hm=>by
  rcases ajo.1 hm with rfl|hm
  ·exact h.1
  ·exact Dc h.2 hm
theorem Jz(az:aR P TY){F:Spec}(hF:ck P F){ops:Array Oper}{N:List (Nat × List (Nat × Nat))}{sts:List (List AV × ak)}{l0:Array Bool}(aY:Hs ops N l0=true){R:Exit->Act->World->Prop}{K:List AV->ak->Prop}{len:Nat}
  (hR:∀a w,End w0 M0 len K a w->R .normal a w) (h:Qz TY F ops.toList sts K N 0):∀(fuel n:Nat) (O:Env) (M:a7) (a:Act) (w:World) (T:List AV) (S:ak),n<N.length->ET (jx ops.size (eC N n).1)<=fuel->sts[n]? =some (T,S)->
   St M0 O M S w->Tm O w M T a->T.length=len->wpAny P .any ops R fuel (jx ops.size (eC N n).1) a w:=by
 simp only [Hs,ajB]at aY;have b5:=aj7.1 aY.2;have bu:∀m,(jx ops.size m).size=ops.size:=λm=>by simp [jx]
 have node:∀n,n<N.length->(∀i∈Region.ready .any ops (jx ops.size (eC N n).1),∃e∈(eC N n).2,e.1=i)/\∀e∈(eC N n).2,e.1∈Region.ready .any ops (jx ops.size (eC N n).1)/\e.2<N.length/\jx ops.size (eC N e.2).1=(jx ops.size (eC N n).1).setIfInBounds e.1 true:=λn hn=>by
  have h1:=b5 n (ajJ.2 hn);simp only [ajB]at h1;refine⟨λi hi=>?_,λe he=>?_⟩
  ·obtain⟨e,he,h2⟩:=List.any_eq_true.1 (aj7.1 h1.1 i hi)
   exact⟨e,he,beq_iff_eq.1 h2⟩
  ·have h2:=aj7.1 h1.2 e he
   simp only [ajB]at h2;exact⟨List.contains_iff_mem.1 h2.1.1,ajX h2.1.2,beq_iff_eq.1 h2.2⟩
 have leaf:∀n T S,n<N.length->sts[n]? =some (T,S)->(eC N n).2=[]->K T S:=λn T S hn hs he=>by
  obtain⟨T',S',h1,h2⟩:=qG (vY h hn);rw [ajQ,hs]at h1;cases h1;rw [he]at h2;exact h2
 intro fuel
 induction fuel with
 |zero=>
  intro n O M a w T S hn hu hs st tm hlen
  have mN:Region.ready .any ops (jx ops.size (eC N n).1)=[]:=by
   rw [List.eq_nil_iff_forall_not_mem];intro i hi;obtain⟨o,ho,dj,_⟩:=(mem_ready (bu _)).1 hi
   have FB:i<ops.size:=by
    rcases ajF i ops.size with h|h
    ·exact h
    ·rw [ajD h]at ho;cases ho
   exact dj (qE aa (by rw [bu];exact FB))
  have qH:(eC N n).2=[]:=by
   rw [List.eq_nil_iff_forall_not_mem];intro e he;have:=((node n hn).2 e he).1;rw [mN]at this;cases this
  exact⟨mN,hR a w ⟨O,M,T,S,leaf n T S hn hs qH,st,tm,hlen⟩⟩
 |succ fuel ih=>
  intro n O M a w T S hn hu hs st tm hlen;refine⟨λmN=>?_,λi hi=>?_⟩
  ·have qH:(eC N n).2=[]:=by
    rw [List.eq_nil_iff_forall_not_mem];intro e he;have:=((node n hn).2 e he).1;rw [mN]at this;cases this
   exact hR a w ⟨O,M,T,S,leaf n T S hn hs qH,st,tm,hlen⟩
  ·obtain⟨e,he,rfl⟩:=(node n hn).1 i hi
   obtain⟨hr,hm,yD⟩:=(node n hn).2 e he;obtain⟨o,ho,hd,h0⟩:=sx hr;obtain⟨bD,dj⟩:=AL h0;obtain⟨T',S',h1,h2⟩:=qG (vY h hn);rw [ajQ,hs]at h1;cases h1
   have h2:MB TY F ops.toList sts T S (eC N n).2:=by
    cases qH:(eC N n).2 with
    |nil=>rw [qH]at he;cases he
    |cons x l=>rw [qH]at h2;exact h2
   have h3:=Dc h2 he;simp only [hd,sr]at h3;refine lZ (K:=λT S=>Jy sts e.2 T S) az hF ho h3 st tm λa w ⟨O',M',T',S',q1,q2,q3,q4⟩=>?_;obtain⟨T2,S2,q5,q6,q7⟩:=qG q1;subst q6;subst q7;rw [<-yD];exact ih e.2 O' M' a w T' S' hm (by rw [yD];have:=oc bD dj;omega) q5 q2 q3 (q4.trans hlen)
theorem og(az:aR P TY){F:Spec}(hF:ck P F){ops:Array Oper}(vm:Region.noSelect ops=true){R:Exit->Act->World->Prop}(Jv:∀c a w,¬R (.panic c) a w){K:List AV->ak->Prop}{len:Nat}
  (hR:∀a w,End w0 M0 len K a w->R .normal a w):∀(t:Ho) (c:Bool) (l:Array Bool) (fuel:Nat) (O:Env) (M:a7) (a:Act) (w:World) (T:List AV) (S:ak),qI ops t l c=true->l.size=ops.size->ET l<=fuel->
   qD TY F ops.toList t T S K->St M0 O M S w->Tm O w M T a->T.length=len->
   (c=false->wpAny P .any ops R fuel l a w)/\∀i∈t.Ht,i∈Region.ready .any ops l->∀f,fuel=f+1->wpOp P ops R i (wpAny P .any ops R f (l.setIfInBounds i true)) a w
 |.done,c,l,fuel,O,M,a,w,T,S,aY,hl,hu,h,st,tm,hlen=>by
  simp only [qI,ajB,List.isEmpty_iff]at aY;refine⟨λ_=>?_,λi hi=>by cases hi⟩;have hq:=hR a w ⟨O,M,T,S,h,st,tm,hlen⟩;cases fuel with
  |zero=>exact⟨aY.2,hq⟩
  |succ fuel=>exact⟨λ_=>hq,λi hi=>by rw [aY.2]at hi;cases hi⟩
 |.no,c,l,fuel,O,M,a,w,T,S,aY,hl,hu,h,st,tm,hlen=>by
  have aY:c=true:=aY;exact⟨λhc=>(by rw [hc]at aY;cases aY),λi hi=>(by cases hi)⟩
 |.UK,c,l,fuel,O,M,a,w,T,S,aY,hl,hu,h,st,tm,hlen=>by cases aY
 |.Y2 N,c,l,fuel,O,M,a,w,T,S,aY,hl,hu,h,st,tm,hlen=>by
  simp only [qI,ajB]at aY;have hd:=aY.2;simp only [Hs,ajB]at hd;have h0:jx ops.size (eC N 0).1=l:=beq_iff_eq.1 hd.1.2;obtain⟨sts,he,h⟩:=h;obtain⟨T',S',q1,q2,q3⟩:=qG he;subst q2;subst q3;refine⟨λ_=>?_,λi hi=>by cases hi⟩;rw [<-h0];exact Jz az hF aY.2 hR h fuel 0 O M a w T S (ajX hd.1.1) (by rw [h0];exact hu) q1 st tm hlen
 |.fst i s,c,l,fuel,O,M,a,w,T,S,aY,hl,hu,h,st,tm,hlen=>by
  simp only [qI,ajB]at aY;obtain⟨⟨⟨⟨_,hp⟩,hr⟩,th⟩,hs⟩:=aY;refine⟨λ_=>?_,λi hi=>by cases hi⟩;have hr:i∈Region.ready .any ops l:=List.contains_iff_mem.1 hr;obtain⟨o,ho,hd,h0⟩:=sx hr;obtain⟨bD,dj⟩:=AL h0;rw [ho]at hp;have hp:Da o=true:=hp
  have hg:o.guard=none:=by
   unfold Da at hp;cases UJ:o.guard with
   |none=>rfl
   |some _=>rw [UJ]at hp;cases hp
  simp only [qD,hd,fY,hg,sr]at h;obtain⟨v,hK,hv⟩:=FE az hp h;obtain⟨u,aN,bg⟩:=hv O w M a.eval st (λx _=>a8 tm x);obtain⟨T2,h2,h3,h4⟩:=tm.put bg hK;have xO:=oc bD dj;cases fuel with
  |zero=>omega
  |succ f=>
   refine wpAny_first (v:=u) ho (λj o cs b hj=>Region.noSelect_spec vm j o cs b hj) (λc a w hc=>absurd hc (Jv _ _ _)) f l a w (λj oj hj l4 YZ hn=>Region.free_spec ho th j oj hj l4 YZ hn) hr (.inl ⟨by simp [Region.wanted,hg],aN⟩) ?_;exact(og az hF vm Jv hR s false _ f O M _ w T2 S hs (by simp [hl]) aa h2 st h4 (h3.trans hlen)).1 rfl
 |.br i s r,c,l,fuel,O,M,a,w,T,S,aY,hl,hu,h,st,tm,hlen=>by
  simp only [qI,ajB,Bool.or_eq_true]at aY;obtain⟨⟨⟨JA,hr⟩,hs⟩,vf⟩:=aY;have hr:i∈Region.ready .any ops l:=List.contains_iff_mem.1 hr;obtain⟨o,ho,hd,h0⟩:=sx hr;obtain⟨bD,dj⟩:=AL h0;have xO:=oc bD dj;simp only [qD,hd,sr]at h;obtain⟨hi,hrK⟩:=h
  have hbr:∀j∈Ho.Ht (.br i s r),j∈Region.ready .any ops l->∀f,fuel=f+1->wpOp P ops R j (wpAny P .any ops R f (l.setIfInBounds j true)) a w:=by
   intro j hj hjr f hf;rcases ajo.1 hj with rfl|hj
   ·refine lZ (K:=λT S=>qD TY F ops.toList s T S K) az hF ho hi st tm λa w ⟨O',M',T',S',h1,h2,h3,h4⟩=>?_
    exact(og az hF vm Jv hR s false _ f O' M' a w T' S' hs (by simp [hl]) aa h1 h2 h3 (h4.trans hlen)).1 rfl
   ·exact(og az hF vm Jv hR r true l fuel O M a w T S vf hl hu hrK st tm hlen).2 j hj hjr f hf
  refine⟨λhc=>?_,hbr⟩;rcases JA with JA|⟨bn,JA⟩
  ·rw [hc]at JA;cases JA
  ·cases fuel with
   |zero=>omega
   |succ f=>
    refine⟨λmN=>(by rw [mN]at hr;cases hr),λj hj=>hbr j ?_ hj f rfl⟩;exact List.contains_iff_mem.1 (aj7.1 JA j hj)
theorem yO(az:aR P TY){F:Spec}{ops:Array Oper}{K:List AV->ak->Prop}{len:Nat}{Q:Act->Prop}:∀{l:List Oper} {T:List AV} {a:Act},(∀o∈l,o.guard.isNone=true/\(bS o.op&& !lX o.op)=true)->QA TY F l T S K->St M0 O M S w->Tm O w M T a->T.length=len->
  (∀a,End w0 M0 len K a w->Q a)->wpStill P ops w Q l a
 |[],T,a,_,h,st,tm,hlen,hQ=>hQ a ⟨O,M,T,S,h,st,tm,hlen⟩
 |o::l,T,a,ho,h,st,tm,hlen,hQ=>by
  obtain⟨hg,hq⟩:=ho o (ajn ..);rw [JB,sr]at h;obtain⟨v,B,hB,_,hr⟩:=uF az (by rw [ajB]at hq;exact hq.1) h;cases B with
  |some _=>exact hB.elim
  |none=>
   obtain⟨u,aN,bg⟩:=hr hq rfl w0 M0 O w M S a.eval o rfl (KX.refl S) st (λx _=>a8 tm x);obtain⟨T2,h2,h3,h4⟩:=tm.put bg hB;have hg:o.guard=none:=by cases UJ:o.guard with|none=>rfl|some _=>rw [UJ]at hg;cases hg
   unfold wpStill;rw [ajq (by simp [Region.wanted,hg])];unfold Oper.still;rw [aN,Oper.stillUpon_value];exact yO az (λo oW=>ho o (ajj _ oW)) h2 st h4 (h3.trans hlen) hQ
theorem AN(az:aR P TY){F:Spec}(hF:ck P F)(hm:P.follows .mixedOrders=true){ops:Array Oper}{t:Ho}{T:List AV}{K:List AV->ak->Prop}{R:Exit->Act->World->Prop}{a:Act}{id:Nat}
  (aY:FF ops t=true) (h:qD TY F ops.toList t T S K) (st:St M0 O M S w) (tm:Tm O w M T a)
  (hR:∀a w,End w0 M0 T.length K a w->R .normal a w):(Code.region id ops true).wp P R a w:=by
 have hs:gH (λ_ _=>False) w { w with drawn:=w.drawn+1 }:=gH.heap _ rfl ⟨⟨rfl,rfl⟩,rfl,akg _⟩;obtain⟨st2,hk⟩:=st.same (M':=M) hs (λ_ _ _=>Iff.rfl) (λb off KW=>st.mlt b off KW);simp only [FF,Bool.or_eq_true,ajB]at aY;rcases aY with ⟨ht,aY⟩|aY
 ·have ht:t= .UK:=by cases t<;>first|rfl|cases ht
  subst ht;simp only [S9,ajB]at aY
  exact wp_region_still hm aY.1 (yO az (λo ho=>by
   have:=aj7.1 aY.2 o ho;simp only [ajB,Bool.not_eq_true']at this;exact⟨this.1.1,by simp only [this.1.2,this.2,Bool.not_false,Bool.and_self]⟩) h st2 ⟨tm.defers,tm.size,λi=>aC.keep hk (λ_ _ h=>h) (tm.tmp i)⟩ rfl λa hE=>hR _ _ hE)
 let R':Exit->Act->World->Prop:=λe a w=>e= .normal/\R .normal a w
 have main:(Code.region id ops true).wp P R' a w:=wp_region_any hm
  ((og az hF aY.1 (R:=R') (λc a w hc=>by cases hc.1) (K:=K) (len:=T.length) (λa w hE=>⟨rfl,hR a w hE⟩) t false _ ops.size O M a _ T S aY.2 (by simp) (by simp [ET]) h st2
    ⟨tm.defers,tm.size,λi=>aC.keep hk (λ_ _ h=>h) (tm.tmp i)⟩ rfl).1 rfl)
 intro b k cs;obtain⟨e,a',w',⟨rfl,h1⟩,h2⟩:=main b k cs;exact⟨_,a',w',h1,h2⟩
end
section
variable{P:Program}{TY:List cV}{w0 w:World}{M0:eE w0}{O:Env}{M:a7}{S S':ak}
theorem px{W:List Nat}:∀{T:List AV} {i:Nat} {K:List AV->Prop},uJ W i T K->∃T',K T'/\T'.length=T.length/\∀j,nth T' j=nth T j\/nth T' j= .any
 |[],_,_,h=>⟨[],h,rfl,λ_=>.inl rfl⟩
 |a::T,i,K,h=>by
  obtain⟨T',h1,h2,h3⟩:=px (T:=T) h;cases hm:UL i W with
  |true=>
   rw [hm]at h1;exact⟨_,h1,by simp [h2],λj=>by cases j with|zero=>exact .inr rfl|succ j=>exact h3 j⟩
  |false=>
   rw [hm]at h1;exact⟨_,h1,by simp [h2],λj=>by cases j with|zero=>exact .inl rfl|succ j=>exact h3 j⟩
theorem Hu:∀{U:List (Nat × AV)} {T:List AV} {K:List AV->Prop},oH U T K->∃T',K T'/\T'.length=T.length/\∀j,nth T' j=nth T j\/∃v,(j,v)∈U/\nth T' j=v
 |[],T,K,h=>⟨T,h,rfl,λ_=>.inl rfl⟩
 |(i,v)::U,T,K,h=>by
  simp only [oH,fZ]at h;obtain⟨T',h1,h2,h3⟩:=Hu h;refine⟨T',h1,by rw [h2];simp,λj=>?_⟩;rcases h3 j with h4|⟨u,h4,h5⟩
  ·rw [h4,iZ]
   split
   ·rename_i hj;obtain⟨rfl,_⟩:=hj;exact .inr ⟨v,by simp,rfl⟩
   ·exact .inl rfl
  ·exact .inr ⟨u,ajj _ h4,h5⟩
theorem Hv{T:List AV}:∀{U:List (Nat × AV)},Wj S S' T U->∀{i:Nat} {v:AV},(i,v)∈U->He S S' (nth T i) v
 |[],_,_,_,h=>by cases h
 |(j,u)::U,h,i,v,hm=>by
  rcases ajo.1 hm with he|hm
  ·cases he;exact h.1
  ·exact Hv h.2 hm
theorem vZ:∀{V:ak} {S:ak} {K:ak->Prop},nc V S K->∃S',K S'/\∀K',nc V S K'->K' S'
 |[],S,K,h=>⟨S,h,λ_ h=>h⟩
 |(k,b)::V,S,K,h=>by
  simp only [nc]at h;cases hf:an S k with
  |none=>
   rw [hf]at h;obtain⟨S',h1,h2⟩:=vZ h;exact⟨S',h1,λK' h'=>h2 K' (by simpa only [nc,hf]using h')⟩
  |some B=>
   rw [hf]at h
   have det:∀{S:ak} {K:ak->Prop},kL S k b K->∃S',K S'/\∀K',kL S k b K'->K' S':=by
    intro S
    induction S with
    |nil=>exact λh=>⟨[],h,λ_ h=>h⟩
    |cons e S ih=>
     intro K h;simp only [kL]at h;cases hb:Nat.beq e.1 k with
     |true=>rw [hb]at h;exact⟨_,h,λK' h'=>by simpa only [kL,hb]using h'⟩
     |false=>
      rw [hb]at h;obtain⟨S',h1,h2⟩:=ih h;exact⟨_,h1,λK' h'=>h2 (λS'=>K' ((e.1,e.2)::S')) (by simpa only [kL,hb]using h')⟩
   obtain⟨S1,h1,h2⟩:=det h;obtain⟨S',h3,h4⟩:=vZ h1;exact⟨S',h3,λK' h'=>h4 K' (h2 _ (by simpa only [nc,hf]using h'))⟩
theorem QB{U:List (Nat × AV)}:∀{T:List AV} {K:List AV->Prop},oH U T K->∃T',K T'/\∀K',oH U T K'->K' T':=by
 induction U with
 |nil=>exact λh=>⟨_,h,λ_ h=>h⟩
 |cons e U ih=>
  intro T K h;simp only [oH,fZ]at h;obtain⟨T',h1,h2⟩:=ih h;exact⟨T',h1,λK' h'=>h2 K' (by simpa only [oH,fZ]using h')⟩
theorem QC{T T0 T1:List AV}{U:List (Nat × AV)}{a:Act}(st:St M0 O M S w)(tm:Tm O w M T a)(hl:T0.length=T.length)(rX:T1.length=T0.length)(hf:∀j,nth T0 j=nth T j\/nth T0 j= .any)
  (hu:∀j,nth T1 j=nth T0 j\/∃v,(j,v)∈U/\nth T1 j=v) (hn:gJ S' T0=true) (hU:Wj S S' T U) (hS:KQ S S' S'):
  St M0 (c9 S S' O) (eD S' O M) S' w/\Tm (c9 S S' O) w (eD S' O M) T1 a:=by
 refine⟨Ak st hS,tm.defers,by rw [tm.size,<-hl,<-rX],λi=>?_⟩;rcases hu i with h1|⟨v,h1,h2⟩
 ·rw [h1]
  have h0:aC O w M (nth T0 i) (a.tmps.getD i undef):=by
   rcases hf i with h2|h2
   ·rw [h2];exact tm.tmp i
   ·rw [h2];trivial
  exact kf (λk hk hρ=>by rw [st.gq k]at hρ;exact hρ) i hn h0
 ·rw [h2];exact jr st (Hv hU h1) (tm.tmp i)
def v7:EX->Exit
 |.normal=>.normal|.exit i=>.exit i|.ret=>.ret
theorem FG{P:Program}{Q:Exit->Act->World->Prop}{a:Act}{w:World}{c:Code}{X:Type}(I:X->Act->World->Prop)(μ:X->Nat)(x0:X)(aiH:I x0 a w)
  (round:∀x a w,I x a w->c.wp P (Exit.then (λa' w'=>∃x',I x' a' w'/\μ x'<μ x) Q) a w):(Code.loop c).wp P Q a w:=by
 intro b k cs
 have key:∀n x a w,μ x=n->I x a w->
   ∃e a' w',Q e a' w'/\Arrives P (lone (b.at a (.code c:: .inLoop c::k)) cs w) b k cs e a' w':=by
  intro n
  induction n using Nat.strongRecOn with
  |_ n ih=>
   intro x a w hn hI;obtain⟨e,a₁,w₁,hq,fL⟩:=round x a w hI b (.inLoop c::k) cs;cases e with
   |normal=>
    obtain⟨x',aap,aX⟩:=hq;obtain⟨e₂,a₂,w₂,Xx,Dd⟩:=ih (μ x') (hn▸aX) x' a₁ w₁ rfl aap;exact⟨e₂,a₂,w₂,Xx,.of_steps (Steps.trans fL (.one step_inLoop)) Dd⟩
   |exit id=>exact⟨_,a₁,w₁,hq,.pass (x:=.inLoop c) rfl (λ_ _=>.inl (by simp)) fL⟩
   |goto l=>exact⟨_,a₁,w₁,hq,.pass (x:=.inLoop c) rfl (λ_ _=>.inl (by simp)) fL⟩
   |ret=>exact⟨_,a₁,w₁,hq,.pass (x:=.inLoop c) rfl (λ_ _=>.inl (by simp)) fL⟩
   |panic ch=>exact⟨_,a₁,w₁,hq,.pass (x:=.inLoop c) rfl (λ_ _=>.inl (by simp)) fL⟩
   |outgrown=>exact⟨_,a₁,w₁,hq,.pass (x:=.inLoop c) rfl (λ_ _=>.inl (by simp)) fL⟩
 obtain⟨e,a',w',hq,fL⟩:=key _ x0 a w rfl aiH;exact⟨e,a',w',hq,.of_steps (.one step_loop) fL⟩
def nq(P:Program)(Q:Exit->Act->World->Prop)(c:Code)(a:Act)(w:World):Prop:=∀(b:Frame) (k:List Item) (cs:List Frame),∃e a' w',Q e a' w'/\Arrives P (lone (b.at a (.code c:: .inLoop c::k)) cs w) b k cs e a' w'
theorem nq.wp{P:Program}{Q:Exit->Act->World->Prop}{a:Act}{w:World}{c:Code}(h:nq P Q c a w):(Code.loop c).wp P Q a w:=by
 intro b k cs;obtain⟨e,a',w',hq,fL⟩:=h b k cs;exact⟨e,a',w',hq,.of_steps (.one step_loop) fL⟩
theorem nq.once{P:Program}{Q:Exit->Act->World->Prop}{a:Act}{w:World}{c:Code}(h:c.wp P (Exit.then (nq P Q c) Q) a w):nq P Q c a w:=by
 intro b k cs;obtain⟨e,a₁,w₁,hq,fL⟩:=h b (.inLoop c::k) cs;cases e with
 |normal=>
  obtain⟨e₂,a₂,w₂,Xx,Dd⟩:=hq b k cs;exact⟨e₂,a₂,w₂,Xx,.of_steps (Steps.trans fL (.one step_inLoop)) Dd⟩
 |exit id=>exact⟨_,a₁,w₁,hq,.pass (x:=.inLoop c) rfl (λ_ _=>.inl (by simp)) fL⟩
 |goto l=>exact⟨_,a₁,w₁,hq,.pass (x:=.inLoop c) rfl (λ_ _=>.inl (by simp)) fL⟩
 |ret=>exact⟨_,a₁,w₁,hq,.pass (x:=.inLoop c) rfl (λ_ _=>.inl (by simp)) fL⟩
 |panic ch=>exact⟨_,a₁,w₁,hq,.pass (x:=.inLoop c) rfl (λ_ _=>.inl (by simp)) fL⟩
 |outgrown=>exact⟨_,a₁,w₁,hq,.pass (x:=.inLoop c) rfl (λ_ _=>.inl (by simp)) fL⟩
theorem JC{P:Program}{Q:Exit->Act->World->Prop}{c:Code}{X:Type}(I:X->Act->World->Prop)(μ:X->Nat)(round:∀x a w,I x a w->c.wp P (Exit.then (λa' w'=>∃x',I x' a' w'/\μ x'<μ x) Q) a w):∀(n:Nat) (x:X) (a:Act) (w:World),μ x=n->I x a w->nq P Q c a w:=by
 intro n
 induction n using Nat.strongRecOn with
 |_ n ih=>
  intro x a w hn hI b k cs;obtain⟨e,a₁,w₁,hq,fL⟩:=round x a w hI b (.inLoop c::k) cs;cases e with
  |normal=>
   obtain⟨x',aap,aX⟩:=hq;obtain⟨e₂,a₂,w₂,Xx,Dd⟩:=ih (μ x') (hn▸aX) x' a₁ w₁ rfl aap b k cs;exact⟨e₂,a₂,w₂,Xx,.of_steps (Steps.trans fL (.one step_inLoop)) Dd⟩
  |exit id=>exact⟨_,a₁,w₁,hq,.pass (x:=.inLoop c) rfl (λ_ _=>.inl (by simp)) fL⟩
  |goto l=>exact⟨_,a₁,w₁,hq,.pass (x:=.inLoop c) rfl (λ_ _=>.inl (by simp)) fL⟩
  |ret=>exact⟨_,a₁,w₁,hq,.pass (x:=.inLoop c) rfl (λ_ _=>.inl (by simp)) fL⟩
  |panic ch=>exact⟨_,a₁,w₁,hq,.pass (x:=.inLoop c) rfl (λ_ _=>.inl (by simp)) fL⟩
  |outgrown=>exact⟨_,a₁,w₁,hq,.pass (x:=.inLoop c) rfl (λ_ _=>.inl (by simp)) fL⟩
theorem v8:∀{W:List Nat} {S:ak} {K:ak->Prop},De W S K->∃S',K S'
 |[],S,K,h=>⟨S,h⟩
 |w::W,S,K,h=>by
  simp only [De]at h;split at h
  ·obtain⟨S1,h1,_⟩:=gK h
   exact v8 h1
  ·exact v8 h
theorem bZ(az:aR P TY){F:Spec}(hF:ck P F)(hm:P.follows .mixedOrders=true):∀(c:Code) {T:List AV} {S:ak} {O:Env} {M:a7} {w:World} {a:Act} {Q:EX->List AV->ak->Prop} {R:Exit->Act->World->Prop},
  yP TY F c T S Q->St M0 O M S w->Tm O w M T a->(∀e a w,End w0 M0 T.length (Q e) a w->R (v7 e) a w)->c.wp P R a w
 |.skip,T,S,O,M,w,a,Q,R,h,st,tm,hR=>wp_skip (hR .normal a w ⟨O,M,T,S,h,st,tm,rfl⟩)
 |.ret,T,S,O,M,w,a,Q,R,h,st,tm,hR=>wp_ret (hR .ret a w ⟨O,M,T,S,h,st,tm,rfl⟩)
 |.exit id,T,S,O,M,w,a,Q,R,h,st,tm,hR=>wp_exit (hR (.exit id) a w ⟨O,M,T,S,h,st,tm,rfl⟩)
 |.region id ops false,T,S,O,M,w,a,Q,R,h,st,tm,hR=>wp_region (by
   have:=vN (Q:=R) az hF (ops:=ops) ops.toList 0 rfl h st tm (λa w hE=>hR .normal a w hE);rw [List.range_eq_range',<-ajw];exact this)
 |.region id ops true,T,S,O,M,w,a,Q,R,h,st,tm,hR=>by
  rcases h with ⟨g,aY,h⟩|⟨t,aY,h⟩
  ·exact FD az hF hm aY h st tm (λa w hE=>hR .normal a w hE)
  ·exact AN az hF hm aY h st tm (λa w hE=>hR .normal a w hE)
 |.seq x y,T,S,O,M,w,a,Q,R,h,st,tm,hR=>wp_seq (bZ az hF hm x h st tm λe a w hE=>by
   obtain⟨O',M',T',S',h1,h2,h3,h4⟩:=hE;cases e with
   |normal=>exact bZ az hF hm y h1 h2 h3 λe a w hE=>hR e a w (by rw [h4]at hE;exact hE)
   |exit i=>exact hR (.exit i) a w ⟨O',M',T',S',h1,h2,h3,h4⟩
   |ret=>exact hR .ret a w ⟨O',M',T',S',h1,h2,h3,h4⟩)
 |.cond c x y,T,S,O,M,w,a,Q,R,h,st,tm,hR=>by
  simp only [yP,aD]at h;have hv:=a8 tm c;split at h
  ·rename_i e he
   rw [he]at hv;have hv:a.eval c= .bool e.val:=hv;have h1:=sq h;refine wp_cond hv ?_;cases hb:e.val with
   |true=>rw [hb]at h1;exact bZ az hF hm x h1 st tm hR
   |false=>rw [hb]at h1;exact bZ az hF hm y h1 st tm hR
  ·rename_i t n he
   rw [he]at hv;obtain⟨b,hv,hn⟩:=hv;have hv:a.eval c= .bool b:=hv;refine wp_cond hv ?_;cases t<;>cases b
   ·exact bZ az hF hm y (h.2 (hn rfl)) st tm hR
   ·exact bZ az hF hm x h.1 st tm hR
   ·exact bZ az hF hm y h.2 st tm hR
   ·exact bZ az hF hm x (h.1 (hn rfl)) st tm hR
  ·exact h.elim
 |.block id x,T,S,O,M,w,a,Q,R,h,st,tm,hR=>wp_block (bZ az hF hm x h st tm λe a w hE=>by
   obtain⟨O',M',T',S',h1,h2,h3,h4⟩:=hE;cases e with
   |normal=>exact hR .normal a w ⟨O',M',T',S',h1,h2,h3,h4⟩
   |ret=>exact hR .ret a w ⟨O',M',T',S',h1,h2,h3,h4⟩
   |exit j=>
    simp only [v7,Exit.inBlock];cases hb:Nat.beq j id with
    |true=>
     rw [ajq (aA.1 hb)];simp only [hb]at h1;exact hR .normal a w ⟨O',M',T',S',h1,h2,h3,h4⟩
    |false=>
     rw [ajm (beq_false hb)];simp only [hb]at h1;exact hR (.exit j) a w ⟨O',M',T',S',h1,h2,h3,h4⟩)
 |.scope x,T,S,O,M,w,a,Q,R,h,st,tm,hR=>wp_scope_straight (bZ az hF hm x h st tm λe a w hE=>by
   have:=hR e a w hE;cases e<;>exact this)
 |.loop x,T00,SI0,ρ0,M00,w00,a00,Q,R,K3,st00,tm00,Y3=>by
  have base:∀{T:List AV} {SI:ak} {O:Env} {M:a7} {w:World} {a:Act} {W:List Nat},Hw (yP TY F x) (writes x []) W T SI Q->St M0 O M SI w->Tm O w M T a->(∀e a w,End w0 M0 T.length (Q e) a w->R (v7 e) a w)->nq P R x a w:=by
   intro T SI O M w a W h st tm hR;unfold Hw at h;obtain⟨S,h⟩:=v8 h;obtain⟨T0,h,Ha,hf0⟩:=px h;obtain⟨X,U,V,ok,μ,x0,⟨aaq,h0⟩,UM⟩:=h
   let I:X->Act->World->Prop:=λx a w=>ok x/\∃O M T1 S1,(∀K,oH (U x) T0 K->K T1)/\(∀K,nc (V x) S K->K S1)/\T1.length=T0.length/\St M0 O M S1 w/\Tm O w M T1 a
   have enter:∀{x':X} {T2:List AV} {S2:ak} {ρ2:Env} {M2:a7} {w:World} {a:Act},ok x'->St M0 ρ2 M2 S2 w->Tm ρ2 w M2 T2 a->T0.length=T2.length->(∀j,nth T0 j=nth T2 j\/nth T0 j= .any)->
     (nc (V x') S λS3=>bL (gJ S3 T0) (Wj S2 S3 T2 (U x')/\KQ S2 S3 S3))->(∃T1,T1.length=T0.length/\(∀K,oH (U x') T0 K->K T1)/\∀j,nth T1 j=nth T0 j\/∃v,(j,v)∈U x'/\nth T1 j=v)->I x' a w:=by
    intro x' T2 S2 ρ2 M2 w a aY st tm hl hf h ⟨T1,rX,Qi,hu⟩;obtain⟨S3,h1,h2⟩:=vZ h;rw [aq]at h1;obtain⟨g1,g2⟩:=QC st tm hl rX hf hu h1.1 h1.2.1 h1.2.2;exact⟨aY,_,_,T1,S3,Qi,h2,rX,g1,g2⟩
   have tab:∀x',∃T1,T1.length=T0.length/\(∀K,oH (U x') T0 K->K T1)/\∀j,nth T1 j=nth T0 j\/∃v,(j,v)∈U x'/\nth T1 j=v:=by
    intro x'
    have hex:oH (U x') T0 λ_=>True:=by
     have:∀(U:List (Nat × AV)) (T:List AV),oH U T λ_=>True:=by
      intro U
      induction U with
      |nil=>exact λ_=>trivial
      |cons e U ih=>intro T;simp only [oH,fZ];exact ih _
     exact this _ _
    obtain⟨T1,_,h2⟩:=QB hex;obtain⟨T1',h3,h4,h5⟩:=Hu (h2 (λT=>T=T1) |> λ_=>hex)
    have hlen:=h2 (λT=>T.length=T0.length/\∀j,nth T j=nth T0 j\/∃v,(j,v)∈U x'/\nth T j=v) (by
     have:∀(U:List (Nat × AV)) (T:List AV) (K:List AV->Prop),(∀T',T'.length=T.length->(∀j,nth T' j=nth T j\/∃v,(j,v)∈U/\nth T' j=v)->K T')->oH U T K:=by
      intro U
      induction U with
      |nil=>exact λT K h=>h T rfl λj=>.inl rfl
      |cons e U ih=>
       intro T K h;simp only [oH,fZ];refine ih _ _ λT' h1 h2=>h T' (by rw [h1];simp) λj=>?_;rcases h2 j with h3|⟨v,h3,h4⟩
       ·rw [h3,iZ]
        split
        ·rename_i hj;obtain⟨rfl,_⟩:=hj;exact .inr ⟨e.2,by simp,rfl⟩
        ·exact .inl rfl
       ·exact .inr ⟨v,ajj _ h3,h4⟩
     exact this _ _ _ λT' h1 h2=>⟨h1,h2⟩)
    exact⟨T1,hlen.1,h2,hlen.2⟩
   have rnd:∀x1 a w,I x1 a w->x.wp P (Exit.then (λa' w'=>∃x',I x' a' w'/\μ x'<μ x1) R) a w:=λx1 a w ⟨aY,ρ1,M1,T1,S1,Qi,xN,Cx,st1,tm1⟩=>by
    have hr:=xN _ (Qi _ (UM x1 aY));refine bZ az hF hm x hr st1 tm1 λe a w ⟨ρ2,M2,T2,S2,h1,h2,h3,h4⟩=>?_;cases e with
    |normal=>
     obtain⟨T3,h5,YJ,hf3⟩:=px h1;obtain⟨x',⟨UB,aX⟩,rfl,h6⟩:=h5;exact⟨x',enter UB h2 h3 YJ hf3 h6 (tab x'),aX⟩
    |exit i=>exact hR (.exit i) a w ⟨ρ2,M2,T2,S2,h1,h2,h3,by rw [h4,Cx,Ha]⟩
    |ret=>exact hR .ret a w ⟨ρ2,M2,T2,S2,h1,h2,h3,by rw [h4,Cx,Ha]⟩
   exact JC I μ rnd _ x0 _ _ rfl (enter aaq st tm Ha hf0 h0 (tab x0))
  obtain⟨W,h⟩:=K3;split at h
  ·refine(nq.once (bZ az hF hm x h st00 tm00 λe a w ⟨ρ2,M2,T2,S2,h1,h2,h3,h4⟩=>?_)).wp
   cases e with
   |normal=>
    obtain⟨W,h1⟩:=h1;exact base h1 h2 h3 λe a w hE=>Y3 e a w (by rw [h4]at hE;exact hE)
   |exit i=>exact Y3 (.exit i) a w ⟨ρ2,M2,T2,S2,h1,h2,h3,h4⟩
   |ret=>exact Y3 .ret a w ⟨ρ2,M2,T2,S2,h1,h2,h3,h4⟩
  ·exact(base h st00 tm00 Y3).wp
 |.label _,_,_,_,_,_,_,_,_,h,_,_,_=>h.elim
 |.goto _,_,_,_,_,_,_,_,_,h,_,_,_=>h.elim
end
section
variable{P:Program}{TY:List cV}{w0 w:World}{M0:eE w0}{O:Env}{M:a7}{S S':ak}
theorem tk{O:Env}{a:AV}{v:Value}(hc:sy a=true):((∀l,a≠.agg l)->(∀l,a≠.cL l)->(∀f l,a≠.fn f l)->aC O w M a v->aC bh w M a v)/\((∀l,a≠.agg l)->cx O w M a v->cx bh w M a v)/\(aJ O w M a v->aJ bh w M a v):=by
 cases a with
 |vec k=>cases hc
 |ptr k o=>cases hc
 |dY k o=>cases hc
 |gA k o c=>cases hc
 |gD k o=>cases hc
 |full r=>cases hc
 |agg l=>exact⟨λh=>absurd rfl (h l),λh=>absurd rfl (h l),λhv=>hv.elim⟩
 |cL l=>cases hc
 |fn f l=>
  cases l with
  |nil=>exact⟨λ_ _ h=>absurd rfl (h f []),λ_=>id,id⟩
  |cons x l=>cases hc
 |_=>exact⟨λ_ _ _=>id,λ_=>id,id⟩
theorem tn{O:Env}:∀{l:List AV} {vs:List Value},wa l=true->aM (aJ O w M) l vs->aM (aJ bh w M) l vs
 |[],[],_,_=>trivial
 |a::l,v::vs,hn,hv=>by
  simp only [wa]at hn;split at hn
  ·rename_i ha;exact⟨(tk ha).2.2 hv.1,tn hn hv.2⟩
  ·cases hn
 |[],_::_,_,hv=>hv.elim
 |_::_,[],_,hv=>hv.elim
def AO(b:AV):Bool:=match b with|.agg m=>wa m|b=>sy b
theorem nr{a:AV}{l:List AV}(h:jy (a::l)=true):AO a=true/\jy l=true:=by
 cases a<;>simp only [jy]at h<;>(split at h)<;>first|exact⟨by assumption,h⟩|cases h
theorem JD(sA:∀b k,hasB O k b->w0.heap.size<=b)(st:St M0 O M S w){a b:AV}{v:Value}(h:Y4 S S' a b)(hc:AO b=true)(hS:∀k B,an S' k=some B->∃l,B= .box l)(hv:aC O w M a v)
  (jb:∀k r,a= .vec k->b= .new r->(an S' k).isSome):lz w0 w (eD S' O M) b v:=by
 have hk:=qn S' O w M;cases b with
 |new r'=>
  cases a<;>try exact h.elim
  ·rename_i k
   simp only [Y4]at h;split at h
   ·rename_i wm r hf
    obtain⟨rfl,rfl⟩:=h;obtain⟨o,h1,h2⟩:=hv;obtain⟨⟨o',g1,g2,g3,g4,g5,g6⟩,_⟩:=st.aZ k _ hf;obtain rfl:=cC g1 h1;replace h1:=g1;refine⟨o,h2,⟨by rw [AP];exact g2,by rw [Ta];exact g3,by rw [AP];exact g4,ajk _,?_⟩,λb hb=>sA b k (by simp [hasB,h1,b6.has,hb])⟩;cases fB:o.aZ with
    |none=>simp only [fB]at g6 ⊢;rw [AP];exact g6
    |some b=>
     simp only [fB]at g6 ⊢;obtain⟨g7,cs,ty,g8,g9,g10,g11⟩:=g6;refine⟨g7,cs,ty,g8,g9,λoff=>?_,λq hq=>?_⟩
     ·rw [<-g10 off]
      refine⟨λhm=>hm.1,λhm=>⟨hm,λj hj=>?_⟩⟩;have JE:hasB O k b:=by simp [hasB,h1,b6.has,fB]
      obtain rfl:=st.inj _ _ _ hj JE;obtain⟨B,hB⟩:=ajM.1 (jb _ _ rfl rfl);obtain⟨l,rfl⟩:=hS _ _ hB;exact⟨_,hB,λwm r ov he=>by cases he⟩
     ·obtain⟨c,g12,g13⟩:=g11 q (by simpa [RO.cells,AP,Ta]using hq);exact⟨c,g12,QD (ay.keep hk g13)⟩
   ·exact h.elim
  ·have hv:v= .slice none 0 0:=hv
   have h:r'.len=0:=h;exact⟨⟨none,0,0,r'.sz⟩,by rw [hv];rfl,⟨h.symm,rfl,by rw [h];exact ajk _,ajk _,h,rfl⟩,λb hb=>by cases hb⟩
 |agg m=>
  have h:He S S' a (.agg m):=h;obtain⟨cs,h1,h2⟩:=jr st h hv;exact⟨cs,h1,tn hc h2⟩
 |cL m=>cases hc
 |fn f m=>
  cases m with
  |cons=>cases hc
  |nil=>
   have h:He S S' a (.fn f []):=h;obtain⟨cs,h1,h2⟩:=jr st h hv
   have:cs= #[]:=by
    obtain⟨l⟩:=cs;cases l with
    |nil=>rfl
    |cons=>exact h2.elim
   subst this;exact h1
 |_=>
  simp only [Y4]at h;have h1:=jr st h hv
  first
   |exact(tk hc).1 (by simp) (by simp) (by simp) h1
   |trivial
theorem wc(sA:∀b k,hasB O k b->w0.heap.size<=b)(st:St M0 O M S w)(hS:∀k B,an S' k=some B->∃l,B= .box l):∀{as bs:List AV} {vs:List Value},MC S S' as bs->jy bs=true->aM (aC O w M) as vs->
  (∀k r,(AV.vec k,AV.new r)∈as.zip bs->(an S' k).isSome)->aM (lz w0 w (eD S' O M)) bs vs
 |[],[],_,_,_,h,_=>by cases ‹List Value›<;>exact h
 |a::as,b::bs,v::vs,h,hc,hv,hn=>by
  obtain⟨h1,h2⟩:=nr hc;refine⟨JD sA st h.1 h1 hS hv.1 λk r e1 e2=>hn k r (by subst e1;subst e2;simp),wc sA st hS h.2 h2 hv.2 λk r hm=>hn k r (by simp at hm ⊢;exact .inr hm)⟩
 |[],_::_,_,h,_,_,_=>h.elim
 |_::_,[],_,h,_,_,_=>h.elim
 |_::_,_::_,[],_,_,hv,_=>hv.elim
theorem we:∀(as rs:List AV) (k:Nat) (B:dQ),(k,B)∈ga as rs->B= .box []
 |[],_,_,_,h=>by simp [ga]at h
 |_::_,[],_,_,h=>by
  rename_i a _;cases a<;>simp [ga]at h
 |a::as,r::rs,k,B,h=>by
  have go:(k,B)∈ga as rs->B= .box []:=we as rs k B
  cases a<;>cases r<;>simp only [ga]at h<;>first
   |exact go h
   |(split at h
     ·simp at h;exact h.2
     ·rcases ajo.1 h with he|he
      ·cases he;rfl
      ·exact go he)
theorem wg:∀(as rs:List AV) (k:Nat) (r:RO),(AV.vec k,AV.new r)∈as.zip rs->∃B,(k,B)∈ga as rs
 |[],_,_,_,h=>by simp at h
 |_::_,[],_,_,h=>by simp at h
 |a::as,b::rs,k,r,h=>by
  simp only [List.zip_cons_cons,ajo]at h;rcases h with h|h
  ·cases h
   simp only [ga];split
   ·exact⟨_,ajC.2 rfl⟩
   ·exact⟨_,by simp;exact .inl rfl⟩
  ·obtain⟨B,hB⟩:=wg as rs k r h
   have lift:∃B,(k,B)∈ga (a::as) (b::rs):=by
    cases a<;>cases b<;>simp only [ga]<;>first
     |exact⟨B,hB⟩
     |(split
       ·rename_i he;rw [he]at hB;cases hB
       ·exact⟨B,ajj _ hB⟩)
   exact lift
def jz(tmps:Array Value):ResultVar->Sem Value
 |.tmp t=>pure (tmps.getD t undef)
 |.cell a t=>do loadVar t (<-asAddr (tmps.getD a undef))
theorem Df(az:aR P TY){t ty k off:Nat}{T:List AV}{a:Act}{b:List AV}{K:AV->Prop}(hT:nth T t= .ptr k off)(hf:an S k=some (.box b))(h:yQ TY ty b off K):
  ∃v,K v/\∀{O:Env} {w:World} {M:a7},St M0 O M S w->Tm O w M T a->∃u,(jz a.tmps (.cell t ty)).run P w= .ok u w/\aC O w M v u:=by
 obtain⟨v,hK,hlen,hv⟩:=qJ h;refine⟨v,hK,λ{O w M} st tm=>?_⟩;have Pg:=tm.tmp t;rw [hT]at Pg;have Pg:(O k).bind (b6.ref · off)=some (a.tmps.getD t undef):=Pg;obtain⟨b0,h3,cs,tyy,h4,h5,h6⟩:=st.aZ k _ hf;have h2:=sw h3 Pg;have Tb:b.length=cs.size:=by rw [aM.length h6,ajw]
 rcases hv with ⟨oF,rfl⟩|⟨oF,hs,rfl⟩
 ·have aH:=az.at (t:=ty) (.inr (λe=>by rw [e]at oF;cases oF))
  refine⟨.agg ((cs.toList.drop off).take (au TY ty).sz).toArray,?_,⟨_,rfl,by simpa using (h6.drop off).take _⟩⟩
  have:=gQ (P:=P) (w:=w) (b:=b0) (off:=off) (cs:=(cs.toList.drop off).take (au TY ty).sz) aH oF (by simp;omega) (λj c hj=>by
   rw [akm]at hj;split at hj
   ·rw [akt,ajt]at hj;rw [cell_of_heap h4];exact hj
   ·cases hj)
  simp only [Instr.loadAt,Instr.sureAddr]at this;simp only [jz,h2,asAddr]
  simpa using this
 ·have aH:=az.at (t:=ty) (.inl (by rw [hs];decide))
  obtain⟨c,h7,h8⟩:=h6.get off aa;refine⟨c,?_,cK h8⟩;have:=fF (P:=P) (w:=w) (b:=b0) (off:=off) aH oF (c:=c) (by rw [cell_of_heap h4];simpa using h7);simp only [Instr.loadAt,Instr.sureAddr]at this;simp only [jz,h2,asAddr]
  simpa using this
theorem qL(az:aR P TY){T:List AV}{a:Act}:∀{l:List ResultVar} {K:List AV->Prop},uh TY T S l K->
  ∃as,K as/\∀{O:Env} {w:World} {M:a7},St M0 O M S w->Tm O w M T a->∃vs,(l.mapM (jz a.tmps)).run P w= .ok vs w/\aM (aC O w M) as vs
 |[],K,h=>⟨[],h,λ_ _=>⟨[],by simp,ag⟩⟩
 |.tmp t::l,K,h=>by
  simp only [uh,gO]at h;obtain⟨as,h1,h2⟩:=qL az h;refine⟨nth T t::as,h1,λ{O w M} st tm=>?_⟩;obtain⟨vs,h3,h4⟩:=h2 st tm;exact⟨a.tmps.getD t undef::vs,by simp [jz,h3],tm.tmp t,h4⟩
 |.cell t ty::l,K,h=>by
  simp only [uh]at h;split at h
  ·rename_i k off hT
   split at h
   ·rename_i b hf
    obtain⟨v,h1,h2⟩:=Df (M0:=M0) (w0:=w0) (a:=a) az hT hf h;obtain⟨as,h3,h4⟩:=qL az h1;refine⟨v::as,h3,λ{O w M} st tm=>?_⟩;obtain⟨u,h5,h6⟩:=h2 st tm;obtain⟨vs,h7,h8⟩:=h4 st tm;exact⟨u::vs,by simp [h5,h7],h6,h8⟩
   ·exact h.elim
  ·exact h.elim
def wh(vs:List Value):Value:=match vs with|[v]=>v|vs=>.tuple vs.toArray
theorem uK{fn:Func}{tmps:Array Value}{vs:List Value}{w:World}(h:(fn.results.toList.mapM (jz tmps)).run P w= .ok vs w):(results fn tmps).run P w= .ok (wh vs) w:=by
 have he:fn.results=fn.results.toList.toArray:=by simp
 have e1:results fn tmps=(fn.results.mapM (jz tmps)>>=λvs=>pure (if h:vs.size=1 then vs[0] else .tuple vs)):=by
  unfold results
  congr 1
 rw [e1,he,List.mapM_toArray]
 match vs,h with
 |[],h=>simp [h,wh]
 |[v],h=>simp [h,wh]
 |u::v::vs,h=>simp [h,wh]
theorem qM:∀(l m:List AV) (i:Nat),nth (kI l m) i=if i<l.length then nth l i else nth m (i - l.length)
 |[],m,i=>by simp [kI]
 |_::_,m,0=>by simp [kI,nth]
 |a::l,m,i+1=>by
  simp only [kI,nth,qM l m i,ajY]
  by_cases h:i<l.length
  ·simp [h]
  ·simp [h]
theorem ns:∀(n i:Nat),nth (Dg n) i= .any
 |0,_=>rfl
 |_+1,0=>rfl
 |n+1,i+1=>ns n i
theorem nt:∀n,(Dg n).length=n
 |0=>rfl|n+1=>by simp [Dg,nt n]
theorem drop_eq:∀(n:Nat) (l:List AV),qO n l=n - l.length
 |n,[]=>by simp [qO]
 |0,_::_=>by simp [qO]
 |n+1,_::l=>by simp [qO,drop_eq n l]
theorem jA{k:IntKind}{n:Int}(h:eO k n):gb k n:=by cases k<;>exact h
theorem tp{α:Type}{l:List α}{d:α}{p:α->Prop}(h:∀q,q<l.length->p (l.getD q d)):∀x∈l,p x:=λx hx=>by
 obtain⟨q,hq,rfl⟩:=List.mem_iff_getElem.1 hx;have:=h q hq
 simpa [List.getD,hq]using this
theorem kM{n m:Nat}{C:Nat->Value->Prop}{v:Value}(h:kN w M n C m v):∀q,q<n->∃c,C q c:=λq hq=>by
 obtain⟨a,cap,_,_,h⟩:=h;rcases h with h|⟨b,off,_,h⟩
 ·omega
 ·obtain⟨c,_,_,h3⟩:=h q hq;exact⟨c,h3⟩
theorem py{k:IntKind}{l:List Int}{v:Value}(h:Jc w M k l v):l.length<=LB/\∀x∈l,gb k x:=
 ⟨h.1,tp (d:=0) λq hq=>by obtain⟨c,h1⟩:=kM h.2 q hq;exact jA h1.2⟩
theorem wi{k:IntKind}{l:List (List Int)}{v:Value}(h:Ph w M k l v):l.length<=LB/\∀m∈l,m.length<=LB/\∀x∈m,gb k x:=
 ⟨h.1,tp (d:=[]) λq hq=>by obtain⟨c,h1⟩:=kM h.2 q hq;exact py h1⟩
theorem Dh{l:List (Int × Int)}{v:Value}(h:UN w M l v):l.length<=LB/\∀p∈l,gb .i64 p.1/\gb .i64 p.2:=by
 refine⟨h.1,tp (d:=(0,0)) λq hq=>?_⟩;obtain⟨c,h1⟩:=kM h.2 (q*2) aa;obtain⟨c',h2⟩:=kM h.2 (q*2+1) aa;simp only [Nat.mul_mod_left,if_true,Nat.mul_div_cancel _ (ako 1)]at h1;simp only [show(q*2+1) % 2=1 from by omega,show(q*2+1) / 2=q from by omega,Nat.one_ne_zero,if_false]at h2;exact⟨jA h1.2,jA h2.2⟩
theorem Di{r:RO}{v:Value}(h:bd w M r v):MD r:=by
 cases r with
 |ints k l=>exact py (iw.1 h)
 |aI l=>exact h.1
 |rows k l=>exact wi (jB.1 h)
 |bC l=>exact⟨h.1,tp (d:=[]) λq hq=>by obtain⟨c,h1⟩:=kM h.2 q (by simpa [RO.cells,RO.len,RO.sz]using hq);exact h1.1⟩
 |bH l=>exact⟨h.1,tp (d:=[]) λq hq=>by obtain⟨c,h1⟩:=kM h.2 q (by simpa [RO.cells,RO.len,RO.sz]using hq);exact wi h1⟩
 |cN l=>exact⟨h.1,tp (d:=[]) λq hq=>by obtain⟨c,h1⟩:=kM h.2 q (by simpa [RO.cells,RO.len,RO.sz]using hq);exact Dh h1⟩
 |cY k l=>exact⟨h.1,tp (d:=[]) λq hq=>by obtain⟨c,h1⟩:=kM h.2 q (by simpa [RO.cells,RO.len,RO.sz]using hq);exact py h1.1⟩
 |aW l=>
  refine⟨h.1,tp (d:=(0,0)) λq hq=>?_⟩;have hl:(RO.aW l).cells=l.length*2:=rfl;obtain⟨c,h1⟩:=kM h.2 (q*2) (by rw [hl];omega);obtain⟨c',h2⟩:=kM h.2 (q*2+1) (by rw [hl];omega);simp only [ay]at h1 h2;rw [ajq aa,show q*2 / 2=q from by omega]at h1;rw [ajm aa,show(q*2+1) / 2=q from by omega]at h2;exact⟨jA h1.2,jA h2.2⟩
 |fb n k l=>exact h.1
 |strs l=>exact h.1
 |ec l=>exact h.1
 |dS l=>exact h.1
theorem Hx:∀{l:List AV} {vs:List Value},aM (aJ O w M) l vs->FH l
 |[],_,_=>trivial
 |a::l,v::vs,h=>⟨by
   have h1:=h.1;cases a<;>first|exact jA h1.2|exact Di h1|trivial,Hx h.2⟩
 |_::_,[],h=>h.elim
theorem qP:∀{l:List AV} {vs:List Value},aM (aC O w M) l vs->kO l
 |[],_,_=>trivial
 |a::l,v::vs,h=>⟨by
   have h1:=h.1;cases a<;>first|exact jA h1.2|exact Di h1|(obtain⟨cs,_,h2⟩:=h1;exact Hx h2)|trivial,qP h.2⟩
 |_::_,[],h=>h.elim
theorem mem_some:∀{S:ak} {k:Nat} {B:dQ},(k,B)∈S->(an S k).isSome
 |(j,b)::S,k,B,h=>by
  rw [aF];split
  ·rfl
  ·rcases ajo.1 h with he|he
   ·cases he;contradiction
   ·exact mem_some he
theorem gR(sA:∀b k,hasB O k b->w0.heap.size<=b)(st:St M0 O M S w){as rs:List AV}{vs:List Value}(h:mF S as rs)(hv:aM (aC O w M) as vs):jy rs=true/\aM (lz w0 w (eD (ga as rs) O M)) rs vs:=by
 have h':jy rs=true/\MC S (ga as rs) as rs:=by
  unfold mF at h;split at h
  ·rename_i he;rw [he];exact aq.1 h
  ·rename_i x he;rw [he];exact aq.1 h
  ·exact h.elim
 refine⟨h'.1,wc sA st (λk B hB=>⟨[],Cz hB (p:=λ_ B=>B= .box []) λe he=>we as rs e.1 e.2 he⟩) h'.2 h'.1 hv λk r hm=>?_⟩;obtain⟨B,hB⟩:=wg as rs k r hm;exact mem_some hB
theorem Dj{w w':World}{b:AV}{v:Value}(hc:jy [b]=true)(h:lz w w' M b v):AF w w' M b v:=by
 cases b with
 |cL l=>exact absurd (nr hc).1 (by simp [AO,sy])
 |fn f l=>
  cases l with
  |nil=>exact⟨#[],h,ag⟩
  |cons=>exact absurd (nr hc).1 (by simp [AO,sy])
 |_=>exact h
theorem yR(az:aR P TY){fn:Func}{a:Act}{T:List AV}{ret:AV}{M0:a7}{h0:AQ w0}(st:St (om M0 w0 h0) O M S w)(tm:Tm O w M T a)
  (h:uh TY T S fn.results.toList λas=>match as,ret with
    |[a],r=>mF S [a] [r]
    |as,.cL rs=>mF S as rs
    |_,_=>False):a.defers=[]/\∃v,(results fn a.tmps).run P w= .ok v w/\∃v',Ending.returned v= .returned v'/\gH (λ_ _=>False) w0 w/\FI M0 w0 w ret v':=by
 obtain⟨as,h,aN⟩:=qL (M0:=om M0 w0 h0) (w0:=w0) (a:=a) az h;obtain⟨vs,aN,bg⟩:=aN st tm;refine⟨tm.defers,_,uK aN,_,rfl,st.lS.weaken (λb off hh=>hh.1),?_⟩
 have hold:∀S'',∀b off,b<w0.heap.size->(eD S'' O M b off↔M0 b off):=λS'' b off hb=>
  ⟨λhm=>st.sub b off hb hm.1,λhm=>⟨st.eI b off hb (λhh=>hh) hm,λk hk=>absurd hk (st.iv hb (λhh=>hh))⟩⟩
 have aX:∀S'',∀b off,eD S'' O M b off->b<w.heap.size:=λS'' b off hm=>st.mlt b off hm.1
 match as,vs,h,bg with
 |[x],[v],h,bg=>
  have h:mF S [x] [ret]:=h;obtain⟨g1,g2⟩:=gR (λb k hb=>(st.fresh k b hb).elim id (λhh=>hh.elim)) st h bg;exact⟨_,hold _,aX _,Dj g1 g2.1⟩
 |[],[],h,bg=>
  cases ret<;>try exact h.elim
  obtain⟨g1,g2⟩:=gR (λb k hb=>(st.fresh k b hb).elim id (λhh=>hh.elim)) st h bg;exact⟨_,hold _,aX _,_,rfl,by simpa using g2⟩
 |x::y::as,u::v::vs,h,bg=>
  cases ret<;>try exact h.elim
  obtain⟨g1,g2⟩:=gR (λb k hb=>(st.fresh k b hb).elim id (λhh=>hh.elim)) st h bg;exact⟨_,hold _,aX _,_,rfl,by simpa using g2⟩
 |[_],[],_,bg=>exact bg.elim
 |[_],_::_::_,_,bg=>exact bg.2.elim
 |[],_::_,_,bg=>exact bg.elim
 |_::_::_,[],_,bg=>exact bg.elim
 |_::_::_,[_],_,bg=>exact bg.2.elim
theorem wj(az:aR P TY){fn:Func}{a:Act}{T:List AV}{X:Type}{out:X->AV}{ok:X->Prop}{M0:a7}{h0:AQ w0}(st:St (om M0 w0 h0) O M S w)(tm:Tm O w M T a)
  (h:uh TY T S fn.results.toList λas=>∃x,ok x/\match as,out x with
    |[a],r=>mF S [a] [r]
    |as,.cL rs=>mF S as rs
    |_,_=>False):a.defers=[]/\∃v,(results fn a.tmps).run P w= .ok v w/\∃x,ok x/\∃v',Ending.returned v= .returned v'/\gH (λ_ _=>False) w0 w/\FI M0 w0 w (out x) v':=by
 obtain⟨as,⟨x0,aY,h⟩,aN⟩:=qL (M0:=om M0 w0 h0) (w0:=w0) (a:=a) az h;obtain⟨vs,aN,bg⟩:=aN st tm;refine⟨tm.defers,_,uK aN,x0,aY,_,rfl,st.lS.weaken (λb off hh=>hh.1),?_⟩
 have hold:∀S'',∀b off,b<w0.heap.size->(eD S'' O M b off↔M0 b off):=λS'' b off hb=>
  ⟨λhm=>st.sub b off hb hm.1,λhm=>⟨st.eI b off hb (λhh=>hh) hm,λk hk=>absurd hk (st.iv hb (λhh=>hh))⟩⟩
 have aX:∀S'',∀b off,eD S'' O M b off->b<w.heap.size:=λS'' b off hm=>st.mlt b off hm.1;generalize out x0=ret at h ⊢
 match as,vs,h,bg with
 |[x],[v],h,bg=>
  have h:mF S [x] [ret]:=h;obtain⟨g1,g2⟩:=gR (λb k hb=>(st.fresh k b hb).elim id (λhh=>hh.elim)) st h bg;exact⟨_,hold _,aX _,Dj g1 g2.1⟩
 |[],[],h,bg=>
  cases ret<;>try exact h.elim
  obtain⟨g1,g2⟩:=gR (λb k hb=>(st.fresh k b hb).elim id (λhh=>hh.elim)) st h bg;exact⟨_,hold _,aX _,_,rfl,by simpa using g2⟩
 |x::y::as,u::v::vs,h,bg=>
  cases ret<;>try exact h.elim
  obtain⟨g1,g2⟩:=gR (λb k hb=>(st.fresh k b hb).elim id (λhh=>hh.elim)) st h bg;exact⟨_,hold _,aX _,_,rfl,by simpa using g2⟩
 |[_],[],_,bg=>exact bg.elim
 |[_],_::_::_,_,bg=>exact bg.2.elim
 |[],_::_,_,bg=>exact bg.elim
 |_::_::_,[],_,bg=>exact bg.elim
 |_::_::_,[_],_,bg=>exact bg.2.elim
theorem ME(az:aR P TY){F:Spec}(hF:ck P F)(hm:P.follows .mixedOrders=true){f:FuncId}{fn:Func}(hf:P.funcs[f]? =some fn)(wk:fn.name≠ "runtime.NumGoroutine")(hb:fn.body.isSome=true)
  {args:List AV} {ret:AV} (_hlen:args.length<=fn.ntmps) (h:kO args->P7 TY F fn args ret):Fn P f args ret:=by
 refine⟨⟨fn,hf,wk,hb⟩,λM w vs xJ hM hv=>?_⟩;have h:=h (qP hv);obtain⟨c,hc⟩:=ajM.1 hb;simp only [P7,hc]at h;refine calls_of_wp hf hc ?_;have Pj:args.length=vs.length:=hv.length
 refine bZ az hF hm c h (M0:=om M w xJ) (w0:=w) (O:=bh) (M:=M)
  ⟨λk=>rfl,λk B hB=>(by cases hB),λi j b hi _=>(by cases hi),hM,gH.refl _ _,λb off _ hm=>hm,λb off _ _ hm=>hm,λk b hk=>(by cases hk),λk o _ hk=>(by cases hk)⟩
  ⟨rfl,?_,λi=>?_⟩ λe a w' hE=>?_
 ·simp [jh,nt,drop_eq,Pj]
 ·rw [qM]
  split
  ·rename_i hi
   obtain⟨v,h1,h2⟩:=hv.get i hi
   have:(vs.toArray++Array.replicate (fn.ntmps - vs.toArray.size) undef).getD i undef=v:=by
    rw [ajG,akh (by simp;omega)];simp [h1]
   rw [this];exact h2
  ·rw [ns];trivial
 ·obtain⟨O',M',T,S,h1,st,tm,_⟩:=hE
  cases e with
  |exit i=>exact h1.elim
  |normal=>exact yR az st tm h1
  |ret=>exact yR az st tm h1
theorem JF(az:aR P TY){F:Spec}(hF:ck P F)(hm:P.follows .mixedOrders=true){f:FuncId}{fn:Func}(hf:P.funcs[f]? =some fn)(wk:fn.name≠ "runtime.NumGoroutine")(hb:fn.body.isSome=true)
  {args:List AV} {X:Type} {out:X->AV} {ok:X->Prop} (_hlen:args.length<=fn.ntmps) (h:kO args->Mq TY F fn args out ok):Y5 P f args X out ok:=by
 refine⟨⟨fn,hf,wk,hb⟩,λM w vs xJ hM hv=>?_⟩;have h:=h (qP hv);obtain⟨c,hc⟩:=ajM.1 hb;simp only [Mq,hc]at h;refine calls_of_wp hf hc ?_;have Pj:args.length=vs.length:=hv.length
 refine bZ az hF hm c h (M0:=om M w xJ) (w0:=w) (O:=bh) (M:=M)
  ⟨λk=>rfl,λk B hB=>(by cases hB),λi j b hi _=>(by cases hi),hM,gH.refl _ _,λb off _ hm=>hm,λb off _ _ hm=>hm,λk b hk=>(by cases hk),λk o _ hk=>(by cases hk)⟩
  ⟨rfl,?_,λi=>?_⟩ λe a w' hE=>?_
 ·simp [jh,nt,drop_eq,Pj]
 ·rw [qM]
  split
  ·rename_i hi
   obtain⟨v,h1,h2⟩:=hv.get i hi
   have:(vs.toArray++Array.replicate (fn.ntmps - vs.toArray.size) undef).getD i undef=v:=by
    rw [ajG,akh (by simp;omega)];simp [h1]
   rw [this];exact h2
  ·rw [ns];trivial
 ·obtain⟨O',M',T,S,h1,st,tm,_⟩:=hE
  have finE:∀{fn:Func} {a:Act} {w':World},(a.defers=[]/\∃v,(results fn a.tmps).run P w'= .ok v w'/\∃x,ok x/\∃v',Ending.returned v= .returned v'/\gH (λ_ _=>False) w w'/\FI M w w' (out x) v')->
    a.defers=[]/\∃v,(results fn a.tmps).run P w'= .ok v w'/\∃x,ok x/\∃v',Ending.returned v= .returned v'/\gH (λ_ _=>False) w w'/\FI M w w' (out x) v':=λh=>h
  cases e with
  |exit i=>exact h1.elim
  |normal=>exact finE (wj az st tm h1)
  |ret=>exact finE (wj az st tm h1)
theorem MG(st:St M0 O M S w):∀{l m:List AV} {vs:List Value},SQ S S' l m->aM (aC O w M) l vs->aM (cx (c9 S S' O) w (eD S' O M)) m vs
 |[],[],vs,_,h=>by cases vs<;>exact h
 |a::l,b::m,v::vs,h,hv=>by
  refine⟨?_,MG st h.2 hv.2⟩;have h1:=h.1;cases b with
  |agg y=>exact jr st (b:=.agg y) h1 hv.1
  |any=>trivial
  |cL y=>exact absurd h1 (by simp [O8])
  |fn f y=>
   cases y with
   |cons x l=>cases a<;>exact h1.elim
   |nil=>
    cases a<;>try exact h1.elim
    rename_i g m;cases m<;>try exact h1.elim
    have h1:g=f:=h1;subst h1;obtain⟨cs,Xy,UC⟩:=hv.1
    have bU:cs= #[]:=by
     obtain⟨cl⟩:=cs;cases cl with
     |nil=>rfl
     |cons=>exact UC.elim
    subst bU;exact Xy
  |int k n=>exact jr st (b:=.int k n) h1 hv.1
  |bool e=>exact jr st (b:=.bool e) h1 hv.1
  |ro r=>exact jr st (b:=.ro r) h1 hv.1
  |vec k=>exact jr st (b:=.vec k) h1 hv.1
  |ptr k o=>exact jr st (b:=.ptr k o) h1 hv.1
  |eZ r i=>exact jr st (b:=.eZ r i) h1 hv.1
  |uD f r i=>exact jr st (b:=.uD f r i) h1 hv.1
  |may b n=>exact jr st (b:=.may b n) h1 hv.1
  |dY k i=>exact jr st (b:=.dY k i) h1 hv.1
  |gA k i j=>exact jr st (b:=.gA k i j) h1 hv.1
  |gD k i=>exact jr st (b:=.gD k i) h1 hv.1
  |full r=>exact jr st (b:=.full r) h1 hv.1
  |str l=>exact jr st (b:=.str l) h1 hv.1
  |ar=>exact jr st (b:=.ar) h1 hv.1
  |bO=>exact jr st (b:=.bO) h1 hv.1
  |new r=>exact jr st (b:=.new r) h1 hv.1
 |[],_::_,_,h,_=>h.elim
 |_::_,[],_,h,_=>h.elim
 |_::_,_::_,[],_,hv=>hv.elim
theorem l7(az:aR P TY){fn:Func}{a:Act}{T:List AV}{ret:AV}{S2:ak}(st:St M0 O M S w)(tm:Tm O w M T a)
  (h:uh TY T S fn.results.toList λas=>KQ S S2 S2/\match as,ret with
    |[a],r=>He S S2 a r
    |as,.cL rs=>SQ S S2 as rs
    |_,_=>False):a.defers=[]/\∃v,(results fn a.tmps).run P w= .ok v w/\∃v' O' M',Ending.returned v= .returned v'/\St M0 O' M' S2 w/\aC O' w M' ret v':=by
 obtain⟨as,⟨hS,h⟩,aN⟩:=qL (M0:=M0) (w0:=w0) (a:=a) az h;obtain⟨vs,aN,bg⟩:=aN st tm;refine⟨tm.defers,_,uK aN,_,_,_,rfl,Ak st hS,?_⟩
 match as,vs,h,bg with
 |[x],[v],h,bg=>exact jr st h bg.1
 |[],[],h,bg=>
  cases ret<;>try exact h.elim
  exact⟨_,rfl,by simpa using MG st h bg⟩
 |x::y::as,u::v::vs,h,bg=>
  cases ret<;>try exact h.elim
  exact⟨_,rfl,by simpa using MG st h bg⟩
 |[_],[],_,bg=>exact bg.elim
 |[_],_::_::_,_,bg=>exact bg.2.elim
 |[],_::_,_,bg=>exact bg.elim
 |_::_::_,[],_,bg=>exact bg.elim
 |_::_::_,[_],_,bg=>exact bg.2.elim
theorem fH:∀{R:ak} {T:List AV} {S:ak} {K:List AV->ak->Prop} {a:Act} {O:Env},l8 R T S K->St M0 O M S w->Tm O w M T a->
  ∃T' S' O',K T' S'/\St M0 O' M S' w/\Tm O' w M T' a/\T'.length=T.length
 |[],T,S,K,a,O,h,st,tm=>⟨T,S,O,h,st,tm,rfl⟩
 |(k,b)::R,T,S,K,a,O,h,st,tm=>by
  have skip:l8 R T S K->∃T' S' O',K T' S'/\St M0 O' M S' w/\Tm O' w M T' a/\T'.length=T.length:=λh=>fH h st tm;cases b with
  |mA n z=>
   simp only [l8]at h;split at h
   ·rename_i n0 r hf
    obtain⟨o,cur,g1,g2,g3⟩:=st.aZ k _ hf;obtain⟨T',S',O',q1,q2,q3,q4,_⟩:=fW (ow':=.sl o) (B:=.mA n0 r.sz) (K:=λT S=>l8 R T ((k,.mA n0 r.sz)::S) K) h st tm g1 (λb hb=>.inl hb) (λ_=>rfl) (λO' Qk=>⟨o,Qk,g3⟩);obtain⟨T2,S2,ρ2,h1,h2,h3,h4⟩:=fH q1 q2 q3;exact⟨T2,S2,ρ2,h1,h2,h3,h4.trans q4⟩
   ·exact skip h
  |_=>exact skip h
theorem JG(az:aR P TY){F:Spec}(hF:ck P F)(hm:P.follows .mixedOrders=true){f:FuncId}{fn:Func}(hf:P.funcs[f]? =some fn)(wk:fn.name≠ "runtime.NumGoroutine")(hb:fn.body.isSome=true)
  {args:List AV} {S1:ak} {ret:AV} {S2:ak} (_hlen:args.length<=fn.ntmps) (h:kO args->JH TY F fn args S1 ret S2):Y6 P f args S1 ret S2:=by
 refine⟨⟨fn,hf,wk,hb⟩,λO M w vs xJ st hv=>?_⟩;have h:=h (qP hv);obtain⟨c,hc⟩:=ajM.1 hb;simp only [JH,hc]at h;refine calls_of_wp hf hc ?_;have Pj:args.length=vs.length:=hv.length
 refine bZ az hF hm c h (M0:=eS O M w xJ) (w0:=w) (O:=O) (M:=M) st
  ⟨rfl,?_,λi=>?_⟩ λe a w' hE=>?_
 ·simp [jh,nt,drop_eq,Pj]
 ·rw [qM]
  split
  ·rename_i hi
   obtain⟨v,h1,h2⟩:=hv.get i hi
   have:(vs.toArray++Array.replicate (fn.ntmps - vs.toArray.size) undef).getD i undef=v:=by
    rw [ajG,akh (by simp;omega)];simp [h1]
   rw [this];exact h2
  ·rw [ns];trivial
 ·obtain⟨O',M',T,S,h1,st,tm,_⟩:=hE
  cases e with
  |exit i=>exact h1.elim
  |normal=>
   obtain⟨T',S',ρ2,g1,g2,g3,_⟩:=fH h1 st tm;exact l7 az g2 g3 g1
  |ret=>
   obtain⟨T',S',ρ2,g1,g2,g3,_⟩:=fH h1 st tm;exact l7 az g2 g3 g1
theorem JI(az:aR P TY){F:Spec}(hF:ck P F)(hm:P.follows .mixedOrders=true){f:FuncId}{fn:Func}(hf:P.funcs[f]? =some fn)(wk:fn.name≠ "runtime.NumGoroutine")(hb:fn.body.isSome=true)
  {args:List AV} {S1:ak} {X:Type} {ret:X->AV} {S2:X->ak} {ok:X->Prop} (_hlen:args.length<=fn.ntmps) (h:kO args->QE TY F fn args S1 X ret S2 ok):Y7 P f args S1 X ret S2 ok:=by
 refine⟨⟨fn,hf,wk,hb⟩,λO M w vs xJ st hv=>?_⟩;have h:=h (qP hv);obtain⟨c,hc⟩:=ajM.1 hb;simp only [QE,hc]at h;refine calls_of_wp hf hc ?_;have Pj:args.length=vs.length:=hv.length
 refine bZ az hF hm c h (M0:=eS O M w xJ) (w0:=w) (O:=O) (M:=M) st
  ⟨rfl,?_,λi=>?_⟩ λe a w' hE=>?_
 ·simp [jh,nt,drop_eq,Pj]
 ·rw [qM]
  split
  ·rename_i hi
   obtain⟨v,h1,h2⟩:=hv.get i hi
   have:(vs.toArray++Array.replicate (fn.ntmps - vs.toArray.size) undef).getD i undef=v:=by
    rw [ajG,akh (by simp;omega)];simp [h1]
   rw [this];exact h2
  ·rw [ns];trivial
 ·obtain⟨O',M',T,S,h1,st,tm,_⟩:=hE
  cases e with
  |exit i=>exact h1.elim
  |normal=>
   obtain⟨z,hz,h1⟩:=h1;obtain⟨T',S',ρ2,g1,g2,g3,_⟩:=fH h1 st tm;obtain⟨q1,v,q2,q3⟩:=l7 az g2 g3 g1;exact⟨q1,v,q2,z,hz,q3⟩
  |ret=>
   obtain⟨z,hz,h1⟩:=h1;obtain⟨T',S',ρ2,g1,g2,g3,_⟩:=fH h1 st tm;obtain⟨q1,v,q2,q3⟩:=l7 az g2 g3 g1;exact⟨q1,v,q2,z,hz,q3⟩
end
end Go.AM
end
