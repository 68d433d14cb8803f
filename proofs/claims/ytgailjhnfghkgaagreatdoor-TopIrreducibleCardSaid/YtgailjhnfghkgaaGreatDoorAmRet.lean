import Derived.Test.YtgailjhnfghkgaaGreatDoorAmDraw
import Derived.Scope
section
namespace Go.AM
open Go
section
variable{P:Program}{TY:List cP}{w0 w:World}{M0:ef w0}{ρ:Env}{M:aX}{S S0:ai}{d:Nat}
theorem BW{w':World}{M':aX}:∀{l:List AV} {vs:List Value},oX l=0->aJ (kS w w' M') l vs->aJ (ck ρ w' M') l vs
 |[],[],_,_=>trivial
 |a::l,v::vs,hn,h=>by
  have ha:xx a=0:=by
   simp only [oX]at hn;cases a<;>first|rfl|(simp [xx]at hn)
  exact⟨zS ha (bB.refl _ _) h.1,BW (by rw [oY ha]at hn;exact hn) h.2⟩
 |[],_::_,_,h=>h.elim
 |_::_,[],_,h=>h.elim
theorem Ib{a:AV}{v:Value}{w':World}{M':aX}(hn:Rh a=true)(h:zT w w' M' a v):az ρ w' M' a v:=by
 cases a with
 |cC l=>
  obtain⟨cs,rfl,bR⟩:=h;have hn:oX l=0:=ay.1 hn;exact⟨cs,rfl,BW hn bR⟩
 |new r=>cases hn
 |_=>simp only [zT]at h;exact az.keep (bB.refl _ _) (λ k o ho=>by cases ho) h
theorem Es{ret:AV}{K:AV->Option dH->Prop}(h:BX d ret K):
  ∃v B,K v B/\∀(w0:World) (M0:ef w0) (ρ:Env) (M:aX) (S:ai) (w w':World) (M2:aX) (u:Value),St M0 ρ M S w->gk (λ _ _=>False) w w'->
   (∀b off,b<w.heap.size->(M2 b off↔M b off))->(∀b off,M2 b off->b<w'.heap.size)->zT w w' M2 ret u->(B≠none->aj S d=none/\loc d=true)->Out w0 M0 ρ M S w d B v u w':=by
 cases ret with
 |new r=>
  refine⟨.vec d,some (.vec 0 r []),h,λ w0 M0 ρ M S w w' M2 u st hs hold aS oZ hd=>?_⟩;obtain⟨st',hk⟩:=st.same hs hold aS;obtain⟨o,rfl,hV,re⟩:=oZ;obtain⟨hd,fJ⟩:=hd (by simp);have st2:=st'.take (d:=d) hd hV (λ b hb k hk=>absurd (eV st hk) (by have:=re b hb;omega)) (λ b hb=>Nat.le_trans st.lD.1 (re b hb)) fJ;refine⟨_,M2,st2,⟨o,by simp [bY.x9],rfl⟩,hk,λ k o' oD=>?_⟩
  have oa:k≠d:=λ e=>by
   subst e;have:=st.ga k;rw [hd,oD]at this;cases this
  simp [oa,oD]
 |_=>
  simp only [BX]at h;rw [al]at h;obtain⟨hn,h⟩:=h;have h:=gA.1 h;refine⟨_,none,h,λ w0 M0 ρ M S w w' M2 u st hs hold aS oZ hd=>?_⟩;obtain⟨st',hk⟩:=st.same hs hold aS;exact⟨ρ,M2,st',Ib hn oZ,hk,λ _ _ h=>h⟩
theorem BZ{T:List AV}{e:Operand->Value}:∀{xs:List Operand},(∀x∈xs,az ρ w M (aP T x) (e x))->aJ (az ρ w M) (xs.map (aP T)) (xs.map e)
 |[],_=>trivial
 |x::xs,h=>⟨h x (by simp),BZ λ y hy=>h y (List.mem_cons_of_mem _ hy)⟩
theorem B1{F:Spec}(hF:b6 P F){c:Call}{f:FuncId}{T:List AV}{K:AV->Option dH->Prop}(hc:c.callee= .value (.func f))(h:qK TY F d (.call c) T S0 K):
  ∃v B,K v B/\QS P d (.call c) T S0 v B:=by
 simp only [qK,hc,dr]at h;obtain⟨as',ks,⟨as2,ret,hf,bn,h⟩,Bg,bc⟩:=fw h
 have hq:(safe ret=true\/ks=[])/\BX d ret K:=by
  cases hs:safe ret<;>rw [hs]at h
  ·cases ks with
   |nil=>exact⟨.inr rfl,h⟩
   |cons=>exact h.elim
  ·exact⟨.inl rfl,by cases ks<;>exact h⟩
 obtain⟨v,B,hK,VR⟩:=Es hq.2;refine⟨v,B,hK,λ w0 M0 ρ M w S' e oo ho YI st he hd=>?_,λ zk=>by simp [bP,hc]at zk⟩;have hx:=he (.func f) (by simp [Op.operands,Call.operands,hc]);obtain⟨cs,hx,bR⟩:=hx
 have YJ:cs= #[]:=by
  obtain⟨l⟩:=cs;cases l with
  |nil=>rfl
  |cons=>exact bR.elim
 have aK:=mT (hF.q f as2 ret hf).1 ho hc (e:=e) (cs:=[]) (by rw [hx,YJ]) w;rw [List.append_nil]at aK;have hv:aJ (az ρ w M) (c.args.toList.map (aP T)) (c.args.toList.map e):=BZ λ x hx=>he x (by simp [Op.operands,Call.operands,hc];exact .inr (Array.mem_toList_iff.1 hx))
 have VS:=nM bn (bc ρ w M (λ k B hB hs=>by
  obtain⟨o,ho⟩:=Option.isSome_iff_exists.1 hs;exact st.aW k B (st.find YI hB ho)) ks _ (λ k hk=>hk) hv)
 refine .inr (.inr ⟨f,_,w,aK,?_⟩);refine((hF.q f as2 ret hf).2 (eX M ρ ks) w _ (M0.hw w st.lD) (λ b off hm=>st.mlt b off hm.1) VS).mono λ e' w' ⟨u,he',hs,M'',hold,aS,oZ⟩=>⟨u,he',?_⟩;rcases hq.1 with vf|rfl
 ·let M2:aX:=λ b off=>(b<w.heap.size/\M b off)\/(w.heap.size<=b/\M'' b off)
  have KX:∀b off,b<w.heap.size->(M2 b off↔M b off):=λ b off hb=>⟨λ hm=>hm.elim (λ h=>h.2) (λ h=>absurd h.1 aa),λ hm=>.inl ⟨hb,hm⟩⟩;have KY:∀b off,w.heap.size<=b->(M2 b off↔M'' b off):=λ b off hb=>⟨λ hm=>hm.elim (λ h=>absurd h.1 aa) (λ h=>h.2),λ hm=>.inr ⟨hb,hm⟩⟩
  exact VR w0 M0 ρ M S' w w' M2 u st hs KX (λ b off hm=>by
   rcases hm with hm|hm
   ·exact Nat.lt_of_lt_of_le hm.1 hs.1
   ·exact aS b off hm.2) (B3 KY vf oZ) hd
 ·exact VR w0 M0 ρ M S' w w' M'' u st hs (λ b off hb=>(hold b off hb).trans ⟨λ h=>h.1,λ h=>⟨h,λ k hk=>by cases hk⟩⟩) aS oZ hd
theorem vg(aw:aO P TY){F:Spec}(hF:b6 P F){o:Op}{T:List AV}{K:AV->Option dH->Prop}(h:qK TY F d o T S0 K):∃v B,K v B/\QS P d o T S0 v B:=by
 cases hq:bP o with
 |true=>exact tR aw hq h
 |false=>
  cases o<;>try (first|(cases hq;done)|exact h.elim)
  case slice t x lo hi mx=>
   cases mx with
   |none=>exact sD aw h
   |some _=>exact pX aw h
  case buildSlice t n ps=>exact zB aw h
  case call c=>
   cases hc:c.callee with
   |value x=>
    cases x with
    |func f=>exact B1 hF hc h
    |_=>simp only [qK,hc]at h
   |builtin b=>
    simp only [bP,hc]at hq;cases b<;>first|(cases hq;done)|(simp only [qK,hc]at h)
   |invoke=>simp only [qK,hc]at h
def Ri(P:Program)(ops:Array Oper)(T':List AV)(S':ai)(o:Oper)(j:Nat)(B:Option dH)(q:Nat):Prop:=
 ∃r Tg Tj Sj v,nJ ops Tg o.guard r/\(r=true->QS P (o.dst.getD 999) o.op Tj Sj v B)/\(r=false->v= .cC []/\B=none)/\
  (∀d,o.dst=some d->d<T'.length->tS v (nth T' d))/\(B≠none->∃d,o.dst=some d/\loc d=true)/\
  (∀t∈o.looksAt ops,(∀i,j<=i->i<q->bG ops i≠some t)->tS (nth T' t) (nth Tg t)/\tS (nth T' t) (nth Tj t))/\
  (∀k C,aj Sj k=some C->aj S' k=some C)
theorem Gg(aw:aO P TY){F:Spec}(hF:b6 P F){ops:Array Oper}(Rj:∀i j d,bG ops i=some d->bG ops j=some d->i=j){K:List AV->ai->Prop}:
  ∀(rest:List Oper) (gs:List Bool) (i:Nat) {T:List AV} {S:ai},ops.toList.drop i=rest->je TY F ops.toList gs rest T S K->
   ∃(n:Nat) (T':List AV) (S':ai) (Bs:Nat->Option dH),n<=rest.length/\(n=rest.length\/gs[n]? =some true)/\je TY F ops.toList (gs.drop n) (rest.drop n) T' S' K/\T'.length=T.length/\
    (∀t,(∀j,i<=j->j<i+n->bG ops j≠some t)->tS (nth T t) (nth T' t))/\
    (∀j,i<=j->j<i+n->∃o,ops[j]? =some o/\Ri P ops T' S' o j (Bs j) (i+n))/\
    (∀j d b,i<=j->j<i+n->bG ops j=some d->Bs j=some b->aj S' d=some b)/\
    (∀k,(∀j,i<=j->j<i+n->bG ops j=some k->Bs j=none)->aj S' k=aj S k)/\
    (∀k C,aj S k=some C->aj S' k=some C)/\(∀j d,i<=j->j<i+n->bG ops j=some d->Bs j≠none->aj S d=none)/\(∀j,j<n->gs[j]? =some false)
 |[],gs,i,T,S,_,h=>⟨0,T,S,λ _=>none,Nat.le_refl _,.inl rfl,by simpa [Ic]using h,rfl,λ _ _=>tS.refl _,λ j h1 h2=>by omega,λ j d b h1 h2=>by omega,λ _ _=>rfl,λ _ _ h=>h,λ j d h1 h2=>by omega,λ j h=>by omega⟩
 |o::rest,[],i,T,S,_,h=>h.elim
 |o::rest,true::gs,i,T,S,_,h=>⟨0,T,S,λ _=>none,Nat.zero_le _,.inr rfl,h,rfl,λ _ _=>tS.refl _,λ j h1 h2=>by omega,λ j d b h1 h2=>by omega,λ _ _=>rfl,λ _ _ h=>h,λ j d h1 h2=>by omega,λ j h=>by omega⟩
 |o::rest,false::gs,i,T,S,hr,h=>by
  have hi:ops[i]? =some o:=by
   have:=congrArg (·.head?) hr;simp [List.head?_drop]at this;exact this
  have tN:bG ops i=o.dst:=by simp [bG,hi]
  have Eh:ops.toList.drop (i+1)=rest:=by
   have:=congrArg List.tail hr
   simpa [List.tail_drop]using this
  simp only [vh]at h;obtain⟨r,T1,hg,xb,heq,h1⟩:=x6 h
  have step:∃v B T2 S2,je TY F ops.toList gs rest T2 S2 K/\T2.length=T.length/\(r=true->QS P (o.dst.getD 999) o.op T1 S v B)/\(r=false->v= .cC []/\B=none)/\
    (∀t,o.dst≠some t->nth T2 t=nth T1 t)/\(∀t,o.dst=some t->t<T.length->nth T2 t=v)/\S2=rJ (o.dst.getD 999) B S/\(B≠none->∃d,o.dst=some d/\aj S d=none/\loc d=true):=by
   cases r with
   |true=>
    rw [if_pos rfl]at h1;cases hd:o.dst with
    |none=>
     rw [hd]at h1;obtain⟨v,B,h2,h3⟩:=vg aw hF h1;cases B with
     |some b=>exact h2.elim
     |none=>exact⟨v,none,T1,S,h2,xb,λ _=>h3,λ e=>(by cases e),λ _ _=>rfl,λ _ e=>(by cases e),rfl,λ e=>absurd rfl e⟩
    |some d=>
     rw [hd]at h1;obtain⟨v,B,h2,h3⟩:=vg aw hF h1
     have oK:∀t,some d≠some t->nth (T1.set d v) t=nth T1 t:=λ t ht=>by
      rw [iK,if_neg (λ e=>ht (by rw [e.1]))]
     have B4:∀t,some d=some t->t<T.length->nth (T1.set d v) t=v:=λ t ht aS=>by
      obtain rfl:=Option.some.inj ht;have SU:d<T1.length:=by rw [xb];exact aS
      rw [iK,if_pos ⟨rfl,SU⟩]
     cases B with
     |none=>
      simp only [fN]at h2;exact⟨v,none,T1.set d v,S,h2,by rw [List.length_set,xb],λ _=>h3,λ e=>(by cases e),oK,B4,rfl,λ e=>absurd rfl e⟩
     |some b=>
      simp only [Et]at h2;split at h2
      ·rename_i hf
       rw [al,fN]at h2;obtain⟨fJ,h2⟩:=h2;exact⟨v,some b,T1.set d v,_,h2,by rw [List.length_set,xb],λ _=>h3,λ e=>(by cases e),oK,B4,rfl,λ _=>⟨d,rfl,hf,fJ⟩⟩
      ·exact h2.elim
   |false=>
    rw [if_neg (by simp)]at h1;cases hd:o.dst with
    |none=>
     rw [hd]at h1;exact⟨.cC [],none,T1,S,h1,xb,λ e=>(by cases e),λ _=>⟨rfl,rfl⟩,λ _ _=>rfl,λ _ e=>(by cases e),rfl,λ e=>absurd rfl e⟩
    |some d=>
     rw [hd]at h1;simp only [iL,fN]at h1;refine⟨.cC [],none,T1.set d (.cC []),S,h1,by rw [List.length_set,xb],λ e=>(by cases e),λ _=>⟨rfl,rfl⟩,λ t ht=>?_,λ t ht aS=>?_,rfl,λ e=>absurd rfl e⟩
     ·rw [iK,if_neg (λ e=>ht (by rw [e.1]))]
     ·obtain rfl:=Option.some.inj ht
      have SU:d<T1.length:=by rw [xb];exact aS
      rw [iK,if_pos ⟨rfl,SU⟩]
  obtain⟨v,B,T2,S2,h2,xX,hq,HU,hT2,YK,rfl,hB⟩:=step
  have KZ:∀k C,aj S k=some C->aj (rJ (o.dst.getD 999) B S) k=some C:=λ k C hk=>by
   cases B with
   |none=>exact hk
   |some b=>
    obtain⟨d,hd,hf,_⟩:=hB (by simp);simp only [rJ,aD,hd,Option.getD_some];rw [if_neg (λ e=>by subst e;rw [hf]at hk;cases hk)];exact hk
  obtain⟨n,T',S',Bs,g1,g2,g3,g4,g5,g6,g7,g8,g9,g10,g11⟩:=Gg aw hF Rj rest gs (i+1) Eh h2
  have VT:∀t,(∀j,i<=j->j<i+(n+1)->bG ops j≠some t)->tS (nth T t) (nth T' t)/\tS (nth T1 t) (nth T' t):=λ t ht=>by
   have e1:=hT2 t (by rw [<-tN];exact ht i (Nat.le_refl _) aa);have e2:=g5 t λ j mB jK=>ht j aa aa;rw [e1]at e2;exact⟨(heq t).trans e2,e2⟩
  obtain⟨Bf,JH,UO⟩:∃Bf:Nat->Option dH,Bf i=B/\∀j,j≠i->Bf j=Bs j:=⟨λ j=>if j=i then B else Bs j,by simp,λ j h=>by simp [h]⟩
  refine⟨n+1,T',S',Bf,by simp;omega,?_,by simpa using g3,g4.trans xX,λ t ht=>(VT t ht).1,λ j mB jK=>?_,λ j d b mB jK hd hb=>?_,λ k hk=>?_,λ k C hk=>g9 k C (KZ k C hk),λ j d mB jK hd hb=>?_,λ j hj=>by
   rcases j with _|j
   ·rfl
   ·simpa using g11 j aa⟩
  ·rcases g2 with g2|g2
   ·exact .inl (by simp [g2])
   ·exact .inr (by simpa using g2)
  ·by_cases lL:j=i
   ·subst lL
    refine⟨o,hi,r,T,T1,S,v,hg,λ hr=>?_,λ hr=>?_,λ d hd aS=>?_,λ hb=>?_,λ t _ ht=>?_,λ k C hk=>g9 k C (KZ k C hk)⟩
    ·rw [JH];exact hq hr
    ·rw [JH];exact HU hr
    ·have e1:=YK d hd (by rw [g4,xX]at aS;exact aS)
     rw [<-e1];refine g5 d λ j' VU VV he=>?_;have:=Rj j' j d he (by rw [tN,hd]);omega
    ·rw [JH]at hb
     obtain⟨d,hd,_,fJ⟩:=hB hb;exact⟨d,hd,fJ⟩
    ·have:=VT t λ j' VU VV=>ht j' VU VV
     exact⟨this.1.symm,this.2.symm⟩
   ·obtain⟨o',oD,aK⟩:=g6 j aa aa
    exact⟨o',oD,by rw [UO j lL,show i+(n+1)=i+1+n from by omega];exact aK⟩
  ·by_cases lL:j=i
   ·subst lL
    rw [JH]at hb;subst hb;rw [tN]at hd;have:aj (rJ (o.dst.getD 999) (some b) S) d=some b:=by simp [rJ,aD,hd]
    exact g9 d b this
   ·rw [UO j lL]at hb
    exact g7 j d b aa aa hd hb
  ·have e1:=g8 k λ j mB jK hd=>by
    have:=hk j aa aa hd
    rwa [UO j aa]at this
   rw [e1];cases VW:B with
   |none=>rfl
   |some b=>
    obtain⟨d,hd,_⟩:=hB (by rw [VW];simp);simp only [rJ,aD,hd,Option.getD_some];rw [if_neg];intro e;subst e;have:=hk i (Nat.le_refl _) aa (by rw [tN,hd]);rw [JH,VW]at this;cases this
  ·by_cases lL:j=i
   ·subst lL
    rw [JH]at hb;obtain⟨d',iw,hf,_⟩:=hB hb;rw [tN,iw]at hd;cases hd;exact hf
   ·rw [UO j lL]at hb
    have e1:=g10 j d aa aa hd hb;cases hf:aj S d with
    |none=>rfl
    |some C=>rw [KZ d C hf]at e1;cases e1
def On(l:Array Bool)(i:Nat):Prop:=l[i]? =some true
theorem K0(e:Edge):Region.binds .any e=eS e:=by
 unfold Region.binds eS;cases e.ground<;>rfl
theorem mem_ready{ops:Array Oper}{l:Array Bool}(hl:l.size=ops.size){i:Nat}:
  i∈Region.ready .any ops l↔∃o,ops[i]? =some o/\¬On l i/\∀e∈o.after,eS e=true->On l e.on:=by
 unfold Region.ready On;simp only [List.mem_filter,List.mem_range,Bool.and_eq_true,Bool.not_eq_true',K0]
 constructor
 ·rintro⟨h1,h2,h3⟩
  have hi:i<l.size:=aa;refine⟨ops[i],by simp [h1],λ hh=>?_,λ e he hb=>?_⟩
  ·simp [Array.getD,hi]at h2
   simp [hi]at hh;rw [hh]at h2;cases h2
  ·simp only [Array.getElem?_eq_getElem h1,Option.map_some,Option.getD_some,Array.all_eq_true_iff_forall_mem]at h3
   have:=h3 e he;simp only [hb,Bool.not_true,Bool.false_or]at this;rw [Array.getD_eq_getD_getElem?]at this;cases hh:l[e.on]? with
   |none=>rw [hh]at this;cases this
   |some b=>rw [hh]at this;simp at this;rw [this]
 ·rintro⟨o,h1,h2,h3⟩
  have hi:i<ops.size:=by
   rcases Nat.lt_or_ge i ops.size with h|h
   ·exact h
   ·rw [Array.getElem?_eq_none h]at h1;cases h1
  have zm:i<l.size:=aa;refine⟨hi,?_,?_⟩
  ·simp [Array.getD,zm]
   cases hh:l[i]with
   |false=>rfl
   |true=>exact absurd (by simp [zm,hh]) h2
  ·rw [h1]
   simp only [Option.map_some,Option.getD_some,Array.all_eq_true_iff_forall_mem];intro e he;cases hb:eS e with
   |false=>rfl
   |true=>
    have:=h3 e he hb;simp [Array.getD_eq_getD_getElem?,this]
theorem count_set:∀(l:List Bool) (i:Nat),l[i]? =some false->(l.set i true).count false+1=l.count false
 |[],i,h=>by simp at h
 |a::l,0,h=>by simp at h;subst h;simp
 |a::l,i+1,h=>by
  have:=count_set l i (by simpa using h);simp only [List.set_cons_succ,List.count_cons];omega
def DY(l:Array Bool):Nat:=l.toList.count false
theorem nN{l:Array Bool}{i:Nat}(hi:i<l.size)(h:¬On l i):DY (l.setIfInBounds i true)+1=DY l:=by
 unfold DY;rw [Array.toList_setIfInBounds];refine count_set _ _ ?_;rw [Array.getElem?_toList];have h:¬l[i]? =some true:=h;rw [Array.getElem?_eq_getElem hi]at h ⊢;cases hh:l[i]with
 |false=>rfl
 |true=>rw [hh]at h;exact absurd rfl h
theorem p6{l:Array Bool}(h:DY l=0){i:Nat}(hi:i<l.size):On l i:=by
 unfold DY at h;rw [List.count_eq_zero]at h;unfold On;rw [Array.getElem?_eq_getElem hi];cases hh:l[i]with
 |true=>rfl
 |false=>exact absurd (by rw [Array.mem_toList_iff,<-hh];exact Array.getElem_mem hi) h
theorem mV{l:Array Bool}{i j:Nat}(hi:i<l.size):On (l.setIfInBounds i true) j↔j=i\/On l j:=by
 unfold On
 by_cases h:i=j
 ·subst h;simp [hi]
 ·rw [Array.getElem?_setIfInBounds_ne h]
  exact⟨.inr,λ h'=>h'.resolve_left (Ne.symm h)⟩
structure B5(ops:Array Oper)(g:List Bool)(C:Nat->List Nat):Prop where
 back:∀i o,ops[i]? =some o->∀e∈o.after,eS e=true->e.on<i
 Ie:∀i o,ops[i]? =some o->∀j∈C i,∃e∈o.after,eS e=true/\(e.on=j\/j∈C e.on)
 looks:∀i o,ops[i]? =some o->∀t∈o.looksAt ops,∀j,bG ops j=some t->(j<i/\j∈C i)\/(g.getD j false=true/\i<j)
 lone:∀i,i<ops.size->g.getD i false=true->∀j,j<ops.size->(j<i/\j∈C i)\/j=i\/(i<j/\i∈C j)\/(j<i/\tT ops j=true)
 K2:∀i j d,bG ops i=some d->bG ops j=some d->i=j
theorem Eu{ops:Array Oper}{j:Nat}{d:Nat}(h:bG ops j=some d):j<ops.size:=by
 unfold bG at h;rcases Nat.lt_or_ge j ops.size with h'|h'
 ·exact h'
 ·rw [Array.getElem?_eq_none h']at h;cases h
theorem K3{ops:Array Oper}{g:List Bool}(h:Ew ops g=true):B5 ops g (λ i=>(tU ops.toList []).getD i []):=by
 have key:∀i o,ops[i]? =some o->Ex ops g (tU ops.toList []) i=true:=λ i o ho=>by
  have hi:i<ops.size:=by
   rcases Nat.lt_or_ge i ops.size with h|h
   ·exact h
   ·rw [Array.getElem?_eq_none h]at ho;cases ho
  exact List.all_eq_true.1 h i (List.mem_range.2 hi)
 have part:∀i o,ops[i]? =some o->_:=λ i o ho=>by
  have:=key i o ho;simp only [Ex,ho,Bool.and_eq_true]at this;exact this
 refine⟨λ i o ho e he hb=>?_,λ i o ho j hj=>?_,λ i o ho t ht j hj=>?_,λ i hi hg j hj=>?_,λ i j d hi hj=>?_⟩
 ·have:=List.all_eq_true.1 (part i o ho).1.1.1.1 e (Array.mem_toList_iff.2 he)
  simpa [hb]using this
 ·have:=List.all_eq_true.1 (part i o ho).1.1.1.2 j hj
  obtain⟨e,he,h1⟩:=List.any_eq_true.1 this;simp only [Bool.and_eq_true,Bool.or_eq_true,beq_iff_eq,List.contains_iff_mem]at h1;exact⟨e,Array.mem_toList_iff.1 he,h1.1,h1.2⟩
 ·have:=List.all_eq_true.1 (part i o ho).1.1.2 t ht
  have:=List.all_eq_true.1 this j (List.mem_range.2 (Eu hj))
  simpa [hj]using this
 ·have:=(part i ops[i] (Array.getElem?_eq_getElem hi)).1.2
  simp only [hg,Bool.not_true,Bool.false_or]at this;have:=List.all_eq_true.1 this j (List.mem_range.2 hj);simp only [Bool.or_eq_true,Bool.and_eq_true,decide_eq_true_eq,beq_iff_eq,List.contains_iff_mem]at this;rcases this with ((h|h)|h)|h
  ·exact .inl h
  ·exact .inr (.inl h)
  ·exact .inr (.inr (.inl h))
  ·exact .inr (.inr (.inr h))
 ·have zm:=Eu hi
  have:=(part i ops[i] (Array.getElem?_eq_getElem zm)).2;have:=List.all_eq_true.1 this j (List.mem_range.2 (Eu hj));simp only [Bool.or_eq_true,beq_iff_eq,Bool.not_eq_true']at this;rcases this with (h|h)|h
  ·exact h
  ·rw [hi]at h;cases h
  ·rw [hi,hj]at h;simp at h
def nO(C:Nat->List Nat)(l:Array Bool):Prop:=∀i,On l i->∀j∈C i,On l j
theorem lM{ops:Array Oper}{g:List Bool}{C:Nat->List Nat}(E:B5 ops g C){l:Array Bool}(da:nO C l){i:Nat}{o:Oper}(ho:ops[i]? =some o)(h:∀e∈o.after,eS e=true->On l e.on):∀j∈C i,On l j:=λ j hj=>by
 obtain⟨e,he,hb,h1⟩:=E.Ie i o ho j hj;rcases h1 with rfl|h1
 ·exact h e he hb
 ·exact da _ (h e he hb) j h1
theorem vi{ops:Array Oper}{g:List Bool}{C:Nat->List Nat}(E:B5 ops g C){l:Array Bool}(da:nO C l){i:Nat}{o:Oper}(hi:i<l.size)(ho:ops[i]? =some o)(h:∀e∈o.after,eS e=true->On l e.on):nO C (l.setIfInBounds i true):=λ k hk j hj=>by
 rw [mV hi]at hk ⊢;rcases hk with rfl|hk
 ·exact .inr (lM E da ho h j hj)
 ·exact .inr (da k hk j hj)
theorem St.congr{S':ai}(h:∀k,aj S' k=aj S k)(st:St M0 ρ M S w):St M0 ρ M S' w:=
 ⟨λ k=>by rw [h];exact st.ga k,λ k B hB=>st.aW k B (by rw [<-h];exact hB),st.inj,st.mlt,st.lD,st.sub,st.eu,st.fresh,st.tn⟩
theorem e9.VX {s:Sem Next}{R R':Value->World->Prop}(h:e9 P s w R)(hn:∀v w',R v w'->R' v w'):e9 P s w R':=by
 rcases h with ⟨v,w',h1,h2⟩|⟨w',h1,h2⟩|⟨f,args,w',h1,h2⟩
 ·exact .inl ⟨v,w',h1,hn _ _ h2⟩
 ·exact .inr (.inl ⟨w',h1,hn _ _ h2⟩)
 ·exact .inr (.inr ⟨f,args,w',h1,h2.mono λ e w'' ⟨v,he,hv⟩=>⟨v,he,hn _ _ hv⟩⟩)
theorem Ig{o:Oper}{e:Operand->Value}{R:Value->World->Prop}(hf:zU o=true)(h:e9 P (execOp e o) w R):∃u,(∀w',(execOp e o).run P w'= .ok (.value u) w')/\R u w:=by
 have key:∀{u:Value},(∀w',(execOp e o).run P w'= .ok (.value u) w')->∃u,(∀w',(execOp e o).run P w'= .ok (.value u) w')/\R u w:=λ{u} hu=>by
  refine⟨u,hu,?_⟩;rcases h with ⟨v,w',h1,h2⟩|⟨w',h1,h2⟩|⟨f,args,w',h1,h2⟩
  ·rw [hu w]at h1;cases h1;exact h2
  ·rw [hu w]at h1;cases h1
  ·rw [hu w]at h1;cases h1
 unfold zU at hf;rw [Bool.and_eq_true]at hf;obtain⟨_,hf⟩:=hf;split at hf
 ·rename_i x ho
  exact key (u:=e x) λ w'=>by simp [execOp,ho]
 ·rename_i x ho
  exact key (u:=e x) λ w'=>by simp [execOp,ho]
 ·rename_i c x y ho
  cases hc:e c with
  |bool b=>exact key (u:=if b then e x else e y) λ w'=>by simp [execOp,ho,hc,asBool]
  |_=>
   exfalso;rcases h with ⟨v,w',h1,h2⟩|⟨w',h1,h2⟩|⟨f,args,w',h1,h2⟩<;>simp [execOp,ho,hc,asBool]at h1<;>cases h1
 ·rename_i x i ho
  cases hc:e x with
  |tuple vs=>
   cases hv:vs[i]? with
   |some u=>exact key (u:=u) λ w'=>by simp [execOp,ho,hc,Instr.extract,hv]
   |none=>
    exfalso;rcases h with ⟨v,w',h1,h2⟩|⟨w',h1,h2⟩|⟨f,args,w',h1,h2⟩<;>simp [execOp,ho,hc,Instr.extract,hv]at h1<;>cases h1
  |_=>
   exfalso;rcases h with ⟨v,w',h1,h2⟩|⟨w',h1,h2⟩|⟨f,args,w',h1,h2⟩<;>simp [execOp,ho,hc,Instr.extract]at h1<;>cases h1
 ·cases hf
theorem O5{ops:Array Oper}{g:List Bool}{C:Nat->List Nat}(E:B5 ops g C){R:Exit->Act->World->Prop}(Ih:∀c a w,¬R (.panic c) a w){p n:Nat}{T':List AV}{S':ai}{Bs:Nat->Option dH}
  (hp:p+n<=ops.size) (vj:p+n=ops.size\/g.getD (p+n) false=true) (HP:∀j,p<=j->j<p+n->g.getD j false=false) (aK:∀j,p<=j->j<p+n->∃o,ops[j]? =some o/\Ri P ops T' S' o j (Bs j) (p+n))
  (hB:∀j d b,p<=j->j<p+n->bG ops j=some d->Bs j=some b->aj S' d=some b)
  (next:∀(ρ:Env) (M:aX) (a:Act) (w:World) (l:Array Bool) (fuel:Nat),l.size=ops.size->(∀i,i<ops.size->(On l i↔i<p+n))->nO C l->DY l<=fuel->St M0 ρ M S' w->Tm ρ w M T' a->wpAny P .any ops R fuel l a w):
  ∀(fuel:Nat) (l:Array Bool) (ρ:Env) (M:aX) (a:Act) (w:World) (SL:ai),l.size=ops.size->(∀i,i<p->On l i)->(∀i,p+n<=i->¬On l i)->nO C l->DY l<=fuel->
   St M0 ρ M SL w->a.defers=[]->a.tmps.size=T'.length->(∀t,(∀j,p<=j->j<p+n->¬On l j->bG ops j≠some t)->az ρ w M (nth T' t) (a.tmps.getD t undef))->
   (∀k,(∀j,p<=j->j<p+n->¬On l j->bG ops j=some k->Bs j=none)->aj SL k=aj S' k)->
   (∀j k,p<=j->j<p+n->¬On l j->bG ops j=some k->Bs j≠none->aj SL k=none)->wpAny P .any ops R fuel l a w:=by
 intro fuel
 induction fuel with
 |zero=>
  intro l ρ M a w SL hl h1 h2 da hu st SV bk NX xe Xt;have bX:∀i,i<ops.size->On l i:=λ i hi=>p6 aa aa;refine next ρ M a w l 0 hl (λ i hi=>⟨λ _=>?_,λ _=>bX i hi⟩) da aa (st.congr λ k=>(xe k λ j mB jK hn _=>absurd (bX j aa) hn).symm) ⟨SV,bk,λ t=>NX t λ j mB jK hn=>absurd (bX j aa) hn⟩;rcases Nat.lt_or_ge i (p+n)with h|h
  ·exact h
  ·exact absurd (bX i hi) (h2 i h)
 |succ fuel ih=>
  intro l ρ M a w SL hl h1 h2 da hu st SV bk NX xe Xt
  by_cases bX:∀i,i<p+n->On l i
  ·refine next ρ M a w l (fuel+1) hl (λ i hi=>⟨λ h=>?_,λ h=>bX i h⟩) da hu (st.congr λ k=>(xe k λ j mB jK hn _=>absurd (bX j jK) hn).symm) ⟨SV,bk,λ t=>NX t λ j mB jK hn=>absurd (bX j jK) hn⟩
   rcases Nat.lt_or_ge i (p+n)with h'|h'
   ·exact h'
   ·exact absurd h (h2 i h')
  ·
   have xm:∃i,i<p+n/\¬On l i/\∀j,j<i->On l j:=by
    have:∃i,i<p+n/\¬On l i:=by
     obtain⟨i,hi⟩:=Classical.not_forall.1 bX;exact⟨i,Classical.not_imp.1 hi⟩
    obtain⟨i,hi,c9⟩:=this
    induction i using Nat.strongRecOn with
    |ind i ihi=>
     by_cases hj:∃j,j<i/\¬On l j
     ·obtain⟨j,mB,jK⟩:=hj
      exact ihi j mB aa jK
     ·exact⟨i,hi,c9,λ j lL=>Classical.byContradiction λ hn=>hj ⟨j,lL,hn⟩⟩
   obtain⟨i0,UH,O6,zV⟩:=xm;have B6:i0<ops.size:=aa;have zW:i0∈Region.ready .any ops l:=(mem_ready hl).2 ⟨ops[i0],Array.getElem?_eq_getElem B6,O6,λ e he hb=>zV _ (E.back i0 _ (Array.getElem?_eq_getElem B6) e he hb)⟩
   have core:∀(i:Nat) (o:Oper),ops[i]? =some o->¬On l i->(∀e∈o.after,eS e=true->On l e.on)->p<=i->i<p+n->
     ∃r,Region.wanted o (yielded ops a.tmps)=r/\(r=true->e9 P (execOp a.eval o) w (λ u w'=>wpAny P .any ops R fuel (l.setIfInBounds i true) (a.put o.dst u) w'))/\
      (r=false->wpAny P .any ops R fuel (l.setIfInBounds i true) (a.put o.dst undef) w):=by
    intro i o ho c9 gD K4 j9;have Ey:i<ops.size:=aa;have Xu:=lM E da ho gD;obtain⟨o',oD,YL⟩:=aK i K4 j9;rw [ho]at oD;cases oD;obtain⟨r,Tg,Tj,Sj,v,hg,hq,HU,hv,YM,Rk,hSj⟩:=YL;have bL:i<l.size:=aa;have tN:bG ops i=o.dst:=by simp [bG,ho]
    have K5:∀t∈o.looksAt ops,az ρ w M (nth T' t) (a.tmps.getD t undef)/\∀j,i<=j->j<p+n->bG ops j≠some t:=λ t ht=>by
     refine⟨NX t λ j mB jK hn hd=>?_,λ j mo jK hd=>?_⟩
     ·rcases E.looks i o ho t ht j hd with h|h
      ·exact hn (Xu j h.2)
      ·rw [HP j mB jK]at h;cases h.1
     ·rcases E.looks i o ho t ht j hd with h|h
      ·omega
      ·rw [HP j aa jK]at h;cases h.1
    have VY:Region.wanted o (yielded ops a.tmps)=r:=by
     have hgT:∀j want d,o.guard=some (j,want)->(ops[j]?).bind (·.dst)=some d->d∈o.looksAt ops:=λ j want d O7 hd=>by
      unfold Oper.looksAt;rw [O7];simp [hd]
     unfold Region.wanted;cases O7:o.guard with
     |none=>
      unfold nJ at hg;rw [O7]at hg;exact hg.symm
     |some jw=>
      obtain⟨j,want⟩:=jw;unfold nJ at hg;rw [O7]at hg;obtain⟨d,h3,h4⟩:=hg;have hm:=hgT j want d O7 h3;obtain⟨h5,h6⟩:=K5 d hm;have h7:=(Rk d hm h6).1.rep h5;rcases h4 with ⟨e,h4,rfl⟩|⟨h4,rfl⟩
      case inr=>rw [h4]at h7;exact pY h3 h7
      rw [h4]at h7;have h7:a.tmps.getD d undef= .bool e.val:=h7
      have aS:d<a.tmps.size:=by
       rcases Nat.lt_or_ge d a.tmps.size with h'|h'
       ·exact h'
       ·rw [Array.getD_eq_getD_getElem?,Array.getElem?_eq_none h']at h7
        cases h7
      have h8:a.tmps[d]? =some (.bool e.val):=by
       rw [Array.getElem?_eq_getElem aS];simp [Array.getD,aS]at h7;rw [h7]
      simp [yielded,h3,h8]
    have zX:DY (l.setIfInBounds i true)<=fuel:=by have:=nN bL c9;omega
    have oK:∀j,¬On (l.setIfInBounds i true) j->¬On l j/\j≠i:=λ j hj=>⟨λ h=>hj ((mV bL).2 (.inr h)),λ h=>hj ((mV bL).2 (.inl h))⟩;have B4:∀j,¬On l j->j≠i->¬On (l.setIfInBounds i true) j:=λ j hj bm h=>((mV bL).1 h).elim bm hj
    have fin:∀(ρ':Env) (M':aX) (w':World) (u:Value),St M0 ρ' M' (rJ (o.dst.getD 999) (Bs i) SL) w'->az ρ' w' M' v u->bB w M w' M'->(∀k x,ρ k=some x->ρ' k=some x)->
      wpAny P .any ops R fuel (l.setIfInBounds i true) (a.put o.dst u) w':=by
     intro ρ' M' w' u st' zX hk hρ
     refine ih (l.setIfInBounds i true) ρ' M' (a.put o.dst u) w' _ (by simp [hl]) (λ j hj=>(mV bL).2 (.inr (h1 j hj))) (λ j hj B7=>?_) (vi E da bL ho gD) aa st' (by cases hd:o.dst<;>simp [Act.put,SV])
      (by cases hd:o.dst<;>simp [Act.put,bk]) (λ t ht=>?_) (λ k hk=>?_) (λ j k mB jK hn hd hb=>?_)
     ·rcases (mV bL).1 B7 with h3|h3
      ·omega
      ·exact h2 j hj h3
     ·by_cases Gh:o.dst=some t
      ·rw [Gh]
       by_cases aS:t<a.tmps.size
       ·have e1:(a.put (some t) u).tmps.getD t undef=u:=by simp [Act.put,aS]
        rw [e1];exact(hv t Gh (by rw [<-bk];exact aS)).rep zX
       ·rw [zP T' t aa];trivial
      ·have e1:(a.put o.dst u).tmps.getD t undef=a.tmps.getD t undef:=by
        cases hd:o.dst with
        |none=>rfl
        |some d=>
         have bm:d≠t:=λ e=>Gh (by rw [hd,e]);simp [Act.put,Array.getD_eq_getD_getElem?,Array.getElem?_setIfInBounds_ne bm]
       rw [e1];refine az.keep hk hρ (NX t λ j mB jK hn hd=>?_)
       by_cases lL:j=i
       ·subst lL;exact Gh (by rw [<-tN];exact hd)
       ·exact ht j mB jK (B4 j hn lL) hd
     ·by_cases UP:o.dst=some k/\Bs i≠none
      ·obtain⟨UP,hb⟩:=UP
       cases Ii:Bs i with
       |none=>exact absurd Ii hb
       |some b=>
        rw [hB i k b K4 j9 (by rw [tN,UP]) Ii];simp [rJ,aD,UP]
      ·have e1:aj (rJ (o.dst.getD 999) (Bs i) SL) k=aj SL k:=by
        cases Ii:Bs i with
        |none=>rfl
        |some b=>
         obtain⟨d,hd,_⟩:=YM (by rw [Ii];simp);simp only [rJ,aD,hd,Option.getD_some];rw [if_neg (λ e=>UP ⟨by rw [hd,e],by rw [Ii];simp⟩)]
       rw [e1];refine xe k λ j mB jK hn hd=>?_
       by_cases lL:j=i
       ·subst lL
        exact Classical.byContradiction λ hb=>UP ⟨by rw [<-tN];exact hd,hb⟩
       ·exact hk j mB jK (B4 j hn lL) hd
     ·obtain⟨YN,UQ⟩:=oK j hn
      have e1:=Xt j k mB jK YN hd hb;cases Ii:Bs i with
      |none=>exact e1
      |some b=>
       obtain⟨d,iw,_⟩:=YM (by rw [Ii];simp);simp only [rJ,aD,iw,Option.getD_some];rw [if_neg (λ e=>UQ (E.K2 j i k hd (by rw [tN,iw,e])))];exact e1
    refine⟨r,VY,λ hr=>?_,λ hr=>?_⟩
    ·refine(((hq hr).1 w0 M0 ρ M w SL a.eval o rfl (λ k D D' hD oE=>?_) st (λ x hx=>?_) (λ hb=>?_)).VX λ u w' ⟨ρ',M',g1,g2,g3,g4⟩=>fin ρ' M' w' u g1 g2 g3 g4)
     ·have e1:=hSj k D hD
      by_cases hk:∀j,p<=j->j<p+n->¬On l j->bG ops j=some k->Bs j=none
      ·rw [xe k hk,e1]at oE
       exact Option.some.inj oE
      ·exfalso
       refine hk λ j mB jK hn hd=>Classical.byContradiction λ hb=>?_;rw [Xt j k mB jK hn hd hb]at oE;cases oE
     ·cases x with
      |tmp t=>
       have hm:t∈o.looksAt ops:=by
        unfold Oper.looksAt;exact List.mem_append.2 (.inl (List.mem_filterMap.2 ⟨.tmp t,Array.mem_toList_iff.2 hx,rfl⟩))
       obtain⟨h5,h6⟩:=K5 t hm;have:=(Rk t hm h6).2.rep h5;have e1:a.eval (.tmp t)=a.tmps.getD t undef:=by simp [Act.eval,Array.getD_eq_getD_getElem?]
       rw [e1];exact this
      |const v=>exact ya _ _ _ _
      |global g=>trivial
      |func f=>exact⟨#[],rfl,ag⟩
     ·obtain⟨d,hd,fJ⟩:=YM hb
      rw [hd];exact⟨Xt i d K4 j9 c9 (by rw [tN,hd]) hb,fJ⟩
    ·obtain⟨rfl,UO⟩:=HU hr
     refine fin ρ M w undef ?_ ⟨#[],rfl,ag⟩ (bB.refl _ _) (λ _ _ h=>h);rw [UO];exact st
   by_cases FP:tT ops i0=true
   ·
    simp only [tT,Bool.and_eq_true,Array.getElem?_eq_getElem B6]at FP;obtain⟨⟨Q7,VD⟩,YO⟩:=FP;have YP:p<=i0:=Nat.le_of_not_lt λ h=>O6 (h1 i0 h);obtain⟨r,hw,SW,_⟩:=core i0 _ (Array.getElem?_eq_getElem B6) O6 (λ e he hb=>zV _ (E.back i0 _ (Array.getElem?_eq_getElem B6) e he hb)) YP UH
    have hg:ops[i0].guard=none:=by
     unfold zU at Q7;cases SX:ops[i0].guard with
     |none=>rfl
     |some _=>rw [SX]at Q7;cases Q7
    have Su:Region.wanted ops[i0] (yielded ops a.tmps)=true:=by simp [Region.wanted,hg]
    obtain⟨u,VZ,vl⟩:=Ig Q7 (SW (hw.symm.trans Su))
    exact wpAny_first (v:=u) (Array.getElem?_eq_getElem B6) (λ j o cs b hj=>Region.noSelect_spec VD j o cs b hj) (λ c a w hc=>absurd hc (Ih _ _ _)) fuel l a w
     (λ j oj hj lL Xv hn=>Region.free_spec (Array.getElem?_eq_getElem B6) YO j oj hj lL (by
      have hjs:j<ops.size:=(Array.getElem?_eq_some_iff.1 hj).1
      have Ez:i0<=j:=Nat.le_of_not_lt λ aS=>by
       have B7:=zV j aS;unfold On at B7;rw [Array.getD_eq_getD_getElem?,B7]at Xv;cases Xv
      rw [Array.getD_eq_getD_getElem?,List.getElem?_toArray,List.getElem?_append_right (by simpa using Ez),List.getElem?_replicate];simp only [List.length_replicate];rw [if_pos aa];rfl) hn) zW (.inl ⟨Su,VZ⟩) vl
   refine⟨λ my=>(by rw [my]at zW;cases zW),λ i hi=>?_⟩;obtain⟨o,ho,c9,gD⟩:=(mem_ready hl).1 hi
   have Ey:i<ops.size:=by
    rcases Nat.lt_or_ge i ops.size with h|h
    ·exact h
    ·rw [Array.getElem?_eq_none h]at ho;cases ho
   have Xu:=lM E da ho gD;have K4:p<=i:=Nat.le_of_not_lt λ h=>c9 (h1 i h)
   have j9:i<p+n:=by
    rcases Nat.lt_or_ge i (p+n)with h|h
    ·exact h
    ·exfalso
     rcases vj with vj|vj
     ·omega
     ·rcases E.lone (p+n) aa vj i Ey with h3|h3|h3|h3
      ·omega
      ·subst h3
       rcases E.lone (p+n) aa vj i0 B6 with h4|h4|h4|h4
       ·exact O6 (Xu _ h4.2)
       ·omega
       ·omega
       ·exact FP h4.2
      ·exact h2 (p+n) (Nat.le_refl _) (Xu _ h3.2)
      ·omega
   obtain⟨r,hw,SW,YQ⟩:=core i o ho c9 gD K4 j9;unfold wpOp;rw [ho];show(if Region.wanted o (yielded ops a.tmps)=true then _ else _);rw [hw];cases r with
   |true=>rw [if_pos rfl];exact .inl ((SW rfl).wp λ u w' h=>h)
   |false=>rw [if_neg (by simp)];exact YQ rfl
theorem Ij(aw:aO P TY){F:Spec}(hF:b6 P F){ops:Array Oper}{g:List Bool}{C:Nat->List Nat}(E:B5 ops g C){R:Exit->Act->World->Prop}(Ih:∀c a w,¬R (.panic c) a w){K:List AV->ai->Prop}{len:Nat}
  (hR:∀a w,End w0 M0 len K a w->R .normal a w):∀(m p:Nat) (ρ:Env) (M:aX) (a:Act) (w:World) (T:List AV) (S:ai) (l:Array Bool) (fuel:Nat),ops.size - p<=m->p<=ops.size->l.size=ops.size->(∀i,i<ops.size->(On l i↔i<p))->nO C l->DY l<=fuel->
   je TY F ops.toList (g.drop p) (ops.toList.drop p) T S K->St M0 ρ M S w->Tm ρ w M T a->T.length=len->wpAny P .any ops R fuel l a w:=by
 intro m
 induction m with
 |zero=>
  intro p ρ M a w T S l fuel hm hp hl B7 da hu h st tm hlen;have J2:p=ops.size:=aa
  have my:Region.ready .any ops l=[]:=by
   rw [List.eq_nil_iff_forall_not_mem];intro i hi;obtain⟨o,ho,c9,_⟩:=(mem_ready hl).1 hi
   have Ey:i<ops.size:=by
    rcases Nat.lt_or_ge i ops.size with h|h
    ·exact h
    ·rw [Array.getElem?_eq_none h]at ho;cases ho
   exact c9 ((B7 i Ey).2 aa)
  have hd:ops.toList.drop p=[]:=List.drop_of_length_le (by simp [J2]);rw [hd]at h;have h:K T S:=by cases hg:g.drop p<;>rw [hg]at h<;>exact h
  have hq:=hR a w ⟨ρ,M,T,S,h,st,tm,hlen⟩;cases fuel with
  |zero=>exact⟨my,hq⟩
  |succ fuel=>exact⟨λ _=>hq,λ i hi=>(by rw [my]at hi;cases hi)⟩
 |succ m ih=>
  intro p ρ M a w T S l fuel hm hp hl B7 da hu h st tm hlen
  by_cases J2:p=ops.size
  ·exact ih p ρ M a w T S l fuel aa hp hl B7 da hu h st tm hlen
  have J2:p<ops.size:=aa;have YR:¬On l p:=λ hh=>absurd ((B7 p J2).1 hh) (Nat.lt_irrefl _);obtain⟨n,T',S',Bs,g1,g2,g3,g4,g5,g6,g7,g8,g9,g10,g11⟩:=Gg aw hF E.K2 (ops.toList.drop p) (g.drop p) p rfl h;have V0:(ops.toList.drop p).length=ops.size - p:=by simp
  have vj:p+n=ops.size\/g[p+n]? =some true:=by
   rcases g2 with g2|g2
   ·exact .inl aa
   ·rw [List.getElem?_drop]at g2
    exact .inr g2
  rw [List.drop_drop,List.drop_drop]at g3
  by_cases hn:n=0
  ·subst hn
   have hg:g[p]? =some true:=by
    rcases vj with vj|vj
    ·omega
    ·exact vj
   have tz:p<g.length:=by
    rcases Nat.lt_or_ge p g.length with h'|h'
    ·exact h'
    ·rw [List.getElem?_eq_none h']at hg;cases hg
   have Xw:g[p]=true:=by rw [List.getElem?_eq_getElem tz]at hg;exact Option.some.inj hg
   have ho:ops[p]? =some ops[p]:=Array.getElem?_eq_getElem J2;have e1:g.drop p=true::g.drop (p+1):=by rw [List.drop_eq_getElem_cons tz,Xw]
   have e2:ops.toList.drop p=ops[p]::ops.toList.drop (p+1):=by rw [List.drop_eq_getElem_cons (by simpa using J2),Array.getElem_toList]
   rw [e1,e2]at h;simp only [vh,rL]at h;cases fuel with
   |zero=>exact absurd (p6 (i:=p) (Nat.le_zero.1 hu) aa) YR
   |succ fuel=>
    have K6:p∈Region.ready .any ops l:=(mem_ready hl).2 ⟨_,ho,YR,λ e he hb=>by
     have:=E.back p _ ho e he hb;exact(B7 e.on aa).2 this⟩
    refine⟨λ my=>(by rw [my]at K6;cases K6),λ i hi=>?_⟩;obtain⟨o,Xx,c9,gD⟩:=(mem_ready hl).1 hi
    have Ey:i<ops.size:=by
     rcases Nat.lt_or_ge i ops.size with h|h
     ·exact h
     ·rw [Array.getElem?_eq_none h]at Xx;cases Xx
    have K4:i=p:=by
     rcases E.lone p J2 (by simp [List.getD,hg]) i Ey with h3|h3|h3|h3
     ·exact absurd ((B7 i Ey).2 h3.1) c9
     ·exact h3
     ·exact absurd (lM E da Xx gD p h3.2) YR
     ·exact absurd ((B7 i Ey).2 h3.1) c9
    subst K4;refine lK (K:=λ T S=>je TY F ops.toList (g.drop (i+1)) (ops.toList.drop (i+1)) T S K) aw hF ho h st tm λ a w ⟨ρ',M',T',S',h1,h2,h3,h4⟩=>?_;have bL:i<l.size:=aa;refine ih (i+1) ρ' M' a w T' S' _ fuel aa aa (by simp [hl]) (λ j hj=>?_) (vi E da bL Xx gD) (by have:=nN bL c9;omega) h1 h2 h3 (h4.trans hlen);rw [mV bL,B7 j hj];omega
  ·have UR:p+n<=ops.size:=aa
   refine O5 E Ih UR (vj.imp id λ hh=>by simp [List.getD,hh]) (λ j mB jK=>by
    have:=g11 (j - p) aa;rw [List.getElem?_drop,show p+(j - p)=j by omega]at this;simp [List.getD,this]) g6 g7 (λ ρ' M' a' w' l' fuel' nI YS O8 zX st' tm'=>ih (p+n) ρ' M' a' w' T' S' l' fuel' aa UR nI YS O8 zX g3 st' tm' (g4.trans hlen))
    fuel l ρ M a w S hl (λ i hi=>(B7 i aa).2 hi) (λ i hi hh=>?_) da hu st tm.defers (by rw [g4];exact tm.size) (λ t ht=>(g5 t λ j mB jK=>ht j mB jK λ hh=>?_).rep (tm.tmp t)) (λ k hk=>(g8 k λ j mB jK hd=>hk j mB jK (λ hh=>?_) hd).symm) (λ j k mB jK _ hd hb=>g10 j k mB jK hd hb)
   ·rcases Nat.lt_or_ge i ops.size with h'|h'
    ·have:=(B7 i h').1 hh;omega
    ·unfold On at hh;rw [Array.getElem?_eq_none aa]at hh;cases hh
   ·have:=(B7 j aa).1 hh;omega
   ·have:=(B7 j aa).1 hh;omega
theorem mW{a:Act}:∀{ks:List Nat} {T:List AV} {S:ai} {ρ:Env} {M:aX} {K:List AV->ai->Prop},rN ks T S K->St M0 ρ M S w->Tm ρ w M T a->
  ∃T' S' ρ' M',K T' S'/\St M0 ρ' M' S' w/\Tm ρ' w M' T' a/\T'.length=T.length
 |[],T,S,ρ,M,K,h,st,tm=>⟨T,S,ρ,M,h,st,tm,rfl⟩
 |k::ks,T,S,ρ,M,K,h,st,tm=>by
  simp only [rN]at h;split at h
  ·exact mW h st tm
  ·obtain⟨T1,S1,h1,h2,h3,h4,_,_⟩:=lJ h st tm
   obtain⟨T',S',ρ',M',h5,h6,h7,h8⟩:=mW h1 h2 h3;exact⟨T',S',ρ',M',h5,h6,h7,h8.trans h4⟩
theorem EA(aw:aO P TY){F:Spec}(hF:b6 P F)(hm:P.follows .mixedOrders=true){ops:Array Oper}{g:List Bool}{T:List AV}{K:List AV->ai->Prop}{R:Exit->Act->World->Prop}{a:Act}{id:Nat}
  (aU:Ew ops g=true) (h:rN (makes g ops.toList) T S λ T S=>je TY F ops.toList g ops.toList T S K) (st:St M0 ρ M S w) (tm:Tm ρ w M T a)
  (hR:∀a w,End w0 M0 T.length K a w->R .normal a w):(Code.region id ops true).wp P R a w:=by
 obtain⟨T1,S1,ρ1,M1,h1,st1,tm1,xb⟩:=mW h st tm
 let R':Exit->Act->World->Prop:=λ e a w=>e= .normal/\R .normal a w
 have main:(Code.region id ops true).wp P R' a w:=by
  refine wp_region_any hm ?_;have hs:gk (λ _ _=>False) w { w with drawn:=w.drawn+1 }:=gk.heap _ rfl ⟨⟨rfl,rfl⟩,rfl,Nat.le_succ _⟩;obtain⟨st2,hk⟩:=st1.same (M':=M1) hs (λ _ _ _=>Iff.rfl) (λ b off JJ=>st1.mlt b off JJ);have E:=K3 aU
  have dA:∀i,¬On (Array.replicate ops.size false) i:=λ i hi=>by
   unfold On at hi;rw [Array.getElem?_replicate]at hi;split at hi<;>cases hi
  exact Ij aw hF E (R:=R') (λ c a w hc=>by cases hc.1) (λ a w hE=>⟨rfl,hR a w hE⟩) ops.size 0 ρ1 M1 a _ T1 S1 _ ops.size aa (Nat.zero_le _) (by simp) (λ i _=>⟨λ hi=>absurd hi (dA i),λ hi=>by omega⟩) (λ i hi=>absurd hi (dA i)) (by simp [DY]) (by simpa using h1) st2
   ⟨tm1.defers,tm1.size,λ i=>az.keep hk (λ _ _ h=>h) (tm1.tmp i)⟩ xb
 intro b k cs;obtain⟨e,a',w',⟨rfl,h1⟩,h2⟩:=main b k cs;exact⟨_,a',w',h1,h2⟩
end
end Go.AM
end
section
namespace Go.AM
open Go
section
variable{P:Program}{TY:List cP}{w0 w:World}{M0:ef w0}{ρ:Env}{M:aX}{S S0:ai}{d:Nat}
theorem EB(aw:aO P TY){F:Spec}{o:Oper}{T:List AV}{K:AV->Option dH->Prop}(hp:B8 o=true)(h:qK TY F d o.op T S0 K):
  ∃v,K v none/\∀(ρ:Env) (w:World) (M:aX) (e:Operand->Value),St M0 ρ M S0 w->(∀x∈o.op.operands,az ρ w M (aP T x) (e x))->∃u,(∀w',(execOp e o).run P w'= .ok (.value u) w')/\az ρ w M v u:=by
 unfold B8 at hp;rw [Bool.and_eq_true]at hp;obtain⟨_,hp⟩:=hp;split at hp
 ·rename_i x ho
  rw [ho]at h;simp only [qK,aB]at h;exact⟨_,h,λ ρ w M e _ he=>⟨e x,λ w'=>by simp [execOp,ho],he x (by rw [ho];simp [Op.operands])⟩⟩
 ·rename_i x ho
  rw [ho]at h;simp only [qK,aB]at h;exact⟨_,h,λ ρ w M e _ he=>⟨e x,λ w'=>by simp [execOp,ho],he x (by rw [ho];simp [Op.operands])⟩⟩
 ·rename_i t x lo hi ho
  rw [ho]at h;simp only [qK,aB]at h;split at h
  ·rename_i r hx
   rw [al,bS]at h;obtain⟨aU,h⟩:=h;obtain⟨l,h,hl⟩:=K7 h;obtain⟨m,h,hm⟩:=rH h;obtain⟨⟨⟨h0,h1⟩,h2⟩,h⟩:=h;obtain⟨r',hK,g1,g2,g3⟩:=gv h aa aa;obtain⟨e',iw,hu,oz,aI⟩:=bT aw aU;refine⟨_,hK,λ ρ w M e _ he=>?_⟩;have cX:=he x (by rw [ho];simp [Op.operands]);rw [hx]at cX;obtain⟨h5,a,cap,hv,dT,h6⟩:=cX;refine⟨.slice (if cap=l.toNat then a else a.map (·.add (l.toNat*r.sz))) (m.toNat - l.toNat) (cap - l.toNat),λ w'=>?_,?_⟩
   ·have b7:(underlying t).run P w'= .ok (.slice e') w':=by simp [underlying,hu]
    have hb:=gu (P:=P) (ρ:=ρ) (w:=w') (M:=M) (T:=T) (e:=e) (l:=l) (h:=m) dT hl hm (λ y hy=>by
     have q9:=he y (by rw [ho];rcases hy with rfl|rfl<;>simp [Op.operands]);rcases hy with hy|hy
     ·rcases hl with ⟨hl,_⟩|⟨z,k,hl,hz⟩
      ·rw [hl]at hy;cases hy
      ·rw [hl]at hy;cases hy;rw [hz]at q9 ⊢;exact q9
     ·rcases hm with ⟨hm,_⟩|⟨z,k,hm,hz⟩
      ·rw [hm]at hy;cases hy
      ·rw [hm]at hy;cases hy;rw [hz]at q9 ⊢;exact q9) h0 h1 h2
    simp [execOp,ho,hv,Instr.sliceAt,b7,Instr.slice,hb,aI.size,oz]
   ·refine⟨by rw [g1];simp only [LB]at h5 ⊢;omega,_,_,by rw [g1],by rw [g1];omega,?_⟩
    rcases Nat.eq_zero_or_pos r'.cells with h7|h7
    ·exact .inl h7
    ·have hlen:0<r'.len:=by
      rcases Nat.eq_zero_or_pos r'.len with h8|h8
      ·simp [RO.cells,h8]at h7
      ·exact h8
     rw [g1]at hlen;rcases h6 with h6|⟨b,off,rfl,h6⟩
     ·have:=r.eW
      have:0<r.cells:=Nat.mul_pos aa this;omega
     ·refine .inr ⟨b,off+l.toNat*r.sz,?_,λ q hq=>?_⟩
      ·rw [if_neg aa];simp [aQ]
      ·have aS:l.toNat*r.sz+q<r.cells:=by
        have h8:r'.cells=(m.toNat - l.toNat)*r.sz:=by simp [RO.cells,g1,g2]
        have h9:l.toNat*r.sz+(m.toNat - l.toNat)*r.sz=m.toNat*r.sz:=by rw [<-Nat.add_mul];congr 1;omega
        have cu:m.toNat*r.sz<=r.len*r.sz:=Nat.mul_le_mul_right _ aa;simp only [RO.cells]at h8 hq ⊢;omega
       obtain⟨c,h8,h9,cu⟩:=h6 _ aS;rw [<-Nat.add_assoc]at h8 h9;exact⟨c,h8,h9,g3 w M q c hq cu⟩
  ·exact h.elim
 ·rename_i t x f ho
  rw [ho]at h;simp only [qK,aB]at h;split at h
  ·rename_i k off fs hx hd
   split at h
   ·rename_i lb JO
    split at h
    ·rename_i o' u' oD
     split at h
     ·rename_i hz
      obtain⟨F',hu,tq⟩:=de aw hd;have hg:=b9 oD;rw [tq,List.getElem?_map]at hg;cases hF:F'.toList[f]? with
      |none=>rw [hF]at hg;cases hg
      |some g=>
       rw [hF]at hg;cases hg;rw [Array.getElem?_toList]at hF;have aI:=aw.at (t:=g.type) (.inl (λ e=>by rw [e]at hz;cases hz));refine⟨_,h,λ ρ w M e st he=>?_⟩;have h1:=he x (by rw [ho];simp [Op.operands]);rw [hx]at h1;have h1:(ρ k).bind (bY.ref · off)=some (e x):=h1;obtain⟨b,h3,_⟩:=st.aW k _ JO;have h2:=rO h3 h1;refine⟨.pointer (some ⟨b,off+g.offset,none⟩),λ w'=>?_,B9 _ h3⟩;have b7:(underlying t).run P w'= .ok (.struct F') w':=by simp [underlying,hu]
       have bk:=aI.size w';have bm:(aq TY g.type).sz≠0:=λ e=>by rw [e]at hz;cases hz
       simp [execOp,ho,h2,Instr.fieldAt,b7,hF,Instr.sureAddr,fieldPlace,bk,bm,aQ]
     ·exact h.elim
    ·exact h.elim
   ·exact h.elim
  ·rename_i k i fs hx hd
   split at h
   ·rename_i o' u' oD
    split at h
    ·rename_i hz
     obtain⟨F',hu,tq⟩:=de aw hd;have hg:=b9 oD;rw [tq,List.getElem?_map]at hg;cases hF:F'.toList[f]? with
     |none=>rw [hF]at hg;cases hg
     |some g=>
      rw [hF]at hg;cases hg;rw [Array.getElem?_toList]at hF;have aI:=aw.at (t:=g.type) (.inl (λ e=>by rw [e]at hz;cases hz));refine⟨_,h,λ ρ w M e st he=>?_⟩;have h1:=he x (by rw [ho];simp [Op.operands]);rw [hx]at h1;obtain⟨o2,b,g1,g2,g3,g4,g5⟩:=h1;refine⟨.pointer (some ⟨b,i.toNat*o2.sz+g.offset,none⟩),λ w'=>?_,o2,b,g1,g2,g3,g4,rfl⟩;have b7:(underlying t).run P w'= .ok (.struct F') w':=by simp [underlying,hu]
      have bk:=aI.size w';have bm:(aq TY g.type).sz≠0:=λ e=>by rw [e]at hz;cases hz
      simp [execOp,ho,g5,Instr.fieldAt,b7,hF,Instr.sureAddr,fieldPlace,bk,bm,aQ]
    ·exact h.elim
   ·exact h.elim
  ·exact h.elim
 ·rename_i x ho
  rw [ho]at h;simp only [qK,aB]at h;split at h
  ·rename_i k off hx
   refine⟨_,h,λ ρ w M e _ he=>?_⟩;have:=he x (by rw [ho];simp [Op.operands]);rw [hx]at this;have h1:(ρ k).bind (bY.ref · off)=some (e x):=this;obtain⟨b,⟨_,h2⟩|⟨_,h2⟩⟩:=vm h1
   ·exact⟨e x,λ w'=>by simp [execOp,ho,h2],h1⟩
   ·exact⟨e x,λ w'=>by simp [execOp,ho,h2],h1⟩
  ·rename_i f l hx
   refine⟨_,h,λ ρ w M e _ he=>?_⟩;have:=he x (by rw [ho];simp [Op.operands]);rw [hx]at this;obtain⟨cs,h1,h2⟩:=this;exact⟨e x,λ w'=>by simp [execOp,ho,h1],cs,h1,h2⟩
  ·rename_i k i hx
   refine⟨_,h,λ ρ w M e _ he=>?_⟩;have:=he x (by rw [ho];simp [Op.operands]);rw [hx]at this;obtain⟨o,b,h1,h2,h3,h4,h5⟩:=this;exact⟨e x,λ w'=>by simp [execOp,ho,h5],o,b,h1,h2,h3,h4,h5⟩
  ·rename_i r i hx
   refine⟨_,h,λ ρ w M e _ he=>?_⟩;have:=he x (by rw [ho];simp [Op.operands]);rw [hx]at this;obtain⟨b,off,cap,h1,h2,h3,h4⟩:=this;exact⟨e x,λ w'=>by simp [execOp,ho,h4],b,off,cap,h1,h2,h3,h4⟩
  ·exact h.elim
 ·cases hp
theorem rP{ops:Array Oper}{l:Array Bool}{i:Nat}(h:i∈Region.ready .any ops l):∃o,ops[i]? =some o/\ops.toList.getD i default=o/\l.getD i true=false:=by
 obtain⟨h0,o,ho,_⟩:=Go.mem_ready.1 h;exact⟨o,ho,by simp [List.getD,ho],h0⟩
theorem zY{l:Array Bool}{i:Nat}(h:l.getD i true=false):i<l.size/\¬On l i:=by
 rw [Array.getD_eq_getD_getElem?]at h;unfold On;cases hh:l[i]? with
 |none=>rw [hh]at h;cases h
 |some b=>
  rw [hh]at h;have h:b=false:=h;subst h;refine⟨?_,by simp⟩;rcases Nat.lt_or_ge i l.size with h'|h'
  ·exact h'
  ·rw [Array.getElem?_eq_none h']at hh;cases hh
theorem p7:∀{st:List (List AV × ai)} {n:Nat} {K:List AV->ai->Prop},V1 st n K->∃T S,st[n]? =some (T,S)/\K T S
 |[],_,_,h=>h.elim
 |(T,S)::_,0,_,h=>⟨T,S,rfl,h⟩
 |_::l,n+1,_,h=>by
  obtain⟨T,S,h1,h2⟩:=p7 (st:=l) h;exact⟨T,S,by simpa using h1,h2⟩
theorem vn{F:Spec}{ops:List Oper}{sts:List (List AV × ai)}{K:List AV->ai->Prop}:∀{N:List (Nat × List (Nat × Nat))} {k n:Nat},O9 TY F ops sts K N k->n<N.length->
  V1 sts (k+n) λ T S=>match (dX N n).2 with|[]=>K T S|nx=>K8 TY F ops sts T S nx
 |[],_,_,_,hn=>absurd hn (Nat.not_lt_zero _)
 |_::_,k,0,h,_=>h.1
 |_::N,k,n+1,h,hn=>by
  have:=vn (N:=N) (n:=n) h.2 (by simpa using hn);rw [show k+1+n=k+(n+1) by omega]at this;exact this
theorem Ca{F:Spec}{ops:List Oper}{sts:List (List AV × ai)}{T:List AV}{S:ai}:∀{l:List (Nat × Nat)} {e:Nat × Nat},K8 TY F ops sts T S l->e∈l->
  (match ops.getD e.1 default with
  |o=>fM ops o.guard T
   (λ T=>dN o.dst λ d=>NT TY F d o.op T S λ v T S=>iL o.dst T v λ T=>Ik sts e.2 T S)
   (λ T=>iL o.dst T (.cC []) λ T=>Ik sts e.2 T S))
 |_::_,_,h,hm=>by
  rcases List.mem_cons.1 hm with rfl|hm
  ·exact h.1
  ·exact Ca h.2 hm
theorem Il(aw:aO P TY){F:Spec}(hF:b6 P F){ops:Array Oper}{N:List (Nat × List (Nat × Nat))}{sts:List (List AV × ai)}{l0:Array Bool}(aU:Gi ops N l0=true){R:Exit->Act->World->Prop}{K:List AV->ai->Prop}{len:Nat}
  (hR:∀a w,End w0 M0 len K a w->R .normal a w) (h:O9 TY F ops.toList sts K N 0):∀(fuel n:Nat) (ρ:Env) (M:aX) (a:Act) (w:World) (T:List AV) (S:ai),n<N.length->DY (jf ops.size (dX N n).1)<=fuel->sts[n]? =some (T,S)->
   St M0 ρ M S w->Tm ρ w M T a->T.length=len->wpAny P .any ops R fuel (jf ops.size (dX N n).1) a w:=by
 simp only [Gi,Bool.and_eq_true]at aU;have bX:=List.all_eq_true.1 aU.2;have bk:∀m,(jf ops.size m).size=ops.size:=λ m=>by simp [jf]
 have node:∀n,n<N.length->(∀i∈Region.ready .any ops (jf ops.size (dX N n).1),∃e∈(dX N n).2,e.1=i)/\∀e∈(dX N n).2,e.1∈Region.ready .any ops (jf ops.size (dX N n).1)/\e.2<N.length/\jf ops.size (dX N e.2).1=(jf ops.size (dX N n).1).setIfInBounds e.1 true:=λ n hn=>by
  have h1:=bX n (List.mem_range.2 hn);simp only [Bool.and_eq_true]at h1;refine⟨λ i hi=>?_,λ e he=>?_⟩
  ·obtain⟨e,he,h2⟩:=List.any_eq_true.1 (List.all_eq_true.1 h1.1 i hi)
   exact⟨e,he,beq_iff_eq.1 h2⟩
  ·have h2:=List.all_eq_true.1 h1.2 e he
   simp only [Bool.and_eq_true]at h2;exact⟨List.contains_iff_mem.1 h2.1.1,of_decide_eq_true h2.1.2,beq_iff_eq.1 h2.2⟩
 have leaf:∀n T S,n<N.length->sts[n]? =some (T,S)->(dX N n).2=[]->K T S:=λ n T S hn hs he=>by
  obtain⟨T',S',h1,h2⟩:=p7 (vn h hn);rw [Nat.zero_add,hs]at h1;cases h1;rw [he]at h2;exact h2
 intro fuel
 induction fuel with
 |zero=>
  intro n ρ M a w T S hn hu hs st tm hlen
  have my:Region.ready .any ops (jf ops.size (dX N n).1)=[]:=by
   rw [List.eq_nil_iff_forall_not_mem];intro i hi;obtain⟨o,ho,c9,_⟩:=(mem_ready (bk _)).1 hi
   have Ey:i<ops.size:=by
    rcases Nat.lt_or_ge i ops.size with h|h
    ·exact h
    ·rw [Array.getElem?_eq_none h]at ho;cases ho
   exact c9 (p6 aa (by rw [bk];exact Ey))
  have p8:(dX N n).2=[]:=by
   rw [List.eq_nil_iff_forall_not_mem];intro e he;have:=((node n hn).2 e he).1;rw [my]at this;cases this
  exact⟨my,hR a w ⟨ρ,M,T,S,leaf n T S hn hs p8,st,tm,hlen⟩⟩
 |succ fuel ih=>
  intro n ρ M a w T S hn hu hs st tm hlen;refine⟨λ my=>?_,λ i hi=>?_⟩
  ·have p8:(dX N n).2=[]:=by
    rw [List.eq_nil_iff_forall_not_mem];intro e he;have:=((node n hn).2 e he).1;rw [my]at this;cases this
   exact hR a w ⟨ρ,M,T,S,leaf n T S hn hs p8,st,tm,hlen⟩
  ·obtain⟨e,he,rfl⟩:=(node n hn).1 i hi
   obtain⟨hr,hm,xW⟩:=(node n hn).2 e he;obtain⟨o,ho,hd,h0⟩:=rP hr;obtain⟨bL,c9⟩:=zY h0;obtain⟨T',S',h1,h2⟩:=p7 (vn h hn);rw [Nat.zero_add,hs]at h1;cases h1
   have h2:K8 TY F ops.toList sts T S (dX N n).2:=by
    cases p8:(dX N n).2 with
    |nil=>rw [p8]at he;cases he
    |cons x l=>rw [p8]at h2;exact h2
   have h3:=Ca h2 he;simp only [hd,rL]at h3;refine lK (K:=λ T S=>Ik sts e.2 T S) aw hF ho h3 st tm λ a w ⟨ρ',M',T',S',q1,q2,q3,q4⟩=>?_;obtain⟨T2,S2,q5,q6,q7⟩:=p7 q1;subst q6;subst q7;rw [<-xW];exact ih e.2 ρ' M' a w T' S' hm (by rw [xW];have:=nN bL c9;omega) q5 q2 q3 (q4.trans hlen)
theorem nP(aw:aO P TY){F:Spec}(hF:b6 P F){ops:Array Oper}(uG:Region.noSelect ops=true){R:Exit->Act->World->Prop}(Ih:∀c a w,¬R (.panic c) a w){K:List AV->ai->Prop}{len:Nat}
  (hR:∀a w,End w0 M0 len K a w->R .normal a w):∀(t:Gf) (c:Bool) (l:Array Bool) (fuel:Nat) (ρ:Env) (M:aX) (a:Act) (w:World) (T:List AV) (S:ai),p9 ops t l c=true->l.size=ops.size->DY l<=fuel->
   p5 TY F ops.toList t T S K->St M0 ρ M S w->Tm ρ w M T a->T.length=len->
   (c=false->wpAny P .any ops R fuel l a w)/\∀i∈t.Gj,i∈Region.ready .any ops l->∀f,fuel=f+1->wpOp P ops R i (wpAny P .any ops R f (l.setIfInBounds i true)) a w
 |.done,c,l,fuel,ρ,M,a,w,T,S,aU,hl,hu,h,st,tm,hlen=>by
  simp only [p9,Bool.and_eq_true,List.isEmpty_iff]at aU;refine⟨λ _=>?_,λ i hi=>by cases hi⟩;have hq:=hR a w ⟨ρ,M,T,S,h,st,tm,hlen⟩;cases fuel with
  |zero=>exact⟨aU.2,hq⟩
  |succ fuel=>exact⟨λ _=>hq,λ i hi=>by rw [aU.2]at hi;cases hi⟩
 |.no,c,l,fuel,ρ,M,a,w,T,S,aU,hl,hu,h,st,tm,hlen=>by
  have aU:c=true:=aU;exact⟨λ hc=>(by rw [hc]at aU;cases aU),λ i hi=>(by cases hi)⟩
 |.SY,c,l,fuel,ρ,M,a,w,T,S,aU,hl,hu,h,st,tm,hlen=>by cases aU
 |.Xy N,c,l,fuel,ρ,M,a,w,T,S,aU,hl,hu,h,st,tm,hlen=>by
  simp only [p9,Bool.and_eq_true]at aU;have hd:=aU.2;simp only [Gi,Bool.and_eq_true]at hd;have h0:jf ops.size (dX N 0).1=l:=beq_iff_eq.1 hd.1.2;obtain⟨sts,he,h⟩:=h;obtain⟨T',S',q1,q2,q3⟩:=p7 he;subst q2;subst q3;refine⟨λ _=>?_,λ i hi=>by cases hi⟩;rw [<-h0];exact Il aw hF aU.2 hR h fuel 0 ρ M a w T S (of_decide_eq_true hd.1.1) (by rw [h0];exact hu) q1 st tm hlen
 |.fst i s,c,l,fuel,ρ,M,a,w,T,S,aU,hl,hu,h,st,tm,hlen=>by
  simp only [p9,Bool.and_eq_true]at aU;obtain⟨⟨⟨⟨_,hp⟩,hr⟩,sF⟩,hs⟩:=aU;refine⟨λ _=>?_,λ i hi=>by cases hi⟩;have hr:i∈Region.ready .any ops l:=List.contains_iff_mem.1 hr;obtain⟨o,ho,hd,h0⟩:=rP hr;obtain⟨bL,c9⟩:=zY h0;rw [ho]at hp;have hp:B8 o=true:=hp
  have hg:o.guard=none:=by
   unfold B8 at hp;cases SX:o.guard with
   |none=>rfl
   |some _=>rw [SX]at hp;cases hp
  simp only [p5,hd,fM,hg,rL]at h;obtain⟨v,hK,hv⟩:=EB aw hp h;obtain⟨u,aK,bc⟩:=hv ρ w M a.eval st (λ x _=>aY tm x);obtain⟨T2,h2,h3,h4⟩:=tm.put bc hK;have xf:=nN bL c9;cases fuel with
  |zero=>omega
  |succ f=>
   refine wpAny_first (v:=u) ho (λ j o cs b hj=>Region.noSelect_spec uG j o cs b hj) (λ c a w hc=>absurd hc (Ih _ _ _)) f l a w (λ j oj hj lL Xv hn=>Region.free_spec ho sF j oj hj lL Xv hn) hr (.inl ⟨by simp [Region.wanted,hg],aK⟩) ?_;exact(nP aw hF uG Ih hR s false _ f ρ M _ w T2 S hs (by simp [hl]) aa h2 st h4 (h3.trans hlen)).1 rfl
 |.br i s r,c,l,fuel,ρ,M,a,w,T,S,aU,hl,hu,h,st,tm,hlen=>by
  simp only [p9,Bool.and_eq_true,Bool.or_eq_true]at aU;obtain⟨⟨⟨Im,hr⟩,hs⟩,uA⟩:=aU;have hr:i∈Region.ready .any ops l:=List.contains_iff_mem.1 hr;obtain⟨o,ho,hd,h0⟩:=rP hr;obtain⟨bL,c9⟩:=zY h0;have xf:=nN bL c9;simp only [p5,hd,rL]at h;obtain⟨hi,hrK⟩:=h
  have hbr:∀j∈Gf.Gj (.br i s r),j∈Region.ready .any ops l->∀f,fuel=f+1->wpOp P ops R j (wpAny P .any ops R f (l.setIfInBounds j true)) a w:=by
   intro j hj hjr f hf;rcases List.mem_cons.1 hj with rfl|hj
   ·refine lK (K:=λ T S=>p5 TY F ops.toList s T S K) aw hF ho hi st tm λ a w ⟨ρ',M',T',S',h1,h2,h3,h4⟩=>?_
    exact(nP aw hF uG Ih hR s false _ f ρ' M' a w T' S' hs (by simp [hl]) aa h1 h2 h3 (h4.trans hlen)).1 rfl
   ·exact(nP aw hF uG Ih hR r true l fuel ρ M a w T S uA hl hu hrK st tm hlen).2 j hj hjr f hf
  refine⟨λ hc=>?_,hbr⟩;rcases Im with Im|⟨bm,Im⟩
  ·rw [hc]at Im;cases Im
  ·cases fuel with
   |zero=>omega
   |succ f=>
    refine⟨λ my=>(by rw [my]at hr;cases hr),λ j hj=>hbr j ?_ hj f rfl⟩;exact List.contains_iff_mem.1 (List.all_eq_true.1 Im j hj)
theorem yb(aw:aO P TY){F:Spec}{ops:Array Oper}{K:List AV->ai->Prop}{len:Nat}{Q:Act->Prop}:∀{l:List Oper} {T:List AV} {a:Act},(∀o∈l,o.guard.isNone=true/\(bP o.op&& !lI o.op)=true)->Pa TY F l T S K->St M0 ρ M S w->Tm ρ w M T a->T.length=len->
  (∀a,End w0 M0 len K a w->Q a)->wpStill P ops w Q l a
 |[],T,a,_,h,st,tm,hlen,hQ=>hQ a ⟨ρ,M,T,S,h,st,tm,hlen⟩
 |o::l,T,a,ho,h,st,tm,hlen,hQ=>by
  obtain⟨hg,hq⟩:=ho o (List.mem_cons_self ..);rw [Io,rL]at h;obtain⟨v,B,hB,_,hr⟩:=tR aw (by rw [Bool.and_eq_true]at hq;exact hq.1) h;cases B with
  |some _=>exact hB.elim
  |none=>
   obtain⟨u,aK,bc⟩:=hr hq rfl w0 M0 ρ w M S a.eval o rfl (JK.refl S) st (λ x _=>aY tm x);obtain⟨T2,h2,h3,h4⟩:=tm.put bc hB;have hg:o.guard=none:=by cases SX:o.guard with|none=>rfl|some _=>rw [SX]at hg;cases hg
   unfold wpStill;rw [if_pos (by simp [Region.wanted,hg])];unfold Oper.still;rw [aK,Oper.stillUpon_value];exact yb aw (λ o oD=>ho o (List.mem_cons_of_mem _ oD)) h2 st h4 (h3.trans hlen) hQ
theorem zZ(aw:aO P TY){F:Spec}(hF:b6 P F)(hm:P.follows .mixedOrders=true){ops:Array Oper}{t:Gf}{T:List AV}{K:List AV->ai->Prop}{R:Exit->Act->World->Prop}{a:Act}{id:Nat}
  (aU:EC ops t=true) (h:p5 TY F ops.toList t T S K) (st:St M0 ρ M S w) (tm:Tm ρ w M T a)
  (hR:∀a w,End w0 M0 T.length K a w->R .normal a w):(Code.region id ops true).wp P R a w:=by
 have hs:gk (λ _ _=>False) w { w with drawn:=w.drawn+1 }:=gk.heap _ rfl ⟨⟨rfl,rfl⟩,rfl,Nat.le_succ _⟩;obtain⟨st2,hk⟩:=st.same (M':=M) hs (λ _ _ _=>Iff.rfl) (λ b off JJ=>st.mlt b off JJ);simp only [EC,Bool.or_eq_true,Bool.and_eq_true]at aU;rcases aU with ⟨ht,aU⟩|aU
 ·have ht:t= .SY:=by cases t<;>first|rfl|cases ht
  subst ht;simp only [Rl,Bool.and_eq_true]at aU
  exact wp_region_still hm aU.1 (yb aw (λ o ho=>by
   have:=List.all_eq_true.1 aU.2 o ho;simp only [Bool.and_eq_true,Bool.not_eq_true']at this;exact⟨this.1.1,by simp only [this.1.2,this.2,Bool.not_false,Bool.and_self]⟩) h st2 ⟨tm.defers,tm.size,λ i=>az.keep hk (λ _ _ h=>h) (tm.tmp i)⟩ rfl λ a hE=>hR _ _ hE)
 let R':Exit->Act->World->Prop:=λ e a w=>e= .normal/\R .normal a w
 have main:(Code.region id ops true).wp P R' a w:=wp_region_any hm
  ((nP aw hF aU.1 (R:=R') (λ c a w hc=>by cases hc.1) (K:=K) (len:=T.length) (λ a w hE=>⟨rfl,hR a w hE⟩) t false _ ops.size ρ M a _ T S aU.2 (by simp) (by simp [DY]) h st2
    ⟨tm.defers,tm.size,λ i=>az.keep hk (λ _ _ h=>h) (tm.tmp i)⟩ rfl).1 rfl)
 intro b k cs;obtain⟨e,a',w',⟨rfl,h1⟩,h2⟩:=main b k cs;exact⟨_,a',w',h1,h2⟩
end
end Go.AM
end
section
namespace Go.AM
open Go
section
variable{P:Program}{TY:List cP}{w0 w:World}{M0:ef w0}{ρ:Env}{M:aX}{S S':ai}
theorem o3{W:List Nat}:∀{T:List AV} {i:Nat} {K:List AV->Prop},tV W i T K->∃T',K T'/\T'.length=T.length/\∀j,nth T' j=nth T j\/nth T' j= .any
 |[],_,_,h=>⟨[],h,rfl,λ _=>.inl rfl⟩
 |a::T,i,K,h=>by
  obtain⟨T',h1,h2,h3⟩:=o3 (T:=T) h;cases hm:SZ i W with
  |true=>
   rw [hm]at h1;exact⟨_,h1,by simp [h2],λ j=>by cases j with|zero=>exact .inr rfl|succ j=>exact h3 j⟩
  |false=>
   rw [hm]at h1;exact⟨_,h1,by simp [h2],λ j=>by cases j with|zero=>exact .inl rfl|succ j=>exact h3 j⟩
theorem Gk:∀{U:List (Nat × AV)} {T:List AV} {K:List AV->Prop},oc U T K->∃T',K T'/\T'.length=T.length/\∀j,nth T' j=nth T j\/∃v,(j,v)∈U/\nth T' j=v
 |[],T,K,h=>⟨T,h,rfl,λ _=>.inl rfl⟩
 |(i,v)::U,T,K,h=>by
  simp only [oc,fN]at h;obtain⟨T',h1,h2,h3⟩:=Gk h;refine⟨T',h1,by rw [h2];simp,λ j=>?_⟩;rcases h3 j with h4|⟨u,h4,h5⟩
  ·rw [h4,iK]
   split
   ·rename_i hj;obtain⟨rfl,_⟩:=hj;exact .inr ⟨v,by simp,rfl⟩
   ·exact .inl rfl
  ·exact .inr ⟨u,List.mem_cons_of_mem _ h4,h5⟩
theorem Gl{T:List AV}:∀{U:List (Nat × AV)},US S S' T U->∀{i:Nat} {v:AV},(i,v)∈U->FY S S' (nth T i) v
 |[],_,_,_,h=>by cases h
 |(j,u)::U,h,i,v,hm=>by
  rcases List.mem_cons.1 hm with he|hm
  ·cases he;exact h.1
  ·exact Gl h.2 hm
theorem vo:∀{V:ai} {S:ai} {K:ai->Prop},mP V S K->∃S',K S'/\∀K',mP V S K'->K' S'
 |[],S,K,h=>⟨S,h,λ _ h=>h⟩
 |(k,b)::V,S,K,h=>by
  simp only [mP]at h;cases hf:aj S k with
  |none=>
   rw [hf]at h;obtain⟨S',h1,h2⟩:=vo h;exact⟨S',h1,λ K' h'=>h2 K' (by simpa only [mP,hf]using h')⟩
  |some B=>
   rw [hf]at h
   have det:∀{S:ai} {K:ai->Prop},ku S k b K->∃S',K S'/\∀K',ku S k b K'->K' S':=by
    intro S
    induction S with
    |nil=>exact λ h=>⟨[],h,λ _ h=>h⟩
    |cons e S ih=>
     intro K h;simp only [ku]at h;cases hb:Nat.beq e.1 k with
     |true=>rw [hb]at h;exact⟨_,h,λ K' h'=>by simpa only [ku,hb]using h'⟩
     |false=>
      rw [hb]at h;obtain⟨S',h1,h2⟩:=ih h;exact⟨_,h1,λ K' h'=>h2 (λ S'=>K' ((e.1,e.2)::S')) (by simpa only [ku,hb]using h')⟩
   obtain⟨S1,h1,h2⟩:=det h;obtain⟨S',h3,h4⟩:=vo h1;exact⟨S',h3,λ K' h'=>h4 K' (h2 _ (by simpa only [mP,hf]using h'))⟩
theorem Pb{U:List (Nat × AV)}:∀{T:List AV} {K:List AV->Prop},oc U T K->∃T',K T'/\∀K',oc U T K'->K' T':=by
 induction U with
 |nil=>exact λ h=>⟨_,h,λ _ h=>h⟩
 |cons e U ih=>
  intro T K h;simp only [oc,fN]at h;obtain⟨T',h1,h2⟩:=ih h;exact⟨T',h1,λ K' h'=>h2 K' (by simpa only [oc,fN]using h')⟩
theorem Pc{T T0 T1:List AV}{U:List (Nat × AV)}{a:Act}(st:St M0 ρ M S w)(tm:Tm ρ w M T a)(hl:T0.length=T.length)(xb:T1.length=T0.length)(hf:∀j,nth T0 j=nth T j\/nth T0 j= .any)
  (hu:∀j,nth T1 j=nth T0 j\/∃v,(j,v)∈U/\nth T1 j=v) (hn:gm S' T0=true) (hU:US S S' T U) (hS:JF S S' S'):
  St M0 (dc S S' ρ) (ec S' ρ M) S' w/\Tm (dc S S' ρ) w (ec S' ρ M) T1 a:=by
 refine⟨zu st hS,tm.defers,by rw [tm.size,<-hl,<-xb],λ i=>?_⟩;rcases hu i with h1|⟨v,h1,h2⟩
 ·rw [h1]
  have h0:az ρ w M (nth T0 i) (a.tmps.getD i undef):=by
   rcases hf i with h2|h2
   ·rw [h2];exact tm.tmp i
   ·rw [h2];trivial
  exact jR (λ k hk hρ=>by rw [st.ga k]at hρ;exact hρ) i hn h0
 ·rw [h2];exact iX st (Gl hU h1) (tm.tmp i)
def vp:EX->Exit
 |.normal=>.normal|.exit i=>.exit i|.ret=>.ret
theorem ED{P:Program}{Q:Exit->Act->World->Prop}{a:Act}{w:World}{c:Code}{X:Type}(I:X->Act->World->Prop)(μ:X->Nat)(x0:X)(ag6:I x0 a w)
  (round:∀x a w,I x a w->c.wp P (Exit.then (λ a' w'=>∃x',I x' a' w'/\μ x'<μ x) Q) a w):(Code.loop c).wp P Q a w:=by
 intro b k cs
 have key:∀n x a w,μ x=n->I x a w->
   ∃e a' w',Q e a' w'/\Arrives P (lone (b.at a (.code c:: .inLoop c::k)) cs w) b k cs e a' w':=by
  intro n
  induction n using Nat.strongRecOn with
  |_ n ih=>
   intro x a w hn hI;obtain⟨e,a₁,w₁,hq,fC⟩:=round x a w hI b (.inLoop c::k) cs;cases e with
   |normal=>
    obtain⟨x',YT,aS⟩:=hq;obtain⟨e₂,a₂,w₂,V2,Cb⟩:=ih (μ x') (hn▸aS) x' a₁ w₁ rfl YT;exact⟨e₂,a₂,w₂,V2,.of_steps (Steps.trans fC (.one step_inLoop)) Cb⟩
   |exit id=>exact⟨_,a₁,w₁,hq,.pass (x:=.inLoop c) rfl (λ _ _=>.inl (by simp)) fC⟩
   |goto l=>exact⟨_,a₁,w₁,hq,.pass (x:=.inLoop c) rfl (λ _ _=>.inl (by simp)) fC⟩
   |ret=>exact⟨_,a₁,w₁,hq,.pass (x:=.inLoop c) rfl (λ _ _=>.inl (by simp)) fC⟩
   |panic ch=>exact⟨_,a₁,w₁,hq,.pass (x:=.inLoop c) rfl (λ _ _=>.inl (by simp)) fC⟩
   |outgrown=>exact⟨_,a₁,w₁,hq,.pass (x:=.inLoop c) rfl (λ _ _=>.inl (by simp)) fC⟩
 obtain⟨e,a',w',hq,fC⟩:=key _ x0 a w rfl ag6;exact⟨e,a',w',hq,.of_steps (.one step_loop) fC⟩
def mX(P:Program)(Q:Exit->Act->World->Prop)(c:Code)(a:Act)(w:World):Prop:=∀(b:Frame) (k:List Item) (cs:List Frame),∃e a' w',Q e a' w'/\Arrives P (lone (b.at a (.code c:: .inLoop c::k)) cs w) b k cs e a' w'
theorem mX.wp{P:Program}{Q:Exit->Act->World->Prop}{a:Act}{w:World}{c:Code}(h:mX P Q c a w):(Code.loop c).wp P Q a w:=by
 intro b k cs;obtain⟨e,a',w',hq,fC⟩:=h b k cs;exact⟨e,a',w',hq,.of_steps (.one step_loop) fC⟩
theorem mX.once{P:Program}{Q:Exit->Act->World->Prop}{a:Act}{w:World}{c:Code}(h:c.wp P (Exit.then (mX P Q c) Q) a w):mX P Q c a w:=by
 intro b k cs;obtain⟨e,a₁,w₁,hq,fC⟩:=h b (.inLoop c::k) cs;cases e with
 |normal=>
  obtain⟨e₂,a₂,w₂,V2,Cb⟩:=hq b k cs;exact⟨e₂,a₂,w₂,V2,.of_steps (Steps.trans fC (.one step_inLoop)) Cb⟩
 |exit id=>exact⟨_,a₁,w₁,hq,.pass (x:=.inLoop c) rfl (λ _ _=>.inl (by simp)) fC⟩
 |goto l=>exact⟨_,a₁,w₁,hq,.pass (x:=.inLoop c) rfl (λ _ _=>.inl (by simp)) fC⟩
 |ret=>exact⟨_,a₁,w₁,hq,.pass (x:=.inLoop c) rfl (λ _ _=>.inl (by simp)) fC⟩
 |panic ch=>exact⟨_,a₁,w₁,hq,.pass (x:=.inLoop c) rfl (λ _ _=>.inl (by simp)) fC⟩
 |outgrown=>exact⟨_,a₁,w₁,hq,.pass (x:=.inLoop c) rfl (λ _ _=>.inl (by simp)) fC⟩
theorem Ip{P:Program}{Q:Exit->Act->World->Prop}{c:Code}{X:Type}(I:X->Act->World->Prop)(μ:X->Nat)(round:∀x a w,I x a w->c.wp P (Exit.then (λ a' w'=>∃x',I x' a' w'/\μ x'<μ x) Q) a w):∀(n:Nat) (x:X) (a:Act) (w:World),μ x=n->I x a w->mX P Q c a w:=by
 intro n
 induction n using Nat.strongRecOn with
 |_ n ih=>
  intro x a w hn hI b k cs;obtain⟨e,a₁,w₁,hq,fC⟩:=round x a w hI b (.inLoop c::k) cs;cases e with
  |normal=>
   obtain⟨x',YT,aS⟩:=hq;obtain⟨e₂,a₂,w₂,V2,Cb⟩:=ih (μ x') (hn▸aS) x' a₁ w₁ rfl YT b k cs;exact⟨e₂,a₂,w₂,V2,.of_steps (Steps.trans fC (.one step_inLoop)) Cb⟩
  |exit id=>exact⟨_,a₁,w₁,hq,.pass (x:=.inLoop c) rfl (λ _ _=>.inl (by simp)) fC⟩
  |goto l=>exact⟨_,a₁,w₁,hq,.pass (x:=.inLoop c) rfl (λ _ _=>.inl (by simp)) fC⟩
  |ret=>exact⟨_,a₁,w₁,hq,.pass (x:=.inLoop c) rfl (λ _ _=>.inl (by simp)) fC⟩
  |panic ch=>exact⟨_,a₁,w₁,hq,.pass (x:=.inLoop c) rfl (λ _ _=>.inl (by simp)) fC⟩
  |outgrown=>exact⟨_,a₁,w₁,hq,.pass (x:=.inLoop c) rfl (λ _ _=>.inl (by simp)) fC⟩
theorem vq:∀{W:List Nat} {S:ai} {K:ai->Prop},Cc W S K->∃S',K S'
 |[],S,K,h=>⟨S,h⟩
 |w::W,S,K,h=>by
  simp only [Cc]at h;split at h
  ·obtain⟨S1,h1,_⟩:=gq h
   exact vq h1
  ·exact vq h
theorem bW(aw:aO P TY){F:Spec}(hF:b6 P F)(hm:P.follows .mixedOrders=true):∀(c:Code) {T:List AV} {S:ai} {ρ:Env} {M:aX} {w:World} {a:Act} {Q:EX->List AV->ai->Prop} {R:Exit->Act->World->Prop},
  yc TY F c T S Q->St M0 ρ M S w->Tm ρ w M T a->(∀e a w,End w0 M0 T.length (Q e) a w->R (vp e) a w)->c.wp P R a w
 |.skip,T,S,ρ,M,w,a,Q,R,h,st,tm,hR=>wp_skip (hR .normal a w ⟨ρ,M,T,S,h,st,tm,rfl⟩)
 |.ret,T,S,ρ,M,w,a,Q,R,h,st,tm,hR=>wp_ret (hR .ret a w ⟨ρ,M,T,S,h,st,tm,rfl⟩)
 |.exit id,T,S,ρ,M,w,a,Q,R,h,st,tm,hR=>wp_exit (hR (.exit id) a w ⟨ρ,M,T,S,h,st,tm,rfl⟩)
 |.region id ops false,T,S,ρ,M,w,a,Q,R,h,st,tm,hR=>wp_region (by
   have:=u5 (Q:=R) aw hF (ops:=ops) ops.toList 0 rfl h st tm (λ a w hE=>hR .normal a w hE);rw [List.range_eq_range',<-Array.length_toList];exact this)
 |.region id ops true,T,S,ρ,M,w,a,Q,R,h,st,tm,hR=>by
  rcases h with ⟨g,aU,h⟩|⟨t,aU,h⟩
  ·exact EA aw hF hm aU h st tm (λ a w hE=>hR .normal a w hE)
  ·exact zZ aw hF hm aU h st tm (λ a w hE=>hR .normal a w hE)
 |.seq x y,T,S,ρ,M,w,a,Q,R,h,st,tm,hR=>wp_seq (bW aw hF hm x h st tm λ e a w hE=>by
   obtain⟨ρ',M',T',S',h1,h2,h3,h4⟩:=hE;cases e with
   |normal=>exact bW aw hF hm y h1 h2 h3 λ e a w hE=>hR e a w (by rw [h4]at hE;exact hE)
   |exit i=>exact hR (.exit i) a w ⟨ρ',M',T',S',h1,h2,h3,h4⟩
   |ret=>exact hR .ret a w ⟨ρ',M',T',S',h1,h2,h3,h4⟩)
 |.cond c x y,T,S,ρ,M,w,a,Q,R,h,st,tm,hR=>by
  simp only [yc,aB]at h;have hv:=aY tm c;split at h
  ·rename_i e he
   rw [he]at hv;have hv:a.eval c= .bool e.val:=hv;have h1:=rK h;refine wp_cond hv ?_;cases hb:e.val with
   |true=>rw [hb]at h1;exact bW aw hF hm x h1 st tm hR
   |false=>rw [hb]at h1;exact bW aw hF hm y h1 st tm hR
  ·rename_i t n he
   rw [he]at hv;obtain⟨b,hv,hn⟩:=hv;have hv:a.eval c= .bool b:=hv;refine wp_cond hv ?_;cases t<;>cases b
   ·exact bW aw hF hm y (h.2 (hn rfl)) st tm hR
   ·exact bW aw hF hm x h.1 st tm hR
   ·exact bW aw hF hm y h.2 st tm hR
   ·exact bW aw hF hm x (h.1 (hn rfl)) st tm hR
  ·exact h.elim
 |.block id x,T,S,ρ,M,w,a,Q,R,h,st,tm,hR=>wp_block (bW aw hF hm x h st tm λ e a w hE=>by
   obtain⟨ρ',M',T',S',h1,h2,h3,h4⟩:=hE;cases e with
   |normal=>exact hR .normal a w ⟨ρ',M',T',S',h1,h2,h3,h4⟩
   |ret=>exact hR .ret a w ⟨ρ',M',T',S',h1,h2,h3,h4⟩
   |exit j=>
    simp only [vp,Exit.inBlock];cases hb:Nat.beq j id with
    |true=>
     rw [if_pos (ay.1 hb)];simp only [hb]at h1;exact hR .normal a w ⟨ρ',M',T',S',h1,h2,h3,h4⟩
    |false=>
     rw [if_neg (beq_false hb)];simp only [hb]at h1;exact hR (.exit j) a w ⟨ρ',M',T',S',h1,h2,h3,h4⟩)
 |.scope x,T,S,ρ,M,w,a,Q,R,h,st,tm,hR=>wp_scope_straight (bW aw hF hm x h st tm λ e a w hE=>by
   have:=hR e a w hE;cases e<;>exact this)
 |.loop x,T00,SI0,ρ0,M00,w00,a00,Q,R,JP,st00,tm00,Xz=>by
  have base:∀{T:List AV} {SI:ai} {ρ:Env} {M:aX} {w:World} {a:Act} {W:List Nat},Gm (yc TY F x) (writes x []) W T SI Q->St M0 ρ M SI w->Tm ρ w M T a->(∀e a w,End w0 M0 T.length (Q e) a w->R (vp e) a w)->mX P R x a w:=by
   intro T SI ρ M w a W h st tm hR;unfold Gm at h;obtain⟨S,h⟩:=vq h;obtain⟨T0,h,Gb,hf0⟩:=o3 h;obtain⟨X,U,V,ok,μ,x0,⟨YU,h0⟩,S4⟩:=h
   let I:X->Act->World->Prop:=λ x a w=>ok x/\∃ρ M T1 S1,(∀K,oc (U x) T0 K->K T1)/\(∀K,mP (V x) S K->K S1)/\T1.length=T0.length/\St M0 ρ M S1 w/\Tm ρ w M T1 a
   have enter:∀{x':X} {T2:List AV} {S2:ai} {ρ2:Env} {M2:aX} {w:World} {a:Act},ok x'->St M0 ρ2 M2 S2 w->Tm ρ2 w M2 T2 a->T0.length=T2.length->(∀j,nth T0 j=nth T2 j\/nth T0 j= .any)->
     (mP (V x') S λ S3=>bH (gm S3 T0) (US S2 S3 T2 (U x')/\JF S2 S3 S3))->(∃T1,T1.length=T0.length/\(∀K,oc (U x') T0 K->K T1)/\∀j,nth T1 j=nth T0 j\/∃v,(j,v)∈U x'/\nth T1 j=v)->I x' a w:=by
    intro x' T2 S2 ρ2 M2 w a aU st tm hl hf h ⟨T1,xb,OL,hu⟩;obtain⟨S3,h1,h2⟩:=vo h;rw [al]at h1;obtain⟨g1,g2⟩:=Pc st tm hl xb hf hu h1.1 h1.2.1 h1.2.2;exact⟨aU,_,_,T1,S3,OL,h2,xb,g1,g2⟩
   have tab:∀x',∃T1,T1.length=T0.length/\(∀K,oc (U x') T0 K->K T1)/\∀j,nth T1 j=nth T0 j\/∃v,(j,v)∈U x'/\nth T1 j=v:=by
    intro x'
    have hex:oc (U x') T0 λ _=>True:=by
     have:∀(U:List (Nat × AV)) (T:List AV),oc U T λ _=>True:=by
      intro U
      induction U with
      |nil=>exact λ _=>trivial
      |cons e U ih=>intro T;simp only [oc,fN];exact ih _
     exact this _ _
    obtain⟨T1,_,h2⟩:=Pb hex;obtain⟨T1',h3,h4,h5⟩:=Gk (h2 (λ T=>T=T1) |> λ _=>hex)
    have hlen:=h2 (λ T=>T.length=T0.length/\∀j,nth T j=nth T0 j\/∃v,(j,v)∈U x'/\nth T j=v) (by
     have:∀(U:List (Nat × AV)) (T:List AV) (K:List AV->Prop),(∀T',T'.length=T.length->(∀j,nth T' j=nth T j\/∃v,(j,v)∈U/\nth T' j=v)->K T')->oc U T K:=by
      intro U
      induction U with
      |nil=>exact λ T K h=>h T rfl λ j=>.inl rfl
      |cons e U ih=>
       intro T K h;simp only [oc,fN];refine ih _ _ λ T' h1 h2=>h T' (by rw [h1];simp) λ j=>?_;rcases h2 j with h3|⟨v,h3,h4⟩
       ·rw [h3,iK]
        split
        ·rename_i hj;obtain⟨rfl,_⟩:=hj;exact .inr ⟨e.2,by simp,rfl⟩
        ·exact .inl rfl
       ·exact .inr ⟨v,List.mem_cons_of_mem _ h3,h4⟩
     exact this _ _ _ λ T' h1 h2=>⟨h1,h2⟩)
    exact⟨T1,hlen.1,h2,hlen.2⟩
   have rnd:∀x1 a w,I x1 a w->x.wp P (Exit.then (λ a' w'=>∃x',I x' a' w'/\μ x'<μ x1) R) a w:=λ x1 a w ⟨aU,ρ1,M1,T1,S1,OL,xe,BS,st1,tm1⟩=>by
    have hr:=xe _ (OL _ (S4 x1 aU));refine bW aw hF hm x hr st1 tm1 λ e a w ⟨ρ2,M2,T2,S2,h1,h2,h3,h4⟩=>?_;cases e with
    |normal=>
     obtain⟨T3,h5,hl3,YO⟩:=o3 h1;obtain⟨x',⟨SD,aS⟩,rfl,h6⟩:=h5;exact⟨x',enter SD h2 h3 hl3 YO h6 (tab x'),aS⟩
    |exit i=>exact hR (.exit i) a w ⟨ρ2,M2,T2,S2,h1,h2,h3,by rw [h4,BS,Gb]⟩
    |ret=>exact hR .ret a w ⟨ρ2,M2,T2,S2,h1,h2,h3,by rw [h4,BS,Gb]⟩
   exact Ip I μ rnd _ x0 _ _ rfl (enter YU st tm Gb hf0 h0 (tab x0))
  obtain⟨W,h⟩:=JP;split at h
  ·refine(mX.once (bW aw hF hm x h st00 tm00 λ e a w ⟨ρ2,M2,T2,S2,h1,h2,h3,h4⟩=>?_)).wp
   cases e with
   |normal=>
    obtain⟨W,h1⟩:=h1;exact base h1 h2 h3 λ e a w hE=>Xz e a w (by rw [h4]at hE;exact hE)
   |exit i=>exact Xz (.exit i) a w ⟨ρ2,M2,T2,S2,h1,h2,h3,h4⟩
   |ret=>exact Xz .ret a w ⟨ρ2,M2,T2,S2,h1,h2,h3,h4⟩
  ·exact(base h st00 tm00 Xz).wp
 |.label _,_,_,_,_,_,_,_,_,h,_,_,_=>h.elim
 |.goto _,_,_,_,_,_,_,_,_,h,_,_,_=>h.elim
end
end Go.AM
end
section
namespace Go.AM
open Go
section
variable{P:Program}{TY:List cP}{w0 w:World}{M0:ef w0}{ρ:Env}{M:aX}{S S':ai}
theorem sG{ρ:Env}{a:AV}{v:Value}(hc:rQ a=true):((∀l,a≠.agg l)->(∀l,a≠.cC l)->(∀f l,a≠.fn f l)->az ρ w M a v->az bg w M a v)/\((∀l,a≠.agg l)->ck ρ w M a v->ck bg w M a v)/\(aH ρ w M a v->aH bg w M a v):=by
 cases a with
 |vec k=>cases hc
 |ptr k o=>cases hc
 |dS k o=>cases hc
 |gd k o c=>cases hc
 |gf k o=>cases hc
 |full r=>cases hc
 |agg l=>exact⟨λ h=>absurd rfl (h l),λ h=>absurd rfl (h l),λ hv=>hv.elim⟩
 |cC l=>cases hc
 |fn f l=>
  cases l with
  |nil=>exact⟨λ _ _ h=>absurd rfl (h f []),λ _=>id,id⟩
  |cons x l=>cases hc
 |_=>exact⟨λ _ _ _=>id,λ _=>id,id⟩
theorem sH{ρ:Env}:∀{l:List AV} {vs:List Value},vr l=true->aJ (aH ρ w M) l vs->aJ (aH bg w M) l vs
 |[],[],_,_=>trivial
 |a::l,v::vs,hn,hv=>by
  simp only [vr]at hn;split at hn
  ·rename_i ha;exact⟨(sG ha).2.2 hv.1,sH hn hv.2⟩
  ·cases hn
 |[],_::_,_,hv=>hv.elim
 |_::_,[],_,hv=>hv.elim
def z6(b:AV):Bool:=match b with|.agg m=>vr m|b=>rQ b
theorem mY{a:AV}{l:List AV}(h:jg (a::l)=true):z6 a=true/\jg l=true:=by
 cases a<;>simp only [jg]at h<;>(split at h)<;>first|exact⟨by assumption,h⟩|cases h
theorem Iq(rR:∀b k,hasB ρ k b->w0.heap.size<=b)(st:St M0 ρ M S w){a b:AV}{v:Value}(h:XA S S' a b)(hc:z6 b=true)(hS:∀k B,aj S' k=some B->∃l,B= .box l)(hv:az ρ w M a v)
  (iI:∀k r,a= .vec k->b= .new r->(aj S' k).isSome):kS w0 w (ec S' ρ M) b v:=by
 have hk:=pN S' ρ w M;cases b with
 |new r'=>
  cases a<;>try exact h.elim
  ·rename_i k
   simp only [XA]at h;split at h
   ·rename_i wm r hf
    obtain⟨rfl,rfl⟩:=h;obtain⟨o,h1,h2⟩:=hv;obtain⟨⟨o',g1,g2,g3,g4,g5,g6⟩,_⟩:=st.aW k _ hf;obtain rfl:=cx g1 h1;replace h1:=g1;refine⟨o,h2,⟨by rw [z7];exact g2,by rw [Rm];exact g3,by rw [z7];exact g4,Nat.zero_le _,?_⟩,λ b hb=>rR b k (by simp [hasB,h1,bY.has,hb])⟩;cases fp:o.aW with
    |none=>simp only [fp]at g6 ⊢;rw [z7];exact g6
    |some b=>
     simp only [fp]at g6 ⊢;obtain⟨g7,cs,ty,g8,g9,g10,g11⟩:=g6;refine⟨g7,cs,ty,g8,g9,λ off=>?_,λ q hq=>?_⟩
     ·rw [<-g10 off]
      refine⟨λ hm=>hm.1,λ hm=>⟨hm,λ j hj=>?_⟩⟩;have Ir:hasB ρ k b:=by simp [hasB,h1,bY.has,fp]
      obtain rfl:=st.inj _ _ _ hj Ir;obtain⟨B,hB⟩:=Option.isSome_iff_exists.1 (iI _ _ rfl rfl);obtain⟨l,rfl⟩:=hS _ _ hB;exact⟨_,hB,λ wm r ov he=>by cases he⟩
     ·obtain⟨c,g12,g13⟩:=g11 q (by simpa [RO.cells,z7,Rm]using hq);exact⟨c,g12,Pd (av.keep hk g13)⟩
   ·exact h.elim
  ·have hv:v= .slice none 0 0:=hv
   have h:r'.len=0:=h;exact⟨⟨none,0,0,r'.sz⟩,by rw [hv];rfl,⟨h.symm,rfl,by rw [h];exact Nat.zero_le _,Nat.zero_le _,h,rfl⟩,λ b hb=>by cases hb⟩
 |agg m=>
  have h:FY S S' a (.agg m):=h;obtain⟨cs,h1,h2⟩:=iX st h hv;exact⟨cs,h1,sH hc h2⟩
 |cC m=>cases hc
 |fn f m=>
  cases m with
  |cons=>cases hc
  |nil=>
   have h:FY S S' a (.fn f []):=h;obtain⟨cs,h1,h2⟩:=iX st h hv
   have:cs= #[]:=by
    obtain⟨l⟩:=cs;cases l with
    |nil=>rfl
    |cons=>exact h2.elim
   subst this;exact h1
 |_=>
  simp only [XA]at h;have h1:=iX st h hv
  first
   |exact(sG hc).1 (by simp) (by simp) (by simp) h1
   |trivial
theorem vt(rR:∀b k,hasB ρ k b->w0.heap.size<=b)(st:St M0 ρ M S w)(hS:∀k B,aj S' k=some B->∃l,B= .box l):∀{as bs:List AV} {vs:List Value},K9 S S' as bs->jg bs=true->aJ (az ρ w M) as vs->
  (∀k r,(AV.vec k,AV.new r)∈as.zip bs->(aj S' k).isSome)->aJ (kS w0 w (ec S' ρ M)) bs vs
 |[],[],_,_,_,h,_=>by cases ‹List Value›<;>exact h
 |a::as,b::bs,v::vs,h,hc,hv,hn=>by
  obtain⟨h1,h2⟩:=mY hc;refine⟨Iq rR st h.1 h1 hS hv.1 λ k r e1 e2=>hn k r (by subst e1;subst e2;simp),vt rR st hS h.2 h2 hv.2 λ k r hm=>hn k r (by simp at hm ⊢;exact .inr hm)⟩
 |[],_::_,_,h,_,_,_=>h.elim
 |_::_,[],_,h,_,_,_=>h.elim
 |_::_,_::_,[],_,_,hv,_=>hv.elim
theorem vu:∀(as rs:List AV) (k:Nat) (B:dH),(k,B)∈fO as rs->B= .box []
 |[],_,_,_,h=>by simp [fO]at h
 |_::_,[],_,_,h=>by
  rename_i a _;cases a<;>simp [fO]at h
 |a::as,r::rs,k,B,h=>by
  have go:(k,B)∈fO as rs->B= .box []:=vu as rs k B
  cases a<;>cases r<;>simp only [fO]at h<;>first
   |exact go h
   |(split at h
     ·simp at h;exact h.2
     ·rcases List.mem_cons.1 h with he|he
      ·cases he;rfl
      ·exact go he)
theorem vw:∀(as rs:List AV) (k:Nat) (r:RO),(AV.vec k,AV.new r)∈as.zip rs->∃B,(k,B)∈fO as rs
 |[],_,_,_,h=>by simp at h
 |_::_,[],_,_,h=>by simp at h
 |a::as,b::rs,k,r,h=>by
  simp only [List.zip_cons_cons,List.mem_cons]at h;rcases h with h|h
  ·cases h
   simp only [fO];split
   ·exact⟨_,List.mem_singleton.2 rfl⟩
   ·exact⟨_,by simp;exact .inl rfl⟩
  ·obtain⟨B,hB⟩:=vw as rs k r h
   have lift:∃B,(k,B)∈fO (a::as) (b::rs):=by
    cases a<;>cases b<;>simp only [fO]<;>first
     |exact⟨B,hB⟩
     |(split
       ·rename_i he;rw [he]at hB;cases hB
       ·exact⟨B,List.mem_cons_of_mem _ hB⟩)
   exact lift
def jh(tmps:Array Value):ResultVar->Sem Value
 |.tmp t=>pure (tmps.getD t undef)
 |.cell a t=>do loadVar t (<-asAddr (tmps.getD a undef))
theorem Cd(aw:aO P TY){t ty k off:Nat}{T:List AV}{a:Act}{b:List AV}{K:AV->Prop}(hT:nth T t= .ptr k off)(hf:aj S k=some (.box b))(h:yd TY ty b off K):
  ∃v,K v/\∀{ρ:Env} {w:World} {M:aX},St M0 ρ M S w->Tm ρ w M T a->∃u,(jh a.tmps (.cell t ty)).run P w= .ok u w/\az ρ w M v u:=by
 obtain⟨v,hK,hlen,hv⟩:=qa h;refine⟨v,hK,λ{ρ w M} st tm=>?_⟩;have NX:=tm.tmp t;rw [hT]at NX;have NX:(ρ k).bind (bY.ref · off)=some (a.tmps.getD t undef):=NX;obtain⟨b0,h3,cs,tyy,h4,h5,h6⟩:=st.aW k _ hf;have h2:=rO h3 NX;have Ro:b.length=cs.size:=by rw [aJ.length h6,Array.length_toList]
 rcases hv with ⟨n9,rfl⟩|⟨n9,hs,rfl⟩
 ·have aI:=aw.at (t:=ty) (.inr (λ e=>by rw [e]at n9;cases n9))
  refine⟨.agg ((cs.toList.drop off).take (aq TY ty).sz).toArray,?_,⟨_,rfl,by simpa using (h6.drop off).take _⟩⟩
  have:=gE (P:=P) (w:=w) (b:=b0) (off:=off) (cs:=(cs.toList.drop off).take (aq TY ty).sz) aI n9 (by simp;omega) (λ j c hj=>by
   rw [List.getElem?_take]at hj;split at hj
   ·rw [List.getElem?_drop,Array.getElem?_toList]at hj;rw [cell_of_heap h4];exact hj
   ·cases hj)
  simp only [Instr.loadAt,Instr.sureAddr]at this;simp only [jh,h2,asAddr]
  simpa using this
 ·have aI:=aw.at (t:=ty) (.inl (by rw [hs];decide))
  obtain⟨c,h7,h8⟩:=h6.get off aa;refine⟨c,?_,cE h8⟩;have:=fv (P:=P) (w:=w) (b:=b0) (off:=off) aI n9 (c:=c) (by rw [cell_of_heap h4];simpa using h7);simp only [Instr.loadAt,Instr.sureAddr]at this;simp only [jh,h2,asAddr]
  simpa using this
theorem qb(aw:aO P TY){T:List AV}{a:Act}:∀{l:List ResultVar} {K:List AV->Prop},tA TY T S l K->
  ∃as,K as/\∀{ρ:Env} {w:World} {M:aX},St M0 ρ M S w->Tm ρ w M T a->∃vs,(l.mapM (jh a.tmps)).run P w= .ok vs w/\aJ (az ρ w M) as vs
 |[],K,h=>⟨[],h,λ _ _=>⟨[],by simp,ag⟩⟩
 |.tmp t::l,K,h=>by
  simp only [tA,gA]at h;obtain⟨as,h1,h2⟩:=qb aw h;refine⟨nth T t::as,h1,λ{ρ w M} st tm=>?_⟩;obtain⟨vs,h3,h4⟩:=h2 st tm;exact⟨a.tmps.getD t undef::vs,by simp [jh,h3],tm.tmp t,h4⟩
 |.cell t ty::l,K,h=>by
  simp only [tA]at h;split at h
  ·rename_i k off hT
   split at h
   ·rename_i b hf
    obtain⟨v,h1,h2⟩:=Cd (M0:=M0) (w0:=w0) (a:=a) aw hT hf h;obtain⟨as,h3,h4⟩:=qb aw h1;refine⟨v::as,h3,λ{ρ w M} st tm=>?_⟩;obtain⟨u,h5,h6⟩:=h2 st tm;obtain⟨vs,h7,h8⟩:=h4 st tm;exact⟨u::vs,by simp [h5,h7],h6,h8⟩
   ·exact h.elim
  ·exact h.elim
def vy(vs:List Value):Value:=match vs with|[v]=>v|vs=>.tuple vs.toArray
theorem tW{fn:Func}{tmps:Array Value}{vs:List Value}{w:World}(h:(fn.results.toList.mapM (jh tmps)).run P w= .ok vs w):(results fn tmps).run P w= .ok (vy vs) w:=by
 have he:fn.results=fn.results.toList.toArray:=by simp
 have e1:results fn tmps=(fn.results.mapM (jh tmps)>>=λ vs=>pure (if h:vs.size=1 then vs[0] else .tuple vs)):=by
  unfold results
  congr 1
 rw [e1,he,List.mapM_toArray]
 match vs,h with
 |[],h=>simp [h,vy]
 |[v],h=>simp [h,vy]
 |u::v::vs,h=>simp [h,vy]
theorem qc:∀(l m:List AV) (i:Nat),nth (kg l m) i=if i<l.length then nth l i else nth m (i - l.length)
 |[],m,i=>by simp [kg]
 |_::_,m,0=>by simp [kg,nth]
 |a::l,m,i+1=>by
  simp only [kg,nth,qc l m i,List.length_cons]
  by_cases h:i<l.length
  ·simp [h]
  ·simp [h]
theorem mZ:∀(n i:Nat),nth (Ce n) i= .any
 |0,_=>rfl
 |_+1,0=>rfl
 |n+1,i+1=>mZ n i
theorem m5:∀n,(Ce n).length=n
 |0=>rfl|n+1=>by simp [Ce,m5 n]
theorem drop_eq:∀(n:Nat) (l:List AV),qd n l=n - l.length
 |n,[]=>by simp [qd]
 |0,_::_=>by simp [qd]
 |n+1,_::l=>by simp [qd,drop_eq n l]
theorem ji{k:IntKind}{n:Int}(h:eD k n):fP k n:=by cases k<;>exact h
theorem sI{α:Type}{l:List α}{d:α}{p:α->Prop}(h:∀q,q<l.length->p (l.getD q d)):∀x∈l,p x:=λ x hx=>by
 obtain⟨q,hq,rfl⟩:=List.mem_iff_getElem.1 hx;have:=h q hq
 simpa [List.getD,hq]using this
theorem kz{n m:Nat}{C:Nat->Value->Prop}{v:Value}(h:kA w M n C m v):∀q,q<n->∃c,C q c:=λ q hq=>by
 obtain⟨a,cap,_,_,h⟩:=h;rcases h with h|⟨b,off,_,h⟩
 ·omega
 ·obtain⟨c,_,_,h3⟩:=h q hq;exact⟨c,h3⟩
theorem o4{k:IntKind}{l:List Int}{v:Value}(h:H7 w M k l v):l.length<=LB/\∀x∈l,fP k x:=
 ⟨h.1,sI (d:=0) λ q hq=>by obtain⟨c,h1⟩:=kz h.2 q hq;exact ji h1.2⟩
theorem vz{k:IntKind}{l:List (List Int)}{v:Value}(h:NY w M k l v):l.length<=LB/\∀m∈l,m.length<=LB/\∀x∈m,fP k x:=
 ⟨h.1,sI (d:=[]) λ q hq=>by obtain⟨c,h1⟩:=kz h.2 q hq;exact o4 h1⟩
theorem Cf{l:List (Int × Int)}{v:Value}(h:S5 w M l v):l.length<=LB/\∀p∈l,fP .i64 p.1/\fP .i64 p.2:=by
 refine⟨h.1,sI (d:=(0,0)) λ q hq=>?_⟩;obtain⟨c,h1⟩:=kz h.2 (q*2) aa;obtain⟨c',h2⟩:=kz h.2 (q*2+1) aa;simp only [Nat.mul_mod_left,if_true,Nat.mul_div_cancel _ (Nat.succ_pos 1)]at h1;simp only [show(q*2+1) % 2=1 from by omega,show(q*2+1) / 2=q from by omega,Nat.one_ne_zero,if_false]at h2;exact⟨ji h1.2,ji h2.2⟩
theorem Ch{r:RO}{v:Value}(h:a8 w M r v):La r:=by
 cases r with
 |ints k l=>exact o4 (gW.1 h)
 |aL l=>exact h.1
 |rows k l=>exact vz (jj.1 h)
 |bw l=>exact⟨h.1,sI (d:=[]) λ q hq=>by obtain⟨c,h1⟩:=kz h.2 q (by simpa [RO.cells,RO.len,RO.sz]using hq);exact h1.1⟩
 |bC l=>exact⟨h.1,sI (d:=[]) λ q hq=>by obtain⟨c,h1⟩:=kz h.2 q (by simpa [RO.cells,RO.len,RO.sz]using hq);exact vz h1⟩
 |cH l=>exact⟨h.1,sI (d:=[]) λ q hq=>by obtain⟨c,h1⟩:=kz h.2 q (by simpa [RO.cells,RO.len,RO.sz]using hq);exact Cf h1⟩
 |cR k l=>exact⟨h.1,sI (d:=[]) λ q hq=>by obtain⟨c,h1⟩:=kz h.2 q (by simpa [RO.cells,RO.len,RO.sz]using hq);exact o4 h1.1⟩
 |aT l=>
  refine⟨h.1,sI (d:=(0,0)) λ q hq=>?_⟩;have hl:(RO.aT l).cells=l.length*2:=rfl;obtain⟨c,h1⟩:=kz h.2 (q*2) (by rw [hl];omega);obtain⟨c',h2⟩:=kz h.2 (q*2+1) (by rw [hl];omega);simp only [av]at h1 h2;rw [if_pos aa,show q*2 / 2=q from by omega]at h1;rw [if_neg aa,show(q*2+1) / 2=q from by omega]at h2;exact⟨ji h1.2,ji h2.2⟩
 |eY n k l=>exact h.1
 |strs l=>exact h.1
 |dP l=>exact h.1
 |dK l=>exact h.1
theorem Gn:∀{l:List AV} {vs:List Value},aJ (aH ρ w M) l vs->EG l
 |[],_,_=>trivial
 |a::l,v::vs,h=>⟨by
   have h1:=h.1;cases a<;>first|exact ji h1.2|exact Ch h1|trivial,Gn h.2⟩
 |_::_,[],h=>h.elim
theorem qe:∀{l:List AV} {vs:List Value},aJ (az ρ w M) l vs->kB l
 |[],_,_=>trivial
 |a::l,v::vs,h=>⟨by
   have h1:=h.1;cases a<;>first|exact ji h1.2|exact Ch h1|(obtain⟨cs,_,h2⟩:=h1;exact Gn h2)|trivial,qe h.2⟩
 |_::_,[],h=>h.elim
theorem mem_some:∀{S:ai} {k:Nat} {B:dH},(k,B)∈S->(aj S k).isSome
 |(j,b)::S,k,B,h=>by
  rw [aD];split
  ·rfl
  ·rcases List.mem_cons.1 h with he|he
   ·cases he;contradiction
   ·exact mem_some he
theorem gF(rR:∀b k,hasB ρ k b->w0.heap.size<=b)(st:St M0 ρ M S w){as rs:List AV}{vs:List Value}(h:mf S as rs)(hv:aJ (az ρ w M) as vs):jg rs=true/\aJ (kS w0 w (ec (fO as rs) ρ M)) rs vs:=by
 have h':jg rs=true/\K9 S (fO as rs) as rs:=by
  unfold mf at h;split at h
  ·rename_i he;rw [he];exact al.1 h
  ·rename_i x he;rw [he];exact al.1 h
  ·exact h.elim
 refine⟨h'.1,vt rR st (λ k B hB=>⟨[],Bw hB (p:=λ _ B=>B= .box []) λ e he=>vu as rs e.1 e.2 he⟩) h'.2 h'.1 hv λ k r hm=>?_⟩;obtain⟨B,hB⟩:=vw as rs k r hm;exact mem_some hB
theorem Ci{w w':World}{b:AV}{v:Value}(hc:jg [b]=true)(h:kS w w' M b v):zT w w' M b v:=by
 cases b with
 |cC l=>exact absurd (mY hc).1 (by simp [z6,rQ])
 |fn f l=>
  cases l with
  |nil=>exact⟨#[],h,ag⟩
  |cons=>exact absurd (mY hc).1 (by simp [z6,rQ])
 |_=>exact h
theorem ye(aw:aO P TY){fn:Func}{a:Act}{T:List AV}{ret:AV}{M0:aX}{h0:z8 w0}(st:St (nQ M0 w0 h0) ρ M S w)(tm:Tm ρ w M T a)
  (h:tA TY T S fn.results.toList λ as=>match as,ret with
    |[a],r=>mf S [a] [r]
    |as,.cC rs=>mf S as rs
    |_,_=>False):a.defers=[]/\∃v,(results fn a.tmps).run P w= .ok v w/\∃v',Ending.returned v= .returned v'/\gk (λ _ _=>False) w0 w/\EH M0 w0 w ret v':=by
 obtain⟨as,h,aK⟩:=qb (M0:=nQ M0 w0 h0) (w0:=w0) (a:=a) aw h;obtain⟨vs,aK,bc⟩:=aK st tm;refine⟨tm.defers,_,tW aK,_,rfl,st.lD.weaken (λ b off hh=>hh.1),?_⟩
 have hold:∀S'',∀b off,b<w0.heap.size->(ec S'' ρ M b off↔M0 b off):=λ S'' b off hb=>
  ⟨λ hm=>st.sub b off hb hm.1,λ hm=>⟨st.eu b off hb (λ hh=>hh) hm,λ k hk=>absurd hk (st.gU hb (λ hh=>hh))⟩⟩
 have aS:∀S'',∀b off,ec S'' ρ M b off->b<w.heap.size:=λ S'' b off hm=>st.mlt b off hm.1
 match as,vs,h,bc with
 |[x],[v],h,bc=>
  have h:mf S [x] [ret]:=h;obtain⟨g1,g2⟩:=gF (λ b k hb=>(st.fresh k b hb).elim id (λ hh=>hh.elim)) st h bc;exact⟨_,hold _,aS _,Ci g1 g2.1⟩
 |[],[],h,bc=>
  cases ret<;>try exact h.elim
  obtain⟨g1,g2⟩:=gF (λ b k hb=>(st.fresh k b hb).elim id (λ hh=>hh.elim)) st h bc;exact⟨_,hold _,aS _,_,rfl,by simpa using g2⟩
 |x::y::as,u::v::vs,h,bc=>
  cases ret<;>try exact h.elim
  obtain⟨g1,g2⟩:=gF (λ b k hb=>(st.fresh k b hb).elim id (λ hh=>hh.elim)) st h bc;exact⟨_,hold _,aS _,_,rfl,by simpa using g2⟩
 |[_],[],_,bc=>exact bc.elim
 |[_],_::_::_,_,bc=>exact bc.2.elim
 |[],_::_,_,bc=>exact bc.elim
 |_::_::_,[],_,bc=>exact bc.elim
 |_::_::_,[_],_,bc=>exact bc.2.elim
theorem vA(aw:aO P TY){fn:Func}{a:Act}{T:List AV}{X:Type}{out:X->AV}{ok:X->Prop}{M0:aX}{h0:z8 w0}(st:St (nQ M0 w0 h0) ρ M S w)(tm:Tm ρ w M T a)
  (h:tA TY T S fn.results.toList λ as=>∃x,ok x/\match as,out x with
    |[a],r=>mf S [a] [r]
    |as,.cC rs=>mf S as rs
    |_,_=>False):a.defers=[]/\∃v,(results fn a.tmps).run P w= .ok v w/\∃x,ok x/\∃v',Ending.returned v= .returned v'/\gk (λ _ _=>False) w0 w/\EH M0 w0 w (out x) v':=by
 obtain⟨as,⟨x0,aU,h⟩,aK⟩:=qb (M0:=nQ M0 w0 h0) (w0:=w0) (a:=a) aw h;obtain⟨vs,aK,bc⟩:=aK st tm;refine⟨tm.defers,_,tW aK,x0,aU,_,rfl,st.lD.weaken (λ b off hh=>hh.1),?_⟩
 have hold:∀S'',∀b off,b<w0.heap.size->(ec S'' ρ M b off↔M0 b off):=λ S'' b off hb=>
  ⟨λ hm=>st.sub b off hb hm.1,λ hm=>⟨st.eu b off hb (λ hh=>hh) hm,λ k hk=>absurd hk (st.gU hb (λ hh=>hh))⟩⟩
 have aS:∀S'',∀b off,ec S'' ρ M b off->b<w.heap.size:=λ S'' b off hm=>st.mlt b off hm.1;generalize out x0=ret at h ⊢
 match as,vs,h,bc with
 |[x],[v],h,bc=>
  have h:mf S [x] [ret]:=h;obtain⟨g1,g2⟩:=gF (λ b k hb=>(st.fresh k b hb).elim id (λ hh=>hh.elim)) st h bc;exact⟨_,hold _,aS _,Ci g1 g2.1⟩
 |[],[],h,bc=>
  cases ret<;>try exact h.elim
  obtain⟨g1,g2⟩:=gF (λ b k hb=>(st.fresh k b hb).elim id (λ hh=>hh.elim)) st h bc;exact⟨_,hold _,aS _,_,rfl,by simpa using g2⟩
 |x::y::as,u::v::vs,h,bc=>
  cases ret<;>try exact h.elim
  obtain⟨g1,g2⟩:=gF (λ b k hb=>(st.fresh k b hb).elim id (λ hh=>hh.elim)) st h bc;exact⟨_,hold _,aS _,_,rfl,by simpa using g2⟩
 |[_],[],_,bc=>exact bc.elim
 |[_],_::_::_,_,bc=>exact bc.2.elim
 |[],_::_,_,bc=>exact bc.elim
 |_::_::_,[],_,bc=>exact bc.elim
 |_::_::_,[_],_,bc=>exact bc.2.elim
theorem Lb(aw:aO P TY){F:Spec}(hF:b6 P F)(hm:P.follows .mixedOrders=true){f:FuncId}{fn:Func}(hf:P.funcs[f]? =some fn)(vB:fn.name≠ "runtime.NumGoroutine")(hb:fn.body.isSome=true)
  {args:List AV} {ret:AV} (_hlen:args.length<=fn.ntmps) (h:kB args->SS TY F fn args ret):Fn P f args ret:=by
 refine⟨⟨fn,hf,vB,hb⟩,λ M w vs xc hM hv=>?_⟩;have h:=h (qe hv);obtain⟨c,hc⟩:=Option.isSome_iff_exists.1 hb;simp only [SS,hc]at h;refine calls_of_wp hf hc ?_;have NZ:args.length=vs.length:=hv.length
 refine bW aw hF hm c h (M0:=nQ M w xc) (w0:=w) (ρ:=bg) (M:=M)
  ⟨λ k=>rfl,λ k B hB=>(by cases hB),λ i j b hi _=>(by cases hi),hM,gk.refl _ _,λ b off _ hm=>hm,λ b off _ _ hm=>hm,λ k b hk=>(by cases hk),λ k o _ hk=>(by cases hk)⟩
  ⟨rfl,?_,λ i=>?_⟩ λ e a w' hE=>?_
 ·simp [iR,m5,drop_eq,NZ]
 ·rw [qc]
  split
  ·rename_i hi
   obtain⟨v,h1,h2⟩:=hv.get i hi
   have:(vs.toArray++Array.replicate (fn.ntmps - vs.toArray.size) undef).getD i undef=v:=by
    rw [Array.getD_eq_getD_getElem?,Array.getElem?_append_left (by simp;omega)];simp [h1]
   rw [this];exact h2
  ·rw [mZ];trivial
 ·obtain⟨ρ',M',T,S,h1,st,tm,_⟩:=hE
  cases e with
  |exit i=>exact h1.elim
  |normal=>exact ye aw st tm h1
  |ret=>exact ye aw st tm h1
theorem Is(aw:aO P TY){F:Spec}(hF:b6 P F)(hm:P.follows .mixedOrders=true){f:FuncId}{fn:Func}(hf:P.funcs[f]? =some fn)(vB:fn.name≠ "runtime.NumGoroutine")(hb:fn.body.isSome=true)
  {args:List AV} {X:Type} {out:X->AV} {ok:X->Prop} (_hlen:args.length<=fn.ntmps) (h:kB args->KW TY F fn args out ok):XB P f args X out ok:=by
 refine⟨⟨fn,hf,vB,hb⟩,λ M w vs xc hM hv=>?_⟩;have h:=h (qe hv);obtain⟨c,hc⟩:=Option.isSome_iff_exists.1 hb;simp only [KW,hc]at h;refine calls_of_wp hf hc ?_;have NZ:args.length=vs.length:=hv.length
 refine bW aw hF hm c h (M0:=nQ M w xc) (w0:=w) (ρ:=bg) (M:=M)
  ⟨λ k=>rfl,λ k B hB=>(by cases hB),λ i j b hi _=>(by cases hi),hM,gk.refl _ _,λ b off _ hm=>hm,λ b off _ _ hm=>hm,λ k b hk=>(by cases hk),λ k o _ hk=>(by cases hk)⟩
  ⟨rfl,?_,λ i=>?_⟩ λ e a w' hE=>?_
 ·simp [iR,m5,drop_eq,NZ]
 ·rw [qc]
  split
  ·rename_i hi
   obtain⟨v,h1,h2⟩:=hv.get i hi
   have:(vs.toArray++Array.replicate (fn.ntmps - vs.toArray.size) undef).getD i undef=v:=by
    rw [Array.getD_eq_getD_getElem?,Array.getElem?_append_left (by simp;omega)];simp [h1]
   rw [this];exact h2
  ·rw [mZ];trivial
 ·obtain⟨ρ',M',T,S,h1,st,tm,_⟩:=hE
  have finE:∀{fn:Func} {a:Act} {w':World},(a.defers=[]/\∃v,(results fn a.tmps).run P w'= .ok v w'/\∃x,ok x/\∃v',Ending.returned v= .returned v'/\gk (λ _ _=>False) w w'/\EH M w w' (out x) v')->
    a.defers=[]/\∃v,(results fn a.tmps).run P w'= .ok v w'/\∃x,ok x/\∃v',Ending.returned v= .returned v'/\gk (λ _ _=>False) w w'/\EH M w w' (out x) v':=λ h=>h
  cases e with
  |exit i=>exact h1.elim
  |normal=>exact finE (vA aw st tm h1)
  |ret=>exact finE (vA aw st tm h1)
theorem Lc(st:St M0 ρ M S w):∀{l m:List AV} {vs:List Value},Q2 S S' l m->aJ (az ρ w M) l vs->aJ (ck (dc S S' ρ) w (ec S' ρ M)) m vs
 |[],[],vs,_,h=>by cases vs<;>exact h
 |a::l,b::m,v::vs,h,hv=>by
  refine⟨?_,Lc st h.2 hv.2⟩;have h1:=h.1;cases b with
  |agg y=>exact iX st (b:=.agg y) h1 hv.1
  |any=>trivial
  |cC y=>exact absurd h1 (by simp [NN])
  |fn f y=>
   cases y with
   |cons x l=>cases a<;>exact h1.elim
   |nil=>
    cases a<;>try exact h1.elim
    rename_i g m;cases m<;>try exact h1.elim
    have h1:g=f:=h1;subst h1;obtain⟨cs,V3,SE⟩:=hv.1
    have bR:cs= #[]:=by
     obtain⟨cl⟩:=cs;cases cl with
     |nil=>rfl
     |cons=>exact SE.elim
    subst bR;exact V3
  |int k n=>exact iX st (b:=.int k n) h1 hv.1
  |bool e=>exact iX st (b:=.bool e) h1 hv.1
  |ro r=>exact iX st (b:=.ro r) h1 hv.1
  |vec k=>exact iX st (b:=.vec k) h1 hv.1
  |ptr k o=>exact iX st (b:=.ptr k o) h1 hv.1
  |eH r i=>exact iX st (b:=.eH r i) h1 hv.1
  |tP f r i=>exact iX st (b:=.tP f r i) h1 hv.1
  |may b n=>exact iX st (b:=.may b n) h1 hv.1
  |dS k i=>exact iX st (b:=.dS k i) h1 hv.1
  |gd k i j=>exact iX st (b:=.gd k i j) h1 hv.1
  |gf k i=>exact iX st (b:=.gf k i) h1 hv.1
  |full r=>exact iX st (b:=.full r) h1 hv.1
  |str l=>exact iX st (b:=.str l) h1 hv.1
  |ao=>exact iX st (b:=.ao) h1 hv.1
  |bK=>exact iX st (b:=.bK) h1 hv.1
  |new r=>exact iX st (b:=.new r) h1 hv.1
 |[],_::_,_,h,_=>h.elim
 |_::_,[],_,h,_=>h.elim
 |_::_,_::_,[],_,hv=>hv.elim
theorem lN(aw:aO P TY){fn:Func}{a:Act}{T:List AV}{ret:AV}{S2:ai}(st:St M0 ρ M S w)(tm:Tm ρ w M T a)
  (h:tA TY T S fn.results.toList λ as=>JF S S2 S2/\match as,ret with
    |[a],r=>FY S S2 a r
    |as,.cC rs=>Q2 S S2 as rs
    |_,_=>False):a.defers=[]/\∃v,(results fn a.tmps).run P w= .ok v w/\∃v' ρ' M',Ending.returned v= .returned v'/\St M0 ρ' M' S2 w/\az ρ' w M' ret v':=by
 obtain⟨as,⟨hS,h⟩,aK⟩:=qb (M0:=M0) (w0:=w0) (a:=a) aw h;obtain⟨vs,aK,bc⟩:=aK st tm;refine⟨tm.defers,_,tW aK,_,_,_,rfl,zu st hS,?_⟩
 match as,vs,h,bc with
 |[x],[v],h,bc=>exact iX st h bc.1
 |[],[],h,bc=>
  cases ret<;>try exact h.elim
  exact⟨_,rfl,by simpa using Lc st h bc⟩
 |x::y::as,u::v::vs,h,bc=>
  cases ret<;>try exact h.elim
  exact⟨_,rfl,by simpa using Lc st h bc⟩
 |[_],[],_,bc=>exact bc.elim
 |[_],_::_::_,_,bc=>exact bc.2.elim
 |[],_::_,_,bc=>exact bc.elim
 |_::_::_,[],_,bc=>exact bc.elim
 |_::_::_,[_],_,bc=>exact bc.2.elim
theorem fx:∀{R:ai} {T:List AV} {S:ai} {K:List AV->ai->Prop} {a:Act} {ρ:Env},lO R T S K->St M0 ρ M S w->Tm ρ w M T a->
  ∃T' S' ρ',K T' S'/\St M0 ρ' M S' w/\Tm ρ' w M T' a/\T'.length=T.length
 |[],T,S,K,a,ρ,h,st,tm=>⟨T,S,ρ,h,st,tm,rfl⟩
 |(k,b)::R,T,S,K,a,ρ,h,st,tm=>by
  have skip:lO R T S K->∃T' S' ρ',K T' S'/\St M0 ρ' M S' w/\Tm ρ' w M T' a/\T'.length=T.length:=λ h=>fx h st tm;cases b with
  |ma n z=>
   simp only [lO]at h;split at h
   ·rename_i n0 r hf
    obtain⟨o,cur,g1,g2,g3⟩:=st.aW k _ hf;obtain⟨T',S',ρ',q1,q2,q3,q4,_⟩:=fK (ow':=.sl o) (B:=.ma n0 r.sz) (K:=λ T S=>lO R T ((k,.ma n0 r.sz)::S) K) h st tm g1 (λ b hb=>.inl hb) (λ _=>rfl) (λ ρ' OM=>⟨o,OM,g3⟩);obtain⟨T2,S2,ρ2,h1,h2,h3,h4⟩:=fx q1 q2 q3;exact⟨T2,S2,ρ2,h1,h2,h3,h4.trans q4⟩
   ·exact skip h
  |_=>exact skip h
theorem It(aw:aO P TY){F:Spec}(hF:b6 P F)(hm:P.follows .mixedOrders=true){f:FuncId}{fn:Func}(hf:P.funcs[f]? =some fn)(vB:fn.name≠ "runtime.NumGoroutine")(hb:fn.body.isSome=true)
  {args:List AV} {S1:ai} {ret:AV} {S2:ai} (_hlen:args.length<=fn.ntmps) (h:kB args->Iu TY F fn args S1 ret S2):XC P f args S1 ret S2:=by
 refine⟨⟨fn,hf,vB,hb⟩,λ ρ M w vs xc st hv=>?_⟩;have h:=h (qe hv);obtain⟨c,hc⟩:=Option.isSome_iff_exists.1 hb;simp only [Iu,hc]at h;refine calls_of_wp hf hc ?_;have NZ:args.length=vs.length:=hv.length
 refine bW aw hF hm c h (M0:=eB ρ M w xc) (w0:=w) (ρ:=ρ) (M:=M) st
  ⟨rfl,?_,λ i=>?_⟩ λ e a w' hE=>?_
 ·simp [iR,m5,drop_eq,NZ]
 ·rw [qc]
  split
  ·rename_i hi
   obtain⟨v,h1,h2⟩:=hv.get i hi
   have:(vs.toArray++Array.replicate (fn.ntmps - vs.toArray.size) undef).getD i undef=v:=by
    rw [Array.getD_eq_getD_getElem?,Array.getElem?_append_left (by simp;omega)];simp [h1]
   rw [this];exact h2
  ·rw [mZ];trivial
 ·obtain⟨ρ',M',T,S,h1,st,tm,_⟩:=hE
  cases e with
  |exit i=>exact h1.elim
  |normal=>
   obtain⟨T',S',ρ2,g1,g2,g3,_⟩:=fx h1 st tm;exact lN aw g2 g3 g1
  |ret=>
   obtain⟨T',S',ρ2,g1,g2,g3,_⟩:=fx h1 st tm;exact lN aw g2 g3 g1
theorem Iv(aw:aO P TY){F:Spec}(hF:b6 P F)(hm:P.follows .mixedOrders=true){f:FuncId}{fn:Func}(hf:P.funcs[f]? =some fn)(vB:fn.name≠ "runtime.NumGoroutine")(hb:fn.body.isSome=true)
  {args:List AV} {S1:ai} {X:Type} {ret:X->AV} {S2:X->ai} {ok:X->Prop} (_hlen:args.length<=fn.ntmps) (h:kB args->Pe TY F fn args S1 X ret S2 ok):XD P f args S1 X ret S2 ok:=by
 refine⟨⟨fn,hf,vB,hb⟩,λ ρ M w vs xc st hv=>?_⟩;have h:=h (qe hv);obtain⟨c,hc⟩:=Option.isSome_iff_exists.1 hb;simp only [Pe,hc]at h;refine calls_of_wp hf hc ?_;have NZ:args.length=vs.length:=hv.length
 refine bW aw hF hm c h (M0:=eB ρ M w xc) (w0:=w) (ρ:=ρ) (M:=M) st
  ⟨rfl,?_,λ i=>?_⟩ λ e a w' hE=>?_
 ·simp [iR,m5,drop_eq,NZ]
 ·rw [qc]
  split
  ·rename_i hi
   obtain⟨v,h1,h2⟩:=hv.get i hi
   have:(vs.toArray++Array.replicate (fn.ntmps - vs.toArray.size) undef).getD i undef=v:=by
    rw [Array.getD_eq_getD_getElem?,Array.getElem?_append_left (by simp;omega)];simp [h1]
   rw [this];exact h2
  ·rw [mZ];trivial
 ·obtain⟨ρ',M',T,S,h1,st,tm,_⟩:=hE
  cases e with
  |exit i=>exact h1.elim
  |normal=>
   obtain⟨z,hz,h1⟩:=h1;obtain⟨T',S',ρ2,g1,g2,g3,_⟩:=fx h1 st tm;obtain⟨q1,v,q2,q3⟩:=lN aw g2 g3 g1;exact⟨q1,v,q2,z,hz,q3⟩
  |ret=>
   obtain⟨z,hz,h1⟩:=h1;obtain⟨T',S',ρ2,g1,g2,g3,_⟩:=fx h1 st tm;obtain⟨q1,v,q2,q3⟩:=lN aw g2 g3 g1;exact⟨q1,v,q2,z,hz,q3⟩
end
end Go.AM
end
