import Derived.Test.YtgailjhnfghkgaaGreatDoorAmState
import Derived.Laws.AppendOwn
import Derived.Laws.MakeOwn
import Derived.Laws.StructEq
section
namespace Go.AM
open Go
def zC(a:AV)(v:Value):Prop:=∀ρ w M,aH ρ w M a v
def lT:GJ->TypeDesc->Prop
 |.int k,.int k'=>k=k'|.bool,.bool=>True|.str,.string=>True|.slice e,.slice e'=>e=e'|.arr n e,.array n' e'=>n=n'/\e=e'
 |.struct fs,.struct F=>fs=F.toList.map (λ f=>(f.offset,f.type))|.map k e,.map k' e'=>k=k'/\e=e'
 |.other,.struct _=>False|.other,.array _ _=>False|.other,_=>True|_,_=>False
def Df(d:GJ)(z:Value):Prop:=
 match d with
 |.int k=>z= .int k 0|.bool=>z= .bool false|.slice _=>z= .slice none 0 0|_=>True
def Fk(E:cP)(z:Value):Prop:=
 aJ zC E.zero z.cells.toList/\(bJ E.d=true->∃cs,z= .agg cs)/\(bJ E.d=false->aM z)/\Df E.d z/\E.zero.length=E.sz
def WL(P:Program)(t:Nat):Prop:=P.stoodInHeld t=false/\P.eqGuardType P.depth t=false/\∀f∈(P.fieldsOf t).toList,f.name≠ "_"
def MI(P:Program)(t:Nat):Bool:=
 !P.stoodInHeld t&& !P.eqGuardType P.depth t&&(P.fieldsOf t).toList.all λ f=>!decide (f.name= "_")
theorem MJ{P:Program}{t:Nat}(h:MI P t=true):WL P t:=by
 unfold MI at h;simp only [Bool.and_eq_true,Bool.not_eq_true',List.all_eq_true,decide_eq_false_iff_not]at h;exact⟨h.1.1,h.1.2,h.2⟩
structure iG(P:Program)(t:Nat)(E:cP):Prop where
 row:∃i u,P.info? t=some i/\P.underlying t=some u/\i.size=E.sz/\i.bytes=E.bytes/\lT E.d u/\(E.zero≠[]->∃z,i.zero=some z/\Fk E z)
 eqr:qJ E.zero=true->WL P t
def Hl(n:Nat):List (Nat × Nat)->Bool
 |[]=>true|(_,t)::l=>Nat.ble (t+1) n&&Hl n l
def qL(n:Nat):List cP->Bool
 |[]=>true|E::l=>(match E.d with|.struct fs=>Hl n fs|_=>true)&&qL n l
structure aO(P:Program)(TY:List cP):Prop where
 row:∀t,t<TY.length->iG P t (aq TY t)
 closed:∀t fs,(aq TY t).d= .struct fs->∀x∈fs,x.2<TY.length
 pos:∃m,P.types.size=m+1
def np(a b:Nat):Bool:=Nat.beq a b
def MK(a:AV)(v:Value):Bool:=
 match a,v with
 |.int k n,.int k' n'=>kq k k'&&decide (n=n')&&xD k n
 |.bool (.lit b),.bool b'=>b==b'
 |.ao,.slice none 0 0=>true
 |.str [],.string s=>Nat.beq s.size 0
 |.bK,.map none=>true
 |.any,.agg _=>false|.any,.tuple _=>false|.any,_=>true
 |_,_=>false
def AP:List AV->List Value->Bool
 |[],[]=>true|a::l,v::m=>MK a v&&AP l m|_,_=>false
def uq:List (Nat × Nat)->List Field->Bool
 |[],[]=>true|(o,t)::l,f::m=>np o f.offset&&np t f.type&&uq l m|_,_=>false
def ML(d:GJ)(u:TypeDesc):Bool:=
 match d,u with
 |.int k,.int k'=>kq k k'|.bool,.bool=>true|.str,.string=>true|.slice e,.slice e'=>np e e'|.arr n e,.array n' e'=>np n n'&&np e e'
 |.struct fs,.struct F=>uq fs F.toList|.map k e,.map k' e'=>np k k'&&np e e'
 |.other,.struct _=>false|.other,.array _ _=>false|.other,_=>true|_,_=>false
def CK(b:Bool)(z:Value):Bool:=
 match b,z with|true,.agg _=>true|true,_=>false|false,.agg _=>false|false,.tuple _=>false|false,_=>true
def Dg(d:GJ)(z:Value):Bool:=
 match d,z with
 |.int k,.int k' n=>kq k k'&&decide (n=0)|.bool,.bool b=>b==false|.slice _,.slice none 0 0=>true
 |.int _,_=>false|.bool,_=>false|.slice _,_=>false|_,_=>true
def Fl(E:cP)(z:Value):Bool:=AP E.zero z.cells.toList&&CK (bJ E.d) z&&Dg E.d z&&np E.zero.length E.sz
def TP(P:Program)(t:Nat)(E:cP):Bool:=
 match P.info? t,P.underlying t with
 |some i,some u=>np i.size E.sz&&np i.bytes E.bytes&&ML E.d u&&(match E.zero,i.zero with|[],_=>true|_,some z=>Fl E z|_,none=>false)&&(match qJ E.zero with|true=>MI P t|false=>true)
 |_,_=>false
def x7(P:Program):Nat->List cP->Bool
 |_,[]=>true|t,E::l=>TP P t E&&x7 P (t+1) l
theorem fc{a b:Nat}(h:np a b=true):a=b:=ay.1 h
theorem Hm{ρ:Env}{w:World}{M:aX}{s:ByteArray}(h:s.size=0):aH ρ w M (.str []) (.string s):=by
 refine⟨?_,by simp⟩;obtain⟨⟨l⟩⟩:=s;cases l with
 |nil=>rfl
 |cons a l=>simp [ByteArray.size]at h
theorem MM{a:AV}{v:Value}(h:MK a v=true):zC a v:=by
 intro ρ w M;cases a<;>cases v<;>simp only [MK,Bool.and_eq_true,decide_eq_true_eq]at h<;>try (first|(cases h;done)|trivial)
 ·obtain⟨⟨h1,rfl⟩,h3⟩:=h
  obtain rfl:=bZ h1;exact⟨rfl,vW h3⟩
 ·rename_i e b
  cases e<;>simp at h
  subst h;rfl
 ·rename_i a n m
  match a,n,m,h with
  |none,0,0,_=>rfl
 ·rename_i r
  cases r with
  |none=>rfl
  |some b=>cases h
 ·rename_i l s
  cases l with
  |nil=>exact Hm (ay.1 h)
  |cons a l=>cases h
theorem yU:∀{l:List AV} {m:List Value},AP l m=true->aJ zC l m
 |[],[],_=>trivial
 |a::l,v::m,h=>by simp only [AP,Bool.and_eq_true]at h;exact⟨MM h.1,yU h.2⟩
 |[],_::_,h=>by cases h
 |_::_,[],h=>by cases h
theorem wB:∀{l:List (Nat × Nat)} {m:List Field},uq l m=true->l=m.map λ f=>(f.offset,f.type)
 |[],[],_=>rfl
 |(o,t)::l,f::m,h=>by
  simp only [uq,Bool.and_eq_true]at h;rw [List.map_cons,<-wB h.2,fc h.1.1,fc h.1.2]
 |[],_::_,h=>by cases h
 |_::_,[],h=>by cases h
theorem MN{d:GJ}{u:TypeDesc}(h:ML d u=true):lT d u:=by
 cases d<;>cases u<;>simp only [ML,Bool.and_eq_true]at h<;>try (first|(cases h;done)|trivial)
 ·exact bZ h
 ·exact fc h
 ·exact⟨fc h.1,fc h.2⟩
 ·exact wB h
 ·exact⟨fc h.1,fc h.2⟩
theorem MO{d:GJ}{z:Value}(h:Dg d z=true):Df d z:=by
 cases d<;>try trivial
 ·cases z<;>simp only [Dg,Bool.and_eq_true,decide_eq_true_eq,Bool.false_eq_true]at h
  obtain⟨h4,rfl⟩:=h;obtain rfl:=bZ h4;rfl
 ·cases z<;>simp [Dg]at h
  subst h;rfl
 ·cases z<;>simp only [Dg,Bool.false_eq_true]at h
  rename_i e a n m
  match a,n,m,h with
  |none,0,0,_=>rfl
theorem Jg{E:cP}{z:Value}(h:Fl E z=true):Fk E z:=by
 unfold Fl at h;simp only [Bool.and_eq_true]at h;obtain⟨⟨⟨h1,h2⟩,h3⟩,h4⟩:=h;refine⟨yU h1,λ ha=>?_,λ ha=>?_,MO h3,fc h4⟩
 ·rw [ha]at h2;cases z<;>simp [CK]at h2;exact⟨_,rfl⟩
 ·rw [ha]at h2;cases z<;>simp [CK]at h2<;>trivial
theorem Qj{P:Program}{t:Nat}{E:cP}(h:TP P t E=true):iG P t E:=by
 unfold TP at h;split at h
 ·rename_i i u hi hu
  simp only [Bool.and_eq_true]at h;obtain⟨⟨⟨⟨h1,h2⟩,h3⟩,h4⟩,h6⟩:=h;refine⟨⟨i,u,hi,hu,fc h1,fc h2,MN h3,λ bm=>?_⟩,λ hz=>by rw [hz]at h6;exact MJ h6⟩;split at h4
  ·rename_i he;exact absurd he bm
  ·rename_i z hz _;exact⟨z,hz,Jg h4⟩
  ·cases h4
 ·cases h
theorem Dh{P:Program}:∀{l:List cP} {t:Nat},x7 P t l=true->∀i,i<l.length->iG P (t+i) (aq l i)
 |[],_,_,i,hi=>by simp at hi
 |E::l,t,h,0,_=>by simp only [x7,Bool.and_eq_true]at h;exact Qj h.1
 |E::l,t,h,i+1,hi=>by
  simp only [x7,Bool.and_eq_true]at h;have:=Dh h.2 i (by simpa using hi);rw [show t+(i+1)=t+1+i from by omega];exact this
theorem Di{n:Nat}:∀{l:List (Nat × Nat)},Hl n l=true->∀x∈l,x.2<n
 |(o,t)::l,h,x,hx=>by
  simp only [Hl,Bool.and_eq_true,Nat.ble_eq]at h;rcases List.mem_cons.1 hx with rfl|hx
  ·exact h.1
  ·exact Di h.2 x hx
 |[],_,_,hx=>by cases hx
theorem wC{n:Nat}:∀{l:List cP},qL n l=true->∀t fs,(aq l t).d= .struct fs->∀x∈fs,x.2<n
 |[],_,t,fs,hd,x,hx=>by simp [aq]at hd
 |E::l,h,0,fs,hd,x,hx=>by
  simp only [qL,Bool.and_eq_true]at h;have hd:E.d= .struct fs:=hd;rw [hd]at h;exact Di h.1 x hx
 |E::l,h,t+1,fs,hd,x,hx=>by
  simp only [qL,Bool.and_eq_true]at h;exact wC h.2 t fs hd x hx
theorem Qk{P:Program}{TY:List cP}(h:x7 P 0 TY=true)(h':qL TY.length TY=true)(h'':Nat.ble 1 P.types.size=true):aO P TY:=
 ⟨λ t ht=>by simpa using Dh h t ht,wC h',P.types.size - 1,by rw [Nat.ble_eq]at h'';omega⟩
theorem pk:∀{l:List cP} {t:Nat},l.length<=t->aq l t=⟨.other,0,0,[]⟩
 |[],_,_=>rfl
 |_::_,0,h=>by simp at h
 |_::l,t+1,h=>pk (l:=l) (by simpa using h)
theorem aO.at{P:Program}{TY:List cP}(h:aO P TY){t:Nat}(ht:(aq TY t).sz≠0\/(aq TY t).d≠.other):iG P t (aq TY t):=by
 rcases Nat.lt_or_ge t TY.length with h'|h'
 ·exact h.row t h'
 ·rw [pk h']at ht;simp at ht
end Go.AM
end
section
namespace Go.AM
open Go
def bg:Env:=λ _=>none
def kS(w w':World)(M:aX):AV->Value->Prop
 |.new r,v=>∃o:Sl,v=o.val/\fb bg w' M o 0 r []/\∀b,o.aW=some b->w.heap.size<=b
 |a,v=>ck bg w' M a v
def zT(w w':World)(M:aX):AV->Value->Prop
 |.new r,v=>kS w w' M (.new r) v
 |.cC l,v=>∃cs,v= .tuple cs/\aJ (kS w w' M) l cs.toList
 |a,v=>az bg w' M a v
def EH(M:aX)(w w':World)(ret:AV)(v:Value):Prop:=
 ∃M':aX,(∀b off,b<w.heap.size->(M' b off↔M b off))/\(∀b off,M' b off->b<w'.heap.size)/\zT w w' M' ret v
def eC(P:Program)(f:FuncId):Prop:=∃fn,P.funcs[f]? =some fn/\fn.name≠ "runtime.NumGoroutine"/\fn.body.isSome=true
def Fn(P:Program):FuncId->List AV->AV->Prop:=λ f args ret=>eC P f/\
 ∀(M:aX) (w:World) (vs:List Value),z8 w->(∀b off,M b off->b<w.heap.size)->aJ (az bg w M) args vs->
  Calls P f vs.toArray w λ e w'=>∃v,e= .returned v/\gk (λ _ _=>False) w w'/\EH M w w' ret v
theorem TQ{M:aX}{w w':World}(h:z8 w)(hs:gk M w w')(hM:∀off,¬M 0 off):z8 w':=λ j hj=>hs.cell (h j hj) (hM j)
abbrev F4(ρ:Env)(M:aX)(w:World):Prop:=∀w',gk (λ b off=>(∃k,hasB ρ k b)/\M b off) w w'->z8 w'
def eB(ρ:Env)(M:aX)(w:World)(hw:F4 ρ M w):ef w:=⟨M,λ b=>∃k,hasB ρ k b,ρ,hw⟩
def nQ(M:aX)(w:World)(h:z8 w):ef w:=⟨M,λ _=>False,bg,λ _ hs=>TQ h hs λ _ hm=>hm.1⟩
def XC(P:Program):FuncId->List AV->ai->AV->ai->Prop:=λ f args S1 ret S2=>eC P f/\
 ∀(ρ:Env) (M:aX) (w:World) (vs:List Value) (hw:F4 ρ M w),St (eB ρ M w hw) ρ M S1 w->aJ (az ρ w M) args vs->
  Calls P f vs.toArray w λ e w'=>∃v ρ' M',e= .returned v/\St (eB ρ M w hw) ρ' M' S2 w'/\az ρ' w' M' ret v
def XD(P:Program):FuncId->List AV->ai->(X:Type)->(X->AV)->(X->ai)->(X->Prop)->Prop:=λ f args S1 X ret S2 ok=>eC P f/\
 ∀(ρ:Env) (M:aX) (w:World) (vs:List Value) (hw:F4 ρ M w),St (eB ρ M w hw) ρ M S1 w->aJ (az ρ w M) args vs->
  Calls P f vs.toArray w λ e w'=>∃z:X,ok z/\∃v ρ' M',e= .returned v/\St (eB ρ M w hw) ρ' M' (S2 z) w'/\az ρ' w' M' (ret z) v
def XB(P:Program):FuncId->List AV->(X:Type)->(X->AV)->(X->Prop)->Prop:=λ f args X out ok=>eC P f/\
 ∀(M:aX) (w:World) (vs:List Value),z8 w->(∀b off,M b off->b<w.heap.size)->aJ (az bg w M) args vs->
  Calls P f vs.toArray w λ e w'=>∃x:X,ok x/\∃v,e= .returned v/\gk (λ _ _=>False) w w'/\EH M w w' (out x) v
structure b6(P:Program)(F:Spec):Prop where
 e:∀f as X out ok,F.e f as X out ok->XB P f as X out ok
 q:∀f as r,F.q f as r->Fn P f as r
 m:∀f as S r S',F.m f as S r S'->XC P f as S r S'
 n:∀f as S X r S' ok,F.n f as S X r S' ok->XD P f as S X r S' ok
def MP(P:Program):Spec:=⟨Fn P,XC P,XB P,XD P⟩
theorem nU(P:Program):b6 P (MP P):=⟨λ _ _ _ _ _ h=>h,λ _ _ _ h=>h,λ _ _ _ _ _ h=>h,λ _ _ _ _ _ _ _ h=>h⟩
def e9(P:Program)(s:Sem Next)(w:World)(R:Value->World->Prop):Prop:=
 (∃v w',s.run P w= .ok (.value v) w'/\R v w')\/(∃w',s.run P w= .ok .skip w'/\R undef w')\/
 ∃f args w',s.run P w= .ok (.enter f args) w'/\Calls P f args w' λ e w''=>∃v,e= .returned v/\R v w''
theorem e9.wp{P:Program}{o:Oper}{a:Act}{w:World}{R:Value->World->Prop}{next:Act->World->Prop}{Q:Exit->Act->World->Prop}
  (h:e9 P (execOp a.eval o) w R) (hn:∀v w',R v w'->next (a.put o.dst v) w'):o.wp P a w next Q:=by
 unfold Oper.wp;rcases h with ⟨v,w',h1,h2⟩|⟨w',h1,h2⟩|⟨f,args,w',h1,h2⟩
 ·rw [h1];exact hn _ _ h2
 ·rw [h1];exact hn _ _ h2
 ·rw [h1]
  refine h2.mono λ e w'' ⟨v,he,hR⟩=>?_;subst he;exact hn _ _ hR
theorem e9.mono{P:Program}{s:Sem Next}{w:World}{R R':Value->World->Prop}(h:e9 P s w R)(hR:∀v w',R v w'->R' v w'):e9 P s w R':=by
 rcases h with ⟨v,w',h1,h2⟩|⟨w',h1,h2⟩|⟨f,args,w',h1,h2⟩
 ·exact .inl ⟨v,w',h1,hR _ _ h2⟩
 ·exact .inr (.inl ⟨w',h1,hR _ _ h2⟩)
 ·exact .inr (.inr ⟨f,args,w',h1,h2.mono λ e w'' ⟨v,he,h⟩=>⟨v,he,hR _ _ h⟩⟩)
theorem e9.val{P:Program}{s:Sem Next}{w w':World}{R:Value->World->Prop}{v:Value}(h:s.run P w= .ok (.value v) w')(hR:R v w'):e9 P s w R:=.inl ⟨v,w',h,hR⟩
theorem wD{w:World}{M:aX}{a b:AV}{v:Value}(h:NN [] [] a b):(az bg w M a v->az bg w M b v)/\(ck bg w M a v->ck bg w M b v)/\(b≠.any->aH bg w M a v->aH bg w M b v):=by
 have nil_ro:∀(r:RO),r.len=0->v= .slice none 0 0->a8 w M r v:=λ r hr hv=>by
  subst hv;exact⟨by rw [hr];exact Nat.zero_le _,none,0,by rw [hr],by rw [hr];exact Nat.le_refl _,.inl (by simp [RO.cells,hr])⟩
 cases b with
 |any=>exact⟨λ _=>trivial,λ _=>trivial,λ h=>absurd rfl h⟩
 |int k n=>
  cases a<;>try exact h.elim
  simp only [NN,al]at h;obtain⟨h1,rfl⟩:=h;obtain rfl:=bZ h1;exact⟨id,id,λ _=>id⟩
 |bool e=>
  cases a<;>try exact h.elim
  rename_i e';have h:e'.val=e.val:=h;refine⟨λ hv=>?_,λ hv=>?_,λ _ hv=>?_⟩<;>(have hv:v= .bool e'.val:=hv;exact(by rw [hv,h]:v= .bool e.val))
 |ro r=>
  cases a<;>try exact h.elim
  ·have h:_=r:=h
   subst h;exact⟨id,id,λ _=>id⟩
  ·exact⟨λ hv=>nil_ro r h hv,λ hv=>nil_ro r h hv,λ _ hv=>nil_ro r h hv⟩
 |vec k=>cases a<;>first|exact h.elim|exact h.2.1.elim
 |ptr k o=>cases a<;>first|exact h.elim|exact h.2.2.1.elim
 |ao=>
  cases a<;>try exact h.elim
  exact⟨id,id,λ _=>id⟩
 |bK=>
  cases a<;>try exact h.elim
  exact⟨id,id,λ _=>id⟩
 |str l=>
  cases a<;>try exact h.elim
  have h:_=l:=h;subst h;exact⟨id,id,λ _=>id⟩
 |eH r i=>
  cases a<;>try exact h.elim
  obtain⟨rfl,rfl⟩:=h;exact⟨id,id,λ _=>id⟩
 |tP f r i=>
  cases a<;>try exact h.elim
  obtain⟨rfl,rfl,rfl⟩:=h;exact⟨id,id,λ _=>id⟩
 |fn f l=>
  cases l with
  |cons x l=>cases a<;>exact h.elim
  |nil=>
   cases a<;>try exact h.elim
   rename_i g m;cases m<;>try exact h.elim
   have h:g=f:=h;subst h;exact⟨id,id,λ _=>id⟩
 |_=>exact h.elim
theorem qM{w:World}{M:aX}:∀{l m:List AV} {vs:List Value},Ss [] [] l m->aJ (aH bg w M) l vs->aJ (aH bg w M) m vs
 |[],[],_,_,h=>h
 |a::l,b::m,v::vs,h,hv=>by
  refine⟨?_,qM h.2 hv.2⟩
  by_cases hb:b= .any
  ·subst hb;exact aH.aM hv.1
  ·exact(wD h.1).2.2 hb hv.1
 |[],_::_,_,h,_=>h.elim
 |_::_,[],_,h,_=>h.elim
 |_::_,_::_,[],_,hv=>hv.elim
theorem Dj{w:World}{M:aX}:∀{l m:List AV} {vs:List Value},Q2 [] [] l m->aJ (ck bg w M) l vs->aJ (ck bg w M) m vs
 |[],[],_,_,h=>h
 |a::l,b::m,v::vs,h,hv=>by
  refine⟨?_,Dj h.2 hv.2⟩;have h1:=h.1;cases b with
  |agg y=>
   cases a<;>try exact h1.elim
   obtain⟨cs,h2,h3⟩:=hv.1;exact⟨cs,h2,qM h1 h3⟩
  |_=>exact(wD h1).2.1 hv.1
 |[],_::_,_,h,_=>h.elim
 |_::_,[],_,h,_=>h.elim
 |_::_,_::_,[],_,hv=>hv.elim
theorem MQ{w:World}{M:aX}{a b:AV}{v:Value}(h:FY [] [] a b)(hv:az bg w M a v):az bg w M b v:=by
 cases b with
 |agg m=>
  cases a<;>try exact h.elim
  obtain⟨cs,h2,h3⟩:=hv;exact⟨cs,h2,qM h h3⟩
 |cC m=>
  cases a<;>try exact h.elim
  obtain⟨cs,h2,h3⟩:=hv;exact⟨cs,h2,Dj h h3⟩
 |fn f m=>
  cases a<;>try exact h.elim
  obtain⟨cs,h2,h3⟩:=hv;obtain⟨rfl,h⟩:=h;exact⟨cs,h2,qM h h3⟩
 |_=>simp only [FY]at h;exact(wD h).1 hv
theorem nM{w:World}{M:aX}:∀{l m:List AV} {vs:List Value},Dk l m->aJ (az bg w M) l vs->aJ (az bg w M) m vs
 |[],[],_,_,h=>h
 |_::_,_::_,_::_,h,hv=>⟨MQ h.1 hv.1,nM h.2 hv.2⟩
 |[],_::_,_,h,_=>h.elim
 |_::_,[],_,h,_=>h.elim
 |_::_,_::_,[],_,hv=>hv.elim
end Go.AM
end
section
namespace Go.AM
open Go
def JK(S S':ai):Prop:=∀k B B',aj S k=some B->aj S' k=some B'->B=B'
theorem JK.refl(S:ai):JK S S:=λ k B B' h h'=>by rw [h]at h';exact Option.some.inj h'
def rJ(d:Nat):Option dH->ai->ai
 |none,S=>S|some b,S=>(d,b)::S
def Out(w0:World)(M0:ef w0)(ρ:Env)(M:aX)(S:ai)(w:World)(d:Nat)(B:Option dH)(v:AV)(u:Value)(w':World):Prop:=
 ∃ρ' M',St M0 ρ' M' (rJ d B S) w'/\az ρ' w' M' v u/\bB w M w' M'/\∀k o,ρ k=some o->ρ' k=some o
def QS(P:Program)(d:Nat)(o:Op)(T:List AV)(S:ai)(v:AV)(B:Option dH):Prop:=
 (∀(w0:World) (M0:ef w0) (ρ:Env) (M:aX) (w:World) (S':ai) (e:Operand->Value) (oo:Oper),oo.op=o->JK S S'->St M0 ρ M S' w->
   (∀x∈o.operands,az ρ w M (aP T x) (e x))->(B≠none->aj S' d=none/\loc d=true)->e9 P (execOp e oo) w (Out w0 M0 ρ M S' w d B v))/\
 ((bP o&& !lI o)=true->B=none->∀(w0:World) (M0:ef w0) (ρ:Env) (w:World) (M:aX) (S':ai) (e:Operand->Value) (oo:Oper),oo.op=o->JK S S'->St M0 ρ M S' w->
   (∀x∈o.operands,az ρ w M (aP T x) (e x))->∃u,(execOp e oo).run P w= .ok (.value u) w/\az ρ w M v u)
section
variable{P:Program}{w0 w:World}{M0:ef w0}{ρ:Env}{M:aX}{S:ai}{d:Nat}
theorem Out.pure{v:AV}{u:Value}(st:St M0 ρ M S w)(h:az ρ w M v u):Out w0 M0 ρ M S w d none v u w:=
 ⟨ρ,M,st,h,bB.refl _ _,λ _ _ h=>h⟩
theorem bU{S0:ai}{o:Op}{T:List AV}{K:AV->Option dH->Prop}{v:AV}(hK:K v none)
  (h:∀(w0:World) (M0:ef w0) (ρ:Env) (w:World) (M:aX) (S':ai) (e:Operand->Value) (oo:Oper),oo.op=o->JK S0 S'->St M0 ρ M S' w->(∀x∈o.operands,az ρ w M (aP T x) (e x))->∃u,(execOp e oo).run P w= .ok (.value u) w/\az ρ w M v u):
  ∃v B,K v B/\QS P d o T S0 v B:=
 ⟨v,none,hK,(λ w0 M0 ρ M w S' e oo ho hc st he _=>by
   obtain⟨u,h1,h2⟩:=h w0 M0 ρ w M S' e oo ho hc st he;exact .val h1 (Out.pure st h2)),λ _ _=>h⟩
theorem cf{S0:ai}{o:Op}{T:List AV}{K:AV->Option dH->Prop}{v:AV}(hK:K v none)
  (h:∀(ρ:Env) (w:World) (M:aX) (e:Operand->Value) (oo:Oper),oo.op=o->(∀x∈o.operands,az ρ w M (aP T x) (e x))->∃u,(execOp e oo).run P w= .ok (.value u) w/\az ρ w M v u):
  ∃v B,K v B/\QS P d o T S0 v B:=bU hK λ _ _ ρ w M _ e oo ho _ _ he=>h ρ w M e oo ho he
theorem eA.ext{w':World}{M':aX}{ρ':Env}{k:Nat}{B:dH}(hk:bB w M w' M')(hρ:∀k o,ρ k=some o->ρ' k=some o)
  (hb:∀b,hasB ρ k b->w'.heap[b]? =w.heap[b]?/\∀off,M' b off↔M b off) (h:eA ρ w M k B):eA ρ' w' M' k B:=by
 cases B with
 |box l=>
  obtain⟨b,h2,cs,ty,h3,h4,h5⟩:=h;have:=hb b (by simp [hasB,h2,bY.has]);exact⟨b,hρ _ _ h2,cs,ty,this.1.trans h3,λ off=>(this.2 off).trans (h4 off),h5.imp λ _ _=>aH.keep hk hρ⟩
 |map kd vk m=>
  obtain⟨b,h2,es,n,h3,h4,h5⟩:=h;have:=hb b (by simp [hasB,h2,bY.has]);exact⟨b,hρ _ _ h2,es,n,this.1.trans h3,λ off=>(this.2 off).trans (h4 off),h5⟩
 |deep r hole=>
  obtain⟨o,rows,h2,h3⟩:=h;exact⟨o,rows,hρ _ _ h2,h3.ext hk λ b h=>hb b (by simp only [hasB,h2];exact h)⟩
 |dE n r=>
  obtain⟨o,cur,h2,h3,h4⟩:=h;exact⟨o,cur,hρ _ _ h2,h3.HT hk λ b h=>hb b (by simp only [hasB,h2];exact .inr h),h4.ext λ b h=>hb b (by simp only [hasB,h2];exact .inl h)⟩
 |ma n z=>
  obtain⟨o,h2,h4⟩:=h;exact⟨o,hρ _ _ h2,h4.ext λ b h=>hb b (by simp only [hasB,h2];exact h)⟩
 |vec wm r ov=>
  obtain⟨⟨o,h2,h3,h4,h5,h6,h7⟩,gQ⟩:=h;refine⟨⟨o,hρ _ _ h2,h3,h4,h5,h6,?_⟩,gQ⟩;cases fp:o.aW with
  |none=>simp only [fp]at h7 ⊢;exact h7
  |some b=>
   simp only [fp]at h7 ⊢;have:=hb b (by simp [hasB,h2,bY.has,fp]);obtain⟨h8,cs,ty,h9,cu,ou,ox⟩:=h7;refine⟨h8,cs,ty,this.1.trans h9,cu,λ off=>(this.2 off).trans (ou off),λ q hq=>?_⟩;obtain⟨c,wE,lW⟩:=ox q hq;refine⟨c,wE,?_⟩;split
   ·exact av.keep hk lW
   ·simp only at lW
    split at lW
    ·rename_i he;simp only [he,if_true];exact aH.keep hk hρ lW
    ·rename_i he;simp only [he,if_false];exact av.keep hk lW
theorem eV(st:St M0 ρ M S w){k b:Nat}(h:hasB ρ k b):b<w.heap.size:=by
 have hs:(ρ k).isSome:=by cases hk:ρ k with|none=>simp [hasB,hk]at h|some o=>rfl
 rw [st.ga]at hs;obtain⟨B,hB⟩:=Option.isSome_iff_exists.1 hs
 have aS:∀{ob:Obj},w.heap[b]? =some ob->b<w.heap.size:=λ{ob} hh=>by
  rcases Nat.lt_or_ge b w.heap.size with h'|h'
  ·exact h'
  ·rw [Array.getElem?_eq_none h']at hh;cases hh
 cases B with
 |box l=>
  obtain⟨b',h2,cs,ty,h3,_⟩:=st.aW k _ hB;simp [hasB,h2,bY.has]at h;subst h;exact aS h3
 |map kd vk m=>
  obtain⟨b',h2,es,n,h3,_⟩:=st.aW k _ hB;simp [hasB,h2,bY.has]at h;subst h;exact aS h3
 |deep r hole=>
  obtain⟨o,rows,h2,h3⟩:=st.aW k _ hB;simp only [hasB,h2]at h;obtain⟨cs,ty,h4⟩:=h3.cells h;exact aS h4
 |dE n r=>
  obtain⟨o,cur,h2,h3,h4⟩:=st.aW k _ hB;simp only [hasB,h2]at h;obtain⟨cs,ty,h5⟩:=h.elim h4.cells h3.cells;exact aS h5
 |ma n z=>
  obtain⟨o,h2,h4⟩:=st.aW k _ hB;simp only [hasB,h2]at h;obtain⟨cs,ty,h5⟩:=h4.cells h;exact aS h5
 |vec wm r ov=>
  obtain⟨⟨o,h2,_,_,_,_,h7⟩,_⟩:=st.aW k _ hB;simp [hasB,h2,bY.has]at h;simp only [h]at h7;obtain⟨_,cs,ty,h9,_⟩:=h7;exact aS h9
theorem gk.WM {w w':World}{M M':aX}(h:gk (λ _ _=>False) w w')(hm:∀b off,b<w.heap.size->M' b off->M b off):bB w M w' M':=
 λ b off _ hc hn=>⟨h.cell hc (λ h=>h),λ hM=>hn (hm b off (nH hc) hM)⟩
theorem St.same{w':World}{M':aX}(st:St M0 ρ M S w)(hs:gk (λ _ _=>False) w w')(hM:∀b off,b<w.heap.size->(M' b off↔M b off))(aS:∀b off,M' b off->b<w'.heap.size):
  St M0 ρ M' S w'/\bB w M w' M':=by
 have sy:∀b,b<w.heap.size->w'.heap[b]? =w.heap[b]? :=λ b hb=>by
  rcases hs.2 b hb with h|⟨cs,cs',ty,h1,h2,h3,h4⟩|⟨_,_,_,_,_,_,h⟩
  ·exact h
  ·rw [h1,h2]
   have:cs'=cs:=Array.ext_getElem? λ i=>h4 i (by simp);rw [this]
  ·exact h.elim
 have hk:bB w M w' M':=hs.WM λ b off hb=>(hM b off hb).1;refine⟨⟨st.ga,λ k B hB=>eA.ext hk (λ _ _ h=>h) (λ b hb=>⟨sy b (eV st hb),λ off=>hM b off (eV st hb)⟩) (st.aW k B hB),st.inj,aS,?_,λ b off hb hm=>st.sub b off hb ((hM b off (Nat.lt_of_lt_of_le hb st.lD.1)).1 hm),λ b off hb hl hm=>(hM b off (Nat.lt_of_lt_of_le hb st.lD.1)).2 (st.eu b off hb hl hm),st.fresh,st.tn⟩,hk⟩
 ·exact st.lD.trans hs (λ _ _ _ h=>h.elim)
theorem St.MR{w':World}{ob:Obj}(N:Nat->Prop){own:bY}{B:dH}(st:St M0 ρ M S w)(hd:aj S d=none)(fJ:loc d=true)(hw:w'.heap=w.heap.push ob)(oq:jT w w')
  (ho:∀b,own.has b->b=w.heap.size)
  (hB:∀(ρ':Env) (M':aX),ρ' d=some own->(∀off,M' w.heap.size off↔N off)->bB w M w' M'->(∀k o,ρ k=some o->ρ' k=some o)->eA ρ' w' M' d B):
  ∃ρ' M',St M0 ρ' M' ((d,B)::S) w'/\ρ' d=some own/\bB w M w' M'/\∀k o,ρ k=some o->ρ' k=some o:=by
 have RR:ρ d=none:=by
  have:=st.ga d;rw [hd]at this;cases h:ρ d with|none=>rfl|some o=>rw [h]at this;cases this
 have hs:gk (λ _ _=>False) w w':=⟨by rw [hw];simp,λ b hb=>.inl (by rw [hw];simp [Array.getElem?_push,Nat.ne_of_lt hb]),oq⟩;have hnM:∀off,¬M w.heap.size off:=λ off h=>absurd (st.mlt _ _ h) (Nat.lt_irrefl _)
 let M':aX:=λ b off=>M b off\/(b=w.heap.size/\N off)
 have WN:∀b off,b<w.heap.size->(M' b off↔M b off):=λ b off hb=>⟨λ h=>h.elim id (λ h=>absurd h.1 (Nat.ne_of_lt hb)),.inl⟩
 have WO:∀b off,M' b off->b<w'.heap.size:=λ b off h=>by
  rw [hw];simp;rcases h with h|⟨rfl,_⟩
  ·exact Nat.lt_succ_of_lt (st.mlt _ _ h)
  ·exact Nat.lt_succ_self _
 obtain⟨st',hk⟩:=st.same hs WN WO
 let ρ':Env:=λ k=>if k=d then some own else ρ k
 have fa:∀k o,ρ k=some o->ρ' k=some o:=λ k o h=>by
  have:k≠d:=λ e=>by subst e;rw [RR]at h;cases h
  simp [ρ',this,h]
 have Jh:ρ' d=some own:=by simp [ρ']
 have iI:∀off,M' w.heap.size off↔N off:=λ off=>⟨λ h=>h.elim (λ h=>absurd h (hnM off)) (λ h=>h.2),λ h=>.inr ⟨rfl,h⟩⟩;have hold:∀k b,k≠d->hasB ρ' k b->hasB ρ k b:=λ k b hk h=>by simpa [hasB,ρ',hk]using h
 refine⟨ρ',M',⟨λ k=>?_,λ k B' q8=>?_,λ i j b hi hj=>?_,WO,st'.lD,st'.sub,st'.eu,λ k b Be=>?_,λ k o hk ho=>?_⟩,Jh,hk,fa⟩
 ·by_cases oa:k=d
  ·subst oa;simp [Jh,aD]
  ·simp [ρ',oa,aD,Ne.symm oa,st.ga k]
 ·by_cases oa:k=d
  ·subst oa
   simp only [aD,if_true]at q8;cases q8;exact hB ρ' M' Jh iI hk fa
  ·simp only [aD,Ne.symm oa,if_false]at q8
   exact eA.ext (bB.refl _ _) fa (λ b hb=>⟨rfl,λ _=>Iff.rfl⟩) (st'.aW k B' q8)
 ·by_cases tG:i=d
  ·by_cases MS:j=d
   ·rw [tG,MS]
   ·subst tG
    have h1:=eV st (hold j b MS hj);simp only [hasB,Jh]at hi;have:=ho _ hi;omega
  ·by_cases MS:j=d
   ·subst MS
    have h1:=eV st (hold i b tG hi);simp only [hasB,Jh]at hj;have:=ho _ hj;omega
   ·exact st.inj _ _ _ (hold i b tG hi) (hold j b MS hj)
 ·by_cases oa:k=d
  ·subst oa
   simp only [hasB,Jh]at Be;rw [ho _ Be];exact .inl st.lD.1
  ·exact st.fresh k b (hold k b oa Be)
 ·by_cases oa:k=d
  ·subst oa;rw [fJ]at hk;cases hk
  ·exact st.tn k o hk (by simpa [ρ',oa]using ho)
theorem St.push{w':World}{cs:Array Value}{ty:TypeId}{own:bY}{B:dH}(st:St M0 ρ M S w)(hd:aj S d=none)(fJ:loc d=true)(hw:w'.heap=w.heap.push (.cells cs ty (0,0)))(oq:jT w w')
  (ho:∀b,own.has b->b=w.heap.size)
  (hB:∀(ρ':Env) (M':aX),ρ' d=some own->(∀off,M' w.heap.size off↔off<cs.size)->bB w M w' M'->(∀k o,ρ k=some o->ρ' k=some o)->eA ρ' w' M' d B):
  ∃ρ' M',St M0 ρ' M' ((d,B)::S) w'/\ρ' d=some own/\bB w M w' M'/\∀k o,ρ k=some o->ρ' k=some o:=
 St.MR (λ off=>off<cs.size) st hd fJ hw oq ho hB
theorem St.find(st:St M0 ρ M S w){S0:ai}(hc:JK S0 S){k:Nat}{B:dH}{o:bY}(hf:aj S0 k=some B)(ho:ρ k=some o):aj S k=some B:=by
 have h:=st.ga k;rw [ho]at h;obtain⟨B',q8⟩:=Option.isSome_iff_exists.1 h.symm;rw [q8,hc k B B' hf q8]
theorem St.fB (st:St M0 ρ M S w){S0:ai}(hc:JK S0 S){k:Nat}{B:dH}{β:Type}{f:bY->Option β}{x:β}(hf:aj S0 k=some B)(ho:(ρ k).bind f=some x):aj S k=some B:=by
 cases h:ρ k with
 |none=>rw [h]at ho;cases ho
 |some o=>exact st.find hc hf h
end
end Go.AM
end
section
namespace Go.AM
open Go
section
variable{P:Program}{TY:List cP}
theorem iG.size{t:Nat}{E:cP}(h:iG P t E)(w:World):(sizeOf t).run P w= .ok E.sz w:=by
 obtain⟨i,u,h1,_,h3,_⟩:=h.row;simp [sizeOf,typeInfo,h1,h3]
theorem iG.agg{t:Nat}{E:cP}(h:iG P t E)(w:World):(isAgg t).run P w= .ok (bJ E.d) w:=by
 obtain⟨i,u,h1,h2,h3,h4,h5,_⟩:=h.row;cases hd:E.d<;>cases u<;>simp_all [lT,isAgg,underlying,bJ]
theorem iG.under{t:Nat}{E:cP}(h:iG P t E):∃u,P.underlying t=some u/\lT E.d u/\∀w,(underlying t).run P w= .ok u w:=by
 obtain⟨i,u,h1,h2,h3,h4,h5,_⟩:=h.row;exact⟨u,h2,h5,λ w=>by simp [underlying,h2]⟩
theorem aQ(b off n:Nat):(⟨b,off,none⟩:Addr).add n=⟨b,off+n,none⟩:=by
 unfold Addr.add;split
 ·rename_i h;subst h;rfl
 ·rfl
theorem aJ.get{R:AV->Value->Prop}:∀{l:List AV} {m:List Value},aJ R l m->∀i,i<l.length->∃v,m[i]? =some v/\R (nth l i) v
 |[],[],_,i,hi=>by simp at hi
 |a::l,v::m,h,0,_=>⟨v,rfl,h.1⟩
 |a::l,v::m,h,i+1,hi=>by obtain⟨u,h1,h2⟩:=aJ.get h.2 i (by simpa using hi);exact⟨u,by simpa using h1,h2⟩
 |[],_::_,h,_,_=>h.elim
 |_::_,[],h,_,_=>h.elim
theorem aJ.drop{R:AV->Value->Prop}:∀{l:List AV} {m:List Value} (n:Nat),aJ R l m->aJ R (l.drop n) (m.drop n)
 |_,_,0,h=>by simpa using h
 |[],[],_+1,_=>trivial
 |a::l,v::m,n+1,h=>by simpa using aJ.drop n h.2
 |[],_::_,_+1,h=>h.elim
 |_::_,[],_+1,h=>h.elim
theorem aJ.take{R:AV->Value->Prop}:∀{l:List AV} {m:List Value} (n:Nat),aJ R l m->aJ R (l.take n) (m.take n)
 |_,_,0,_=>by simp;trivial
 |[],[],_+1,_=>trivial
 |a::l,v::m,n+1,h=>by show aJ R (a::l.take n) (v::m.take n);exact⟨h.1,aJ.take n h.2⟩
 |[],_::_,_+1,h=>h.elim
 |_::_,[],_+1,h=>h.elim
theorem aJ.append{R:AV->Value->Prop}:∀{l l':List AV} {m m':List Value},aJ R l m->aJ R l' m'->aJ R (l++l') (m++m')
 |[],_,[],_,_,h'=>h'
 |_::_,_,_::_,_,h,h'=>⟨h.1,aJ.append h.2 h'⟩
 |[],_,_::_,_,h,_=>h.elim
 |_::_,_,[],_,h,_=>h.elim
theorem Dl(l:List AV)(n:Nat):(l.drop n).head? =if n<l.length then some (nth l n) else none:=by
 induction l generalizing n with
 |nil=>simp
 |cons a l ih=>cases n with
  |zero=>simp [nth]
  |succ n=>simpa [nth]using ih n
theorem qa{t:Nat}{l:List AV}{off:Nat}{K:AV->Prop}(h:yd TY t l off K):
  ∃a,K a/\off+(aq TY t).sz<=l.length/\((bJ (aq TY t).d=true/\a= .agg ((l.drop off).take (aq TY t).sz))\/(bJ (aq TY t).d=false/\(aq TY t).sz=1/\a=nth l off)):=by
 have one:∀{K:AV->Prop},bH (Nat.beq (aq TY t).sz 1) (sU l off λ l=>match l with|a::_=>kF a K|[]=>False)->(aq TY t).sz=1/\off+1<=l.length/\K (nth l off):=by
  intro K h;rw [al]at h;obtain⟨h1,h2⟩:=h;obtain⟨h3,h4⟩:=qO h2;refine⟨ay.1 h1,?_⟩;have h5:=Dl l off;cases hd:l.drop off with
  |nil=>rw [hd]at h4;exact h4.elim
  |cons a m=>
   rw [hd]at h4 h5
   have aS:off<l.length:=by
    rcases Nat.lt_or_ge off l.length with h'|h'
    ·exact h'
    ·rw [List.drop_eq_nil_of_le h']at hd;cases hd
   simp [aS]at h5;exact⟨aS,by rw [<-h5];exact gA.1 h4⟩
 have two:(sU l off λ l=>Dm l (aq TY t).sz λ m=>K (.agg m))->off+(aq TY t).sz<=l.length/\K (.agg ((l.drop off).take (aq TY t).sz)):=by
  intro h;obtain⟨h1,h2⟩:=qO h;obtain⟨h3,h4⟩:=Dp h2;rw [List.length_drop]at h3;exact⟨aa,h4⟩
 unfold yd at h
 cases hd:(aq TY t).d<;>simp only [hd]at h<;>first
  |exact⟨_,(two h).2,(two h).1,.inl ⟨rfl,rfl⟩⟩
  |(obtain⟨h1,h2,h3⟩:=one h;exact⟨_,h3,aa,.inr ⟨rfl,h1,rfl⟩⟩)
theorem yV{v:AV}{n:Nat}{K:List AV->Prop}(h:match v with|.agg m=>(match c5 m n with|true=>K m|false=>False)|_=>False):
  ∃m,K m/\m.length=n/\v= .agg m:=by
 split at h
 ·rename_i m
  split at h
  ·rename_i hs;exact⟨m,h,dw hs,rfl⟩
  ·exact h.elim
 ·exact h.elim
theorem rY{v:AV}{n:Nat}{K:List AV->Prop}(h:match kG v with|true=>(match c5 [v] n with|true=>K [v]|false=>False)|false=>False):
  K [v]/\1=n/\kG v=true:=by
 split at h
 ·rename_i hc
  split at h
  ·rename_i hs;exact⟨h,dw hs,hc⟩
  ·exact h.elim
 ·exact h.elim
theorem sm{t:Nat}{v:AV}{K:List AV->Prop}(h:ik TY t v K):
  ∃m,K m/\m.length=(aq TY t).sz/\((bJ (aq TY t).d=true/\v= .agg m)\/(bJ (aq TY t).d=false/\kG v=true/\m=[v])):=by
 unfold ik at h;split at h<;>rename_i hd
 ·obtain⟨m,h1,h2,h3⟩:=yV h;exact⟨m,h1,h2,.inl ⟨by rw [hd];rfl,h3⟩⟩
 ·obtain⟨m,h1,h2,h3⟩:=yV h;exact⟨m,h1,h2,.inl ⟨by rw [hd];rfl,h3⟩⟩
 ·rename_i OO
  obtain⟨h1,h2,h3⟩:=rY h;refine⟨[v],h1,h2,.inr ⟨?_,h3,rfl⟩⟩;cases hx:(aq TY t).d<;>first|rfl|(exact absurd hx (hd _))|(exact absurd hx (OO _))|(exact absurd hx (OO _ _))|(exact absurd hx (hd _ _))
theorem lX{ρ:Env}{w:World}{M:aX}{a:AV}{v:Value}(h:kG a=true)(hv:az ρ w M a v):aH ρ w M a v:=by
 cases a with
 |fn f l=>
  cases l with
  |nil=>obtain⟨cs,rfl,h2⟩:=hv;cases bR:cs.toList with
   |nil=>have:cs= #[]:=by simpa using congrArg List.toArray bR
         subst this;exact rfl
   |cons x l=>rw [bR]at h2;exact h2.elim
  |cons x l=>cases h
 |agg l=>cases h
 |cC l=>cases h
 |any=>cases h
 |_=>exact hv
theorem ya(ρ:Env)(w:World)(M:aX)(v:Value):az ρ w M (AQ v) v:=by
 unfold AQ;split
 ·rename_i k n
  cases hf:xD k n with
  |true=>exact⟨rfl,vW hf⟩
  |false=>trivial
 ·exact rfl
 ·exact rfl
 ·exact rfl
 ·split
  ·rename_i hb;exact Hm (ρ:=ρ) (w:=w) (M:=M) (ay.1 hb)
  ·trivial
 ·trivial
theorem aY{ρ:Env}{w:World}{M:aX}{T:List AV}{a:Act}(tm:Tm ρ w M T a)(x:Operand):az ρ w M (aP T x) (a.eval x):=by
 cases x with
 |tmp t=>exact tm.tmp t
 |const v=>exact ya _ _ _ _
 |global g=>trivial
 |func f=>exact⟨#[],rfl,ag⟩
theorem kZ{k:IntKind}{n:Int}{ρ:Env}{w:World}{M:aX}(h:eD k n):az ρ w M (.int k n) (.int k (k.wrap n)):=by
 rw [qG h];exact⟨rfl,h⟩
theorem Ql{k:IntKind}{a b:Int}(ha:eD k a)(h0:0<=a)(hb:0<b):eD k (a / b):=by
 have h1:0<=a / b:=Int.ediv_nonneg h0 aa;have h2:a / b<=a:=Int.ediv_le_self b h0;have xm:k.min<=0:=by cases k<;>simp [IntKind.min,IntKind.bits,IntKind.signed]
 exact⟨aa,by have:=ha.2;omega⟩
theorem MT{k:IntKind}{a b:Int}(cr:eD k b)(hb:0<b):eD k (a % b):=by
 have h1:0<=a % b:=Int.emod_nonneg _ aa;have h2:a % b<b:=Int.emod_lt_of_pos _ hb;have xm:k.min<=0:=by cases k<;>simp [IntKind.min,IntKind.bits,IntKind.signed]
 exact⟨aa,by have:=cr.2;omega⟩
theorem G3{k:IntKind}{a:Int}(ha:eD k a)(n:Nat):eD k (a.fdiv (2 ^ n)):=by
 have hp:(0:Int)<2 ^ n:=Int.pow_pos (by decide);have xm:k.min<=0:=by cases k<;>simp [IntKind.min,IntKind.bits,IntKind.signed]
 have ON:0<=k.max:=by cases k<;>simp [IntKind.max,IntKind.bits,IntKind.signed]
 rw [Int.fdiv_eq_ediv_of_nonneg _ (Int.le_of_lt hp)];obtain⟨h1,h2⟩:=ha
 have h3:a / 2 ^ n<=max a 0:=by
  rcases Int.le_total 0 a with h|h
  ·have:=Int.ediv_le_self (2 ^ n:Int) h;omega
  ·have:=Int.ediv_nonpos_of_nonpos_of_neg h hp;omega
 have h4:min a 0<=a / 2 ^ n:=by
  rcases Int.le_total 0 a with h|h
  ·have:=Int.ediv_nonneg h (Int.le_of_lt hp);omega
  ·have h5:a<=a / 2 ^ n:=by
    rw [Int.le_ediv_iff_mul_le hp];have h1:(1:Int)<=2 ^ n:=aa;have h2:=Int.mul_le_mul_of_nonpos_left h h1;rw [Int.mul_one]at h2;exact h2
   omega
 exact⟨aa,aa⟩
theorem run_equal_bool{t:Nat}(hu:P.underlying t=some .bool)(a b:Bool)(w:World):(Op.equal t (.bool a) (.bool b)).run P w= .ok (a==b) w:=by
 have h:∀n,(Op.equalIn (n+1) t (.bool a) (.bool b)).run P w= .ok (a==b) w:=λ n=>by simp [Op.equalIn,underlying,hu]
 exact h 9999
theorem Fm{n:Int}(h0:0<=n)(h1:n<128):Utf8.encode n=ca [n]:=by
 have hv:Utf8.valid n=true:=by simp [Utf8.valid];omega
 have hc:n.toNat<0x80:=aa;simp [Utf8.encode,hv,hc,ca]
theorem qP(a:List Int):(ca a).size=a.length:=by simp [ca,ByteArray.size]
theorem MU(a b:List Int):ca a++ca b=ca (a++b):=by
 apply ByteArray.ext;simp [ca]
theorem MV{x y:Int}(hx:c6 x)(hy:c6 y)(h:UInt8.ofNat x.toNat=UInt8.ofNat y.toNat):x=y:=by
 have h:=congrArg UInt8.toNat h;obtain⟨h1,h2⟩:=hx;obtain⟨h3,h4⟩:=hy;simp [UInt8.toNat_ofNat']at h;omega
theorem wF:∀{a b:List Int},(∀x∈a,c6 x)->(∀x∈b,c6 x)->(a.map λ x=>UInt8.ofNat x.toNat)=(b.map λ x=>UInt8.ofNat x.toNat)->a=b
 |[],[],_,_,_=>rfl
 |[],_::_,_,_,h=>by simp at h
 |_::_,[],_,_,h=>by simp at h
 |x::a,y::b,ha,hb,h=>by
  simp only [List.map_cons,List.cons.injEq]at h;rw [MV (ha x (by simp)) (hb y (by simp)) h.1,wF (λ z hz=>ha z (List.mem_cons_of_mem _ hz)) (λ z hz=>hb z (List.mem_cons_of_mem _ hz)) h.2]
theorem AR{a b:List Int}(ha:∀x∈a,c6 x)(hb:∀x∈b,c6 x):((ca a).toList==(ca b).toList)=(a==b):=by
 by_cases e:a=b
 ·subst e;exact(beq_self_eq_true _).trans (beq_self_eq_true _).symm
 ·rw [beq_eq_false_iff_ne.2 e,Bool.eq_false_iff,<-beq_toListBytes]
  intro h;have h:(ca a).data==(ca b).data:=h;have h:(ca a).data=(ca b).data:=eq_of_beq h;exact e (wF ha hb (by simpa [ca]using h))
theorem Hn{ρ:Env}{w:World}{M:aX}{a b:List Int}{u:Value}(h:az ρ w M (.agg [.str a,.str b]) u):u= .agg #[.string (ca a),.string (ca b)]/\(∀x∈a,c6 x)/\∀x∈b,c6 x:=by
 obtain⟨cs,rfl,bR⟩:=h;obtain⟨l⟩:=cs
 match l,bR with
 |[c,d],bR=>
  obtain⟨⟨rfl,g1⟩,⟨rfl,g2⟩,_⟩:=bR;exact⟨rfl,g1,g2⟩
theorem mg(w:World)(d:Nat)(t:TypeId){a b:List Int}(ha:∀x∈a,c6 x)(hb:∀x∈b,c6 x)(hu:P.underlying t=some .string):
  (Op.equalIn (d+1) t (.string (ca a)) (.string (ca b))).run P w= .ok (a==b) w:=by
 rw [run_equalIn_string w d t _ _ hu,AR ha hb]
theorem TR(aw:aO P TY){t:Nat}(hf:TS TY t=true):P.eqGuardType P.depth t=false/\∀{a b c d:List Int},(∀x∈a,c6 x)->(∀x∈b,c6 x)->(∀x∈c,c6 x)->(∀x∈d,c6 x)->∀w,
  (Op.equalIn 10000 t (.agg #[.string (ca a),.string (ca b)]) (.agg #[.string (ca c),.string (ca d)])).run P w= .ok (a==c&&b==d) w:=by
 unfold TS at hf;split at hf
 ·rename_i ta tb hd
  split at hf
  ·rename_i hz ZI ZJ
   have aI:=aw.at (t:=t) (.inr (by rw [hd];simp));obtain⟨c8,O7,OQ⟩:=aI.eqr hz;obtain⟨u,hu,h2,hru⟩:=aI.under;clear hru;rw [hd]at h2;cases u<;>try exact h2.elim
   rename_i F;have hF:P.fieldsOf t=F:=by simp [Program.fieldsOf,hu]
   rw [hF]at OQ;have h2:[(0,ta),(1,tb)]=F.toList.map (λ f=>(f.offset,f.type)):=h2;have XO:=aw.at (t:=ta) (.inr (by rw [ZI];simp));have Rb:=aw.at (t:=tb) (.inr (by rw [ZJ];simp))
   have XT:P.underlying ta=some .string:=by
    obtain⟨u,g1,g2,_⟩:=XO.under;rw [ZI]at g2;cases u<;>first|exact g1|exact g2.elim
   have b7:P.underlying tb=some .string:=by
    obtain⟨u,g1,g2,_⟩:=Rb.under;rw [ZJ]at g2;cases u<;>first|exact g1|exact g2.elim
   have hga:∀w,(isAgg ta).run P w= .ok false w:=λ w=>by rw [XO.agg w,ZI];rfl
   have hgb:∀w,(isAgg tb).run P w= .ok false w:=λ w=>by rw [Rb.agg w,ZJ];rfl
   obtain⟨f0,f1,XF⟩:∃f0 f1,F.toList=[f0,f1]:=by
    have hl:F.toList.length=2:=by have:=congrArg List.length h2;simpa using this.symm
    match F.toList,hl with
    |[x,y],_=>exact⟨x,y,rfl⟩
   rw [XF]at h2;simp only [List.map_cons,List.map_nil,List.cons.injEq,Prod.mk.injEq,and_true]at h2;obtain⟨⟨ho0,rfl⟩,⟨ho1,rfl⟩⟩:=h2;rw [XF]at OQ;have Ww:=OQ f0 (by simp);have YN:=OQ f1 (by simp);have hp0:∀w (x y:Value),(part f0.type #[x,y] f0.offset).run P w= .ok x w:=λ w x y=>by simp [part,hga,<-ho0]
   have gR:∀w (x y:Value),(part f1.type #[x,y] f1.offset).run P w= .ok y w:=λ w x y=>by simp [part,hgb,<-ho1]
   refine⟨O7,λ{a b c d} ha hb hc hd w=>?_⟩;rw [run_equalIn_struct w 9999 t _ _ (by rw [hF];exact hu) c8,hF,XF];have q0:=mg (P:=P) w 9998 f0.type ha hc XT;have q1:=mg (P:=P) w 9998 f1.type hb hd b7;generalize (a==c)=e1 at q0 ⊢;generalize (b==d)=e2 at q1 ⊢;cases e1<;>cases e2<;>simp [Op.eqFields,Ww,YN,hp0,gR,q0,q1]
  ·cases hf
 ·cases hf
theorem MW(aw:aO P TY){t:Nat}(hs:X1 TY t=true):∃kt et,P.underlying t=some (.map kt et):=by
 unfold X1 at hs;split at hs
 ·rename_i e hd
  obtain⟨u,h1,h2,_⟩:=(aw.at (t:=t) (.inr (by rw [hd];simp))).under;rw [hd]at h2;cases u<;>first|exact⟨_,_,h1⟩|exact h2.elim
 ·cases hs
theorem Ji(aw:aO P TY){op:BinOp}{t:Nat}{a b:AV}{K:AV->Prop}(h:AU TY op t a b K):
  ∃v,K v/\∀(ρ:Env) (w:World) (M:aX) (x y:Operand) (u1 u2:Value),az ρ w M a u1->az ρ w M b u2->
   ∃u,(do eqGuard op t x y u1 u2;binOp op t u1 u2:Sem Value).run P w= .ok u w/\az ρ w M v u:=by
 have guard_int:∀(x y:Operand) (k k':IntKind) (n m:Int) (w:World),(eqGuard op t x y (.int k n) (.int k' m)).run P w= .ok () w:=by
  intro x y k k' n m w;cases op<;>rfl
 cases a with
 |int k a=>
  cases b with
  |int k' b=>
   have fin:∀(v:AV),K v->(∀(ρ:Env) (w:World) (M:aX),eD k a->eD k' b->∃u,(binOp op t (.int k a) (.int k' b)).run P w= .ok u w/\az ρ w M v u)->
     ∃v,K v/\∀(ρ:Env) (w:World) (M:aX) (x y:Operand) (u1 u2:Value),az ρ w M (.int k a) u1->az ρ w M (.int k' b) u2->
      ∃u,(do eqGuard op t x y u1 u2;binOp op t u1 u2:Sem Value).run P w= .ok u w/\az ρ w M v u:=by
    intro v hK hv;refine⟨v,hK,λ ρ w M x y u1 u2 h1 h2=>?_⟩;obtain⟨rfl,h1⟩:=h1;obtain⟨rfl,h2⟩:=h2;obtain⟨u,h3,h4⟩:=hv ρ w M h1 h2;exact⟨u,by simp [guard_int,h3],h4⟩
   cases op<;>simp only [AU,al]at h
   case shl=>
    refine fin _ h.2 λ ρ w M ha hb=>⟨.int k (Cz k a b),?_,rfl,lS _ _⟩;simp [binOp,Op.shift,Cz,Int.not_lt.2 h.1]
   case shr=>
    refine fin _ h.2 λ ρ w M ha hb=>⟨.int k (CA k a b),?_,rfl,G3 ha _⟩;simp [binOp,Op.shift,CA,Int.not_lt.2 h.1]
   all_goals (first|exact h.2.elim|skip)
   all_goals (obtain⟨hk,h⟩:=h;obtain rfl:=bZ hk)
   case lss=>exact fin _ h λ ρ w M ha hb=>⟨.bool (decide (a<b)),by simp [binOp,Op.intCmp],rfl⟩
   case leq=>exact fin _ h λ ρ w M ha hb=>⟨.bool (decide (a<=b)),by simp [binOp,Op.intCmp],rfl⟩
   case gtr=>exact fin _ h λ ρ w M ha hb=>⟨.bool (decide (b<a)),by simp [binOp,Op.intCmp],rfl⟩
   case geq=>exact fin _ h λ ρ w M ha hb=>⟨.bool (decide (b<=a)),by simp [binOp,Op.intCmp],rfl⟩
   case eql=>exact fin _ h λ ρ w M ha hb=>⟨.bool (a==b),by simp [binOp,Op.intCmp],by show Value.bool (a==b)= .bool (decide (a=b));congr 1⟩
   case neq=>exact fin _ h λ ρ w M ha hb=>⟨.bool (a !=b),by simp [binOp,Op.intCmp],by show Value.bool (a !=b)= .bool (decide (a≠b));congr 1;simp [bne,Bool.beq_eq_decide_eq]⟩
   case add=>rw [jB]at h;exact fin _ h.2 λ ρ w M ha hb=>⟨.int k (k.wrap (a+b)),by simp [binOp,Op.intArith],kZ h.1⟩
   case sub=>rw [jB]at h;exact fin _ h.2 λ ρ w M ha hb=>⟨.int k (k.wrap (a - b)),by simp [binOp,Op.intArith],kZ h.1⟩
   case mul=>rw [jB]at h;exact fin _ h.2 λ ρ w M ha hb=>⟨.int k (k.wrap (a*b)),by simp [binOp,Op.intArith],kZ h.1⟩
   case quo=>
    obtain⟨⟨h0,h1⟩,h2⟩:=h;refine fin _ h2 λ ρ w M ha hb=>⟨.int k (k.wrap (a.tdiv b)),by simp [binOp,Op.intDiv,show b≠0 from by omega],?_⟩;rw [Int.tdiv_eq_ediv_of_nonneg h0];exact kZ (Ql ha h0 h1)
   case rem=>
    rcases h with ⟨⟨h0,h1⟩,h2⟩|⟨h1,h2⟩
    ·refine fin _ h2 λ ρ w M ha hb=>⟨.int k (a.tmod b),by simp [binOp,Op.intDiv,show b≠0 from by omega],?_⟩
     rw [Int.tmod_eq_emod_of_nonneg h0];exact⟨rfl,MT hb h1⟩
    ·refine fin _ h2 λ ρ w M ha hb=>⟨.int k (a.tmod b),by simp [binOp,Op.intDiv,show b≠0 from by omega],rfl,?_⟩
     rcases Int.le_total 0 a with h0|h0
     ·rw [Int.tmod_eq_emod_of_nonneg h0];exact MT hb h1
     ·have h3:=Int.neg_tmod (-a) b
      have h4:(-a).tmod b<= -a:=by
       rw [Int.tmod_eq_emod_of_nonneg aa];have e:=Int.mul_ediv_add_emod (-a) b;have e2:=Int.mul_nonneg (show 0<=b by omega) (Int.ediv_nonneg (show 0<= -a by omega) (show 0<=b by omega));omega
      have h5:0<=(-a).tmod b:=Int.tmod_nonneg _ aa;rw [Int.neg_neg]at h3;obtain⟨g1,g2⟩:=ha;have ON:0<=k.max:=by cases k<;>simp [IntKind.max,IntKind.bits,IntKind.signed]
      exact⟨aa,aa⟩
   case and=>exact fin _ h λ ρ w M ha hb=>⟨.int k (IP k a b),by simp [binOp,Op.intBits,IP],rfl,lS _ _⟩
   case or=>exact fin _ h λ ρ w M ha hb=>⟨.int k (Vb k a b),by simp [binOp,Op.intBits,Vb],rfl,lS _ _⟩
  |_=>exact h.elim
 |bool a=>
  cases b with
  |bool b=>
   have hu:qw TY t=true->P.underlying t=some .bool:=by
    intro hb;unfold qw at hb;split at hb
    ·rename_i hd
     obtain⟨u,h1,h2,_⟩:=(aw.at (t:=t) (.inr (by rw [hd];simp))).under;rw [hd]at h2;cases u<;>first|exact h1|exact h2.elim
    ·cases hb
   cases op<;>simp only [AU,al]at h<;>try exact h.elim
   case eql=>
    refine⟨_,h.2,λ ρ w M x y u1 u2 h1 h2=>?_⟩;have h1:u1= .bool a.val:=h1;have h2:u2= .bool b.val:=h2;subst h1;subst h2;exact⟨.bool (a.val==b.val),by simp [eqGuard,binOp,run_equal_bool (hu h.1)],rfl⟩
   case neq=>
    refine⟨_,h.2,λ ρ w M x y u1 u2 h1 h2=>?_⟩;have h1:u1= .bool a.val:=h1;have h2:u2= .bool b.val:=h2;subst h1;subst h2;exact⟨.bool (!(a.val==b.val)),by simp [eqGuard,binOp,run_equal_bool (hu h.1)],rfl⟩
  |_=>exact h.elim
 |ro r=>
  cases b with
  |ao=>
   simp only [AU,al]at h;obtain⟨hs,h⟩:=h
   have hu:∃e,P.underlying t=some (.slice e):=by
    unfold iB at hs;split at hs
    ·rename_i e hd
     obtain⟨u,h1,h2,_⟩:=(aw.at (t:=t) (.inr (by rw [hd];simp))).under;rw [hd]at h2;cases u<;>first|exact⟨_,h1⟩|exact h2.elim
    ·cases hs
   obtain⟨e,hu⟩:=hu
   have look:∀{w:World} {M:aX} {u:Value},a8 w M r u->∃x:Bool,(Op.equal t u (.slice none 0 0)).run P w= .ok x w/\(x=true->r.len=0):=λ{w M u} hr=>by
    obtain⟨_,a,cap,rfl,dT,hh⟩:=hr;cases a with
    |none=>
     refine⟨true,?_,λ _=>?_⟩
     ·have h:∀n,(Op.equalIn (n+1) t (.slice none r.len cap) (.slice none 0 0)).run P w= .ok true w:=λ n=>by simp [Op.equalIn,underlying,hu]
      exact h 9999
     ·rcases hh with hh|⟨b,off,hh,_⟩
      ·have:=r.eW
       rcases Nat.eq_zero_or_pos r.len with h0|h0
       ·exact h0
       ·have:0<r.cells:=Nat.mul_pos h0 this
        omega
      ·cases hh
    |some a=>
     refine⟨false,?_,λ h=>by cases h⟩;have h:∀n,(Op.equalIn (n+1) t (.slice (some a) r.len cap) (.slice none 0 0)).run P w= .ok false w:=λ n=>by simp [Op.equalIn,underlying,hu]
     exact h 9999
   split at h
   ·rw [bS]at h
    refine⟨_,h,λ ρ w M x y u1 u2 h1 h2=>?_⟩;have h2:u2= .slice none 0 0:=h2;subst h2;obtain⟨b,g1,g2⟩:=look h1;have h1:a8 w M r u1:=h1;obtain⟨_,a,cap,rfl,_,_⟩:=h1;exact⟨.bool b,by simp [eqGuard,binOp,g1],b,rfl,g2⟩
   ·rw [bS]at h
    refine⟨_,h,λ ρ w M x y u1 u2 h1 h2=>?_⟩;have h2:u2= .slice none 0 0:=h2;subst h2;obtain⟨b,g1,g2⟩:=look h1;have h1:a8 w M r u1:=h1;obtain⟨_,a,cap,rfl,_,_⟩:=h1;exact⟨.bool (!b),by simp [eqGuard,binOp,g1],!b,rfl,λ h=>g2 (by simpa using h)⟩
   ·exact h.elim
  |_=>exact h.elim
 |agg l=>
  cases b with
  |agg m=>
   simp only [AU]at h;unfold MX at h;split at h
   ·rename_i l' m' a b c d
    simp only [al]at h;obtain⟨ZK,h⟩:=h;obtain⟨O7,hq⟩:=TR aw ZK
    have fin:∀(v:AV) (r:Bool),K v->v= .bool (.v r)->((∀x∈a,c6 x)->(∀x∈b,c6 x)->(∀x∈c,c6 x)->(∀x∈d,c6 x)->∀w,(binOp op t (.agg #[.string (ca a),.string (ca b)]) (.agg #[.string (ca c),.string (ca d)])).run P w= .ok (.bool r) w)->
      ∃v,K v/\∀(ρ:Env) (w:World) (M:aX) (x y:Operand) (u1 u2:Value),az ρ w M (.agg [.str a,.str b]) u1->az ρ w M (.agg [.str c,.str d]) u2->
       ∃u,(do eqGuard op t x y u1 u2;binOp op t u1 u2:Sem Value).run P w= .ok u w/\az ρ w M v u:=λ v r hK hv hb=>by
     subst hv;refine⟨_,hK,λ ρ w M x y u1 u2 h1 h2=>?_⟩;obtain⟨rfl,g1,g2⟩:=Hn h1;obtain⟨rfl,g3,g4⟩:=Hn h2;refine⟨.bool r,?_,rfl⟩;rw [Sem.run_bind,run_eqGuard_agg w op t x y _ _ O7];exact hb g1 g2 g3 g4 w
    split at h
    ·exact fin _ _ h rfl λ g1 g2 g3 g4 w=>by rw [run_eql_struct,hq g1 g2 g3 g4 w];rfl
    ·exact fin _ _ h rfl λ g1 g2 g3 g4 w=>by rw [run_neq_struct,hq g1 g2 g3 g4 w];rfl
    ·exact h.elim
   ·exact h.elim
  |_=>exact h.elim
 |bK=>
  cases b with
  |bK=>
   simp only [AU,al]at h;obtain⟨hs,h⟩:=h;obtain⟨kt,et,hu⟩:=MW aw hs
   have look:∀{w:World},(Op.equal t (.map none) (.map none)).run P w= .ok true w:=λ{w}=>by
    have h:∀n,(Op.equalIn (n+1) t (.map none) (.map none)).run P w= .ok true w:=λ n=>by simp [Op.equalIn,underlying,hu]
    exact h 9999
   split at h
   ·refine⟨_,h,λ ρ w M x y u1 u2 h1 h2=>?_⟩
    have h1:u1= .map none:=h1;have h2:u2= .map none:=h2;subst h1;subst h2;exact⟨.bool true,by simp [eqGuard,binOp,look],rfl⟩
   ·refine⟨_,h,λ ρ w M x y u1 u2 h1 h2=>?_⟩
    have h1:u1= .map none:=h1;have h2:u2= .map none:=h2;subst h1;subst h2;exact⟨.bool false,by simp [eqGuard,binOp,look],rfl⟩
   ·exact h.elim
  |_=>exact h.elim
 |str a=>
  cases b with
  |str b=>
   simp only [AU]at h
   have hg:∀(x y:Operand) (s r:ByteArray) (w:World),(eqGuard op t x y (.string s) (.string r)).run P w= .ok () w:=by
    intro x y s r w;cases op<;>rfl
   split at h
   ·refine⟨_,h.2,λ ρ w M x y u1 u2 h1 h2=>?_⟩
    obtain⟨rfl,g1⟩:=h1;obtain⟨rfl,g2⟩:=h2;refine⟨.string (ca (a++b)),?_,rfl,λ z hz=>(List.mem_append.1 hz).elim (g1 z) (g2 z)⟩
    have hl:¬(((ca a).size+(ca b).size:Nat):Int)>IntKind.i64.max:=by
     rw [qP,qP,show IntKind.i64.max=9223372036854775807 from rfl];have:=h.1;omega
    rw [Sem.run_bind,hg];simp only [binOp,Op.stringOp];simp only [hl,if_false,MU]
    rfl
   ·refine⟨_,h,λ ρ w M x y u1 u2 h1 h2=>?_⟩
    obtain⟨rfl,g1⟩:=h1;obtain⟨rfl,g2⟩:=h2;exact⟨.bool (a==b),by rw [Sem.run_bind,hg];simp [binOp,Op.stringOp,AR g1 g2],rfl⟩
   ·refine⟨_,h,λ ρ w M x y u1 u2 h1 h2=>?_⟩
    obtain⟨rfl,g1⟩:=h1;obtain⟨rfl,g2⟩:=h2;exact⟨.bool (!(a==b)),by rw [Sem.run_bind,hg];simp [binOp,Op.stringOp,AR g1 g2],rfl⟩
   ·exact h.elim
  |_=>exact h.elim
 |ao=>
  cases b with
  |ao=>
   simp only [AU,al]at h;obtain⟨hs,h⟩:=h
   have hu:∃e,P.underlying t=some (.slice e):=by
    unfold iB at hs;split at hs
    ·rename_i e hd
     obtain⟨u,h1,h2,_⟩:=(aw.at (t:=t) (.inr (by rw [hd];simp))).under;rw [hd]at h2;cases u<;>first|exact⟨_,h1⟩|exact h2.elim
    ·cases hs
   obtain⟨e,hu⟩:=hu
   have look:∀{w:World},(Op.equal t (.slice none 0 0) (.slice none 0 0)).run P w= .ok true w:=λ{w}=>by
    have h:∀n,(Op.equalIn (n+1) t (.slice none 0 0) (.slice none 0 0)).run P w= .ok true w:=λ n=>by simp [Op.equalIn,underlying,hu]
    exact h 9999
   split at h
   ·refine⟨_,h,λ ρ w M x y u1 u2 h1 h2=>?_⟩
    have h1:u1= .slice none 0 0:=h1;have h2:u2= .slice none 0 0:=h2;subst h1;subst h2;exact⟨.bool true,by simp [eqGuard,binOp,look],rfl⟩
   ·refine⟨_,h,λ ρ w M x y u1 u2 h1 h2=>?_⟩
    have h1:u1= .slice none 0 0:=h1;have h2:u2= .slice none 0 0:=h2;subst h1;subst h2;exact⟨.bool false,by simp [eqGuard,binOp,look],rfl⟩
   ·exact h.elim
  |_=>exact h.elim
 |_=>exact h.elim
end
end Go.AM
end
section
namespace Go.AM
open Go
section
variable{P:Program}{TY:List cP}{w0 w:World}{M0:ef w0}{ρ:Env}{M:aX}{S S0:ai}{d:Nat}
theorem cE{a:AV}{v:Value}(h:aH ρ w M a v):az ρ w M a v:=by
 cases a with
 |any=>trivial
 |agg l=>exact h.elim
 |cC l=>exact h.elim
 |fn f l=>
  cases l with
  |nil=>have h:v=_:=h;subst h;exact⟨#[],rfl,ag⟩
  |cons=>exact h.elim
 |_=>exact h
theorem gw{t:Nat}{r:RO}(h:xI TY t r=true):(aq TY t).sz=r.sz/\bJ (aq TY t).d=(match r with|.aT _=>true|.dK _=>true|.dP _=>true|.eY _ _ _=>true|_=>false):=by
 cases r<;>simp only [xI]at h<;>split at h<;>first
  |(cases h;done)
  |(rename_i hd;exact⟨by rw [ay.1 h];rfl,hd⟩)
theorem fv{t b off:Nat}{c:Value}(aI:iG P t (aq TY t))(ha:bJ (aq TY t).d=false)(hc:w.cell? ⟨b,off,none⟩=some c):
  (Instr.loadAt t (.pointer (some ⟨b,off,none⟩))).run P w= .ok c w:=by
 simp [Instr.loadAt,Instr.sureAddr,loadVar,aI.agg,ha,hc]
theorem gE{t b off:Nat}{cs:List Value}(aI:iG P t (aq TY t))(ha:bJ (aq TY t).d=true)(hn:cs.length=(aq TY t).sz)
  (hc:∀j c,cs[j]? =some c->w.cell? ⟨b,off+j,none⟩=some c):
  (Instr.loadAt t (.pointer (some ⟨b,off,none⟩))).run P w= .ok (.agg cs.toArray) w:=by
 have h:=run_loadCells_list (P:=P) w ⟨b,off,none⟩ cs (λ j v hj=>by rw [aQ];exact hc j v hj);rw [hn]at h;simp [Instr.loadAt,Instr.sureAddr,loadVar,aI.agg,ha,aI.size,h]
theorem pn{t b off i:Nat}{r:RO}(aw:aO P TY)(aU:xI TY t r=true)(hi:i<r.len)
  (hc:∀q,q<r.cells->∃c,w.cell? ⟨b,off+q,none⟩=some c/\av w M r q c):
  ∃u,(Instr.loadAt t (.pointer (some ⟨b,off+i*r.sz,none⟩))).run P w= .ok u w/\az ρ w M (r.get i) u:=by
 obtain⟨hs,ha⟩:=gw aU;have aI:=aw.at (t:=t) (.inl (by rw [hs];exact Nat.ne_of_gt r.eW));cases r with
 |aT l=>
  have hl:i<l.length:=hi;obtain⟨c,h1,h2⟩:=hc (i*2) (by simp only [RO.cells,RO.len,RO.sz];omega);obtain⟨c',NO,F3⟩:=hc (i*2+1) (by simp only [RO.cells,RO.len,RO.sz];omega);refine⟨_,gE (cs:=[c,c']) aI ha (by rw [hs];rfl) (λ j v hj=>?_),Qm h2 F3⟩
  match j,hj with
  |0,hj=>simp at hj;subst hj;exact h1
  |1,hj=>simp at hj;subst hj;simpa [Nat.add_assoc,RO.sz]using NO
  |j+2,hj=>simp at hj
 |dP l=>
  have hl:i<l.length:=hi;obtain⟨c,h1,h2⟩:=hc (i*3) (by simp only [RO.cells,RO.len,RO.sz];omega);obtain⟨c',NO,F3⟩:=hc (i*3+1) (by simp only [RO.cells,RO.len,RO.sz];omega);obtain⟨c2,k1,k2⟩:=hc (i*3+2) (by simp only [RO.cells,RO.len,RO.sz];omega);refine⟨_,gE (cs:=[c,c',c2]) aI ha (by rw [hs];rfl) (λ j v hj=>?_),Qn h2 F3 k2⟩
  match j,hj with
  |0,hj=>simp at hj;subst hj;exact h1
  |1,hj=>simp at hj;subst hj;simpa [Nat.add_assoc,RO.sz]using NO
  |2,hj=>simp at hj;subst hj;simpa [Nat.add_assoc,RO.sz]using k1
  |j+3,hj=>simp at hj
 |dK l=>
  have hl:i<l.length:=hi;obtain⟨c,h1,h2⟩:=hc (i*2) (by simp only [RO.cells,RO.len,RO.sz];omega);obtain⟨c',NO,F3⟩:=hc (i*2+1) (by simp only [RO.cells,RO.len,RO.sz];omega);refine⟨_,gE (cs:=[c,c']) aI ha (by rw [hs];rfl) (λ j v hj=>?_),Qo h2 F3⟩
  match j,hj with
  |0,hj=>simp at hj;subst hj;exact h1
  |1,hj=>simp at hj;subst hj;simpa [Nat.add_assoc,RO.sz]using NO
  |j+2,hj=>simp at hj
 |eY n k l=>
  have hl:i<l.length:=hi;have hle:(i+1)*(n+2)<=l.length*(n+2):=Nat.mul_le_mul_right _ hl;have Yv:i*(n+2)+(n+2)<=l.length*(n+2):=by rw [Nat.add_mul,Nat.one_mul]at hle;exact hle
  obtain⟨cs,h3,h4,h5⟩:=ja (w:=w) (b:=b) (off:=off+i*(n+2)) (n:=n+2) (C:=λ q c=>av w M (.eY n k l) (i*(n+2)+q) c) λ q hq=>by
   obtain⟨c,h1,h2⟩:=hc (i*(n+2)+q) (by simp only [RO.cells,RO.len,RO.sz];omega);exact⟨c,by rw [Nat.add_assoc];exact h1,h2⟩
  refine⟨_,gE (cs:=cs) aI ha (by rw [hs];exact h3) (λ j v hj=>by have:=h4 j v hj;simpa [RO.sz]using this),Qp h3 λ q c hq=>?_⟩
  have JS:q<n+2:=by
   rw [<-h3];rcases Nat.lt_or_ge q cs.length with h'|h'
   ·exact h'
   ·rw [List.getElem?_eq_none h']at hq;cases hq
  obtain⟨c',h6,h7⟩:=h5 q JS;rw [hq]at h6;cases h6;exact h7
 |_=>
  obtain⟨c,h1,h2⟩:=hc i (by simp only [RO.cells,RO.sz,Nat.mul_one];exact hi);exact⟨c,fv aI ha (by simpa [RO.sz]using h1),Ho rfl h2 hi⟩
theorem MY{r:RO}{b off cap m:Nat}(h:a8 w M r (.slice (some ⟨b,off,none⟩) m cap)):
  ∀q,q<r.cells->∃c,w.cell? ⟨b,off+q,none⟩=some c/\av w M r q c:=by
 intro q hq;obtain⟨_,a,cap',hv,_,h⟩:=h;cases hv;rcases h with h|⟨b',off',ha,h⟩
 ·omega
 ·cases ha
  obtain⟨c,h1,_,h2⟩:=h q hq;exact⟨c,h1,h2⟩
theorem Qq{r:RO}{v:Value}(h:a8 w M r v)(hn:0<r.len):∃b off cap,v= .slice (some ⟨b,off,none⟩) r.len cap:=by
 obtain⟨_,a,cap,rfl,_,h⟩:=h;rcases h with h|⟨b,off,rfl,_⟩
 ·have:=r.eW
  have:0<r.cells:=Nat.mul_pos hn this;omega
 ·exact⟨b,off,cap,rfl⟩
theorem En(aw:aO P TY){F:Spec}{t:Nat}{x:Operand}{T:List AV}{K:AV->Option dH->Prop}(h:qK TY F d (.load t x) T S0 K):
  ∃v B,K v B/\QS P d (.load t x) T S0 v B:=by
 simp only [qK,aB]at h;have eZ:∀{e:Operand->Value} {ρ:Env} {w:World} {M:aX},(∀y∈(Op.load t x).operands,az ρ w M (aP T y) (e y))->az ρ w M (aP T x) (e x):=λ h=>h x (by simp [Op.operands]);generalize ha:aP T x=a at h eZ;cases a with
 |eH r i=>
  simp only [al,ur]at h;obtain⟨aU,h⟩:=h;refine bU h λ w0 M0 ρ w M S' e oo ho hc st he=>?_;obtain⟨b,off,cap,h1,h2,h3,h4⟩:=eZ he;obtain⟨u,h5,h6⟩:=pn (ρ:=ρ) (t:=t) aw aU (i:=i.toNat) aa (MY h1);exact⟨_,(by simp [execOp,ho,h4,h5]),h6⟩
 |dS k i=>
  simp only at h;split at h
  ·rename_i wm r hf
   simp only [al,ur]at h;obtain⟨aU,h⟩:=h;refine bU h λ w0 M0 ρ w M S' e oo ho hc st he=>?_;obtain⟨o,b,h1,h2,h3,h4,h5⟩:=eZ he;obtain⟨⟨o',h6,h7,h8,h9,cu,lB⟩,_⟩:=st.aW k _ (st.fB hc hf h1);obtain rfl:=cx h6 h1;simp only [h2]at lB;obtain⟨ou,cs,ty,ox,wE,lW,Jj⟩:=lB
   obtain⟨u,Fp,Jk⟩:=pn (ρ:=ρ) (w:=w) (M:=M) (t:=t) (b:=b) (off:=0) aw aU (i:=i.toNat) aa
    (λ q hq=>by obtain⟨c,h1,h2⟩:=Jj q hq;exact⟨c,by rw [cell_of_heap ox,Nat.zero_add];exact h1,h2⟩)
   rw [Nat.zero_add,<-h8]at Fp;exact⟨_,(by simp [execOp,ho,h5,Fp]),Jk⟩
  ·rename_i wm r j k' hf
   simp only [al,ur]at h;obtain⟨aU,h,h'⟩:=h
   by_cases mo:i=j
   ·refine bU (h mo) λ w0 M0 ρ w M S' e oo ho hc st he=>?_
    obtain⟨o,b,h1,h2,h3,h4,h5⟩:=eZ he;obtain⟨⟨o',h6,h7,h8,h9,cu,lB⟩,gQ⟩:=st.aW k _ (st.fB hc hf h1);obtain rfl:=cx h6 h1;simp only [h2]at lB;obtain⟨ou,cs,ty,ox,wE,lW,Jj⟩:=lB;rcases gQ with gQ|⟨_,_,gQ,hq,_,_,_⟩
    ·cases gQ
    ·cases gQ
     have bk:=Fq hq;obtain⟨hs,n9⟩:=gw aU;have aI:=aw.at (t:=t) (.inl (by rw [hs,bk];decide));obtain⟨c,Fp,Jk⟩:=Jj i.toNat (by simp only [RO.cells,bk];omega);rw [if_pos aa]at Jk;have KB:bJ (aq TY t).d=false:=by rw [n9];cases r<;>first|rfl|cases hq
     refine⟨c,?_,show az ρ w M (.vec k') c from Jk⟩;have:=fv (P:=P) (w:=w) (b:=b) (off:=i.toNat*o.sz) aI KB (c:=c) (by rw [cell_of_heap ox,h8,bk,Nat.mul_one];exact Fp);simp [execOp,ho,h5,this]
   ·refine bU (h' mo) λ w0 M0 ρ w M S' e oo ho hc st he=>?_
    obtain⟨o,b,h1,h2,h3,h4,h5⟩:=eZ he;obtain⟨⟨o',h6,h7,h8,h9,cu,lB⟩,gQ⟩:=st.aW k _ (st.fB hc hf h1);obtain rfl:=cx h6 h1;simp only [h2]at lB;obtain⟨ou,cs,ty,ox,wE,lW,Jj⟩:=lB;rcases gQ with gQ|⟨_,_,gQ,hq,_,_,_⟩
    ·cases gQ
    ·cases gQ
     have bk:=Fq hq;obtain⟨hs,n9⟩:=gw aU;have aI:=aw.at (t:=t) (.inl (by rw [hs,bk];decide));obtain⟨c,Fp,Jk⟩:=Jj i.toNat (by simp only [RO.cells,bk];omega);rw [if_neg aa]at Jk;have KB:bJ (aq TY t).d=false:=by rw [n9];cases r<;>first|rfl|cases hq
     refine⟨c,?_,Ho bk Jk aa⟩;have:=fv (P:=P) (w:=w) (b:=b) (off:=i.toNat*o.sz) aI KB (c:=c) (by rw [cell_of_heap ox,h8,bk,Nat.mul_one];exact Fp);simp [execOp,ho,h5,this]
  ·rename_i n0 r hf
   simp only [al,ur]at h;obtain⟨aU,h⟩:=h;refine bU h λ w0 M0 ρ w M S' e oo ho hc st he=>?_;obtain⟨o,b,h1,h2,h3,h4,h5⟩:=eZ he;obtain⟨o0,cur,h6,WQ,_⟩:=st.aW k _ (st.fB hc hf h1);have HX:cur=o:=by rw [mc h6]at h1;exact Option.some.inj h1
   rw [HX]at WQ;obtain⟨h7,h8,h9,cu,lB⟩:=WQ;simp only [h2]at lB;obtain⟨ou,cs,ty,ox,wE,lW,Jj⟩:=lB
   obtain⟨u,Fp,Jk⟩:=pn (ρ:=ρ) (w:=w) (M:=M) (t:=t) (b:=b) (off:=0) aw aU (i:=i.toNat) aa
    (λ q hq=>by obtain⟨c,h1,h2⟩:=Jj q hq;exact⟨c,by rw [cell_of_heap ox,Nat.zero_add];exact h1,h2⟩)
   rw [Nat.zero_add,<-h8]at Fp;exact⟨_,(by simp [execOp,ho,h5,Fp]),Jk⟩
  ·exact h.elim
 |ptr k off=>
  simp only at h;split at h
  ·rename_i l hf
   obtain⟨v,hK,hlen,hv⟩:=qa h;refine bU hK λ w0 M0 ρ w M S' e oo ho hc st he=>?_;have h1:(ρ k).bind (bY.ref · off)=some (e x):=eZ he;obtain⟨b,h3,cs,ty,h4,h5,h6⟩:=st.aW k _ (st.fB hc hf h1);have h2:=rO h3 h1;have Ro:l.length=cs.size:=by rw [aJ.length h6,Array.length_toList]
   rcases hv with ⟨n9,rfl⟩|⟨n9,hs,rfl⟩
   ·have aI:=aw.at (t:=t) (.inr (λ e=>by rw [e]at n9;cases n9))
    refine⟨.agg ((cs.toList.drop off).take (aq TY t).sz).toArray,?_,_,rfl,by simpa using (h6.drop off).take _⟩
    have:=gE (P:=P) (w:=w) (b:=b) (off:=off) (cs:=(cs.toList.drop off).take (aq TY t).sz) aI n9 (by simp;omega) (λ j c hj=>by
     rw [List.getElem?_take]at hj;split at hj
     ·rw [List.getElem?_drop,Array.getElem?_toList]at hj;rw [cell_of_heap h4];exact hj
     ·cases hj)
    simp [execOp,ho,h2,this]
   ·have aI:=aw.at (t:=t) (.inl (by rw [hs];decide))
    obtain⟨c,h7,h8⟩:=h6.get off aa;refine⟨c,?_,?_⟩
    ·have:=fv (P:=P) (w:=w) (b:=b) (off:=off) aI n9 (c:=c) (by rw [cell_of_heap h4];simpa using h7)
     simp [execOp,ho,h2,this]
    ·exact cE h8
  ·exact h.elim
 |gd k i j=>
  have key:∀{l:List (Int × Int)} {M:aX} {w:World} {b:Nat} {o:Sl} {cs:Array Value} {ty:TypeId},Jl TY t=true->Nat.ble j 1=true->o.sz=2->0<=i->i.toNat<l.length->w.heap[b]? =some (.cells cs ty (0,0))->
    (∀q,q<(RO.aT l).cells->∃c,cs[q]? =some c/\av w M (.aT l) q c)->∃u,(Instr.loadAt t (.pointer (some ⟨b,i.toNat*o.sz+j,none⟩))).run P w= .ok u w/\u= .int .i64 (cw j (l.getD i.toNat (0,0)))/\eD .i64 (cw j (l.getD i.toNat (0,0))):=λ{l M w b o cs ty} mw hj hs h0 hl hh hc=>by
   unfold Jl at mw;split at mw
   ·cases mw
   ·rename_i n9
    have bk:=ay.1 mw;have aI:=aw.at (t:=t) (.inl (by rw [bk];decide));have mB:=ah hj;obtain⟨c,h1,h2⟩:=hc (i.toNat*2+j) (by simp only [RO.cells,RO.len,RO.sz];omega);refine⟨c,fv aI n9 (by rw [cell_of_heap hh,hs];exact h1),?_⟩;have hd:(i.toNat*2+j) / 2=i.toNat:=aa;simp only [av,hd]at h2
    match j,mB,h2 with
    |0,_,h2=>rw [if_pos aa]at h2;exact h2
    |1,_,h2=>rw [if_neg aa]at h2;exact h2
  simp only at h;split at h
  ·rename_i wm l hf
   simp only [al]at h;obtain⟨mw,hj,h⟩:=h;refine bU h λ w0 M0 ρ w M S' e oo ho hc st he=>?_;obtain⟨o,b,h1,h2,h3,h4,h5⟩:=eZ he;obtain⟨⟨o',h6,h7,h8,h9,cu,lB⟩,_⟩:=st.aW k _ (st.fB hc hf h1);obtain rfl:=cx h6 h1;simp only [h2]at lB;obtain⟨ou,cs,ty,ox,wE,lW,Jj⟩:=lB;have h7:o.len=l.length:=h7;obtain⟨u,Fp,rfl,Jk⟩:=key (w:=w) (M:=M) (o:=o) mw hj h8 h3 aa ox Jj;exact⟨_,(by simp [execOp,ho,h5,Fp]),⟨rfl,Jk⟩⟩
  ·rename_i n0 l hf
   simp only [al]at h;obtain⟨mw,hj,h⟩:=h;refine bU h λ w0 M0 ρ w M S' e oo ho hc st he=>?_;obtain⟨o,b,h1,h2,h3,h4,h5⟩:=eZ he;obtain⟨o0,cur,h6,WQ,_⟩:=st.aW k _ (st.fB hc hf h1);have HX:cur=o:=by rw [mc h6]at h1;exact Option.some.inj h1
   rw [HX]at WQ;obtain⟨h7,h8,h9,cu,lB⟩:=WQ;simp only [h2]at lB;obtain⟨ou,cs,ty,ox,wE,lW,Jj⟩:=lB;have h7:o.len=l.length:=h7;obtain⟨u,Fp,rfl,Jk⟩:=key (w:=w) (M:=M) (o:=o) mw hj h8 h3 aa ox Jj;exact⟨_,(by simp [execOp,ho,h5,Fp]),⟨rfl,Jk⟩⟩
  ·exact h.elim
 |_=>exact h.elim
end
end Go.AM
end
section
namespace Go.AM
open Go
theorem pT(off:Nat):∀(vs:List Value) (k:Nat) (cells:Array Value),off+k+vs.length<=cells.size->
  ((vs.zipIdx k).foldl (λ(cs:Array Value) (x:Value × Nat)=>cs.setIfInBounds (off+x.2) x.1) cells).toList=cells.toList.take (off+k)++(vs++cells.toList.drop (off+k+vs.length))
 |[],k,cells,_=>by simp
 |v::vs,k,cells,h=>by
  simp only [List.length_cons]at h;simp only [List.zipIdx_cons,List.foldl_cons];rw [pT off vs (k+1) _ (by simp;omega)];simp only [Array.toList_setIfInBounds,List.length_cons];have aS:off+k<cells.toList.length:=by simp;omega
  rw [show off+(k+1)=(off+k)+1 from by omega,List.take_succ_eq_append_getElem (by simpa using aS)];simp only [List.getElem_set_self,List.take_set_of_le (Nat.le_refl _)];rw [List.drop_set_of_lt aa,show off+k+1+vs.length=off+k+(vs.length+1)from by omega];simp
section
variable{P:Program}{TY:List cP}{w0 w:World}{M0:ef w0}{ρ:Env}{M:aX}{S S0:ai}{d:Nat}
theorem pq{T:List AV}{place place':Nat->Option (Nat × Nat)}(hp:∀i x,place i=some x->place' i=some x):
  ∀{ps:List (Nat × Operand)} {l:List AV} {K:List AV->Prop},sV T place ps l K->
   ∃m,K m/\m.length=l.length/\∀(ρ:Env) (w:World) (M:aX) (e:Operand->Value) (cells:Array Value),(∀i x,(i,x)∈ps->az ρ w M (aP T x) (e x))->aJ (aH ρ w M) l cells.toList->
    ∃cells',Instr.fill place' cells (ps.map λ(i,x)=>(i,e x))=some cells'/\aJ (aH ρ w M) m cells'.toList
 |[],l,K,h=>⟨l,h,rfl,λ _ _ _ _ cells _ hl=>⟨cells,rfl,hl⟩⟩
 |(i,x)::ps,l,K,h=>by
  simp only [sV,aB]at h;cases gb:place i with
  |none=>rw [gb]at h;simp at h
  |some os=>
   obtain⟨off,sz⟩:=os;rw [gb]at h
   have main:∀m,m.length=sz->(∀(ρ:Env) (w:World) (M:aX) (u:Value),az ρ w M (aP T x) u->aJ (aH ρ w M) m u.cells.toList)->
     (lY l off m λ l'=>sV T place ps l' K)->
     ∃m,K m/\m.length=l.length/\∀(ρ:Env) (w:World) (M:aX) (e:Operand->Value) (cells:Array Value),(∀j y,(j,y)∈(i,x)::ps->az ρ w M (aP T y) (e y))->aJ (aH ρ w M) l cells.toList->
      ∃cells',Instr.fill place' cells (((i,x)::ps).map λ(i,x)=>(i,e x))=some cells'/\aJ (aH ρ w M) m cells'.toList:=by
    intro m hm bc hs;obtain⟨h1,h2⟩:=pv hs;obtain⟨m',h3,h4,h5⟩:=pq hp h2;refine⟨m',h3,by rw [h4];simp;omega,λ ρ w M e cells he hl=>?_⟩;have hu:=bc ρ w M (e x) (he i x (by simp));have hlen:l.length=cells.size:=by rw [aJ.length hl,Array.length_toList]
    have hul:m.length=(e x).cells.size:=by rw [aJ.length hu,Array.length_toList]
    have BG:=pT off (e x).cells.toList 0 cells (by simp;omega)
    have jS:(((e x).cells.zipIdx.foldl (λ cs (c,j)=>cs.setIfInBounds (off+j) c) cells).toList)=cells.toList.take off++((e x).cells.toList++cells.toList.drop (off+m.length)):=by
     rw [<-Array.foldl_toList,Array.toList_zipIdx,hul]
     simpa [<-Array.length_toList]using BG
    obtain⟨cells',h6,h7⟩:=h5 ρ w M e ((e x).cells.zipIdx.foldl (λ cs (c,j)=>cs.setIfInBounds (off+j) c) cells) (λ j y hy=>he j y (List.mem_cons_of_mem _ hy))
     (by rw [jS];exact(hl.take off).append (hu.append (hl.drop _)))
    refine⟨cells',?_,h7⟩;simp only [List.map_cons,Instr.fill,hp i _ gb];rw [if_neg]
    ·exact h6
    ·simp only [Bool.or_eq_true,decide_eq_true_eq,not_or,ne_eq,Decidable.not_not]
     exact⟨aa,aa⟩
   have one:(match kG (aP T x)with|true=>(match c5 [aP T x] sz with|true=>lY l off [aP T x] λ l'=>sV T place ps l' K|false=>False)|false=>False)->
     ∃m,K m/\m.length=l.length/\∀(ρ:Env) (w:World) (M:aX) (e:Operand->Value) (cells:Array Value),(∀j y,(j,y)∈(i,x)::ps->az ρ w M (aP T y) (e y))->aJ (aH ρ w M) l cells.toList->
      ∃cells',Instr.fill place' cells (((i,x)::ps).map λ(i,x)=>(i,e x))=some cells'/\aJ (aH ρ w M) m cells'.toList:=by
    intro h;cases hc:kG (aP T x)with
    |false=>rw [hc]at h;exact h.elim
    |true=>
     rw [hc]at h;cases hs:c5 [aP T x] sz with
     |false=>simp only [hs]at h
     |true=>
      simp only [hs]at h;refine main _ (dw hs) (λ ρ w M u hu=>?_) h;have hu:=lX hc hu;have cM:=aH.aM hu;cases u<;>first|exact⟨hu,ag⟩|exact cM.elim
   cases hx:aP T x with
   |agg m=>
    rw [hx]at h;simp only at h;cases hs:c5 m sz with
    |false=>rw [hs]at h;exact h.elim
    |true=>
     rw [hs]at h;refine main m (dw hs) (λ ρ w M u hu=>?_) h;rw [hx]at hu;obtain⟨cs,rfl,bR⟩:=hu;exact bR
   |_=>rw [hx]at h one;exact one h
theorem b9:∀{l:List (Nat × Nat)} {i:Nat} {x:Nat × Nat},cZ l i=some x->l[i]? =some x
 |a::l,0,x,h=>by simpa [cZ]using h
 |a::l,i+1,x,h=>by simpa using b9 (l:=l) (by simpa [cZ]using h)
 |[],i,x,h=>by simp [cZ]at h
theorem de(aw:aO P TY){t:Nat}{fs:List (Nat × Nat)}(hd:(aq TY t).d= .struct fs):
  ∃F:Array Field,P.underlying t=some (.struct F)/\fs=F.toList.map λ f=>(f.offset,f.type):=by
 obtain⟨u,h1,h2,_⟩:=(aw.at (t:=t) (.inr (by rw [hd];simp))).under;rw [hd]at h2;cases u<;>try exact h2.elim
 exact⟨_,h1,h2⟩
theorem bV(aw:aO P TY){t e:Nat}(hd:(aq TY t).d= .slice e):P.underlying t=some (.slice e):=by
 obtain⟨u,h1,h2,_⟩:=(aw.at (t:=t) (.inr (by rw [hd];simp))).under;rw [hd]at h2;cases u<;>try exact h2.elim
 rw [h1,show e=_ from h2]
theorem Hp(aw:aO P TY){t:Nat}(hd:(aq TY t).d= .str):P.underlying t=some .string:=by
 obtain⟨u,h1,h2,_⟩:=(aw.at (t:=t) (.inr (by rw [hd];simp))).under;rw [hd]at h2;cases u<;>first|exact h1|exact h2.elim
theorem gO(aw:aO P TY){t n e:Nat}(hd:(aq TY t).d= .arr n e):P.underlying t=some (.array n e):=by
 obtain⟨u,h1,h2,_⟩:=(aw.at (t:=t) (.inr (by rw [hd];simp))).under;rw [hd]at h2;cases u<;>try exact h2.elim
 obtain⟨rfl,rfl⟩:=h2;exact h1
theorem bT(aw:aO P TY){t:Nat}{r:RO}(h:eo TY t r=true):∃e,(aq TY t).d= .slice e/\P.underlying t=some (.slice e)/\(aq TY e).sz=r.sz/\iG P e (aq TY e):=by
 unfold eo at h;split at h
 ·rename_i e hd
  have hs:(aq TY e).sz=r.sz:=by cases r<;>simp only at h<;>exact ay.1 h
  exact⟨e,hd,bV aw hd,hs,aw.at (.inl (by rw [hs];exact Nat.ne_of_gt r.eW))⟩
 ·cases h
theorem BK(aw:aO P TY){F:Spec}{t:Nat}{ps:Array (Nat × Operand)}{T:List AV}{K:AV->Option dH->Prop}(h:qK TY F d (.build t ps) T S0 K):
  ∃v B,K v B/\QS P d (.build t ps) T S0 v B:=by
 have eZ:∀{e:Operand->Value} {ρ:Env} {w:World} {M:aX},(∀y∈(Op.build t ps).operands,az ρ w M (aP T y) (e y))->∀i x,(i,x)∈ps.toList->az ρ w M (aP T x) (e x):=
  λ h i x hx=>h x (by simp only [Op.operands,List.mem_toArray,List.mem_map];exact⟨_,hx,rfl⟩)
 have hz:∀{E:cP},jW E.zero=true->E.zero≠[]:=λ{E} hb he=>by rw [he]at hb;cases hb
 have XU:∀(ρ:Env) (w:World) (M:aX) {l:List AV} {m:List Value},aJ zC l m->aJ (aH ρ w M) l m:=λ ρ w M=>aJ.imp λ a v h=>h ρ w M;simp only [qK]at h;split at h
 ·rename_i fs hd
  rw [al]at h;obtain⟨uW,h⟩:=h;obtain⟨F',hu,tq⟩:=de aw hd;have aI:=aw.at (t:=t) (.inr (by rw [hd];simp));obtain⟨i,u,hi,zX,_,_,_,hzero⟩:=aI.row;obtain⟨z,gg,tQ⟩:=hzero (hz uW)
  have key:∀(l:List Field),(∀f∈l,f.type<TY.length)->∀w,(l.mapM λ f=>Prod.mk f.offset<$>sizeOf f.type:Sem (List (Nat × Nat))).run P w= .ok (l.map λ f=>(f.offset,(aq TY f.type).sz)) w:=by
   intro l
   induction l with
   |nil=>intro _ w;simp
   |cons f l ih=>
    intro hl w;have hn:=(aw.row f.type (hl f (by simp))).size w;simp [List.mapM_cons,hn,ih (λ g hg=>hl g (List.mem_cons_of_mem _ hg))]
  have gb:∀w,(F'.mapM λ f=>Prod.mk f.offset<$>sizeOf f.type:Sem (Array (Nat × Nat))).run P w= .ok (F'.toList.map λ f=>(f.offset,(aq TY f.type).sz)).toArray w:=by
   intro w;have:=key F'.toList (λ f hf=>aw.closed t fs hd (f.offset,f.type) (by rw [tq];exact List.mem_map.2 ⟨f,hf,rfl⟩)) w;have he:F'=F'.toList.toArray:=by simp
   rw [he,List.mapM_toArray];simp [this]
  have Fa:∀j x,qK.fieldPlace TY fs j=some x->(F'.toList.map λ f=>(f.offset,(aq TY f.type).sz)).toArray[j]? =some x:=by
   intro j x hx;unfold qK.fieldPlace at hx;split at hx
   ·rename_i o u ho
    cases hx;have:=b9 ho;rw [tq,List.getElem?_map]at this;cases hg:F'.toList[j]? with
    |none=>rw [hg]at this;cases this
    |some f=>rw [hg]at this;cases this;simp only [List.getElem?_toArray,List.getElem?_map,hg];rfl
   ·cases hx
  obtain⟨m,h1,h2,h3⟩:=pq (place':=λ j=>(F'.toList.map λ f=>(f.offset,(aq TY f.type).sz)).toArray[j]?) Fa h;refine cf h1 λ ρ w M e oo ho he=>?_;obtain⟨cells',h4,h5⟩:=h3 ρ w M e z.cells (eZ he) (XU ρ w M tQ.1);refine⟨.agg cells',?_,cells',rfl,h5⟩;have mr:(zeroValue t).run P w= .ok z w:=by simp [zeroValue,typeInfo,hi,gg]
  have b7:(underlying t).run P w= .ok (.struct F') w:=by simp [underlying,hu]
  simp only [List.getElem?_toArray,List.getElem?_map,Array.getElem?_toList]at h4;simp [execOp,ho,Instr.build,mr,b7,gb];rw [h4]
  rfl
 ·rename_i n e' hd
  rw [al,al]at h;obtain⟨uW,bk,h⟩:=h;have hu:=gO aw hd;have aI:=aw.at (t:=t) (.inr (by rw [hd];simp));obtain⟨i,u,hi,zX,_,_,_,hzero⟩:=aI.row;obtain⟨z,gg,tQ⟩:=hzero (hz uW);have Mf:=aw.at (t:=e') (.inl (by rw [Nat.ble_eq]at bk;omega));obtain⟨m,h1,h2,h3⟩:=pq (place':=λ i=>some (i*(aq TY e').sz,(aq TY e').sz)) (λ i x hx=>hx) h;refine cf h1 λ ρ w M e oo ho he=>?_;obtain⟨cells',h4,h5⟩:=h3 ρ w M e z.cells (eZ he) (XU ρ w M tQ.1);refine⟨.agg cells',?_,cells',rfl,h5⟩;have mr:(zeroValue t).run P w= .ok z w:=by simp [zeroValue,typeInfo,hi,gg]
  have b7:(underlying t).run P w= .ok (.array n e') w:=by simp [underlying,hu]
  simp [execOp,ho,Instr.build,mr,b7,Mf.size,h4]
 ·exact h.elim
theorem cY(aw:aO P TY){F:Spec}{o:Op}{T:List AV}{K:AV->Option dH->Prop}(h:qK TY F d o T S0 K)
  (ho:(∃x,o= .move x\/o= .assign x\/o= .nilCheck x)\/(∃op t x,o= .unOp op t x)\/(∃op t x y ty,o= .binOp op t x y ty)\/(∃c a b,o= .pick c a b)\/(∃x i,o= .extract x i)\/∃fn first cap,o= .makeFunc fn first cap):
  ∃v B,K v B/\QS P d o T S0 v B:=by
 rcases ho with ⟨x,rfl|rfl|rfl⟩|⟨op,t,x,rfl⟩|⟨op,t,x,y,ty,rfl⟩|⟨c,a,b,rfl⟩|⟨x,i,rfl⟩|⟨fn,first,cap,rfl⟩
 ·simp only [qK,aB]at h
  exact cf h λ ρ w M e oo ho he=>⟨e x,by simp [execOp,ho],he x (by simp [Op.operands])⟩
 ·simp only [qK,aB]at h
  exact cf h λ ρ w M e oo ho he=>⟨e x,by simp [execOp,ho],he x (by simp [Op.operands])⟩
 ·simp only [qK,aB]at h
  split at h
  ·rename_i k off hx
   refine cf h λ ρ w M e oo ho he=>?_;have:=he x (by simp [Op.operands]);rw [hx]at this;have h1:(ρ k).bind (bY.ref · off)=some (e x):=this;obtain⟨b,⟨_,h2⟩|⟨_,h2⟩⟩:=vm h1
   ·exact⟨e x,by simp [execOp,ho,h2],h1⟩
   ·exact⟨e x,by simp [execOp,ho,h2],h1⟩
  ·rename_i f l hx
   refine cf h λ ρ w M e oo ho he=>?_;have:=he x (by simp [Op.operands]);rw [hx]at this;obtain⟨cs,h1,h2⟩:=this;exact⟨e x,by simp [execOp,ho,h1],cs,h1,h2⟩
  ·rename_i k i hx
   refine cf h λ ρ w M e oo ho he=>?_;have:=he x (by simp [Op.operands]);rw [hx]at this;obtain⟨o,b,h1,h2,h3,h4,h5⟩:=this;exact⟨e x,by simp [execOp,ho,h5],o,b,h1,h2,h3,h4,h5⟩
  ·rename_i r i hx
   refine cf h λ ρ w M e oo ho he=>?_;have:=he x (by simp [Op.operands]);rw [hx]at this;obtain⟨b,off,cap,h1,h2,h3,h4⟩:=this;exact⟨e x,by simp [execOp,ho,h4],b,off,cap,h1,h2,h3,h4⟩
  ·exact h.elim
 ·simp only [qK,aB]at h
  split at h
  ·rename_i e0 hx
   obtain⟨e',h1,h2⟩:=Qr h;refine cf h1 λ ρ w M e oo ho he=>?_;have:=he x (by simp [Op.operands]);rw [hx]at this;have hv:e x= .bool e0.val:=this;exact⟨.bool (!e0.val),by simp [execOp,ho,hv,Op.unary],by show Value.bool _=_;rw [h2]⟩
  ·rename_i k n hx
   rw [jB]at h;refine cf h.2 λ ρ w M e oo ho he=>?_;have:=he x (by simp [Op.operands]);rw [hx]at this;have hv:e x= .int k n:=this.1;exact⟨.int k (k.wrap (0 - n)),by simp [execOp,ho,hv,Op.unary,Op.intArith],kZ h.1⟩
  ·exact h.elim
 ·simp only [qK,aB]at h
  split at h
  ·rename_i PB
   rw [al]at h;obtain⟨ZL,h⟩:=h;obtain⟨kt,et,hu⟩:=MW aw ZL;unfold Hq at PB;split at PB
   ·rename_i hy
    split at PB
    ·rename_i k off hx
     split at PB
     ·rename_i kd vk m hf
      have look:∀{w:World} {b:Nat},(Op.equal t (.map (some b)) (.map none)).run P w= .ok false w:=λ{w b}=>by
       have h:∀n,(Op.equalIn (n+1) t (.map (some b)) (.map none)).run P w= .ok false w:=λ n=>by simp [Op.equalIn,underlying,hu]
       exact h 9999
      have go:∀(w0:World) (M0:ef w0) (ρ:Env) (w:World) (M:aX) (S':ai) (e:Operand->Value),JK S0 S'->St M0 ρ M S' w->(∀z∈(Op.binOp op t x y ty).operands,az ρ w M (aP T z) (e z))->∃b,e x= .map (some b)/\e y= .map none:=λ w0 M0 ρ w M S' e hc st he=>by
       have mA:=he x (by simp [Op.operands]);have D7:=he y (by simp [Op.operands]);rw [hx]at mA;rw [hy]at D7;have mA:(ρ k).bind (bY.ref · off)=some (e x):=mA;obtain⟨b,g1,_⟩:=st.aW k _ (st.fB hc hf mA);exact⟨b,zI g1 mA,D7⟩
      split at h
      ·refine bU h λ w0 M0 ρ w M S' e oo ho hc st he=>?_
       obtain⟨b,e1,e2⟩:=go w0 M0 ρ w M S' e hc st he;exact⟨.bool false,by simp [execOp,ho,e1,e2,eqGuard,binOp,look],rfl⟩
      ·refine bU h λ w0 M0 ρ w M S' e oo ho hc st he=>?_
       obtain⟨b,e1,e2⟩:=go w0 M0 ρ w M S' e hc st he;exact⟨.bool true,by simp [execOp,ho,e1,e2,eqGuard,binOp,look],rfl⟩
      ·exact h.elim
     ·cases PB
    ·cases PB
   ·cases PB
  obtain⟨v,h1,h2⟩:=Ji aw h;refine cf h1 λ ρ w M e oo ho he=>?_;obtain⟨u,h3,h4⟩:=h2 ρ w M x y (e x) (e y) (he x (by simp [Op.operands])) (he y (by simp [Op.operands]));refine⟨u,?_,h4⟩;simp only [execOp,ho];rw [Sem.run_bind,h3]
  rfl
 ·simp only [qK,aB]at h
  split at h
  ·rename_i e0 hx
   have h:=rK h
   have hK:K (if e0.val then aP T a else aP T b) none:=by
    cases hv:e0.val<;>rw [hv]at h<;>simpa using h
   refine cf hK λ ρ w M e oo ho he=>?_;have:=he c (by simp [Op.operands]);rw [hx]at this;have hv:e c= .bool e0.val:=this;refine⟨if e0.val then e a else e b,?_,?_⟩
   ·cases hb:e0.val<;>simp [execOp,ho,hv,hb,asBool]
   ·cases hb:e0.val
    ·simpa using he b (by simp [Op.operands])
    ·simpa using he a (by simp [Op.operands])
  ·exact h.elim
 ·simp only [qK,aB]at h
  split at h
  ·rename_i l hx
   obtain⟨h1,h2⟩:=qO h;have h5:=Dl l i;cases hd:l.drop i with
   |nil=>rw [hd]at h2;exact h2.elim
   |cons a m=>
    rw [hd]at h2 h5
    have aS:i<l.length:=by
     rcases Nat.lt_or_ge i l.length with h'|h'
     ·exact h'
     ·rw [List.drop_eq_nil_of_le h']at hd;cases hd
    simp [aS]at h5;refine cf (gA.1 h2) λ ρ w M e oo ho he=>?_;have:=he x (by simp [Op.operands]);rw [hx]at this;obtain⟨cs,h6,h7⟩:=this;obtain⟨u,h8,h9⟩:=h7.get i aS;rw [<-h5]at h9;rw [Array.getElem?_toList]at h8;refine⟨u,by simp [execOp,ho,h6,Instr.extract,h8],?_⟩;cases a with
    |agg l=>exact h9
    |any=>trivial
    |cC l=>exact h9.elim
    |fn f l=>
     cases l with
     |nil=>have h9:u=_:=h9;subst h9;exact⟨#[],rfl,ag⟩
     |cons=>exact h9.elim
    |_=>exact h9
  ·exact h.elim
 ·cases fn with
  |func f=>
   simp only [qK]at h;split at h
   ·rename_i hf
    rw [dr]at h;have OK:first= #[]:=by simpa using congrArg List.toArray hf
    subst OK
    by_cases hc:∃x r i,cap.toList=[x]/\aP T x= .eH r i
    ·obtain⟨x,r,i,da,hx⟩:=hc
     rw [da]at h;simp only [List.map_cons,List.map_nil,hx,MZ]at h;refine cf h λ ρ w M e oo ho he=>?_;have dT:cap= #[x]:=by simpa using congrArg List.toArray da
     subst dT;have cX:=he x (by simp [Op.operands]);rw [hx]at cX;obtain⟨b,off,cp,h1,h2,h3,h4⟩:=cX;exact⟨.func (.func f) #[] #[e x],by simp [execOp,ho,Instr.makeFunc],b,off,cp,h1,h2,h3,by rw [h4]⟩
    have h:bH (qQ (cap.toList.map (aP T))) (K (.fn f (cap.toList.map (aP T))) none):=by
     unfold MZ at h;split at h
     ·rename_i r i he
      exfalso;rcases da:cap.toList with _|⟨x,_|⟨y,l⟩⟩
      ·rw [da]at he;exact absurd (congrArg List.length he) (by simp)
      ·rw [da]at he;exact hc ⟨x,r,i,da,List.head_eq_of_cons_eq he⟩
      ·rw [da]at he;exact absurd (congrArg List.length he) (by simp)
     ·exact h
    rw [al]at h;obtain⟨aU,h⟩:=h;refine cf h λ ρ w M e oo ho he=>?_;refine⟨.func (.func f) #[] (cap.map e),by simp [execOp,ho,Instr.makeFunc],cap.map e,rfl,?_⟩;have bX:∀x∈cap.toList,az ρ w M (aP T x) (e x):=λ x hx=>he x (by simp [Op.operands];exact Array.mem_toList_iff.1 hx);rw [Array.toList_map]
    have key:∀(l:List Operand),qQ (l.map (aP T))=true->(∀x∈l,az ρ w M (aP T x) (e x))->aJ (aH ρ w M) (l.map (aP T)) (l.map e):=by
     intro l
     induction l with
     |nil=>intro _ _;trivial
     |cons x l ih=>
      intro hc hl;simp only [List.map_cons,qQ]at hc;cases hx:kG (aP T x)with
      |false=>rw [hx]at hc;cases hc
      |true=>rw [hx]at hc;exact⟨lX hx (hl x (by simp)),ih hc λ y hy=>hl y (List.mem_cons_of_mem _ hy)⟩
    exact key _ aU bX
   ·exact h.elim
  |_=>exact h.elim
end
end Go.AM
end
section
namespace Go.AM
open Go
section
variable{P:Program}{TY:List cP}{w0 w:World}{M0:ef w0}{ρ:Env}{M:aX}{S S0:ai}{d:Nat}
theorem BJ(aw:aO P TY){F:Spec}{t:Nat}{T:List AV}{K:AV->Option dH->Prop}(h:qK TY F d (.alloc t) T S0 K):
  ∃v B,K v B/\QS P d (.alloc t) T S0 v B:=by
 simp only [qK,al]at h;obtain⟨hl,uW,h⟩:=h
 have bools_cells:∀{l:List AV} {cs:List Value},iS l=true->aJ zC l cs->cs=List.replicate l.length (.bool false):=by
  intro l
  induction l with
  |nil=>intro cs _ hr;cases cs with|nil=>rfl|cons=>exact hr.elim
  |cons a l ih=>
   intro cs hz hr;cases cs with
   |nil=>exact hr.elim
   |cons c cs=>
    have x5:a= .bool (.lit false)/\iS l=true:=by
     unfold iS at hz;split at hz
     ·rename_i he;cases he
     ·rename_i he;cases he;exact⟨rfl,hz⟩
     ·cases hz
    obtain⟨rfl,x5⟩:=x5;have h1:c= .bool false:=hr.1 (λ _=>none) default (λ _ _=>False);rw [h1,ih x5 hr.2];rfl
 split at h
 ·rename_i WR
  refine⟨_,_,h,λ w0 M0 ρ M w S' e oo ho hc st he hd=>?_,λ _ hb=>by first|(cases hb;done)|(subst_vars;simp_all)⟩;have bm:(aq TY t).zero≠[]:=λ he=>by rw [he]at uW;cases uW
  have aI:=aw.at (t:=t) (.inl (by rw [<-dw hl];exact λ he=>bm (List.eq_nil_of_length_eq_zero he)));obtain⟨i,u,hi,zX,_,_,_,hzero⟩:=aI.row;obtain⟨z,gg,tQ⟩:=hzero bm;have mr:(zeroValue t).run P w= .ok z w:=by simp [zeroValue,typeInfo,hi,gg]
  have hzz:iS (aq TY t).zero=true/\Nat.ble (aq TY t).sz 1000000=true:=by
   unfold Hr at WR;split at WR
   ·split at WR
    ·exact⟨by assumption,by assumption⟩
    ·cases WR
   ·cases WR
  have hlen:=dw hl;have bR:z.cells.toList=List.replicate (aq TY t).sz (.bool false):=by rw [<-hlen];exact bools_cells hzz.1 tQ.1
  have hcz:z.cells.size=(aq TY t).sz:=by rw [<-Array.length_toList,bR,List.length_replicate]
  have ZM:(aq TY t).sz<=LB:=by have:=ah hzz.2;simp only [LB];omega
  obtain⟨ρ',M',h1,h2,h3,h4⟩:=st.push (w':={ w with heap:=w.heap.push (.cells z.cells t) }) (cs:=z.cells) (ty:=t) (own:=.sl ⟨some w.heap.size,(aq TY t).sz,(aq TY t).sz,1⟩) (B:=.vec 0 (.aL (List.replicate (aq TY t).sz false)) []) (hd (by simp)).1 (hd (by simp)).2 rfl (by first|exact jT.refl _|exact⟨⟨rfl,rfl⟩,rfl,Nat.le_succ _⟩) (λ _ h=>(Option.some.inj h).symm)
   (λ ρ' M' hρ hM hk fa=>⟨⟨_,hρ,by simp [RO.len],rfl,by simp only [RO.len,List.length_replicate];exact ZM,Nat.zero_le _,by
    refine⟨Nat.le_refl _,z.cells,t,by simp,by simp only [hcz,Nat.mul_one],λ off=>?_,λ q hq=>?_⟩
    ·rw [hM off];simp
    ·have hq:q<(aq TY t).sz:=by simpa [RO.cells,RO.len,RO.sz]using hq
     refine⟨.bool false,?_,?_⟩
     ·rw [<-Array.getElem?_toList,bR];simp [hq]
     ·simp [av,List.getElem?_replicate,hq]⟩,.inl rfl⟩)
  refine .val (v:=.pointer (some ⟨w.heap.size,0,none⟩)) (w':={ w with heap:=w.heap.push (.cells z.cells t) }) ?_ ⟨ρ',M',h1,⟨_,_,iD h2,rfl,Int.le_refl _,?_,by simp⟩,h3,h4⟩
  ·simp [execOp,ho,Instr.alloc,mr,newVar,newRow]
  ·have:0<(aq TY t).sz:=by rw [<-hlen];exact List.length_pos_iff.2 bm
   simp only;omega
 refine⟨_,_,h,λ w0 M0 ρ M w S' e oo ho hc st he hd=>?_,λ _ hb=>by first|(cases hb;done)|(subst_vars;simp_all)⟩;have bm:(aq TY t).zero≠[]:=λ he=>by rw [he]at uW;cases uW
 have aI:=aw.at (t:=t) (.inl (by rw [<-dw hl];exact λ he=>bm (List.eq_nil_of_length_eq_zero he)));obtain⟨i,u,hi,zX,_,_,_,hzero⟩:=aI.row;obtain⟨z,gg,tQ⟩:=hzero bm;have mr:(zeroValue t).run P w= .ok z w:=by simp [zeroValue,typeInfo,hi,gg]
 obtain⟨ρ',M',h1,h2,h3,h4⟩:=st.push (w':={ w with heap:=w.heap.push (.cells z.cells t) }) (cs:=z.cells) (ty:=t) (own:=.bx w.heap.size) (B:=.box (aq TY t).zero) (hd (by simp)).1 (hd (by simp)).2 rfl (by first|exact jT.refl _|exact⟨⟨rfl,rfl⟩,rfl,Nat.le_succ _⟩) (λ _ h=>h.symm)
  (λ ρ' M' hρ hM hk fa=>⟨w.heap.size,hρ,z.cells,t,by simp,hM,tQ.1.imp λ a v h=>h _ _ _⟩)
 refine .val (v:=.pointer (some ⟨w.heap.size,0,none⟩)) (w':={ w with heap:=w.heap.push (.cells z.cells t) }) ?_ ⟨ρ',M',h1,B9 0 h2,h3,h4⟩;simp [execOp,ho,Instr.alloc,mr,newVar,newRow]
theorem HY(_hty:aO P TY){F:Spec}{t:Nat}{x:Operand}{T:List AV}{K:AV->Option dH->Prop}(h:qK TY F d (.box t x) T S0 K):
  ∃v B,K v B/\QS P d (.box t x) T S0 v B:=by
 simp only [qK,aB]at h
 have YL:(ik TY t (aP T x) λ m=>K (.ptr d 0) (some (.box m)))\/∃l,aP T x= .ro (.rows .i64 l)/\ik TY t (.ro (.rows .i64 l)) λ _=>K (.eH (.bC [l]) 0) none:=by
  unfold WS at h;split at h
  ·rename_i l hx;rw [hx];exact h.imp id λ h=>⟨l,rfl,h⟩
  ·exact .inl h
 rcases YL with h|⟨l,zf,h⟩
 rotate_left
 ·obtain⟨m,hK,hlen,hm⟩:=sm h
  refine⟨_,none,hK,λ w0 M0 ρ M w S' e oo ho hc st he hd=>?_,λ hq=>by simp [bP,lI]at hq⟩;have hx:=he x (by simp [Op.operands]);rw [zf]at hx;have hx:a8 w M (.rows .i64 l) (e x):=hx
  have cM:(e x).cells= #[e x]:=by
   obtain⟨_,a,cap,h1,_⟩:=hx;rw [h1];rfl
  have hs:gk (λ _ _=>False) w { w with heap:=w.heap.push (.cells (e x).cells t) }:=gk.alloc _ w _;obtain⟨st2,hk⟩:=st.same (M':=M) hs (λ _ _ _=>Iff.rfl) (λ b off JJ=>Nat.lt_of_lt_of_le (st.mlt b off JJ) hs.size);refine .val (v:=.pointer (some ⟨w.heap.size,0,none⟩)) (w':={ w with heap:=w.heap.push (.cells (e x).cells t) }) ?_ ⟨ρ,M,st2,?_,hk,λ _ _ h=>h⟩
  ·simp [execOp,ho,Instr.box,newVar,newRow]
  ·refine⟨w.heap.size,0,1,⟨by simp [RO.len,LB],some ⟨w.heap.size,0,none⟩,1,by simp [RO.len],by simp [RO.len],.inr ⟨w.heap.size,0,rfl,λ q hq=>?_⟩⟩,Int.le_refl _,by simp [RO.len],by simp⟩
   have hq:q=0:=by simp [RO.cells,RO.len,RO.sz]at hq;omega
   subst hq;refine⟨e x,?_,λ hm=>absurd (st.mlt _ _ hm) (Nat.lt_irrefl _),?_⟩
   ·simp [World.cell?,cM]
   ·show NY _ M .i64 _ (e x)
    exact jj.1 (a8.keep hk hx)
 obtain⟨m,hK,hlen,hm⟩:=sm h;refine⟨_,_,hK,λ w0 M0 ρ M w S' e oo ho hc st he hd=>?_,λ _ hb=>by first|(cases hb;done)|(subst_vars;simp_all)⟩;have hx:=he x (by simp [Op.operands])
 have bc:aJ (aH ρ w M) m (e x).cells.toList:=by
  rcases hm with ⟨_,hm⟩|⟨_,hc,rfl⟩
  ·rw [hm]at hx
   obtain⟨cs,h1,h2⟩:=hx;rw [h1];exact h2
  ·have hx:=lX hc hx
   have cM:=aH.aM hx
   revert hx cM
   cases e x<;>intro hx cM<;>first|exact⟨hx,ag⟩|exact cM.elim
 obtain⟨ρ',M',h1,h2,h3,h4⟩:=st.push (w':={ w with heap:=w.heap.push (.cells (e x).cells t) }) (cs:=(e x).cells) (ty:=t) (own:=.bx w.heap.size) (B:=.box m) (hd (by simp)).1 (hd (by simp)).2 rfl (by first|exact jT.refl _|exact⟨⟨rfl,rfl⟩,rfl,Nat.le_succ _⟩) (λ _ h=>h.symm)
  (λ ρ' M' hρ hM hk fa=>⟨w.heap.size,hρ,(e x).cells,t,by simp,hM,bc.imp λ a v=>aH.keep hk fa⟩)
 refine .val (v:=.pointer (some ⟨w.heap.size,0,none⟩)) (w':={ w with heap:=w.heap.push (.cells (e x).cells t) }) ?_ ⟨ρ',M',h1,B9 0 h2,h3,h4⟩;simp [execOp,ho,Instr.box,newVar,newRow]
theorem c7{α:Type}(n q:Nat)(a:α):(List.replicate n a).getD q a=a:=by
 simp only [List.getD,List.getElem?_replicate];split<;>rfl
theorem wG{z c:Value}{m q:Nat}(hz:z.cells= #[c])(hq:q<m):(madeCells z.cells m)[q]? =some c:=by
 simp [madeCells,hz,hq,Nat.mod_one]
theorem wH{z c d:Value}{m q:Nat}(hz:z.cells= #[c,d])(hq:q<m):(madeCells z.cells m)[q]? =some (if q % 2=0 then c else d):=by
 simp only [madeCells,hz];have:q % 2=0\/q % 2=1:=aa;rcases this with h|h<;>simp [hq,h]
theorem Fs:∀{l:List AV},qJ l=true->l=[.str [],.str []]
 |[.str [],.str []],_=>rfl
theorem Fu:∀{l:List AV},Hs l=true->l=[.int .i64 0,.ao,.int .i64 0]
 |[.int .i64 (.ofNat 0),.ao,.int .i64 (.ofNat 0)],_=>rfl
theorem Fv{z c d e:Value}{m q:Nat}(hz:z.cells= #[c,d,e])(hq:q<m):(madeCells z.cells m)[q]? =some (if q % 3=0 then c else if q % 3=1 then d else e):=by
 simp only [madeCells,hz];have:q % 3=0\/q % 3=1\/q % 3=2:=aa;rcases this with h|h|h<;>simp [hq,h]
theorem Fw:∀{l:List AV},Ht l=true->l=[.str []]
 |[.str []],_=>rfl
theorem sW:∀{l:List AV},wI l=true->l=[.int .i64 0,.int .i64 0]
 |[.int .i64 (.ofNat 0),.int .i64 (.ofNat 0)],_=>rfl
theorem nq{k:IntKind}:∀{n:Nat} {l:List AV} {cs:List Value},ld k n l=true->aJ zC l cs->cs=List.replicate n (.int k 0)
 |0,[],[],_,_=>rfl
 |n+1,a::l,c::cs,h,hr=>by
  obtain⟨h1,h2⟩:=hr;unfold ld at h;split at h
  ·rename_i he;cases he
  ·rename_i n' k' l' hn he
   cases hn;cases he;split at h
   ·rename_i hk
    obtain rfl:=bZ hk;have h1:=(h1 bg default (λ _ _=>False)).1;rw [nq h h2,h1];rfl
   ·cases h
  ·cases h
 |0,_::_,_,h,_=>by simp [ld]at h
 |0,[],_::_,_,hr=>hr.elim
 |_+1,[],_,h,_=>by simp [ld]at h
 |_+1,_::_,[],_,hr=>hr.elim
theorem wJ(w:World)(M:aX)(C:Nat->Value->Prop):kA w M 0 C 0 (.slice none 0 0):=⟨none,0,rfl,Nat.le_refl _,.inl rfl⟩
theorem mR{e n:Nat}{K:RO->Prop}(aw:aO P TY)(uW:jW (aq TY e).zero=true)(h:pw TY e n K):
  ∃r,K r/\r.len=n/\∃i z,P.info? e=some i/\i.zero=some z/\i.size=(aq TY e).sz/\i.bytes=(aq TY e).bytes/\z.cells.size=r.sz/\
   ∀(w:World) (M:aX) q,q<r.cells->∃c,(madeCells z.cells r.cells)[q]? =some c/\av w M r q c:=by
 have bm:(aq TY e).zero≠[]:=λ he=>by rw [he]at uW;cases uW
 have get:(aq TY e).d≠.other->∃i z,P.info? e=some i/\i.zero=some z/\i.size=(aq TY e).sz/\i.bytes=(aq TY e).bytes/\Fk (aq TY e) z:=by
  intro hd;obtain⟨i,u,hi,hu,h1,h2,_,hzero⟩:=(aw.at (t:=e) (.inr hd)).row;obtain⟨z,gg,tQ⟩:=hzero bm;exact⟨i,z,hi,gg,h1,h2,tQ⟩
 have one:∀(r:RO),r.sz=1->r.len=n->K r->(aq TY e).d≠.other->(∀z,Df (aq TY e).d z->∃c,z.cells= #[c]/\∀w M q,av w M r q c)->
   ∃r,K r/\r.len=n/\∃i z,P.info? e=some i/\i.zero=some z/\i.size=(aq TY e).sz/\i.bytes=(aq TY e).bytes/\z.cells.size=r.sz/\
   ∀(w:World) (M:aX) q,q<r.cells->∃c,(madeCells z.cells r.cells)[q]? =some c/\av w M r q c:=by
  intro r hs hl hK hd hc;obtain⟨i,z,h1,h2,h3,h4,h5⟩:=get hd;obtain⟨c,h6,h7⟩:=hc z h5.2.2.2.1;exact⟨r,hK,hl,i,z,h1,h2,h3,h4,by rw [h6,hs];rfl,λ w M q hq=>⟨c,wG h6 hq,h7 w M q⟩⟩
 unfold pw rI at h;split at h
 ·rename_i k hd
  exact one _ rfl (by simp [RO.len]) h (by rw [hd];simp) λ z hz=>by
   rw [hd]at hz;have hz:z= .int k 0:=hz;subst hz;exact⟨_,rfl,λ w M q=>by simp only [av,c7];exact⟨ag,jX k⟩⟩
 ·rename_i hd
  exact one _ rfl (by simp [RO.len]) h (by rw [hd];simp) λ z hz=>by
   rw [hd]at hz;have hz:z= .bool false:=hz;subst hz;exact⟨_,rfl,λ w M q=>by simp only [av,c7]⟩
 ·rename_i hd
  rw [al]at h;obtain⟨xq,h⟩:=h;obtain⟨i,z,h1,h2,h3,h4,h5⟩:=get (by rw [hd];simp);have h6:=h5.1;rw [Fw xq]at h6
  obtain⟨c,VH,hc⟩:∃c,z.cells= #[c]/\c= .string (ca []):=by
   match hc:z.cells.toList,h6 with
   |[a],h6=>exact⟨a,by simpa using congrArg List.toArray hc,(h6.1 bg default (λ _ _=>False)).1⟩
  refine⟨_,h,by simp [RO.len],i,z,h1,h2,h3,h4,by rw [VH];rfl,λ w M q hq=>⟨c,wG VH hq,?_⟩⟩;simp only [av,c7];exact⟨hc,by simp⟩
 ·rename_i f hd
  have x5:∀z,Df (aq TY e).d z->z= .slice none 0 0:=λ z hz=>by rw [hd]at hz;exact hz
  split at h
  ·exact one _ rfl (by simp [RO.len]) h (by rw [hd];simp) λ z hz=>by
    rw [x5 z hz];exact⟨_,rfl,λ w M q=>by simp only [av,c7];exact⟨Nat.zero_le _,wJ _ _ _⟩⟩
  ·exact one _ rfl (by simp [RO.len]) h (by rw [hd];simp) λ z hz=>by
    rw [x5 z hz];exact⟨_,rfl,λ w M q=>by simp only [av,c7];exact⟨Nat.zero_le _,wJ _ _ _⟩⟩
  ·split at h
   ·exact one _ rfl (by simp [RO.len]) h (by rw [hd];simp) λ z hz=>by
     rw [x5 z hz];exact⟨_,rfl,λ w M q=>by simp only [av,c7];exact⟨Nat.zero_le _,wJ _ _ _⟩⟩
   ·exact h.elim
  ·split at h
   ·exact one _ rfl (by simp [RO.len]) h (by rw [hd];simp) λ z hz=>by
     rw [x5 z hz];exact⟨_,rfl,λ w M q=>by simp only [av,c7];exact⟨Nat.zero_le _,wJ _ _ _⟩⟩
   ·exact h.elim
  ·exact h.elim
 ·rename_i f hd
  split at h
  ·rw [al]at h
   obtain⟨WT,h⟩:=h;obtain⟨i,z,h1,h2,h3,h4,h5⟩:=get (by rw [hd];simp);obtain⟨cs,rfl⟩:=h5.2.1 (by rw [hd];rfl);have h6:=h5.1;rw [sW WT]at h6
   have bR:cs= #[.int .i64 0,.int .i64 0]:=by
    match hc:cs.toList,h6 with
    |[a,b],h6=>
     obtain⟨ha,hb,_⟩:=h6;have ha:=(ha bg default (λ _ _=>False)).1;have hb:=(hb bg default (λ _ _=>False)).1;subst ha;subst hb
     simpa using congrArg List.toArray hc
   subst bR;refine⟨_,h,by simp [RO.len],i,_,h1,h2,h3,h4,rfl,λ w M q hq=>⟨_,wH rfl hq,?_⟩⟩;simp only [av,c7];split<;>exact⟨rfl,jX _⟩
  ·exact h.elim
 ·rename_i n' f _ hd
  split at h
  ·rename_i k _
   rw [al]at h;obtain⟨WT,h⟩:=h;obtain⟨i,z,h1,h2,h3,h4,h5⟩:=get (by rw [hd];simp);obtain⟨cs,rfl⟩:=h5.2.1 (by rw [hd];rfl);have h6:cs.toList=_:=nq WT h5.1;refine⟨_,h,by simp [RO.len],i,_,h1,h2,h3,h4,by simpa [RO.sz,Value.cells]using congrArg List.length h6,λ w M q hq=>⟨.int k 0,?_,?_⟩⟩
   ·have bR:cs=(List.replicate (n'+2) (Value.int k 0)).toArray:=by simpa using congrArg List.toArray h6
    subst bR;simp only [madeCells,Value.cells];have hp:q % (n'+2)<n'+2:=Nat.mod_lt _ (Nat.succ_pos _);simp [hq,hp]
   ·simp only [av]
    have:(List.getD (List.replicate n (List.replicate (n'+2) (0:Int))) (q / (n'+2)) []).getD (q % (n'+2)) 0=0:=by
     simp only [List.getD,List.getElem?_replicate];split<;>simp [List.getElem?_replicate]
     split<;>rfl
    rw [this];exact⟨rfl,jX k⟩
  ·exact h.elim
 ·rename_i fs hd
  split at h
  ·rename_i ZN
   obtain⟨i,z,h1,h2,h3,h4,h5⟩:=get (by rw [hd];simp);obtain⟨cs,rfl⟩:=h5.2.1 (by rw [hd];rfl);have h6:=h5.1;rw [Fs ZN]at h6
   have bR:cs= #[.string (ca []),.string (ca [])]:=by
    match hc:cs.toList,h6 with
    |[a,b],h6=>
     obtain⟨ha,hb,_⟩:=h6;have ha:=(ha bg default (λ _ _=>False)).1;have hb:=(hb bg default (λ _ _=>False)).1;subst ha;subst hb
     simpa using congrArg List.toArray hc
   subst bR;refine⟨_,h,by simp [RO.len],i,_,h1,h2,h3,h4,rfl,λ w M q hq=>⟨_,wH rfl hq,?_⟩⟩;simp only [av,c7];split<;>exact⟨rfl,by simp⟩
  ·split at h
   ·rename_i ZN
    obtain⟨i,z,h1,h2,h3,h4,h5⟩:=get (by rw [hd];simp);obtain⟨cs,rfl⟩:=h5.2.1 (by rw [hd];rfl);have h6:=h5.1;rw [Fu ZN]at h6
    have bR:cs= #[.int .i64 0,.slice none 0 0,.int .i64 0]:=by
     match hc:cs.toList,h6 with
     |[a,b,c],h6=>
      obtain⟨ha,hb,Ve,_⟩:=h6;have ha:=(ha bg default (λ _ _=>False)).1;have hb:b= .slice none 0 0:=hb bg default (λ _ _=>False);have Ve:=(Ve bg default (λ _ _=>False)).1;subst ha;subst hb;subst Ve
      simpa using congrArg List.toArray hc
    subst bR;refine⟨_,h,by simp [RO.len],i,_,h1,h2,h3,h4,rfl,λ w M q hq=>⟨_,Fv rfl hq,?_⟩⟩;simp only [av,c7];split
    ·exact⟨rfl,jX _⟩
    ·split
     ·exact⟨Nat.zero_le _,wJ _ _ _⟩
     ·exact⟨rfl,jX _⟩
   ·rw [al]at h
    obtain⟨WT,h⟩:=h;obtain⟨i,z,h1,h2,h3,h4,h5⟩:=get (by rw [hd];simp);obtain⟨cs,rfl⟩:=h5.2.1 (by rw [hd];rfl);have h6:=h5.1;rw [sW WT]at h6
    have bR:cs= #[.int .i64 0,.int .i64 0]:=by
     match hc:cs.toList,h6 with
     |[a,b],h6=>
      obtain⟨ha,hb,_⟩:=h6;have ha:=(ha bg default (λ _ _=>False)).1;have hb:=(hb bg default (λ _ _=>False)).1;subst ha;subst hb
      simpa using congrArg List.toArray hc
    subst bR;refine⟨_,h,by simp [RO.len],i,_,h1,h2,h3,h4,rfl,λ w M q hq=>⟨_,wH rfl hq,?_⟩⟩;simp only [av,c7];split<;>exact⟨rfl,jX _⟩
 ·exact h.elim
theorem WU{r:RO}(hr:nr r=true)(q:Nat):(r.row q).sz=1:=by cases r<;>first|rfl|cases hr
theorem Fx{e n:Nat}{K:RO->Prop}(h:pw TY e n K):pw TY e n λ r=>K r/\(nr r=true->(∀q,(r.row q).len=0)/\∃f,(aq TY e).d= .slice f):=by
 unfold pw rI at*;split at h
 ·exact⟨h,λ h=>by cases h⟩
 ·exact⟨h,λ h=>by cases h⟩
 ·rw [al]at h ⊢
  exact⟨h.1,h.2,λ h=>by cases h⟩
 ·rename_i f hd
  split at h
  ·exact⟨h,λ _=>⟨λ q=>by simp only [RO.row,c7];rfl,f,hd⟩⟩
  ·exact⟨h,λ _=>⟨λ q=>by simp only [RO.row,c7];rfl,f,hd⟩⟩
  ·split at h
   ·exact⟨h,λ _=>⟨λ q=>by simp only [RO.row,c7];rfl,f,hd⟩⟩
   ·exact h.elim
  ·split at h
   ·exact⟨h,λ h=>by cases h⟩
   ·exact h.elim
  ·exact h.elim
 ·split at h
  ·rw [al]at h ⊢
   exact⟨h.1,h.2,λ h=>by cases h⟩
  ·exact h.elim
 ·split at h
  ·rw [al]at h ⊢
   exact⟨h.1,h.2,λ h=>by cases h⟩
  ·exact h.elim
 ·split at h
  ·rename_i hz
   simp only [hz];exact⟨h,λ h=>by cases h⟩
  ·rename_i hz
   simp only [hz];split at h
   ·rename_i tQ
    exact⟨h,λ h=>by cases h⟩
   ·rename_i tQ
    try simp only [tQ]
    rw [al]at h ⊢;exact⟨h.1,h.2,λ h=>by cases h⟩
 ·exact h.elim
theorem Eo(aw:aO P TY){F:Spec}{t:Nat}{l c:Operand}{T:List AV}{K:AV->Option dH->Prop}(h:qK TY F d (.makeSlice t l c) T S0 K):
  ∃v B,K v B/\QS P d (.makeSlice t l c) T S0 v B:=by
 simp only [qK,aB]at h;split at h
 ·rename_i e hd
  obtain⟨kl,ln,hl,h⟩:=dO h;obtain⟨kc,cn,hc,⟨h0,h1⟩,h⟩:=dO h;obtain⟨h2,_,h⟩:=qS h aa
  have hz:jW (aq TY e).zero=true:=by
   unfold pw rI at h
   revert h
   repeat' split
   all_goals (intro h;first|exact h.elim|(simp only [al]at h;first|exact h.2.1|exact h.2.2.1))
  obtain⟨r,⟨hK,BR⟩,hlen,i,z,hi,gg,bk,tt,xq,cM⟩:=mR aw hz (Fx h);rw [al,al,al]at hK;obtain⟨ZO,_,aU,hK⟩:=hK;rw [Nat.ble_eq]at ZO;obtain⟨e',iw,hu,oz,aI⟩:=bT aw aU;rw [hd]at iw;cases iw
  have hK2:∃B,K (.vec d) (some B)/\(B= .vec 0 r []\/(B= .deep r none/\nr r=true)\/∃k l,r= .rows k l/\B= .vec 0 (.cR k l) []):=by
   unfold WV at hK;split at hK
   ·exact⟨_,hK,.inl rfl⟩
   ·rename_i hq
    rcases hK with hK|hK|hK
    ·exact⟨_,hK,.inl rfl⟩
    ·exact⟨_,hK,.inr (.inl ⟨rfl,hq⟩)⟩
    ·split at hK
     ·exact⟨_,hK,.inr (.inr ⟨_,_,rfl,rfl⟩)⟩
     ·exact hK.elim
  obtain⟨B,hK,VW⟩:=hK2;refine⟨_,_,hK,λ w0 M0 ρ M w S' ev oo ho hcm st he Ku=>?_,λ _ hb=>by rcases VW with rfl|⟨rfl,_⟩|⟨_,_,_,rfl⟩<;>cases hb⟩;have Gc:=he l (by simp [Op.operands]);have hec:=he c (by simp [Op.operands]);rw [hl]at Gc;rw [hc]at hec;have hb:(i.bytes:Int)*cn<=281474976710656:=by rw [tt,Int.mul_comm];omega
  have ZP:0<=cn:=aa
  have UU:cn<=140737488355328:=by
   have h3:cn*1<=cn*((aq TY e).bytes:Int):=Int.mul_le_mul_of_nonneg_left aa ZP;omega
  have aK:=run_make (P:=P) w t e i z hu hi gg kl kc ln cn h0 h1 hb aa;have Qs:i.size=r.sz:=by rw [bk,oz]
  have hw:(w.alloc (.cells (madeCells z.cells (cn.toNat*i.size)) e)).heap=w.heap.push (.cells (madeCells z.cells (cn.toNat*i.size)) e (0,0)):=rfl;have hle:r.cells<=cn.toNat*i.size:=by rw [Qs];simp only [RO.cells,hlen];exact Nat.mul_le_mul_right _ aa
  have M4:∀q,q<r.cells->(madeCells z.cells (cn.toNat*i.size))[q]? =(madeCells z.cells r.cells)[q]? :=λ q hq=>by
   simp [madeCells,hq,Nat.lt_of_lt_of_le hq hle]
  have WW:∃ρ' M',St M0 ρ' M' ((d,B)::S') (w.alloc (.cells (madeCells z.cells (cn.toNat*i.size)) e))/\(ρ' d).bind bY.x9=some ⟨some w.heap.size,r.len,cn.toNat,r.sz⟩/\bB w M (w.alloc (.cells (madeCells z.cells (cn.toNat*i.size)) e)) M'/\∀k o,ρ k=some o->ρ' k=some o:=by
   have RS:nr r=true->(∀q,(r.row q).len=0)/\∀(q:Nat) (c:Value),(madeCells z.cells r.cells)[q]? =some c->c=cz.val:=by
    intro DR;obtain⟨h1,f,SV⟩:=BR DR;refine⟨h1,λ q c hc=>?_⟩;obtain⟨i',u,zm,_,_,_,_,hzero⟩:=(aw.at (t:=e) (.inr (by rw [SV];simp))).row;rw [hi]at zm;cases zm;obtain⟨z',x5,Q9⟩:=hzero λ he=>by rw [he]at hz;cases hz
    rw [gg]at x5;cases x5;have Q9:=Q9.2.2.2.1;rw [SV]at Q9;have Q9:z= .slice none 0 0:=Q9;subst Q9
    have hq:q<r.cells:=by
     rcases Nat.lt_or_ge q r.cells with h|h
     ·exact h
     ·rw [Array.getElem?_eq_none (by simp [size_madeCells];exact h)]at hc;cases hc
    have Fy:r.sz=1:=kO DR;have:=wG (z:=.slice none 0 0) (c:=.slice none 0 0) rfl hq;rw [hc]at this;exact Option.some.inj this
   rcases VW with rfl|⟨rfl,DR⟩|⟨kk,ll,rfl,rfl⟩
   ·obtain⟨ρ',M',g1,g2,g3,g4⟩:=st.push (own:=.sl ⟨some w.heap.size,r.len,cn.toNat,r.sz⟩) (B:=.vec 0 r []) (Ku (by simp)).1 (Ku (by simp)).2 hw (by first|exact jT.refl _|exact⟨⟨rfl,rfl⟩,rfl,Nat.le_succ _⟩) (λ _ h=>(Option.some.inj h).symm)
     (λ ρ' M' hρ hM hk fa=>⟨⟨_,hρ,rfl,rfl,by simp only [LB];omega,Nat.zero_le _,by
      refine⟨by simp only;omega,madeCells z.cells (cn.toNat*i.size),e,by rw [hw];simp,by simp only [size_madeCells,Qs],λ off=>?_,λ q hq=>?_⟩
      ·rw [hM off];simp
      ·obtain⟨c,g5,g6⟩:=cM _ M' q hq
       exact⟨c,by rw [M4 q hq];exact g5,g6⟩⟩,.inl rfl⟩)
    exact⟨ρ',M',g1,iD g2,g3,g4⟩
   ·have Fy:r.sz=1:=kO DR
    have my:=RS DR;have Dq:∀q,(List.replicate r.len cz).getD q cz=cz:=λ q=>by simp only [List.getD,List.getElem?_replicate];split<;>rfl
    obtain⟨ρ',M',g1,g2,g3,g4⟩:=st.push (own:=.dp ⟨some w.heap.size,r.len,cn.toNat,r.sz⟩ (List.replicate r.len cz)) (B:=.deep r none) (Ku (by simp)).1 (Ku (by simp)).2 hw (by first|exact jT.refl _|exact⟨⟨rfl,rfl⟩,rfl,Nat.le_succ _⟩)
     (λ b h=>by
      rcases h with h|⟨q,h⟩
      ·exact(Option.some.inj h).symm
      ·rw [Dq]at h;cases h)
     (λ ρ' M' hρ hM hk fa=>⟨_,_,hρ,{
      rq:=DR,len:=rfl,NS:=Fy,lb:=by simp only [LB];omega,Fz:=by simp
      outer:=by
       refine⟨by simp only;omega,madeCells z.cells (cn.toNat*i.size),e,by rw [hw];simp,by simp only [size_madeCells,Qs,Fy,Nat.mul_one],λ off=>hM off,λ q hq=>?_⟩;obtain⟨c,g5,g6⟩:=cM (w.alloc (.cells (madeCells z.cells (cn.toNat*i.size)) e)) M' q (by simp [RO.cells,Fy,hq]);refine⟨c,by rw [M4 q (by simp [RO.cells,Fy,hq])];exact g5,.inr ?_⟩;rw [Dq];exact my.2 q c g5
      row:=λ q hq _=>by
       rw [Dq];have:=my.1 q;refine⟨by rw [this];rfl,by rw [WU DR];rfl,by rw [this];exact Nat.zero_le _,Nat.zero_le _,this,rfl⟩
      Lx:=λ i h=>by cases h
      out:=λ q b h=>by rw [Dq]at h;cases h
      apart:=λ q q' b h=>by rw [Dq]at h;cases h }⟩)
    exact⟨ρ',M',g1,oB g2,g3,g4⟩
   ·have pA:(RO.cR kk ll).len=(RO.rows kk ll).len:=rfl
    obtain⟨ρ',M',g1,g2,g3,g4⟩:=st.push (own:=.sl ⟨some w.heap.size,(RO.rows kk ll).len,cn.toNat,(RO.rows kk ll).sz⟩) (B:=.vec 0 (.cR kk ll) []) (Ku (by simp)).1 (Ku (by simp)).2 hw (by first|exact jT.refl _|exact⟨⟨rfl,rfl⟩,rfl,Nat.le_succ _⟩) (λ _ h=>(Option.some.inj h).symm)
     (λ ρ' M' hρ hM hk fa=>⟨⟨_,hρ,rfl,rfl,by simp only [LB,pA];omega,Nat.zero_le _,by
      refine⟨by simp only;omega,madeCells z.cells (cn.toNat*i.size),e,by rw [hw];simp,by simp only [size_madeCells,Qs],λ off=>?_,λ q hq=>?_⟩
      ·rw [hM off];simp
      ·obtain⟨c,g5,g6⟩:=cM _ M' q hq
       refine⟨c,by rw [M4 q hq];exact g5,g6,λ _=>(RS rfl).2 q c g5⟩⟩,.inl rfl⟩)
    exact⟨ρ',M',g1,iD g2,g3,g4⟩
  obtain⟨ρ',M',g1,g2,g3,g4⟩:=WW;refine .val (v:=.slice (some ⟨w.heap.size,0,none⟩) ln.toNat cn.toNat) (w':=w.alloc (.cells (madeCells z.cells (cn.toNat*i.size)) e)) ?_ ⟨ρ',M',g1,⟨_,g2,by simp [Sl.val,hlen]⟩,g3,g4⟩;have ZQ:ev l= .int kl ln:=Gc.1;have ZR:ev c= .int kc cn:=hec.1;simp [execOp,ho,ZQ,ZR,aK]
 ·exact h.elim
end
end Go.AM
end
