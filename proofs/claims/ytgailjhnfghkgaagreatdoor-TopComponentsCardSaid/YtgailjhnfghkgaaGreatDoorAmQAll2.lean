import Derived.Test.YtgailjhnfghkgaaGreatDoorAmState
import Derived.Laws.AppendOwn
import Derived.Laws.MakeOwn
import Derived.Laws.StructEq
section
namespace Go.AM
open Go
def zC(a:AV)(v:Value):Prop:=∀O w M,aJ O w M a v
def mc:HN->TypeDesc->Prop
 |.int k,.int k'=>k=k'|.bool,.bool=>True|.str,.string=>True|.slice e,.slice e'=>e=e'|.arr n e,.array n' e'=>n=n'/\e=e'
 |.struct fs,.struct F=>fs=F.toList.map (λf=>(f.offset,f.type))|.map k e,.map k' e'=>k=k'/\e=e'
 |.other,.struct _=>False|.other,.array _ _=>False|.other,_=>True|_,_=>False
def Ed(d:HN)(z:Value):Prop:=
 match d with
 |.int k=>z= .int k 0|.bool=>z= .bool false|.slice _=>z= .slice none 0 0|_=>True
def Gl(E:cV)(z:Value):Prop:=
 aM zC E.zero z.cells.toList/\(bN E.d=true->∃cs,z= .agg cs)/\(bN E.d=false->aO z)/\Ed E.d z/\E.zero.length=E.sz
def Yj(P:Program)(t:Nat):Prop:=P.stoodInHeld t=false/\P.eqGuardType P.depth t=false/\∀f∈(P.fieldsOf t).toList,f.name≠ "_"
def Oe(P:Program)(t:Nat):Bool:=
 !P.stoodInHeld t&& !P.eqGuardType P.depth t&&(P.fieldsOf t).toList.all λf=>!decide (f.name= "_")
theorem Of{P:Program}{t:Nat}(h:Oe P t=true):Yj P t:=by
 unfold Oe at h;simp only [ajB,Bool.not_eq_true',aj7,decide_eq_false_iff_not]at h;exact⟨h.1.1,h.1.2,h.2⟩
structure iU(P:Program)(t:Nat)(E:cV):Prop where
 row:∃i u,P.info? t=some i/\P.underlying t=some u/\i.size=E.sz/\i.bytes=E.bytes/\mc E.d u/\(E.zero≠[]->∃z,i.zero=some z/\Gl E z)
 eqr:rE E.zero=true->Yj P t
def Iu(n:Nat):List (Nat × Nat)->Bool
 |[]=>true|(_,t)::l=>Nat.ble (t+1) n&&Iu n l
def rF(n:Nat):List cV->Bool
 |[]=>true|E::l=>(match E.d with|.struct fs=>Iu n fs|_=>true)&&rF n l
structure aR(P:Program)(TY:List cV):Prop where
 row:∀t,t<TY.length->iU P t (au TY t)
 closed:∀t fs,(au TY t).d= .struct fs->∀x∈fs,x.2<TY.length
 pos:∃m,P.types.size=m+1
def nJ(a b:Nat):Bool:=Nat.beq a b
def Og(a:AV)(v:Value):Bool:=
 match a,v with
 |.int k n,.int k' n'=>kq k k'&&decide (n=n')&&yd k n
 |.bool (.lit b),.bool b'=>b==b'
 |.ar,.slice none 0 0=>true
 |.str [],.string s=>Nat.beq s.size 0
 |.bO,.map none=>true
 |.any,.agg _=>false|.any,.tuple _=>false|.any,_=>true
 |_,_=>false
def BC:List AV->List Value->Bool
 |[],[]=>true|a::l,v::m=>Og a v&&BC l m|_,_=>false
def uY:List (Nat × Nat)->List Field->Bool
 |[],[]=>true|(o,t)::l,f::m=>nJ o f.offset&&nJ t f.type&&uY l m|_,_=>false
def Oh(d:HN)(u:TypeDesc):Bool:=
 match d,u with
 |.int k,.int k'=>kq k k'|.bool,.bool=>true|.str,.string=>true|.slice e,.slice e'=>nJ e e'|.arr n e,.array n' e'=>nJ n n'&&nJ e e'
 |.struct fs,.struct F=>uY fs F.toList|.map k e,.map k' e'=>nJ k k'&&nJ e e'
 |.other,.struct _=>false|.other,.array _ _=>false|.other,_=>true|_,_=>false
def DH(b:Bool)(z:Value):Bool:=
 match b,z with|true,.agg _=>true|true,_=>false|false,.agg _=>false|false,.tuple _=>false|false,_=>true
def Ee(d:HN)(z:Value):Bool:=
 match d,z with
 |.int k,.int k' n=>kq k k'&&decide (n=0)|.bool,.bool b=>b==false|.slice _,.slice none 0 0=>true
 |.int _,_=>false|.bool,_=>false|.slice _,_=>false|_,_=>true
def Gm(E:cV)(z:Value):Bool:=BC E.zero z.cells.toList&&DH (bN E.d) z&&Ee E.d z&&nJ E.zero.length E.sz
def VB(P:Program)(t:Nat)(E:cV):Bool:=
 match P.info? t,P.underlying t with
 |some i,some u=>nJ i.size E.sz&&nJ i.bytes E.bytes&&Oh E.d u&&(match E.zero,i.zero with|[],_=>true|_,some z=>Gm E z|_,none=>false)&&(match rE E.zero with|true=>Oe P t|false=>true)
 |_,_=>false
def yK(P:Program):Nat->List cV->Bool
 |_,[]=>true|t,E::l=>VB P t E&&yK P (t+1) l
theorem fq{a b:Nat}(h:nJ a b=true):a=b:=aA.1 h
theorem Iv{O:Env}{w:World}{M:a7}{s:ByteArray}(h:s.size=0):aJ O w M (.str []) (.string s):=by
 refine⟨?_,by simp⟩;obtain⟨⟨l⟩⟩:=s;cases l with
 |nil=>rfl
 |cons a l=>simp [ByteArray.size]at h
theorem Oi{a:AV}{v:Value}(h:Og a v=true):zC a v:=by
 intro O w M;cases a<;>cases v<;>simp only [Og,ajB,decide_eq_true_eq]at h<;>try (first|(cases h;done)|trivial)
 ·obtain⟨⟨h1,rfl⟩,h3⟩:=h
  obtain rfl:=b8 h1;exact⟨rfl,wN h3⟩
 ·rename_i e b
  cases e<;>simp at h
  subst h;rfl
 ·rename_i a n m
  match a,n,m,h with
  |none,0,0,_=>rfl
 ·rename_i r
  cases r with
  |none=>rfl
  |some b=>cases h
 ·rename_i l s
  cases l with
  |nil=>exact Iv (aA.1 h)
  |cons a l=>cases h
theorem zB:∀{l:List AV} {m:List Value},BC l m=true->aM zC l m
 |[],[],_=>trivial
 |a::l,v::m,h=>by simp only [BC,ajB]at h;exact⟨Oi h.1,zB h.2⟩
 |[],_::_,h=>by cases h
 |_::_,[],h=>by cases h
theorem xd:∀{l:List (Nat × Nat)} {m:List Field},uY l m=true->l=m.map λf=>(f.offset,f.type)
 |[],[],_=>rfl
 |(o,t)::l,f::m,h=>by
  simp only [uY,ajB]at h;rw [akd,<-xd h.2,fq h.1.1,fq h.1.2]
 |[],_::_,h=>by cases h
 |_::_,[],h=>by cases h
theorem Oj{d:HN}{u:TypeDesc}(h:Oh d u=true):mc d u:=by
 cases d<;>cases u<;>simp only [Oh,ajB]at h<;>try (first|(cases h;done)|trivial)
 ·exact b8 h
 ·exact fq h
 ·exact⟨fq h.1,fq h.2⟩
 ·exact xd h
 ·exact⟨fq h.1,fq h.2⟩
theorem Ol{d:HN}{z:Value}(h:Ee d z=true):Ed d z:=by
 cases d<;>try trivial
 ·cases z<;>simp only [Ee,ajB,decide_eq_true_eq,Bool.false_eq_true]at h
  obtain⟨h4,rfl⟩:=h;obtain rfl:=b8 h4;rfl
 ·cases z<;>simp [Ee]at h
  subst h;rfl
 ·cases z<;>simp only [Ee,Bool.false_eq_true]at h
  rename_i e a n m
  match a,n,m,h with
  |none,0,0,_=>rfl
theorem Kp{E:cV}{z:Value}(h:Gm E z=true):Gl E z:=by
 unfold Gm at h;simp only [ajB]at h;obtain⟨⟨⟨h1,h2⟩,h3⟩,h4⟩:=h;refine⟨zB h1,λha=>?_,λha=>?_,Ol h3,fq h4⟩
 ·rw [ha]at h2;cases z<;>simp [DH]at h2;exact⟨_,rfl⟩
 ·rw [ha]at h2;cases z<;>simp [DH]at h2<;>trivial
theorem RU{P:Program}{t:Nat}{E:cV}(h:VB P t E=true):iU P t E:=by
 unfold VB at h;split at h
 ·rename_i i u hi hu
  simp only [ajB]at h;obtain⟨⟨⟨⟨h1,h2⟩,h3⟩,h4⟩,h6⟩:=h;refine⟨⟨i,u,hi,hu,fq h1,fq h2,Oj h3,λbn=>?_⟩,λhz=>by rw [hz]at h6;exact Of h6⟩;split at h4
  ·rename_i he;exact absurd he bn
  ·rename_i z hz _;exact⟨z,hz,Kp h4⟩
  ·cases h4
 ·cases h
theorem Ef{P:Program}:∀{l:List cV} {t:Nat},yK P t l=true->∀i,i<l.length->iU P (t+i) (au l i)
 |[],_,_,i,hi=>by simp at hi
 |E::l,t,h,0,_=>by simp only [yK,ajB]at h;exact RU h.1
 |E::l,t,h,i+1,hi=>by
  simp only [yK,ajB]at h;have:=Ef h.2 i (by simpa using hi);rw [show t+(i+1)=t+1+i from by omega];exact this
theorem Eh{n:Nat}:∀{l:List (Nat × Nat)},Iu n l=true->∀x∈l,x.2<n
 |(o,t)::l,h,x,hx=>by
  simp only [Iu,ajB,Nat.ble_eq]at h;rcases ajo.1 hx with rfl|hx
  ·exact h.1
  ·exact Eh h.2 x hx
 |[],_,_,hx=>by cases hx
theorem xe{n:Nat}:∀{l:List cV},rF n l=true->∀t fs,(au l t).d= .struct fs->∀x∈fs,x.2<n
 |[],_,t,fs,hd,x,hx=>by simp [au]at hd
 |E::l,h,0,fs,hd,x,hx=>by
  simp only [rF,ajB]at h;have hd:E.d= .struct fs:=hd;rw [hd]at h;exact Eh h.1 x hx
 |E::l,h,t+1,fs,hd,x,hx=>by
  simp only [rF,ajB]at h;exact xe h.2 t fs hd x hx
theorem RV{P:Program}{TY:List cV}(h:yK P 0 TY=true)(h':rF TY.length TY=true)(h'':Nat.ble 1 P.types.size=true):aR P TY:=
 ⟨λt ht=>by simpa using Ef h t ht,xe h',P.types.size - 1,by rw [Nat.ble_eq]at h'';omega⟩
theorem pM:∀{l:List cV} {t:Nat},l.length<=t->au l t=⟨.other,0,0,[]⟩
 |[],_,_=>rfl
 |_::_,0,h=>by simp at h
 |_::l,t+1,h=>pM (l:=l) (by simpa using h)
theorem aR.at{P:Program}{TY:List cV}(h:aR P TY){t:Nat}(ht:(au TY t).sz≠0\/(au TY t).d≠.other):iU P t (au TY t):=by
 rcases ajF t TY.length with h'|h'
 ·exact h.row t h'
 ·rw [pM h']at ht;simp at ht
def bh:Env:=λ_=>none
def lz(w w':World)(M:a7):AV->Value->Prop
 |.new r,v=>∃o:Sl,v=o.val/\fp bh w' M o 0 r []/\∀b,o.aZ=some b->w.heap.size<=b
 |a,v=>cx bh w' M a v
def AF(w w':World)(M:a7):AV->Value->Prop
 |.new r,v=>lz w w' M (.new r) v
 |.cL l,v=>∃cs,v= .tuple cs/\aM (lz w w' M) l cs.toList
 |a,v=>aC bh w' M a v
def FI(M:a7)(w w':World)(ret:AV)(v:Value):Prop:=
 ∃M':a7,(∀b off,b<w.heap.size->(M' b off↔M b off))/\(∀b off,M' b off->b<w'.heap.size)/\AF w w' M' ret v
def eJ(P:Program)(f:FuncId):Prop:=∃fn,P.funcs[f]? =some fn/\fn.name≠ "runtime.NumGoroutine"/\fn.body.isSome=true
def Fn(P:Program):FuncId->List AV->AV->Prop:=λf args ret=>eJ P f/\
 ∀(M:a7) (w:World) (vs:List Value),AQ w->(∀b off,M b off->b<w.heap.size)->aM (aC bh w M) args vs->
  Calls P f vs.toArray w λe w'=>∃v,e= .returned v/\gH (λ_ _=>False) w w'/\FI M w w' ret v
theorem VC{M:a7}{w w':World}(h:AQ w)(hs:gH M w w')(hM:∀off,¬M 0 off):AQ w':=λj hj=>hs.cell (h j hj) (hM j)
abbrev Hj(O:Env)(M:a7)(w:World):Prop:=∀w',gH (λb off=>(∃k,hasB O k b)/\M b off) w w'->AQ w'
def eS(O:Env)(M:a7)(w:World)(hw:Hj O M w):eE w:=⟨M,λb=>∃k,hasB O k b,O,hw⟩
def om(M:a7)(w:World)(h:AQ w):eE w:=⟨M,λ_=>False,bh,λ_ hs=>VC h hs λ_ hm=>hm.1⟩
def Y6(P:Program):FuncId->List AV->ak->AV->ak->Prop:=λf args S1 ret S2=>eJ P f/\
 ∀(O:Env) (M:a7) (w:World) (vs:List Value) (hw:Hj O M w),St (eS O M w hw) O M S1 w->aM (aC O w M) args vs->
  Calls P f vs.toArray w λe w'=>∃v O' M',e= .returned v/\St (eS O M w hw) O' M' S2 w'/\aC O' w' M' ret v
def Y7(P:Program):FuncId->List AV->ak->(X:Type)->(X->AV)->(X->ak)->(X->Prop)->Prop:=λf args S1 X ret S2 ok=>eJ P f/\
 ∀(O:Env) (M:a7) (w:World) (vs:List Value) (hw:Hj O M w),St (eS O M w hw) O M S1 w->aM (aC O w M) args vs->
  Calls P f vs.toArray w λe w'=>∃z:X,ok z/\∃v O' M',e= .returned v/\St (eS O M w hw) O' M' (S2 z) w'/\aC O' w' M' (ret z) v
def Y5(P:Program):FuncId->List AV->(X:Type)->(X->AV)->(X->Prop)->Prop:=λf args X out ok=>eJ P f/\
 ∀(M:a7) (w:World) (vs:List Value),AQ w->(∀b off,M b off->b<w.heap.size)->aM (aC bh w M) args vs->
  Calls P f vs.toArray w λe w'=>∃x:X,ok x/\∃v,e= .returned v/\gH (λ_ _=>False) w w'/\FI M w w' (out x) v
structure ck(P:Program)(F:Spec):Prop where
 e:∀f as X out ok,F.e f as X out ok->Y5 P f as X out ok
 q:∀f as r,F.q f as r->Fn P f as r
 m:∀f as S r S',F.m f as S r S'->Y6 P f as S r S'
 n:∀f as S X r S' ok,F.n f as S X r S' ok->Y7 P f as S X r S' ok
def Om(P:Program):Spec:=⟨Fn P,Y6 P,Y5 P,Y7 P⟩
theorem ox(P:Program):ck P (Om P):=⟨λ_ _ _ _ _ h=>h,λ_ _ _ h=>h,λ_ _ _ _ _ h=>h,λ_ _ _ _ _ _ _ h=>h⟩
def fj(P:Program)(s:Sem Next)(w:World)(R:Value->World->Prop):Prop:=
 (∃v w',s.run P w= .ok (.value v) w'/\R v w')\/(∃w',s.run P w= .ok .skip w'/\R undef w')\/
 ∃f args w',s.run P w= .ok (.enter f args) w'/\Calls P f args w' λe w''=>∃v,e= .returned v/\R v w''
theorem fj.wp{P:Program}{o:Oper}{a:Act}{w:World}{R:Value->World->Prop}{next:Act->World->Prop}{Q:Exit->Act->World->Prop}
  (h:fj P (execOp a.eval o) w R) (hn:∀v w',R v w'->next (a.put o.dst v) w'):o.wp P a w next Q:=by
 unfold Oper.wp;rcases h with ⟨v,w',h1,h2⟩|⟨w',h1,h2⟩|⟨f,args,w',h1,h2⟩
 ·rw [h1];exact hn _ _ h2
 ·rw [h1];exact hn _ _ h2
 ·rw [h1]
  refine h2.mono λe w'' ⟨v,he,hR⟩=>?_;subst he;exact hn _ _ hR
theorem fj.mono{P:Program}{s:Sem Next}{w:World}{R R':Value->World->Prop}(h:fj P s w R)(hR:∀v w',R v w'->R' v w'):fj P s w R':=by
 rcases h with ⟨v,w',h1,h2⟩|⟨w',h1,h2⟩|⟨f,args,w',h1,h2⟩
 ·exact .inl ⟨v,w',h1,hR _ _ h2⟩
 ·exact .inr (.inl ⟨w',h1,hR _ _ h2⟩)
 ·exact .inr (.inr ⟨f,args,w',h1,h2.mono λe w'' ⟨v,he,h⟩=>⟨v,he,hR _ _ h⟩⟩)
theorem fj.val{P:Program}{s:Sem Next}{w w':World}{R:Value->World->Prop}{v:Value}(h:s.run P w= .ok (.value v) w')(hR:R v w'):fj P s w R:=.inl ⟨v,w',h,hR⟩
theorem xf{w:World}{M:a7}{a b:AV}{v:Value}(h:O8 [] [] a b):(aC bh w M a v->aC bh w M b v)/\(cx bh w M a v->cx bh w M b v)/\(b≠.any->aJ bh w M a v->aJ bh w M b v):=by
 have nil_ro:∀(r:RO),r.len=0->v= .slice none 0 0->bd w M r v:=λr hr hv=>by
  subst hv;exact⟨by rw [hr];exact ajk _,none,0,by rw [hr],by rw [hr];exact ajl _,.inl (by simp [RO.cells,hr])⟩
 cases b with
 |any=>exact⟨λ_=>trivial,λ_=>trivial,λh=>absurd rfl h⟩
 |int k n=>
  cases a<;>try exact h.elim
  simp only [O8,aq]at h;obtain⟨h1,rfl⟩:=h;obtain rfl:=b8 h1;exact⟨id,id,λ_=>id⟩
 |bool e=>
  cases a<;>try exact h.elim
  rename_i e';have h:e'.val=e.val:=h;refine⟨λhv=>?_,λhv=>?_,λ_ hv=>?_⟩<;>(have hv:v= .bool e'.val:=hv;exact(by rw [hv,h]:v= .bool e.val))
 |ro r=>
  cases a<;>try exact h.elim
  ·have h:_=r:=h
   subst h;exact⟨id,id,λ_=>id⟩
  ·exact⟨λhv=>nil_ro r h hv,λhv=>nil_ro r h hv,λ_ hv=>nil_ro r h hv⟩
 |vec k=>cases a<;>first|exact h.elim|exact h.2.1.elim
 |ptr k o=>cases a<;>first|exact h.elim|exact h.2.2.1.elim
 |ar=>
  cases a<;>try exact h.elim
  exact⟨id,id,λ_=>id⟩
 |bO=>
  cases a<;>try exact h.elim
  exact⟨id,id,λ_=>id⟩
 |str l=>
  cases a<;>try exact h.elim
  have h:_=l:=h;subst h;exact⟨id,id,λ_=>id⟩
 |eZ r i=>
  cases a<;>try exact h.elim
  obtain⟨rfl,rfl⟩:=h;exact⟨id,id,λ_=>id⟩
 |uD f r i=>
  cases a<;>try exact h.elim
  obtain⟨rfl,rfl,rfl⟩:=h;exact⟨id,id,λ_=>id⟩
 |fn f l=>
  cases l with
  |cons x l=>cases a<;>exact h.elim
  |nil=>
   cases a<;>try exact h.elim
   rename_i g m;cases m<;>try exact h.elim
   have h:g=f:=h;subst h;exact⟨id,id,λ_=>id⟩
 |_=>exact h.elim
theorem rG{w:World}{M:a7}:∀{l m:List AV} {vs:List Value},Us [] [] l m->aM (aJ bh w M) l vs->aM (aJ bh w M) m vs
 |[],[],_,_,h=>h
 |a::l,b::m,v::vs,h,hv=>by
  refine⟨?_,rG h.2 hv.2⟩
  by_cases hb:b= .any
  ·subst hb;exact aJ.aO hv.1
  ·exact(xf h.1).2.2 hb hv.1
 |[],_::_,_,h,_=>h.elim
 |_::_,[],_,h,_=>h.elim
 |_::_,_::_,[],_,hv=>hv.elim
theorem Ei{w:World}{M:a7}:∀{l m:List AV} {vs:List Value},SQ [] [] l m->aM (cx bh w M) l vs->aM (cx bh w M) m vs
 |[],[],_,_,h=>h
 |a::l,b::m,v::vs,h,hv=>by
  refine⟨?_,Ei h.2 hv.2⟩;have h1:=h.1;cases b with
  |agg y=>
   cases a<;>try exact h1.elim
   obtain⟨cs,h2,h3⟩:=hv.1;exact⟨cs,h2,rG h1 h3⟩
  |_=>exact(xf h1).2.1 hv.1
 |[],_::_,_,h,_=>h.elim
 |_::_,[],_,h,_=>h.elim
 |_::_,_::_,[],_,hv=>hv.elim
theorem Oo{w:World}{M:a7}{a b:AV}{v:Value}(h:He [] [] a b)(hv:aC bh w M a v):aC bh w M b v:=by
 cases b with
 |agg m=>
  cases a<;>try exact h.elim
  obtain⟨cs,h2,h3⟩:=hv;exact⟨cs,h2,rG h h3⟩
 |cL m=>
  cases a<;>try exact h.elim
  obtain⟨cs,h2,h3⟩:=hv;exact⟨cs,h2,Ei h h3⟩
 |fn f m=>
  cases a<;>try exact h.elim
  obtain⟨cs,h2,h3⟩:=hv;obtain⟨rfl,h⟩:=h;exact⟨cs,h2,rG h h3⟩
 |_=>simp only [He]at h;exact(xf h).1 hv
theorem oa{w:World}{M:a7}:∀{l m:List AV} {vs:List Value},Ej l m->aM (aC bh w M) l vs->aM (aC bh w M) m vs
 |[],[],_,_,h=>h
 |_::_,_::_,_::_,h,hv=>⟨Oo h.1 hv.1,oa h.2 hv.2⟩
 |[],_::_,_,h,_=>h.elim
 |_::_,[],_,h,_=>h.elim
 |_::_,_::_,[],_,hv=>hv.elim
def KX(S S':ak):Prop:=∀k B B',an S k=some B->an S' k=some B'->B=B'
theorem KX.refl(S:ak):KX S S:=λk B B' h h'=>by rw [h]at h';exact ajN h'
def so(d:Nat):Option dQ->ak->ak
 |none,S=>S|some b,S=>(d,b)::S
def Out(w0:World)(M0:eE w0)(O:Env)(M:a7)(S:ak)(w:World)(d:Nat)(B:Option dQ)(v:AV)(u:Value)(w':World):Prop:=
 ∃O' M',St M0 O' M' (so d B S) w'/\aC O' w' M' v u/\bE w M w' M'/\∀k o,O k=some o->O' k=some o
def QS(P:Program)(d:Nat)(o:Op)(T:List AV)(S:ak)(v:AV)(B:Option dQ):Prop:=
 (∀(w0:World) (M0:eE w0) (O:Env) (M:a7) (w:World) (S':ak) (e:Operand->Value) (oo:Oper),oo.op=o->KX S S'->St M0 O M S' w->
   (∀x∈o.operands,aC O w M (aT T x) (e x))->(B≠none->an S' d=none/\loc d=true)->fj P (execOp e oo) w (Out w0 M0 O M S' w d B v))/\
 ((bS o&& !lX o)=true->B=none->∀(w0:World) (M0:eE w0) (O:Env) (w:World) (M:a7) (S':ak) (e:Operand->Value) (oo:Oper),oo.op=o->KX S S'->St M0 O M S' w->
   (∀x∈o.operands,aC O w M (aT T x) (e x))->∃u,(execOp e oo).run P w= .ok (.value u) w/\aC O w M v u)
section
variable{P:Program}{w0 w:World}{M0:eE w0}{O:Env}{M:a7}{S:ak}{d:Nat}
theorem Out.pure{v:AV}{u:Value}(st:St M0 O M S w)(h:aC O w M v u):Out w0 M0 O M S w d none v u w:=
 ⟨O,M,st,h,bE.refl _ _,λ_ _ h=>h⟩
theorem bX{S0:ak}{o:Op}{T:List AV}{K:AV->Option dQ->Prop}{v:AV}(hK:K v none)
  (h:∀(w0:World) (M0:eE w0) (O:Env) (w:World) (M:a7) (S':ak) (e:Operand->Value) (oo:Oper),oo.op=o->KX S0 S'->St M0 O M S' w->(∀x∈o.operands,aC O w M (aT T x) (e x))->∃u,(execOp e oo).run P w= .ok (.value u) w/\aC O w M v u):
  ∃v B,K v B/\QS P d o T S0 v B:=
 ⟨v,none,hK,(λw0 M0 O M w S' e oo ho hc st he _=>by
   obtain⟨u,h1,h2⟩:=h w0 M0 O w M S' e oo ho hc st he;exact .val h1 (Out.pure st h2)),λ_ _=>h⟩
theorem cw{S0:ak}{o:Op}{T:List AV}{K:AV->Option dQ->Prop}{v:AV}(hK:K v none)
  (h:∀(O:Env) (w:World) (M:a7) (e:Operand->Value) (oo:Oper),oo.op=o->(∀x∈o.operands,aC O w M (aT T x) (e x))->∃u,(execOp e oo).run P w= .ok (.value u) w/\aC O w M v u):
  ∃v B,K v B/\QS P d o T S0 v B:=bX hK λ_ _ O w M _ e oo ho _ _ he=>h O w M e oo ho he
theorem eR.ext{w':World}{M':a7}{O':Env}{k:Nat}{B:dQ}(hk:bE w M w' M')(hρ:∀k o,O k=some o->O' k=some o)
  (hb:∀b,hasB O k b->w'.heap[b]? =w.heap[b]?/\∀off,M' b off↔M b off) (h:eR O w M k B):eR O' w' M' k B:=by
 cases B with
 |box l=>
  obtain⟨b,h2,cs,ty,h3,h4,h5⟩:=h;have:=hb b (by simp [hasB,h2,b6.has]);exact⟨b,hρ _ _ h2,cs,ty,this.1.trans h3,λoff=>(this.2 off).trans (h4 off),h5.imp λ_ _=>aJ.keep hk hρ⟩
 |map kd vk m=>
  obtain⟨b,h2,es,n,h3,h4,h5⟩:=h;have:=hb b (by simp [hasB,h2,b6.has]);exact⟨b,hρ _ _ h2,es,n,this.1.trans h3,λoff=>(this.2 off).trans (h4 off),h5⟩
 |deep r hole=>
  obtain⟨o,rows,h2,h3⟩:=h;exact⟨o,rows,hρ _ _ h2,h3.ext hk λb h=>hb b (by simp only [hasB,h2];exact h)⟩
 |dK n r=>
  obtain⟨o,cur,h2,h3,h4⟩:=h;exact⟨o,cur,hρ _ _ h2,h3.Je hk λb h=>hb b (by simp only [hasB,h2];exact .inr h),h4.ext λb h=>hb b (by simp only [hasB,h2];exact .inl h)⟩
 |mA n z=>
  obtain⟨o,h2,h4⟩:=h;exact⟨o,hρ _ _ h2,h4.ext λb h=>hb b (by simp only [hasB,h2];exact h)⟩
 |vec wm r ov=>
  obtain⟨⟨o,h2,h3,h4,h5,h6,h7⟩,ig⟩:=h;refine⟨⟨o,hρ _ _ h2,h3,h4,h5,h6,?_⟩,ig⟩;cases fB:o.aZ with
  |none=>simp only [fB]at h7 ⊢;exact h7
  |some b=>
   simp only [fB]at h7 ⊢;have:=hb b (by simp [hasB,h2,b6.has,fB]);obtain⟨h8,cs,ty,h9,cA,oP,oQ⟩:=h7;refine⟨h8,cs,ty,this.1.trans h9,cA,λoff=>(this.2 off).trans (oP off),λq hq=>?_⟩;obtain⟨c,xg,mg⟩:=oQ q hq;refine⟨c,xg,?_⟩;split
   ·exact ay.keep hk mg
   ·simp only at mg
    split at mg
    ·rename_i he;simp only [he,if_true];exact aJ.keep hk hρ mg
    ·rename_i he;simp only [he,if_false];exact ay.keep hk mg
theorem e8(st:St M0 O M S w){k b:Nat}(h:hasB O k b):b<w.heap.size:=by
 have hs:(O k).isSome:=by cases hk:O k with|none=>simp [hasB,hk]at h|some o=>rfl
 rw [st.gq]at hs;obtain⟨B,hB⟩:=ajM.1 hs
 have aX:∀{ob:Obj},w.heap[b]? =some ob->b<w.heap.size:=λ{ob} hh=>by
  rcases ajF b w.heap.size with h'|h'
  ·exact h'
  ·rw [ajD h']at hh;cases hh
 cases B with
 |box l=>
  obtain⟨b',h2,cs,ty,h3,_⟩:=st.aZ k _ hB;simp [hasB,h2,b6.has]at h;subst h;exact aX h3
 |map kd vk m=>
  obtain⟨b',h2,es,n,h3,_⟩:=st.aZ k _ hB;simp [hasB,h2,b6.has]at h;subst h;exact aX h3
 |deep r hole=>
  obtain⟨o,rows,h2,h3⟩:=st.aZ k _ hB;simp only [hasB,h2]at h;obtain⟨cs,ty,h4⟩:=h3.cells h;exact aX h4
 |dK n r=>
  obtain⟨o,cur,h2,h3,h4⟩:=st.aZ k _ hB;simp only [hasB,h2]at h;obtain⟨cs,ty,h5⟩:=h.elim h4.cells h3.cells;exact aX h5
 |mA n z=>
  obtain⟨o,h2,h4⟩:=st.aZ k _ hB;simp only [hasB,h2]at h;obtain⟨cs,ty,h5⟩:=h4.cells h;exact aX h5
 |vec wm r ov=>
  obtain⟨⟨o,h2,_,_,_,_,h7⟩,_⟩:=st.aZ k _ hB;simp [hasB,h2,b6.has]at h;simp only [h]at h7;obtain⟨_,cs,ty,h9,_⟩:=h7;exact aX h9
theorem gH.Yk {w w':World}{M M':a7}(h:gH (λ_ _=>False) w w')(hm:∀b off,b<w.heap.size->M' b off->M b off):bE w M w' M':=
 λb off _ hc hn=>⟨h.cell hc (λh=>h),λhM=>hn (hm b off (n6 hc) hM)⟩
theorem St.same{w':World}{M':a7}(st:St M0 O M S w)(hs:gH (λ_ _=>False) w w')(hM:∀b off,b<w.heap.size->(M' b off↔M b off))(aX:∀b off,M' b off->b<w'.heap.size):
  St M0 O M' S w'/\bE w M w' M':=by
 have s6:∀b,b<w.heap.size->w'.heap[b]? =w.heap[b]? :=λb hb=>by
  rcases hs.2 b hb with h|⟨cs,cs',ty,h1,h2,h3,h4⟩|⟨_,_,_,_,_,_,h⟩
  ·exact h
  ·rw [h1,h2]
   have:cs'=cs:=Array.ext_getElem? λi=>h4 i (by simp);rw [this]
  ·exact h.elim
 have hk:bE w M w' M':=hs.Yk λb off hb=>(hM b off hb).1;refine⟨⟨st.gq,λk B hB=>eR.ext hk (λ_ _ h=>h) (λb hb=>⟨s6 b (e8 st hb),λoff=>hM b off (e8 st hb)⟩) (st.aZ k B hB),st.inj,aX,?_,λb off hb hm=>st.sub b off hb ((hM b off (ajT hb st.lS.1)).1 hm),λb off hb hl hm=>(hM b off (ajT hb st.lS.1)).2 (st.eI b off hb hl hm),st.fresh,st.tV⟩,hk⟩
 ·exact st.lS.trans hs (λ_ _ _ h=>h.elim)
theorem St.Oq{w':World}{ob:Obj}(N:Nat->Prop){own:b6}{B:dQ}(st:St M0 O M S w)(hd:an S d=none)(fV:loc d=true)(hw:w'.heap=w.heap.push ob)(oK:kg w w')
  (ho:∀b,own.has b->b=w.heap.size)
  (hB:∀(O':Env) (M':a7),O' d=some own->(∀off,M' w.heap.size off↔N off)->bE w M w' M'->(∀k o,O k=some o->O' k=some o)->eR O' w' M' d B):
  ∃O' M',St M0 O' M' ((d,B)::S) w'/\O' d=some own/\bE w M w' M'/\∀k o,O k=some o->O' k=some o:=by
 have TJ:O d=none:=by
  have:=st.gq d;rw [hd]at this;cases h:O d with|none=>rfl|some o=>rw [h]at this;cases this
 have hs:gH (λ_ _=>False) w w':=⟨by rw [hw];simp,λb hb=>.inl (by rw [hw];simp [Array.getElem?_push,Nat.ne_of_lt hb]),oK⟩;have hnM:∀off,¬M w.heap.size off:=λoff h=>absurd (st.mlt _ _ h) (Nat.lt_irrefl _)
 let M':a7:=λb off=>M b off\/(b=w.heap.size/\N off)
 have Yl:∀b off,b<w.heap.size->(M' b off↔M b off):=λb off hb=>⟨λh=>h.elim id (λh=>absurd h.1 (akk hb)),.inl⟩
 have Ym:∀b off,M' b off->b<w'.heap.size:=λb off h=>by
  rw [hw];simp;rcases h with h|⟨rfl,_⟩
  ·exact Nat.lt_succ_of_lt (st.mlt _ _ h)
  ·exact Nat.lt_succ_self _
 obtain⟨st',hk⟩:=st.same hs Yl Ym
 let O':Env:=λk=>if k=d then some own else O k
 have fk:∀k o,O k=some o->O' k=some o:=λk o h=>by
  have:k≠d:=λe=>by subst e;rw [TJ]at h;cases h
  simp [O',this,h]
 have Kq:O' d=some own:=by simp [O']
 have jb:∀off,M' w.heap.size off↔N off:=λoff=>⟨λh=>h.elim (λh=>absurd h (hnM off)) (λh=>h.2),λh=>.inr ⟨rfl,h⟩⟩;have hold:∀k b,k≠d->hasB O' k b->hasB O k b:=λk b hk h=>by simpa [hasB,O',hk]using h
 refine⟨O',M',⟨λk=>?_,λk B' rQ=>?_,λi j b hi hj=>?_,Ym,st'.lS,st'.sub,st'.eI,λk b BW=>?_,λk o hk ho=>?_⟩,Kq,hk,fk⟩
 ·by_cases oG:k=d
  ·subst oG;simp [Kq,aF]
  ·simp [O',oG,aF,Ne.symm oG,st.gq k]
 ·by_cases oG:k=d
  ·subst oG
   simp only [aF,if_true]at rQ;cases rQ;exact hB O' M' Kq jb hk fk
  ·simp only [aF,Ne.symm oG,if_false]at rQ
   exact eR.ext (bE.refl _ _) fk (λb hb=>⟨rfl,λ_=>Iff.rfl⟩) (st'.aZ k B' rQ)
 ·by_cases uq:i=d
  ·by_cases Ot:j=d
   ·rw [uq,Ot]
   ·subst uq
    have h1:=e8 st (hold j b Ot hj);simp only [hasB,Kq]at hi;have:=ho _ hi;omega
  ·by_cases Ot:j=d
   ·subst Ot
    have h1:=e8 st (hold i b uq hi);simp only [hasB,Kq]at hj;have:=ho _ hj;omega
   ·exact st.inj _ _ _ (hold i b uq hi) (hold j b Ot hj)
 ·by_cases oG:k=d
  ·subst oG
   simp only [hasB,Kq]at BW;rw [ho _ BW];exact .inl st.lS.1
  ·exact st.fresh k b (hold k b oG BW)
 ·by_cases oG:k=d
  ·subst oG;rw [fV]at hk;cases hk
  ·exact st.tV k o hk (by simpa [O',oG]using ho)
theorem St.push{w':World}{cs:Array Value}{ty:TypeId}{own:b6}{B:dQ}(st:St M0 O M S w)(hd:an S d=none)(fV:loc d=true)(hw:w'.heap=w.heap.push (.cells cs ty (0,0)))(oK:kg w w')
  (ho:∀b,own.has b->b=w.heap.size)
  (hB:∀(O':Env) (M':a7),O' d=some own->(∀off,M' w.heap.size off↔off<cs.size)->bE w M w' M'->(∀k o,O k=some o->O' k=some o)->eR O' w' M' d B):
  ∃O' M',St M0 O' M' ((d,B)::S) w'/\O' d=some own/\bE w M w' M'/\∀k o,O k=some o->O' k=some o:=
 St.Oq (λoff=>off<cs.size) st hd fV hw oK ho hB
theorem St.find(st:St M0 O M S w){S0:ak}(hc:KX S0 S){k:Nat}{B:dQ}{o:b6}(hf:an S0 k=some B)(ho:O k=some o):an S k=some B:=by
 have h:=st.gq k;rw [ho]at h;obtain⟨B',rQ⟩:=ajM.1 h.symm;rw [rQ,hc k B B' hf rQ]
theorem St.fK (st:St M0 O M S w){S0:ak}(hc:KX S0 S){k:Nat}{B:dQ}{β:Type}{f:b6->Option β}{x:β}(hf:an S0 k=some B)(ho:(O k).bind f=some x):an S k=some B:=by
 cases h:O k with
 |none=>rw [h]at ho;cases ho
 |some o=>exact st.find hc hf h
end
section
variable{P:Program}{TY:List cV}
theorem iU.size{t:Nat}{E:cV}(h:iU P t E)(w:World):(sizeOf t).run P w= .ok E.sz w:=by
 obtain⟨i,u,h1,_,h3,_⟩:=h.row;simp [sizeOf,typeInfo,h1,h3]
theorem iU.agg{t:Nat}{E:cV}(h:iU P t E)(w:World):(isAgg t).run P w= .ok (bN E.d) w:=by
 obtain⟨i,u,h1,h2,h3,h4,h5,_⟩:=h.row;cases hd:E.d<;>cases u<;>simp_all [mc,isAgg,underlying,bN]
theorem iU.under{t:Nat}{E:cV}(h:iU P t E):∃u,P.underlying t=some u/\mc E.d u/\∀w,(underlying t).run P w= .ok u w:=by
 obtain⟨i,u,h1,h2,h3,h4,h5,_⟩:=h.row;exact⟨u,h2,h5,λw=>by simp [underlying,h2]⟩
theorem aU(b off n:Nat):(⟨b,off,none⟩:Addr).add n=⟨b,off+n,none⟩:=by
 unfold Addr.add;split
 ·rename_i h;subst h;rfl
 ·rfl
theorem aM.get{R:AV->Value->Prop}:∀{l:List AV} {m:List Value},aM R l m->∀i,i<l.length->∃v,m[i]? =some v/\R (nth l i) v
 |[],[],_,i,hi=>by simp at hi
 |a::l,v::m,h,0,_=>⟨v,rfl,h.1⟩
 |a::l,v::m,h,i+1,hi=>by obtain⟨u,h1,h2⟩:=aM.get h.2 i (by simpa using hi);exact⟨u,by simpa using h1,h2⟩
 |[],_::_,h,_,_=>h.elim
 |_::_,[],h,_,_=>h.elim
theorem aM.drop{R:AV->Value->Prop}:∀{l:List AV} {m:List Value} (n:Nat),aM R l m->aM R (l.drop n) (m.drop n)
 |_,_,0,h=>by simpa using h
 |[],[],_+1,_=>trivial
 |a::l,v::m,n+1,h=>by simpa using aM.drop n h.2
 |[],_::_,_+1,h=>h.elim
 |_::_,[],_+1,h=>h.elim
theorem aM.take{R:AV->Value->Prop}:∀{l:List AV} {m:List Value} (n:Nat),aM R l m->aM R (l.take n) (m.take n)
 |_,_,0,_=>by simp;trivial
 |[],[],_+1,_=>trivial
 |a::l,v::m,n+1,h=>by show aM R (a::l.take n) (v::m.take n);exact⟨h.1,aM.take n h.2⟩
 |[],_::_,_+1,h=>h.elim
 |_::_,[],_+1,h=>h.elim
theorem aM.append{R:AV->Value->Prop}:∀{l l':List AV} {m m':List Value},aM R l m->aM R l' m'->aM R (l++l') (m++m')
 |[],_,[],_,_,h'=>h'
 |_::_,_,_::_,_,h,h'=>⟨h.1,aM.append h.2 h'⟩
 |[],_,_::_,_,h,_=>h.elim
 |_::_,_,[],_,h,_=>h.elim
theorem Ek(l:List AV)(n:Nat):(l.drop n).head? =if n<l.length then some (nth l n) else none:=by
 induction l generalizing n with
 |nil=>simp
 |cons a l ih=>cases n with
  |zero=>simp [nth]
  |succ n=>simpa [nth]using ih n
theorem qJ{t:Nat}{l:List AV}{off:Nat}{K:AV->Prop}(h:yQ TY t l off K):
  ∃a,K a/\off+(au TY t).sz<=l.length/\((bN (au TY t).d=true/\a= .agg ((l.drop off).take (au TY t).sz))\/(bN (au TY t).d=false/\(au TY t).sz=1/\a=nth l off)):=by
 have one:∀{K:AV->Prop},bL (Nat.beq (au TY t).sz 1) (tD l off λl=>match l with|a::_=>kS a K|[]=>False)->(au TY t).sz=1/\off+1<=l.length/\K (nth l off):=by
  intro K h;rw [aq]at h;obtain⟨h1,h2⟩:=h;obtain⟨h3,h4⟩:=rH h2;refine⟨aA.1 h1,?_⟩;have h5:=Ek l off;cases hd:l.drop off with
  |nil=>rw [hd]at h4;exact h4.elim
  |cons a m=>
   rw [hd]at h4 h5
   have aX:off<l.length:=by
    rcases ajF off l.length with h'|h'
    ·exact h'
    ·rw [List.drop_eq_nil_of_le h']at hd;cases hd
   simp [aX]at h5;exact⟨aX,by rw [<-h5];exact gO.1 h4⟩
 have two:(tD l off λl=>El l (au TY t).sz λm=>K (.agg m))->off+(au TY t).sz<=l.length/\K (.agg ((l.drop off).take (au TY t).sz)):=by
  intro h;obtain⟨h1,h2⟩:=rH h;obtain⟨h3,h4⟩:=Em h2;rw [aks]at h3;exact⟨aa,h4⟩
 unfold yQ at h
 cases hd:(au TY t).d<;>simp only [hd]at h<;>first
  |exact⟨_,(two h).2,(two h).1,.inl ⟨rfl,rfl⟩⟩
  |(obtain⟨h1,h2,h3⟩:=one h;exact⟨_,h3,aa,.inr ⟨rfl,h1,rfl⟩⟩)
theorem zD{v:AV}{n:Nat}{K:List AV->Prop}(h:match v with|.agg m=>(match df m n with|true=>K m|false=>False)|_=>False):
  ∃m,K m/\m.length=n/\v= .agg m:=by
 split at h
 ·rename_i m
  split at h
  ·rename_i hs;exact⟨m,h,dD hs,rfl⟩
  ·exact h.elim
 ·exact h.elim
theorem sI{v:AV}{n:Nat}{K:List AV->Prop}(h:match kT v with|true=>(match df [v] n with|true=>K [v]|false=>False)|false=>False):
  K [v]/\1=n/\kT v=true:=by
 split at h
 ·rename_i hc
  split at h
  ·rename_i hs;exact⟨h,dD hs,hc⟩
  ·exact h.elim
 ·exact h.elim
theorem sS{t:Nat}{v:AV}{K:List AV->Prop}(h:iE TY t v K):
  ∃m,K m/\m.length=(au TY t).sz/\((bN (au TY t).d=true/\v= .agg m)\/(bN (au TY t).d=false/\kT v=true/\m=[v])):=by
 unfold iE at h;split at h<;>rename_i hd
 ·obtain⟨m,h1,h2,h3⟩:=zD h;exact⟨m,h1,h2,.inl ⟨by rw [hd];rfl,h3⟩⟩
 ·obtain⟨m,h1,h2,h3⟩:=zD h;exact⟨m,h1,h2,.inl ⟨by rw [hd];rfl,h3⟩⟩
 ·rename_i Qm
  obtain⟨h1,h2,h3⟩:=sI h;refine⟨[v],h1,h2,.inr ⟨?_,h3,rfl⟩⟩;cases hx:(au TY t).d<;>first|rfl|(exact absurd hx (hd _))|(exact absurd hx (Qm _))|(exact absurd hx (Qm _ _))|(exact absurd hx (hd _ _))
theorem mh{O:Env}{w:World}{M:a7}{a:AV}{v:Value}(h:kT a=true)(hv:aC O w M a v):aJ O w M a v:=by
 cases a with
 |fn f l=>
  cases l with
  |nil=>obtain⟨cs,rfl,h2⟩:=hv;cases bU:cs.toList with
   |nil=>have:cs= #[]:=by simpa using ajs List.toArray bU
         subst this;exact rfl
   |cons x l=>rw [bU]at h2;exact h2.elim
  |cons x l=>cases h
 |agg l=>cases h
 |cL l=>cases h
 |any=>cases h
 |_=>exact hv
theorem yN(O:Env)(w:World)(M:a7)(v:Value):aC O w M (BD v) v:=by
 unfold BD;split
 ·rename_i k n
  cases hf:yd k n with
  |true=>exact⟨rfl,wN hf⟩
  |false=>trivial
 ·exact rfl
 ·exact rfl
 ·exact rfl
 ·split
  ·rename_i hb;exact Iv (O:=O) (w:=w) (M:=M) (aA.1 hb)
  ·trivial
 ·trivial
theorem a8{O:Env}{w:World}{M:a7}{T:List AV}{a:Act}(tm:Tm O w M T a)(x:Operand):aC O w M (aT T x) (a.eval x):=by
 cases x with
 |tmp t=>exact tm.tmp t
 |const v=>exact yN _ _ _ _
 |global g=>trivial
 |func f=>exact⟨#[],rfl,ag⟩
theorem lF{k:IntKind}{n:Int}{O:Env}{w:World}{M:a7}(h:eO k n):aC O w M (.int k n) (.int k (k.wrap n)):=by
 rw [rB h];exact⟨rfl,h⟩
theorem RW{k:IntKind}{a b:Int}(ha:eO k a)(h0:0<=a)(hb:0<b):eO k (a / b):=by
 have h1:0<=a / b:=Int.ediv_nonneg h0 aa;have h2:a / b<=a:=Int.ediv_le_self b h0;have xT:k.min<=0:=by cases k<;>simp [IntKind.min,IntKind.bits,IntKind.signed]
 exact⟨aa,by have:=ha.2;omega⟩
theorem Ou{k:IntKind}{a b:Int}(cy:eO k b)(hb:0<b):eO k (a % b):=by
 have h1:0<=a % b:=Int.emod_nonneg _ aa;have h2:a % b<b:=Int.emod_lt_of_pos _ hb;have xT:k.min<=0:=by cases k<;>simp [IntKind.min,IntKind.bits,IntKind.signed]
 exact⟨aa,by have:=cy.2;omega⟩
theorem H8{k:IntKind}{a:Int}(ha:eO k a)(n:Nat):eO k (a.fdiv (2 ^ n)):=by
 have hp:(0:Int)<2 ^ n:=Int.pow_pos (by decide);have xT:k.min<=0:=by cases k<;>simp [IntKind.min,IntKind.bits,IntKind.signed]
 have Ql:0<=k.max:=by cases k<;>simp [IntKind.max,IntKind.bits,IntKind.signed]
 rw [Int.fdiv_eq_ediv_of_nonneg _ (Int.le_of_lt hp)];obtain⟨h1,h2⟩:=ha
 have h3:a / 2 ^ n<=max a 0:=by
  rcases Int.le_total 0 a with h|h
  ·have:=Int.ediv_le_self (2 ^ n:Int) h;omega
  ·have:=Int.ediv_nonpos_of_nonpos_of_neg h hp;omega
 have h4:min a 0<=a / 2 ^ n:=by
  rcases Int.le_total 0 a with h|h
  ·have:=Int.ediv_nonneg h (Int.le_of_lt hp);omega
  ·have h5:a<=a / 2 ^ n:=by
    rw [Int.le_ediv_iff_mul_le hp];have h1:(1:Int)<=2 ^ n:=aa;have h2:=Int.mul_le_mul_of_nonpos_left h h1;rw [Int.mul_one]at h2;exact h2
   omega
 exact⟨aa,aa⟩
theorem run_equal_bool{t:Nat}(hu:P.underlying t=some .bool)(a b:Bool)(w:World):(Op.equal t (.bool a) (.bool b)).run P w= .ok (a==b) w:=by
 have h:∀n,(Op.equalIn (n+1) t (.bool a) (.bool b)).run P w= .ok (a==b) w:=λn=>by simp [Op.equalIn,underlying,hu]
 exact h 9999
theorem Gn{n:Int}(h0:0<=n)(h1:n<128):Utf8.encode n=cv [n]:=by
 have hv:Utf8.valid n=true:=by simp [Utf8.valid];omega
 have hc:n.toNat<0x80:=aa;simp [Utf8.encode,hv,hc,cv]
theorem rI(a:List Int):(cv a).size=a.length:=by simp [cv,ByteArray.size]
theorem Ov(a b:List Int):cv a++cv b=cv (a++b):=by
 apply ByteArray.ext;simp [cv]
theorem Ow{x y:Int}(hx:cz x)(hy:cz y)(h:UInt8.ofNat x.toNat=UInt8.ofNat y.toNat):x=y:=by
 have h:=ajs UInt8.toNat h;obtain⟨h1,h2⟩:=hx;obtain⟨h3,h4⟩:=hy;simp [UInt8.toNat_ofNat']at h;omega
theorem xh:∀{a b:List Int},(∀x∈a,cz x)->(∀x∈b,cz x)->(a.map λx=>UInt8.ofNat x.toNat)=(b.map λx=>UInt8.ofNat x.toNat)->a=b
 |[],[],_,_,_=>rfl
 |[],_::_,_,_,h=>by simp at h
 |_::_,[],_,_,h=>by simp at h
 |x::a,y::b,ha,hb,h=>by
  simp only [akd,List.cons.injEq]at h;rw [Ow (ha x (by simp)) (hb y (by simp)) h.1,xh (λz hz=>ha z (ajj _ hz)) (λz hz=>hb z (ajj _ hz)) h.2]
theorem BF{a b:List Int}(ha:∀x∈a,cz x)(hb:∀x∈b,cz x):((cv a).toList==(cv b).toList)=(a==b):=by
 by_cases e:a=b
 ·subst e;exact(beq_self_eq_true _).trans (beq_self_eq_true _).symm
 ·rw [beq_eq_false_iff_ne.2 e,Bool.eq_false_iff,<-beq_toListBytes]
  intro h;have h:(cv a).data==(cv b).data:=h;have h:(cv a).data=(cv b).data:=eq_of_beq h;exact e (xh ha hb (by simpa [cv]using h))
theorem Iw{O:Env}{w:World}{M:a7}{a b:List Int}{u:Value}(h:aC O w M (.agg [.str a,.str b]) u):u= .agg #[.string (cv a),.string (cv b)]/\(∀x∈a,cz x)/\∀x∈b,cz x:=by
 obtain⟨cs,rfl,bU⟩:=h;obtain⟨l⟩:=cs
 match l,bU with
 |[c,d],bU=>
  obtain⟨⟨rfl,g1⟩,⟨rfl,g2⟩,_⟩:=bU;exact⟨rfl,g1,g2⟩
theorem mG(w:World)(d:Nat)(t:TypeId){a b:List Int}(ha:∀x∈a,cz x)(hb:∀x∈b,cz x)(hu:P.underlying t=some .string):
  (Op.equalIn (d+1) t (.string (cv a)) (.string (cv b))).run P w= .ok (a==b) w:=by
 rw [run_equalIn_string w d t _ _ hu,BF ha hb]
theorem VD(az:aR P TY){t:Nat}(hf:VE TY t=true):P.eqGuardType P.depth t=false/\∀{a b c d:List Int},(∀x∈a,cz x)->(∀x∈b,cz x)->(∀x∈c,cz x)->(∀x∈d,cz x)->∀w,
  (Op.equalIn 10000 t (.agg #[.string (cv a),.string (cv b)]) (.agg #[.string (cv c),.string (cv d)])).run P w= .ok (a==c&&b==d) w:=by
 unfold VE at hf;split at hf
 ·rename_i ta tb hd
  split at hf
  ·rename_i hz hda hdb
   have aH:=az.at (t:=t) (.inr (by rw [hd];simp));obtain⟨cX,Qx,Qo⟩:=aH.eqr hz;obtain⟨u,hu,h2,hru⟩:=aH.under;clear hru;rw [hd]at h2;cases u<;>try exact h2.elim
   rename_i F;have hF:P.fieldsOf t=F:=by simp [Program.fieldsOf,hu]
   rw [hF]at Qo;have h2:[(0,ta),(1,tb)]=F.toList.map (λf=>(f.offset,f.type)):=h2;have Zk:=az.at (t:=ta) (.inr (by rw [hda];simp));have SM:=az.at (t:=tb) (.inr (by rw [hdb];simp))
   have Zq:P.underlying ta=some .string:=by
    obtain⟨u,g1,g2,_⟩:=Zk.under;rw [hda]at g2;cases u<;>first|exact g1|exact g2.elim
   have cd:P.underlying tb=some .string:=by
    obtain⟨u,g1,g2,_⟩:=SM.under;rw [hdb]at g2;cases u<;>first|exact g1|exact g2.elim
   have hga:∀w,(isAgg ta).run P w= .ok false w:=λw=>by rw [Zk.agg w,hda];rfl
   have hgb:∀w,(isAgg tb).run P w= .ok false w:=λw=>by rw [SM.agg w,hdb];rfl
   obtain⟨f0,f1,Y9⟩:∃f0 f1,F.toList=[f0,f1]:=by
    have hl:F.toList.length=2:=by have:=ajs List.length h2;simpa using this.symm
    match F.toList,hl with
    |[x,y],_=>exact⟨x,y,rfl⟩
   rw [Y9]at h2;simp only [akd,List.map_nil,List.cons.injEq,Prod.mk.injEq,and_true]at h2;obtain⟨⟨ho0,rfl⟩,⟨ho1,rfl⟩⟩:=h2;rw [Y9]at Qo;have X5:=Qo f0 (by simp);have hn1:=Qo f1 (by simp);have ZC:∀w (x y:Value),(part f0.type #[x,y] f0.offset).run P w= .ok x w:=λw x y=>by simp [part,hga,<-ho0]
   have gu:∀w (x y:Value),(part f1.type #[x,y] f1.offset).run P w= .ok y w:=λw x y=>by simp [part,hgb,<-ho1]
   refine⟨Qx,λ{a b c d} ha hb hc hd w=>?_⟩;rw [run_equalIn_struct w 9999 t _ _ (by rw [hF];exact hu) cX,hF,Y9];have q0:=mG (P:=P) w 9998 f0.type ha hc Zq;have q1:=mG (P:=P) w 9998 f1.type hb hd cd;generalize (a==c)=e1 at q0 ⊢;generalize (b==d)=e2 at q1 ⊢;cases e1<;>cases e2<;>simp [Op.eqFields,X5,hn1,ZC,gu,q0,q1]
  ·cases hf
 ·cases hf
theorem Ox(az:aR P TY){t:Nat}(hs:Zw TY t=true):∃kt et,P.underlying t=some (.map kt et):=by
 unfold Zw at hs;split at hs
 ·rename_i e hd
  obtain⟨u,h1,h2,_⟩:=(az.at (t:=t) (.inr (by rw [hd];simp))).under;rw [hd]at h2;cases u<;>first|exact⟨_,_,h1⟩|exact h2.elim
 ·cases hs
theorem Kr(az:aR P TY){op:BinOp}{t:Nat}{a b:AV}{K:AV->Prop}(h:BG TY op t a b K):
  ∃v,K v/\∀(O:Env) (w:World) (M:a7) (x y:Operand) (u1 u2:Value),aC O w M a u1->aC O w M b u2->
   ∃u,(do eqGuard op t x y u1 u2;binOp op t u1 u2:Sem Value).run P w= .ok u w/\aC O w M v u:=by
 have guard_int:∀(x y:Operand) (k k':IntKind) (n m:Int) (w:World),(eqGuard op t x y (.int k n) (.int k' m)).run P w= .ok () w:=by
  intro x y k k' n m w;cases op<;>rfl
 cases a with
 |int k a=>
  cases b with
  |int k' b=>
   have fin:∀(v:AV),K v->(∀(O:Env) (w:World) (M:a7),eO k a->eO k' b->∃u,(binOp op t (.int k a) (.int k' b)).run P w= .ok u w/\aC O w M v u)->
     ∃v,K v/\∀(O:Env) (w:World) (M:a7) (x y:Operand) (u1 u2:Value),aC O w M (.int k a) u1->aC O w M (.int k' b) u2->
      ∃u,(do eqGuard op t x y u1 u2;binOp op t u1 u2:Sem Value).run P w= .ok u w/\aC O w M v u:=by
    intro v hK hv;refine⟨v,hK,λO w M x y u1 u2 h1 h2=>?_⟩;obtain⟨rfl,h1⟩:=h1;obtain⟨rfl,h2⟩:=h2;obtain⟨u,h3,h4⟩:=hv O w M h1 h2;exact⟨u,by simp [guard_int,h3],h4⟩
   cases op<;>simp only [BG,aq]at h
   case shl=>
    refine fin _ h.2 λO w M ha hb=>⟨.int k (Dx k a b),?_,rfl,mb _ _⟩;simp [binOp,Op.shift,Dx,Int.not_lt.2 h.1]
   case shr=>
    refine fin _ h.2 λO w M ha hb=>⟨.int k (Dy k a b),?_,rfl,H8 ha _⟩;simp [binOp,Op.shift,Dy,Int.not_lt.2 h.1]
   all_goals (first|exact h.2.elim|skip)
   all_goals (obtain⟨hk,h⟩:=h;obtain rfl:=b8 hk)
   case lss=>exact fin _ h λO w M ha hb=>⟨.bool (decide (a<b)),by simp [binOp,Op.intCmp],rfl⟩
   case leq=>exact fin _ h λO w M ha hb=>⟨.bool (decide (a<=b)),by simp [binOp,Op.intCmp],rfl⟩
   case gtr=>exact fin _ h λO w M ha hb=>⟨.bool (decide (b<a)),by simp [binOp,Op.intCmp],rfl⟩
   case geq=>exact fin _ h λO w M ha hb=>⟨.bool (decide (b<=a)),by simp [binOp,Op.intCmp],rfl⟩
   case eql=>exact fin _ h λO w M ha hb=>⟨.bool (a==b),by simp [binOp,Op.intCmp],by show Value.bool (a==b)= .bool (decide (a=b));congr 1⟩
   case neq=>exact fin _ h λO w M ha hb=>⟨.bool (a !=b),by simp [binOp,Op.intCmp],by show Value.bool (a !=b)= .bool (decide (a≠b));congr 1;simp [bne,Bool.beq_eq_decide_eq]⟩
   case add=>rw [jN]at h;exact fin _ h.2 λO w M ha hb=>⟨.int k (k.wrap (a+b)),by simp [binOp,Op.intArith],lF h.1⟩
   case sub=>rw [jN]at h;exact fin _ h.2 λO w M ha hb=>⟨.int k (k.wrap (a - b)),by simp [binOp,Op.intArith],lF h.1⟩
   case mul=>rw [jN]at h;exact fin _ h.2 λO w M ha hb=>⟨.int k (k.wrap (a*b)),by simp [binOp,Op.intArith],lF h.1⟩
   case quo=>
    obtain⟨⟨h0,h1⟩,h2⟩:=h;refine fin _ h2 λO w M ha hb=>⟨.int k (k.wrap (a.tdiv b)),by simp [binOp,Op.intDiv,show b≠0 from by omega],?_⟩;rw [Int.tdiv_eq_ediv_of_nonneg h0];exact lF (RW ha h0 h1)
   case rem=>
    rcases h with ⟨⟨h0,h1⟩,h2⟩|⟨h1,h2⟩
    ·refine fin _ h2 λO w M ha hb=>⟨.int k (a.tmod b),by simp [binOp,Op.intDiv,show b≠0 from by omega],?_⟩
     rw [Int.tmod_eq_emod_of_nonneg h0];exact⟨rfl,Ou hb h1⟩
    ·refine fin _ h2 λO w M ha hb=>⟨.int k (a.tmod b),by simp [binOp,Op.intDiv,show b≠0 from by omega],rfl,?_⟩
     rcases Int.le_total 0 a with h0|h0
     ·rw [Int.tmod_eq_emod_of_nonneg h0];exact Ou hb h1
     ·have h3:=Int.neg_tmod (-a) b
      have h4:(-a).tmod b<= -a:=by
       rw [Int.tmod_eq_emod_of_nonneg aa];have e:=Int.mul_ediv_add_emod (-a) b;have e2:=Int.mul_nonneg (show 0<=b by omega) (Int.ediv_nonneg (show 0<= -a by omega) (show 0<=b by omega));omega
      have h5:0<=(-a).tmod b:=Int.tmod_nonneg _ aa;rw [Int.neg_neg]at h3;obtain⟨g1,g2⟩:=ha;have Ql:0<=k.max:=by cases k<;>simp [IntKind.max,IntKind.bits,IntKind.signed]
      exact⟨aa,aa⟩
   case and=>exact fin _ h λO w M ha hb=>⟨.int k (J3 k a b),by simp [binOp,Op.intBits,J3],rfl,mb _ _⟩
   case or=>exact fin _ h λO w M ha hb=>⟨.int k (WE k a b),by simp [binOp,Op.intBits,WE],rfl,mb _ _⟩
  |_=>exact h.elim
 |bool a=>
  cases b with
  |bool b=>
   have hu:q8 TY t=true->P.underlying t=some .bool:=by
    intro hb;unfold q8 at hb;split at hb
    ·rename_i hd
     obtain⟨u,h1,h2,_⟩:=(az.at (t:=t) (.inr (by rw [hd];simp))).under;rw [hd]at h2;cases u<;>first|exact h1|exact h2.elim
    ·cases hb
   cases op<;>simp only [BG,aq]at h<;>try exact h.elim
   case eql=>
    refine⟨_,h.2,λO w M x y u1 u2 h1 h2=>?_⟩;have h1:u1= .bool a.val:=h1;have h2:u2= .bool b.val:=h2;subst h1;subst h2;exact⟨.bool (a.val==b.val),by simp [eqGuard,binOp,run_equal_bool (hu h.1)],rfl⟩
   case neq=>
    refine⟨_,h.2,λO w M x y u1 u2 h1 h2=>?_⟩;have h1:u1= .bool a.val:=h1;have h2:u2= .bool b.val:=h2;subst h1;subst h2;exact⟨.bool (!(a.val==b.val)),by simp [eqGuard,binOp,run_equal_bool (hu h.1)],rfl⟩
  |_=>exact h.elim
 |ro r=>
  cases b with
  |ar=>
   simp only [BG,aq]at h;obtain⟨hs,h⟩:=h
   have hu:∃e,P.underlying t=some (.slice e):=by
    unfold iP at hs;split at hs
    ·rename_i e hd
     obtain⟨u,h1,h2,_⟩:=(az.at (t:=t) (.inr (by rw [hd];simp))).under;rw [hd]at h2;cases u<;>first|exact⟨_,h1⟩|exact h2.elim
    ·cases hs
   obtain⟨e,hu⟩:=hu
   have look:∀{w:World} {M:a7} {u:Value},bd w M r u->∃x:Bool,(Op.equal t u (.slice none 0 0)).run P w= .ok x w/\(x=true->r.len=0):=λ{w M u} hr=>by
    obtain⟨_,a,cap,rfl,dZ,hh⟩:=hr;cases a with
    |none=>
     refine⟨true,?_,λ_=>?_⟩
     ·have h:∀n,(Op.equalIn (n+1) t (.slice none r.len cap) (.slice none 0 0)).run P w= .ok true w:=λn=>by simp [Op.equalIn,underlying,hu]
      exact h 9999
     ·rcases hh with hh|⟨b,off,hh,_⟩
      ·have:=r.e9
       rcases aj1 r.len with h0|h0
       ·exact h0
       ·have:0<r.cells:=Nat.mul_pos h0 this
        omega
      ·cases hh
    |some a=>
     refine⟨false,?_,λh=>by cases h⟩;have h:∀n,(Op.equalIn (n+1) t (.slice (some a) r.len cap) (.slice none 0 0)).run P w= .ok false w:=λn=>by simp [Op.equalIn,underlying,hu]
     exact h 9999
   split at h
   ·rw [bV]at h
    refine⟨_,h,λO w M x y u1 u2 h1 h2=>?_⟩;have h2:u2= .slice none 0 0:=h2;subst h2;obtain⟨b,g1,g2⟩:=look h1;have h1:bd w M r u1:=h1;obtain⟨_,a,cap,rfl,_,_⟩:=h1;exact⟨.bool b,by simp [eqGuard,binOp,g1],b,rfl,g2⟩
   ·rw [bV]at h
    refine⟨_,h,λO w M x y u1 u2 h1 h2=>?_⟩;have h2:u2= .slice none 0 0:=h2;subst h2;obtain⟨b,g1,g2⟩:=look h1;have h1:bd w M r u1:=h1;obtain⟨_,a,cap,rfl,_,_⟩:=h1;exact⟨.bool (!b),by simp [eqGuard,binOp,g1],!b,rfl,λh=>g2 (by simpa using h)⟩
   ·exact h.elim
  |_=>exact h.elim
 |agg l=>
  cases b with
  |agg m=>
   simp only [BG]at h;unfold Oy at h;split at h
   ·rename_i l' m' a b c d
    simp only [aq]at h;obtain⟨abm,h⟩:=h;obtain⟨Qx,hq⟩:=VD az abm
    have fin:∀(v:AV) (r:Bool),K v->v= .bool (.v r)->((∀x∈a,cz x)->(∀x∈b,cz x)->(∀x∈c,cz x)->(∀x∈d,cz x)->∀w,(binOp op t (.agg #[.string (cv a),.string (cv b)]) (.agg #[.string (cv c),.string (cv d)])).run P w= .ok (.bool r) w)->
      ∃v,K v/\∀(O:Env) (w:World) (M:a7) (x y:Operand) (u1 u2:Value),aC O w M (.agg [.str a,.str b]) u1->aC O w M (.agg [.str c,.str d]) u2->
       ∃u,(do eqGuard op t x y u1 u2;binOp op t u1 u2:Sem Value).run P w= .ok u w/\aC O w M v u:=λv r hK hv hb=>by
     subst hv;refine⟨_,hK,λO w M x y u1 u2 h1 h2=>?_⟩;obtain⟨rfl,g1,g2⟩:=Iw h1;obtain⟨rfl,g3,g4⟩:=Iw h2;refine⟨.bool r,?_,rfl⟩;rw [Sem.run_bind,run_eqGuard_agg w op t x y _ _ Qx];exact hb g1 g2 g3 g4 w
    split at h
    ·exact fin _ _ h rfl λg1 g2 g3 g4 w=>by rw [run_eql_struct,hq g1 g2 g3 g4 w];rfl
    ·exact fin _ _ h rfl λg1 g2 g3 g4 w=>by rw [run_neq_struct,hq g1 g2 g3 g4 w];rfl
    ·exact h.elim
   ·exact h.elim
  |_=>exact h.elim
 |bO=>
  cases b with
  |bO=>
   simp only [BG,aq]at h;obtain⟨hs,h⟩:=h;obtain⟨kt,et,hu⟩:=Ox az hs
   have look:∀{w:World},(Op.equal t (.map none) (.map none)).run P w= .ok true w:=λ{w}=>by
    have h:∀n,(Op.equalIn (n+1) t (.map none) (.map none)).run P w= .ok true w:=λn=>by simp [Op.equalIn,underlying,hu]
    exact h 9999
   split at h
   ·refine⟨_,h,λO w M x y u1 u2 h1 h2=>?_⟩
    have h1:u1= .map none:=h1;have h2:u2= .map none:=h2;subst h1;subst h2;exact⟨.bool true,by simp [eqGuard,binOp,look],rfl⟩
   ·refine⟨_,h,λO w M x y u1 u2 h1 h2=>?_⟩
    have h1:u1= .map none:=h1;have h2:u2= .map none:=h2;subst h1;subst h2;exact⟨.bool false,by simp [eqGuard,binOp,look],rfl⟩
   ·exact h.elim
  |_=>exact h.elim
 |str a=>
  cases b with
  |str b=>
   simp only [BG]at h
   have hg:∀(x y:Operand) (s r:ByteArray) (w:World),(eqGuard op t x y (.string s) (.string r)).run P w= .ok () w:=by
    intro x y s r w;cases op<;>rfl
   split at h
   ·refine⟨_,h.2,λO w M x y u1 u2 h1 h2=>?_⟩
    obtain⟨rfl,g1⟩:=h1;obtain⟨rfl,g2⟩:=h2;refine⟨.string (cv (a++b)),?_,rfl,λz hz=>(ajK.1 hz).elim (g1 z) (g2 z)⟩
    have hl:¬(((cv a).size+(cv b).size:Nat):Int)>IntKind.i64.max:=by
     rw [rI,rI,show IntKind.i64.max=9223372036854775807 from rfl];have:=h.1;omega
    rw [Sem.run_bind,hg];simp only [binOp,Op.stringOp];simp only [hl,if_false,Ov]
    rfl
   ·refine⟨_,h,λO w M x y u1 u2 h1 h2=>?_⟩
    obtain⟨rfl,g1⟩:=h1;obtain⟨rfl,g2⟩:=h2;exact⟨.bool (a==b),by rw [Sem.run_bind,hg];simp [binOp,Op.stringOp,BF g1 g2],rfl⟩
   ·refine⟨_,h,λO w M x y u1 u2 h1 h2=>?_⟩
    obtain⟨rfl,g1⟩:=h1;obtain⟨rfl,g2⟩:=h2;exact⟨.bool (!(a==b)),by rw [Sem.run_bind,hg];simp [binOp,Op.stringOp,BF g1 g2],rfl⟩
   ·exact h.elim
  |_=>exact h.elim
 |ar=>
  cases b with
  |ar=>
   simp only [BG,aq]at h;obtain⟨hs,h⟩:=h
   have hu:∃e,P.underlying t=some (.slice e):=by
    unfold iP at hs;split at hs
    ·rename_i e hd
     obtain⟨u,h1,h2,_⟩:=(az.at (t:=t) (.inr (by rw [hd];simp))).under;rw [hd]at h2;cases u<;>first|exact⟨_,h1⟩|exact h2.elim
    ·cases hs
   obtain⟨e,hu⟩:=hu
   have look:∀{w:World},(Op.equal t (.slice none 0 0) (.slice none 0 0)).run P w= .ok true w:=λ{w}=>by
    have h:∀n,(Op.equalIn (n+1) t (.slice none 0 0) (.slice none 0 0)).run P w= .ok true w:=λn=>by simp [Op.equalIn,underlying,hu]
    exact h 9999
   split at h
   ·refine⟨_,h,λO w M x y u1 u2 h1 h2=>?_⟩
    have h1:u1= .slice none 0 0:=h1;have h2:u2= .slice none 0 0:=h2;subst h1;subst h2;exact⟨.bool true,by simp [eqGuard,binOp,look],rfl⟩
   ·refine⟨_,h,λO w M x y u1 u2 h1 h2=>?_⟩
    have h1:u1= .slice none 0 0:=h1;have h2:u2= .slice none 0 0:=h2;subst h1;subst h2;exact⟨.bool false,by simp [eqGuard,binOp,look],rfl⟩
   ·exact h.elim
  |_=>exact h.elim
 |_=>exact h.elim
end
section
variable{P:Program}{TY:List cV}{w0 w:World}{M0:eE w0}{O:Env}{M:a7}{S S0:ak}{d:Nat}
theorem cK{a:AV}{v:Value}(h:aJ O w M a v):aC O w M a v:=by
 cases a with
 |any=>trivial
 |agg l=>exact h.elim
 |cL l=>exact h.elim
 |fn f l=>
  cases l with
  |nil=>have h:v=_:=h;subst h;exact⟨#[],rfl,ag⟩
  |cons=>exact h.elim
 |_=>exact h
theorem gN{t:Nat}{r:RO}(h:yj TY t r=true):(au TY t).sz=r.sz/\bN (au TY t).d=(match r with|.aW _=>true|.dS _=>true|.ec _=>true|.fb _ _ _=>true|_=>false):=by
 cases r<;>simp only [yj]at h<;>split at h<;>first
  |(cases h;done)
  |(rename_i hd;exact⟨by rw [aA.1 h];rfl,hd⟩)
theorem fF{t b off:Nat}{c:Value}(aH:iU P t (au TY t))(ha:bN (au TY t).d=false)(hc:w.cell? ⟨b,off,none⟩=some c):
  (Instr.loadAt t (.pointer (some ⟨b,off,none⟩))).run P w= .ok c w:=by
 simp [Instr.loadAt,Instr.sureAddr,loadVar,aH.agg,ha,hc]
theorem gQ{t b off:Nat}{cs:List Value}(aH:iU P t (au TY t))(ha:bN (au TY t).d=true)(hn:cs.length=(au TY t).sz)
  (hc:∀j c,cs[j]? =some c->w.cell? ⟨b,off+j,none⟩=some c):
  (Instr.loadAt t (.pointer (some ⟨b,off,none⟩))).run P w= .ok (.agg cs.toArray) w:=by
 have h:=run_loadCells_list (P:=P) w ⟨b,off,none⟩ cs (λj v hj=>by rw [aU];exact hc j v hj);rw [hn]at h;simp [Instr.loadAt,Instr.sureAddr,loadVar,aH.agg,ha,aH.size,h]
theorem pN{t b off i:Nat}{r:RO}(az:aR P TY)(aY:yj TY t r=true)(hi:i<r.len)
  (hc:∀q,q<r.cells->∃c,w.cell? ⟨b,off+q,none⟩=some c/\ay w M r q c):
  ∃u,(Instr.loadAt t (.pointer (some ⟨b,off+i*r.sz,none⟩))).run P w= .ok u w/\aC O w M (r.get i) u:=by
 obtain⟨hs,ha⟩:=gN aY;have aH:=az.at (t:=t) (.inl (by rw [hs];exact Nat.ne_of_gt r.e9));cases r with
 |aW l=>
  have hl:i<l.length:=hi;obtain⟨c,h1,h2⟩:=hc (i*2) (by simp only [RO.cells,RO.len,RO.sz];omega);obtain⟨c',O9,Hi⟩:=hc (i*2+1) (by simp only [RO.cells,RO.len,RO.sz];omega);refine⟨_,gQ (cs:=[c,c']) aH ha (by rw [hs];rfl) (λj v hj=>?_),RX h2 Hi⟩
  match j,hj with
  |0,hj=>simp at hj;subst hj;exact h1
  |1,hj=>simp at hj;subst hj;simpa [Nat.add_assoc,RO.sz]using O9
  |j+2,hj=>simp at hj
 |ec l=>
  have hl:i<l.length:=hi;obtain⟨c,h1,h2⟩:=hc (i*3) (by simp only [RO.cells,RO.len,RO.sz];omega);obtain⟨c',O9,Hi⟩:=hc (i*3+1) (by simp only [RO.cells,RO.len,RO.sz];omega);obtain⟨c2,k1,k2⟩:=hc (i*3+2) (by simp only [RO.cells,RO.len,RO.sz];omega);refine⟨_,gQ (cs:=[c,c',c2]) aH ha (by rw [hs];rfl) (λj v hj=>?_),RY h2 Hi k2⟩
  match j,hj with
  |0,hj=>simp at hj;subst hj;exact h1
  |1,hj=>simp at hj;subst hj;simpa [Nat.add_assoc,RO.sz]using O9
  |2,hj=>simp at hj;subst hj;simpa [Nat.add_assoc,RO.sz]using k1
  |j+3,hj=>simp at hj
 |dS l=>
  have hl:i<l.length:=hi;obtain⟨c,h1,h2⟩:=hc (i*2) (by simp only [RO.cells,RO.len,RO.sz];omega);obtain⟨c',O9,Hi⟩:=hc (i*2+1) (by simp only [RO.cells,RO.len,RO.sz];omega);refine⟨_,gQ (cs:=[c,c']) aH ha (by rw [hs];rfl) (λj v hj=>?_),RZ h2 Hi⟩
  match j,hj with
  |0,hj=>simp at hj;subst hj;exact h1
  |1,hj=>simp at hj;subst hj;simpa [Nat.add_assoc,RO.sz]using O9
  |j+2,hj=>simp at hj
 |fb n k l=>
  have hl:i<l.length:=hi;have hle:(i+1)*(n+2)<=l.length*(n+2):=ajO _ hl;have Z3:i*(n+2)+(n+2)<=l.length*(n+2):=by rw [ake,Nat.one_mul]at hle;exact hle
  obtain⟨cs,h3,h4,h5⟩:=ju (w:=w) (b:=b) (off:=off+i*(n+2)) (n:=n+2) (C:=λq c=>ay w M (.fb n k l) (i*(n+2)+q) c) λq hq=>by
   obtain⟨c,h1,h2⟩:=hc (i*(n+2)+q) (by simp only [RO.cells,RO.len,RO.sz];omega);exact⟨c,by rw [Nat.add_assoc];exact h1,h2⟩
  refine⟨_,gQ (cs:=cs) aH ha (by rw [hs];exact h3) (λj v hj=>by have:=h4 j v hj;simpa [RO.sz]using this),R0 h3 λq c hq=>?_⟩
  have K5:q<n+2:=by
   rw [<-h3];rcases ajF q cs.length with h'|h'
   ·exact h'
   ·rw [aj0 h']at hq;cases hq
  obtain⟨c',h6,h7⟩:=h5 q K5;rw [hq]at h6;cases h6;exact h7
 |_=>
  obtain⟨c,h1,h2⟩:=hc i (by simp only [RO.cells,RO.sz,ajV];exact hi);exact⟨c,fF aH ha (by simpa [RO.sz]using h1),Ix rfl h2 hi⟩
theorem Oz{r:RO}{b off cap m:Nat}(h:bd w M r (.slice (some ⟨b,off,none⟩) m cap)):
  ∀q,q<r.cells->∃c,w.cell? ⟨b,off+q,none⟩=some c/\ay w M r q c:=by
 intro q hq;obtain⟨_,a,cap',hv,_,h⟩:=h;cases hv;rcases h with h|⟨b',off',ha,h⟩
 ·omega
 ·cases ha
  obtain⟨c,h1,_,h2⟩:=h q hq;exact⟨c,h1,h2⟩
theorem R4{r:RO}{v:Value}(h:bd w M r v)(hn:0<r.len):∃b off cap,v= .slice (some ⟨b,off,none⟩) r.len cap:=by
 obtain⟨_,a,cap,rfl,_,h⟩:=h;rcases h with h|⟨b,off,rfl,_⟩
 ·have:=r.e9
  have:0<r.cells:=Nat.mul_pos hn this;omega
 ·exact⟨b,off,cap,rfl⟩
theorem Fs(az:aR P TY){F:Spec}{t:Nat}{x:Operand}{T:List AV}{K:AV->Option dQ->Prop}(h:qK TY F d (.load t x) T S0 K):
  ∃v B,K v B/\QS P d (.load t x) T S0 v B:=by
 simp only [qK,aD]at h;have fg:∀{e:Operand->Value} {O:Env} {w:World} {M:a7},(∀y∈(Op.load t x).operands,aC O w M (aT T y) (e y))->aC O w M (aT T x) (e x):=λh=>h x (by simp [Op.operands]);generalize ha:aT T x=a at h fg;cases a with
 |eZ r i=>
  simp only [aq,uZ]at h;obtain⟨aY,h⟩:=h;refine bX h λw0 M0 O w M S' e oo ho hc st he=>?_;obtain⟨b,off,cap,h1,h2,h3,h4⟩:=fg he;obtain⟨u,h5,h6⟩:=pN (O:=O) (t:=t) az aY (i:=i.toNat) aa (Oz h1);exact⟨_,(by simp [execOp,ho,h4,h5]),h6⟩
 |dY k i=>
  simp only at h;split at h
  ·rename_i wm r hf
   simp only [aq,uZ]at h;obtain⟨aY,h⟩:=h;refine bX h λw0 M0 O w M S' e oo ho hc st he=>?_;obtain⟨o,b,h1,h2,h3,h4,h5⟩:=fg he;obtain⟨⟨o',h6,h7,h8,h9,cA,lP⟩,_⟩:=st.aZ k _ (st.fK hc hf h1);obtain rfl:=cC h6 h1;simp only [h2]at lP;obtain⟨oP,cs,ty,oQ,xg,mg,Ks⟩:=lP
   obtain⟨u,Gq,Kt⟩:=pN (O:=O) (w:=w) (M:=M) (t:=t) (b:=b) (off:=0) az aY (i:=i.toNat) aa
    (λq hq=>by obtain⟨c,h1,h2⟩:=Ks q hq;exact⟨c,by rw [cell_of_heap oQ,ajQ];exact h1,h2⟩)
   rw [ajQ,<-h8]at Gq;exact⟨_,(by simp [execOp,ho,h5,Gq]),Kt⟩
  ·rename_i wm r j k' hf
   simp only [aq,uZ]at h;obtain⟨aY,h,h'⟩:=h
   by_cases mR:i=j
   ·refine bX (h mR) λw0 M0 O w M S' e oo ho hc st he=>?_
    obtain⟨o,b,h1,h2,h3,h4,h5⟩:=fg he;obtain⟨⟨o',h6,h7,h8,h9,cA,lP⟩,ig⟩:=st.aZ k _ (st.fK hc hf h1);obtain rfl:=cC h6 h1;simp only [h2]at lP;obtain⟨oP,cs,ty,oQ,xg,mg,Ks⟩:=lP;rcases ig with ig|⟨_,_,ig,hq,_,_,_⟩
    ·cases ig
    ·cases ig
     have bu:=Gr hq;obtain⟨hs,oF⟩:=gN aY;have aH:=az.at (t:=t) (.inl (by rw [hs,bu];decide));obtain⟨c,Gq,Kt⟩:=Ks i.toNat (by simp only [RO.cells,bu];omega);rw [ajq aa]at Kt;have Mj:bN (au TY t).d=false:=by rw [oF];cases r<;>first|rfl|cases hq
     refine⟨c,?_,show aC O w M (.vec k') c from Kt⟩;have:=fF (P:=P) (w:=w) (b:=b) (off:=i.toNat*o.sz) aH Mj (c:=c) (by rw [cell_of_heap oQ,h8,bu,ajV];exact Gq);simp [execOp,ho,h5,this]
   ·refine bX (h' mR) λw0 M0 O w M S' e oo ho hc st he=>?_
    obtain⟨o,b,h1,h2,h3,h4,h5⟩:=fg he;obtain⟨⟨o',h6,h7,h8,h9,cA,lP⟩,ig⟩:=st.aZ k _ (st.fK hc hf h1);obtain rfl:=cC h6 h1;simp only [h2]at lP;obtain⟨oP,cs,ty,oQ,xg,mg,Ks⟩:=lP;rcases ig with ig|⟨_,_,ig,hq,_,_,_⟩
    ·cases ig
    ·cases ig
     have bu:=Gr hq;obtain⟨hs,oF⟩:=gN aY;have aH:=az.at (t:=t) (.inl (by rw [hs,bu];decide));obtain⟨c,Gq,Kt⟩:=Ks i.toNat (by simp only [RO.cells,bu];omega);rw [ajm aa]at Kt;have Mj:bN (au TY t).d=false:=by rw [oF];cases r<;>first|rfl|cases hq
     refine⟨c,?_,Ix bu Kt aa⟩;have:=fF (P:=P) (w:=w) (b:=b) (off:=i.toNat*o.sz) aH Mj (c:=c) (by rw [cell_of_heap oQ,h8,bu,ajV];exact Gq);simp [execOp,ho,h5,this]
  ·rename_i n0 r hf
   simp only [aq,uZ]at h;obtain⟨aY,h⟩:=h;refine bX h λw0 M0 O w M S' e oo ho hc st he=>?_;obtain⟨o,b,h1,h2,h3,h4,h5⟩:=fg he;obtain⟨o0,cur,h6,Yn,_⟩:=st.aZ k _ (st.fK hc hf h1);have Ji:cur=o:=by rw [mD h6]at h1;exact ajN h1
   rw [Ji]at Yn;obtain⟨h7,h8,h9,cA,lP⟩:=Yn;simp only [h2]at lP;obtain⟨oP,cs,ty,oQ,xg,mg,Ks⟩:=lP
   obtain⟨u,Gq,Kt⟩:=pN (O:=O) (w:=w) (M:=M) (t:=t) (b:=b) (off:=0) az aY (i:=i.toNat) aa
    (λq hq=>by obtain⟨c,h1,h2⟩:=Ks q hq;exact⟨c,by rw [cell_of_heap oQ,ajQ];exact h1,h2⟩)
   rw [ajQ,<-h8]at Gq;exact⟨_,(by simp [execOp,ho,h5,Gq]),Kt⟩
  ·exact h.elim
 |ptr k off=>
  simp only at h;split at h
  ·rename_i l hf
   obtain⟨v,hK,hlen,hv⟩:=qJ h;refine bX hK λw0 M0 O w M S' e oo ho hc st he=>?_;have h1:(O k).bind (b6.ref · off)=some (e x):=fg he;obtain⟨b,h3,cs,ty,h4,h5,h6⟩:=st.aZ k _ (st.fK hc hf h1);have h2:=sw h3 h1;have Tb:l.length=cs.size:=by rw [aM.length h6,ajw]
   rcases hv with ⟨oF,rfl⟩|⟨oF,hs,rfl⟩
   ·have aH:=az.at (t:=t) (.inr (λe=>by rw [e]at oF;cases oF))
    refine⟨.agg ((cs.toList.drop off).take (au TY t).sz).toArray,?_,_,rfl,by simpa using (h6.drop off).take _⟩
    have:=gQ (P:=P) (w:=w) (b:=b) (off:=off) (cs:=(cs.toList.drop off).take (au TY t).sz) aH oF (by simp;omega) (λj c hj=>by
     rw [akm]at hj;split at hj
     ·rw [akt,ajt]at hj;rw [cell_of_heap h4];exact hj
     ·cases hj)
    simp [execOp,ho,h2,this]
   ·have aH:=az.at (t:=t) (.inl (by rw [hs];decide))
    obtain⟨c,h7,h8⟩:=h6.get off aa;refine⟨c,?_,?_⟩
    ·have:=fF (P:=P) (w:=w) (b:=b) (off:=off) aH oF (c:=c) (by rw [cell_of_heap h4];simpa using h7)
     simp [execOp,ho,h2,this]
    ·exact cK h8
  ·exact h.elim
 |gA k i j=>
  have key:∀{l:List (Int × Int)} {M:a7} {w:World} {b:Nat} {o:Sl} {cs:Array Value} {ty:TypeId},Ku TY t=true->Nat.ble j 1=true->o.sz=2->0<=i->i.toNat<l.length->w.heap[b]? =some (.cells cs ty (0,0))->
    (∀q,q<(RO.aW l).cells->∃c,cs[q]? =some c/\ay w M (.aW l) q c)->∃u,(Instr.loadAt t (.pointer (some ⟨b,i.toNat*o.sz+j,none⟩))).run P w= .ok u w/\u= .int .i64 (cB j (l.getD i.toNat (0,0)))/\eO .i64 (cB j (l.getD i.toNat (0,0))):=λ{l M w b o cs ty} mK hj hs h0 hl hh hc=>by
   unfold Ku at mK;split at mK
   ·cases mK
   ·rename_i oF
    have bu:=aA.1 mK;have aH:=az.at (t:=t) (.inl (by rw [bu];decide));have mS:=ah hj;obtain⟨c,h1,h2⟩:=hc (i.toNat*2+j) (by simp only [RO.cells,RO.len,RO.sz];omega);refine⟨c,fF aH oF (by rw [cell_of_heap hh,hs];exact h1),?_⟩;have hd:(i.toNat*2+j) / 2=i.toNat:=aa;simp only [ay,hd]at h2
    match j,mS,h2 with
    |0,_,h2=>rw [ajq aa]at h2;exact h2
    |1,_,h2=>rw [ajm aa]at h2;exact h2
  simp only at h;split at h
  ·rename_i wm l hf
   simp only [aq]at h;obtain⟨mK,hj,h⟩:=h;refine bX h λw0 M0 O w M S' e oo ho hc st he=>?_;obtain⟨o,b,h1,h2,h3,h4,h5⟩:=fg he;obtain⟨⟨o',h6,h7,h8,h9,cA,lP⟩,_⟩:=st.aZ k _ (st.fK hc hf h1);obtain rfl:=cC h6 h1;simp only [h2]at lP;obtain⟨oP,cs,ty,oQ,xg,mg,Ks⟩:=lP;have h7:o.len=l.length:=h7;obtain⟨u,Gq,rfl,Kt⟩:=key (w:=w) (M:=M) (o:=o) mK hj h8 h3 aa oQ Ks;exact⟨_,(by simp [execOp,ho,h5,Gq]),⟨rfl,Kt⟩⟩
  ·rename_i n0 l hf
   simp only [aq]at h;obtain⟨mK,hj,h⟩:=h;refine bX h λw0 M0 O w M S' e oo ho hc st he=>?_;obtain⟨o,b,h1,h2,h3,h4,h5⟩:=fg he;obtain⟨o0,cur,h6,Yn,_⟩:=st.aZ k _ (st.fK hc hf h1);have Ji:cur=o:=by rw [mD h6]at h1;exact ajN h1
   rw [Ji]at Yn;obtain⟨h7,h8,h9,cA,lP⟩:=Yn;simp only [h2]at lP;obtain⟨oP,cs,ty,oQ,xg,mg,Ks⟩:=lP;have h7:o.len=l.length:=h7;obtain⟨u,Gq,rfl,Kt⟩:=key (w:=w) (M:=M) (o:=o) mK hj h8 h3 aa oQ Ks;exact⟨_,(by simp [execOp,ho,h5,Gq]),⟨rfl,Kt⟩⟩
  ·exact h.elim
 |_=>exact h.elim
end
theorem qw(off:Nat):∀(vs:List Value) (k:Nat) (cells:Array Value),off+k+vs.length<=cells.size->
  ((vs.zipIdx k).foldl (λ(cs:Array Value) (x:Value × Nat)=>cs.setIfInBounds (off+x.2) x.1) cells).toList=cells.toList.take (off+k)++(vs++cells.toList.drop (off+k+vs.length))
 |[],k,cells,_=>by simp
 |v::vs,k,cells,h=>by
  simp only [ajY]at h;simp only [List.zipIdx_cons,akl];rw [qw off vs (k+1) _ (by simp;omega)];simp only [Array.toList_setIfInBounds,ajY];have aX:off+k<cells.toList.length:=by simp;omega
  rw [show off+(k+1)=(off+k)+1 from by omega,List.take_succ_eq_append_getElem (by simpa using aX)];simp only [List.getElem_set_self,List.take_set_of_le (ajl _)];rw [List.drop_set_of_lt aa,show off+k+1+vs.length=off+k+(vs.length+1)from by omega];simp
section
variable{P:Program}{TY:List cV}{w0 w:World}{M0:eE w0}{O:Env}{M:a7}{S S0:ak}{d:Nat}
theorem pO{T:List AV}{place place':Nat->Option (Nat × Nat)}(hp:∀i x,place i=some x->place' i=some x):
  ∀{ps:List (Nat × Operand)} {l:List AV} {K:List AV->Prop},tE T place ps l K->
   ∃m,K m/\m.length=l.length/\∀(O:Env) (w:World) (M:a7) (e:Operand->Value) (cells:Array Value),(∀i x,(i,x)∈ps->aC O w M (aT T x) (e x))->aM (aJ O w M) l cells.toList->
    ∃cells',Instr.fill place' cells (ps.map λ(i,x)=>(i,e x))=some cells'/\aM (aJ O w M) m cells'.toList
 |[],l,K,h=>⟨l,h,rfl,λ_ _ _ _ cells _ hl=>⟨cells,rfl,hl⟩⟩
 |(i,x)::ps,l,K,h=>by
  simp only [tE,aD]at h;cases gw:place i with
  |none=>rw [gw]at h;simp at h
  |some os=>
   obtain⟨off,sz⟩:=os;rw [gw]at h
   have main:∀m,m.length=sz->(∀(O:Env) (w:World) (M:a7) (u:Value),aC O w M (aT T x) u->aM (aJ O w M) m u.cells.toList)->
     (mn l off m λl'=>tE T place ps l' K)->
     ∃m,K m/\m.length=l.length/\∀(O:Env) (w:World) (M:a7) (e:Operand->Value) (cells:Array Value),(∀j y,(j,y)∈(i,x)::ps->aC O w M (aT T y) (e y))->aM (aJ O w M) l cells.toList->
      ∃cells',Instr.fill place' cells (((i,x)::ps).map λ(i,x)=>(i,e x))=some cells'/\aM (aJ O w M) m cells'.toList:=by
    intro m hm bg hs;obtain⟨h1,h2⟩:=pP hs;obtain⟨m',h3,h4,h5⟩:=pO hp h2;refine⟨m',h3,by rw [h4];simp;omega,λO w M e cells he hl=>?_⟩;have hu:=bg O w M (e x) (he i x (by simp));have hlen:l.length=cells.size:=by rw [aM.length hl,ajw]
    have hul:m.length=(e x).cells.size:=by rw [aM.length hu,ajw]
    have CI:=qw off (e x).cells.toList 0 cells (by simp;omega)
    have fD:(((e x).cells.zipIdx.foldl (λcs (c,j)=>cs.setIfInBounds (off+j) c) cells).toList)=cells.toList.take off++((e x).cells.toList++cells.toList.drop (off+m.length)):=by
     rw [<-Array.foldl_toList,Array.toList_zipIdx,hul]
     simpa [<-Array.length_toList]using CI
    obtain⟨cells',h6,h7⟩:=h5 O w M e ((e x).cells.zipIdx.foldl (λcs (c,j)=>cs.setIfInBounds (off+j) c) cells) (λj y hy=>he j y (ajj _ hy))
     (by rw [fD];exact(hl.take off).append (hu.append (hl.drop _)))
    refine⟨cells',?_,h7⟩;simp only [akd,Instr.fill,hp i _ gw];rw [ajm]
    ·exact h6
    ·simp only [Bool.or_eq_true,decide_eq_true_eq,not_or,ne_eq,Decidable.not_not]
     exact⟨aa,aa⟩
   have one:(match kT (aT T x)with|true=>(match df [aT T x] sz with|true=>mn l off [aT T x] λl'=>tE T place ps l' K|false=>False)|false=>False)->
     ∃m,K m/\m.length=l.length/\∀(O:Env) (w:World) (M:a7) (e:Operand->Value) (cells:Array Value),(∀j y,(j,y)∈(i,x)::ps->aC O w M (aT T y) (e y))->aM (aJ O w M) l cells.toList->
      ∃cells',Instr.fill place' cells (((i,x)::ps).map λ(i,x)=>(i,e x))=some cells'/\aM (aJ O w M) m cells'.toList:=by
    intro h;cases hc:kT (aT T x)with
    |false=>rw [hc]at h;exact h.elim
    |true=>
     rw [hc]at h;cases hs:df [aT T x] sz with
     |false=>simp only [hs]at h
     |true=>
      simp only [hs]at h;refine main _ (dD hs) (λO w M u hu=>?_) h;have hu:=mh hc hu;have cT:=aJ.aO hu;cases u<;>first|exact⟨hu,ag⟩|exact cT.elim
   cases hx:aT T x with
   |agg m=>
    rw [hx]at h;simp only at h;cases hs:df m sz with
    |false=>rw [hs]at h;exact h.elim
    |true=>
     rw [hs]at h;refine main m (dD hs) (λO w M u hu=>?_) h;rw [hx]at hu;obtain⟨cs,rfl,bU⟩:=hu;exact bU
   |_=>rw [hx]at h one;exact one h
theorem cu:∀{l:List (Nat × Nat)} {i:Nat} {x:Nat × Nat},de l i=some x->l[i]? =some x
 |a::l,0,x,h=>by simpa [de]using h
 |a::l,i+1,x,h=>by simpa using cu (l:=l) (by simpa [de]using h)
 |[],i,x,h=>by simp [de]at h
theorem di(az:aR P TY){t:Nat}{fs:List (Nat × Nat)}(hd:(au TY t).d= .struct fs):
  ∃F:Array Field,P.underlying t=some (.struct F)/\fs=F.toList.map λf=>(f.offset,f.type):=by
 obtain⟨u,h1,h2,_⟩:=(az.at (t:=t) (.inr (by rw [hd];simp))).under;rw [hd]at h2;cases u<;>try exact h2.elim
 exact⟨_,h1,h2⟩
theorem bY(az:aR P TY){t e:Nat}(hd:(au TY t).d= .slice e):P.underlying t=some (.slice e):=by
 obtain⟨u,h1,h2,_⟩:=(az.at (t:=t) (.inr (by rw [hd];simp))).under;rw [hd]at h2;cases u<;>try exact h2.elim
 rw [h1,show e=_ from h2]
theorem Iy(az:aR P TY){t:Nat}(hd:(au TY t).d= .str):P.underlying t=some .string:=by
 obtain⟨u,h1,h2,_⟩:=(az.at (t:=t) (.inr (by rw [hd];simp))).under;rw [hd]at h2;cases u<;>first|exact h1|exact h2.elim
theorem hZ(az:aR P TY){t n e:Nat}(hd:(au TY t).d= .arr n e):P.underlying t=some (.array n e):=by
 obtain⟨u,h1,h2,_⟩:=(az.at (t:=t) (.inr (by rw [hd];simp))).under;rw [hd]at h2;cases u<;>try exact h2.elim
 obtain⟨rfl,rfl⟩:=h2;exact h1
theorem bW(az:aR P TY){t:Nat}{r:RO}(h:eF TY t r=true):∃e,(au TY t).d= .slice e/\P.underlying t=some (.slice e)/\(au TY e).sz=r.sz/\iU P e (au TY e):=by
 unfold eF at h;split at h
 ·rename_i e hd
  have hs:(au TY e).sz=r.sz:=by cases r<;>simp only at h<;>exact aA.1 h
  exact⟨e,hd,bY az hd,hs,az.at (.inl (by rw [hs];exact Nat.ne_of_gt r.e9))⟩
 ·cases h
theorem CN(az:aR P TY){F:Spec}{t:Nat}{ps:Array (Nat × Operand)}{T:List AV}{K:AV->Option dQ->Prop}(h:qK TY F d (.build t ps) T S0 K):
  ∃v B,K v B/\QS P d (.build t ps) T S0 v B:=by
 have fg:∀{e:Operand->Value} {O:Env} {w:World} {M:a7},(∀y∈(Op.build t ps).operands,aC O w M (aT T y) (e y))->∀i x,(i,x)∈ps.toList->aC O w M (aT T x) (e x):=
  λh i x hx=>h x (by simp only [Op.operands,List.mem_toArray,ajU];exact⟨_,hx,rfl⟩)
 have hz:∀{E:cV},kz E.zero=true->E.zero≠[]:=λ{E} hb he=>by rw [he]at hb;cases hb
 have Zr:∀(O:Env) (w:World) (M:a7) {l:List AV} {m:List Value},aM zC l m->aM (aJ O w M) l m:=λO w M=>aM.imp λa v h=>h O w M;simp only [qK]at h;split at h
 ·rename_i fs hd
  rw [aq]at h;obtain⟨vI,h⟩:=h;obtain⟨F',hu,tX⟩:=di az hd;have aH:=az.at (t:=t) (.inr (by rw [hd];simp));obtain⟨i,u,hi,AK,_,_,_,hzero⟩:=aH.row;obtain⟨z,gE,uE⟩:=hzero (hz vI)
  have key:∀(l:List Field),(∀f∈l,f.type<TY.length)->∀w,(l.mapM λf=>Prod.mk f.offset<$>sizeOf f.type:Sem (List (Nat × Nat))).run P w= .ok (l.map λf=>(f.offset,(au TY f.type).sz)) w:=by
   intro l
   induction l with
   |nil=>intro _ w;simp
   |cons f l ih=>
    intro hl w;have hn:=(az.row f.type (hl f (by simp))).size w;simp [List.mapM_cons,hn,ih (λg hg=>hl g (List.mem_cons_of_mem _ hg))]
  have gw:∀w,(F'.mapM λf=>Prod.mk f.offset<$>sizeOf f.type:Sem (Array (Nat × Nat))).run P w= .ok (F'.toList.map λf=>(f.offset,(au TY f.type).sz)).toArray w:=by
   intro w;have:=key F'.toList (λf hf=>az.closed t fs hd (f.offset,f.type) (by rw [tX];exact ajU.2 ⟨f,hf,rfl⟩)) w;have he:F'=F'.toList.toArray:=by simp
   rw [he,List.mapM_toArray];simp [this]
  have Gb:∀j x,qK.fieldPlace TY fs j=some x->(F'.toList.map λf=>(f.offset,(au TY f.type).sz)).toArray[j]? =some x:=by
   intro j x hx;unfold qK.fieldPlace at hx;split at hx
   ·rename_i o u ho
    cases hx;have:=cu ho;rw [tX,ajR]at this;cases hg:F'.toList[j]? with
    |none=>rw [hg]at this;cases this
    |some f=>rw [hg]at this;cases this;simp only [List.getElem?_toArray,ajR,hg];rfl
   ·cases hx
  obtain⟨m,h1,h2,h3⟩:=pO (place':=λj=>(F'.toList.map λf=>(f.offset,(au TY f.type).sz)).toArray[j]?) Gb h;refine cw h1 λO w M e oo ho he=>?_;obtain⟨cells',h4,h5⟩:=h3 O w M e z.cells (fg he) (Zr O w M uE.1);refine⟨.agg cells',?_,cells',rfl,h5⟩;have mM:(zeroValue t).run P w= .ok z w:=by simp [zeroValue,typeInfo,hi,gE]
  have cd:(underlying t).run P w= .ok (.struct F') w:=by simp [underlying,hu]
  simp only [List.getElem?_toArray,ajR,ajt]at h4;simp [execOp,ho,Instr.build,mM,cd,gw];rw [h4]
  rfl
 ·rename_i n e' hd
  rw [aq,aq]at h;obtain⟨vI,bu,h⟩:=h;have hu:=hZ az hd;have aH:=az.at (t:=t) (.inr (by rw [hd];simp));obtain⟨i,u,hi,AK,_,_,_,hzero⟩:=aH.row;obtain⟨z,gE,uE⟩:=hzero (hz vI);have NJ:=az.at (t:=e') (.inl (by rw [Nat.ble_eq]at bu;omega));obtain⟨m,h1,h2,h3⟩:=pO (place':=λi=>some (i*(au TY e').sz,(au TY e').sz)) (λi x hx=>hx) h;refine cw h1 λO w M e oo ho he=>?_;obtain⟨cells',h4,h5⟩:=h3 O w M e z.cells (fg he) (Zr O w M uE.1);refine⟨.agg cells',?_,cells',rfl,h5⟩;have mM:(zeroValue t).run P w= .ok z w:=by simp [zeroValue,typeInfo,hi,gE]
  have cd:(underlying t).run P w= .ok (.array n e') w:=by simp [underlying,hu]
  simp [execOp,ho,Instr.build,mM,cd,NJ.size,h4]
 ·exact h.elim
theorem dc(az:aR P TY){F:Spec}{o:Op}{T:List AV}{K:AV->Option dQ->Prop}(h:qK TY F d o T S0 K)
  (ho:(∃x,o= .move x\/o= .assign x\/o= .nilCheck x)\/(∃op t x,o= .unOp op t x)\/(∃op t x y ty,o= .binOp op t x y ty)\/(∃c a b,o= .pick c a b)\/(∃x i,o= .extract x i)\/∃fn first cap,o= .makeFunc fn first cap):
  ∃v B,K v B/\QS P d o T S0 v B:=by
 rcases ho with ⟨x,rfl|rfl|rfl⟩|⟨op,t,x,rfl⟩|⟨op,t,x,y,ty,rfl⟩|⟨c,a,b,rfl⟩|⟨x,i,rfl⟩|⟨fn,first,cap,rfl⟩
 ·simp only [qK,aD]at h
  exact cw h λO w M e oo ho he=>⟨e x,by simp [execOp,ho],he x (by simp [Op.operands])⟩
 ·simp only [qK,aD]at h
  exact cw h λO w M e oo ho he=>⟨e x,by simp [execOp,ho],he x (by simp [Op.operands])⟩
 ·simp only [qK,aD]at h
  split at h
  ·rename_i k off hx
   refine cw h λO w M e oo ho he=>?_;have:=he x (by simp [Op.operands]);rw [hx]at this;have h1:(O k).bind (b6.ref · off)=some (e x):=this;obtain⟨b,⟨_,h2⟩|⟨_,h2⟩⟩:=vX h1
   ·exact⟨e x,by simp [execOp,ho,h2],h1⟩
   ·exact⟨e x,by simp [execOp,ho,h2],h1⟩
  ·rename_i f l hx
   refine cw h λO w M e oo ho he=>?_;have:=he x (by simp [Op.operands]);rw [hx]at this;obtain⟨cs,h1,h2⟩:=this;exact⟨e x,by simp [execOp,ho,h1],cs,h1,h2⟩
  ·rename_i k i hx
   refine cw h λO w M e oo ho he=>?_;have:=he x (by simp [Op.operands]);rw [hx]at this;obtain⟨o,b,h1,h2,h3,h4,h5⟩:=this;exact⟨e x,by simp [execOp,ho,h5],o,b,h1,h2,h3,h4,h5⟩
  ·rename_i r i hx
   refine cw h λO w M e oo ho he=>?_;have:=he x (by simp [Op.operands]);rw [hx]at this;obtain⟨b,off,cap,h1,h2,h3,h4⟩:=this;exact⟨e x,by simp [execOp,ho,h4],b,off,cap,h1,h2,h3,h4⟩
  ·exact h.elim
 ·simp only [qK,aD]at h
  split at h
  ·rename_i e0 hx
   obtain⟨e',h1,h2⟩:=R5 h;refine cw h1 λO w M e oo ho he=>?_;have:=he x (by simp [Op.operands]);rw [hx]at this;have hv:e x= .bool e0.val:=this;exact⟨.bool (!e0.val),by simp [execOp,ho,hv,Op.unary],by show Value.bool _=_;rw [h2]⟩
  ·rename_i k n hx
   rw [jN]at h;refine cw h.2 λO w M e oo ho he=>?_;have:=he x (by simp [Op.operands]);rw [hx]at this;have hv:e x= .int k n:=this.1;exact⟨.int k (k.wrap (0 - n)),by simp [execOp,ho,hv,Op.unary,Op.intArith],lF h.1⟩
  ·exact h.elim
 ·simp only [qK,aD]at h
  split at h
  ·rename_i Q2
   rw [aq]at h;obtain⟨hmt,h⟩:=h;obtain⟨kt,et,hu⟩:=Ox az hmt;unfold Iz at Q2;split at Q2
   ·rename_i hy
    split at Q2
    ·rename_i k off hx
     split at Q2
     ·rename_i kd vk m hf
      have look:∀{w:World} {b:Nat},(Op.equal t (.map (some b)) (.map none)).run P w= .ok false w:=λ{w b}=>by
       have h:∀n,(Op.equalIn (n+1) t (.map (some b)) (.map none)).run P w= .ok false w:=λn=>by simp [Op.equalIn,underlying,hu]
       exact h 9999
      have go:∀(w0:World) (M0:eE w0) (O:Env) (w:World) (M:a7) (S':ak) (e:Operand->Value),KX S0 S'->St M0 O M S' w->(∀z∈(Op.binOp op t x y ty).operands,aC O w M (aT T z) (e z))->∃b,e x= .map (some b)/\e y= .map none:=λw0 M0 O w M S' e hc st he=>by
       have mI:=he x (by simp [Op.operands]);have EV:=he y (by simp [Op.operands]);rw [hx]at mI;rw [hy]at EV;have mI:(O k).bind (b6.ref · off)=some (e x):=mI;obtain⟨b,g1,_⟩:=st.aZ k _ (st.fK hc hf mI);exact⟨b,Av g1 mI,EV⟩
      split at h
      ·refine bX h λw0 M0 O w M S' e oo ho hc st he=>?_
       obtain⟨b,e1,e2⟩:=go w0 M0 O w M S' e hc st he;exact⟨.bool false,by simp [execOp,ho,e1,e2,eqGuard,binOp,look],rfl⟩
      ·refine bX h λw0 M0 O w M S' e oo ho hc st he=>?_
       obtain⟨b,e1,e2⟩:=go w0 M0 O w M S' e hc st he;exact⟨.bool true,by simp [execOp,ho,e1,e2,eqGuard,binOp,look],rfl⟩
      ·exact h.elim
     ·cases Q2
    ·cases Q2
   ·cases Q2
  obtain⟨v,h1,h2⟩:=Kr az h;refine cw h1 λO w M e oo ho he=>?_;obtain⟨u,h3,h4⟩:=h2 O w M x y (e x) (e y) (he x (by simp [Op.operands])) (he y (by simp [Op.operands]));refine⟨u,?_,h4⟩;simp only [execOp,ho];rw [Sem.run_bind,h3]
  rfl
 ·simp only [qK,aD]at h
  split at h
  ·rename_i e0 hx
   have h:=sq h
   have hK:K (if e0.val then aT T a else aT T b) none:=by
    cases hv:e0.val<;>rw [hv]at h<;>simpa using h
   refine cw hK λO w M e oo ho he=>?_;have:=he c (by simp [Op.operands]);rw [hx]at this;have hv:e c= .bool e0.val:=this;refine⟨if e0.val then e a else e b,?_,?_⟩
   ·cases hb:e0.val<;>simp [execOp,ho,hv,hb,asBool]
   ·cases hb:e0.val
    ·simpa using he b (by simp [Op.operands])
    ·simpa using he a (by simp [Op.operands])
  ·exact h.elim
 ·simp only [qK,aD]at h
  split at h
  ·rename_i l hx
   obtain⟨h1,h2⟩:=rH h;have h5:=Ek l i;cases hd:l.drop i with
   |nil=>rw [hd]at h2;exact h2.elim
   |cons a m=>
    rw [hd]at h2 h5
    have aX:i<l.length:=by
     rcases ajF i l.length with h'|h'
     ·exact h'
     ·rw [List.drop_eq_nil_of_le h']at hd;cases hd
    simp [aX]at h5;refine cw (gO.1 h2) λO w M e oo ho he=>?_;have:=he x (by simp [Op.operands]);rw [hx]at this;obtain⟨cs,h6,h7⟩:=this;obtain⟨u,h8,h9⟩:=h7.get i aX;rw [<-h5]at h9;rw [ajt]at h8;refine⟨u,by simp [execOp,ho,h6,Instr.extract,h8],?_⟩;cases a with
    |agg l=>exact h9
    |any=>trivial
    |cL l=>exact h9.elim
    |fn f l=>
     cases l with
     |nil=>have h9:u=_:=h9;subst h9;exact⟨#[],rfl,ag⟩
     |cons=>exact h9.elim
    |_=>exact h9
  ·exact h.elim
 ·cases fn with
  |func f=>
   simp only [qK]at h;split at h
   ·rename_i hf
    rw [dA]at h;have Qh:first= #[]:=by simpa using ajs List.toArray hf
    subst Qh
    by_cases hc:∃x r i,cap.toList=[x]/\aT T x= .eZ r i
    ·obtain⟨x,r,i,da,hx⟩:=hc
     rw [da]at h;simp only [akd,List.map_nil,hx,OA]at h;refine cw h λO w M e oo ho he=>?_;have dZ:cap= #[x]:=by simpa using ajs List.toArray da
     subst dZ;have db:=he x (by simp [Op.operands]);rw [hx]at db;obtain⟨b,off,cp,h1,h2,h3,h4⟩:=db;exact⟨.func (.func f) #[] #[e x],by simp [execOp,ho,Instr.makeFunc],b,off,cp,h1,h2,h3,by rw [h4]⟩
    have h:bL (rJ (cap.toList.map (aT T))) (K (.fn f (cap.toList.map (aT T))) none):=by
     unfold OA at h;split at h
     ·rename_i r i he
      exfalso;rcases da:cap.toList with _|⟨x,_|⟨y,l⟩⟩
      ·rw [da]at he;exact absurd (ajs List.length he) (by simp)
      ·rw [da]at he;exact hc ⟨x,r,i,da,List.head_eq_of_cons_eq he⟩
      ·rw [da]at he;exact absurd (ajs List.length he) (by simp)
     ·exact h
    rw [aq]at h;obtain⟨aY,h⟩:=h;refine cw h λO w M e oo ho he=>?_;refine⟨.func (.func f) #[] (cap.map e),by simp [execOp,ho,Instr.makeFunc],cap.map e,rfl,?_⟩;have b5:∀x∈cap.toList,aC O w M (aT T x) (e x):=λx hx=>he x (by simp [Op.operands];exact aj6.1 hx);rw [Array.toList_map]
    have key:∀(l:List Operand),rJ (l.map (aT T))=true->(∀x∈l,aC O w M (aT T x) (e x))->aM (aJ O w M) (l.map (aT T)) (l.map e):=by
     intro l
     induction l with
     |nil=>intro _ _;trivial
     |cons x l ih=>
      intro hc hl;simp only [akd,rJ]at hc;cases hx:kT (aT T x)with
      |false=>rw [hx]at hc;cases hc
      |true=>rw [hx]at hc;exact⟨mh hx (hl x (by simp)),ih hc λy hy=>hl y (ajj _ hy)⟩
    exact key _ aY b5
   ·exact h.elim
  |_=>exact h.elim
end
section
variable{P:Program}{TY:List cV}{w0 w:World}{M0:eE w0}{O:Env}{M:a7}{S S0:ak}{d:Nat}
theorem CL(az:aR P TY){F:Spec}{t:Nat}{T:List AV}{K:AV->Option dQ->Prop}(h:qK TY F d (.alloc t) T S0 K):
  ∃v B,K v B/\QS P d (.alloc t) T S0 v B:=by
 simp only [qK,aq]at h;obtain⟨hl,vI,h⟩:=h
 have bools_cells:∀{l:List AV} {cs:List Value},ji l=true->aM zC l cs->cs=List.replicate l.length (.bool false):=by
  intro l
  induction l with
  |nil=>intro cs _ hr;cases cs with|nil=>rfl|cons=>exact hr.elim
  |cons a l ih=>
   intro cs hz hr;cases cs with
   |nil=>exact hr.elim
   |cons c cs=>
    have yI:a= .bool (.lit false)/\ji l=true:=by
     unfold ji at hz;split at hz
     ·rename_i he;cases he
     ·rename_i he;cases he;exact⟨rfl,hz⟩
     ·cases hz
    obtain⟨rfl,yI⟩:=yI;have h1:c= .bool false:=hr.1 (λ_=>none) default (λ_ _=>False);rw [h1,ih yI hr.2];rfl
 split at h
 ·rename_i Yo
  refine⟨_,_,h,λw0 M0 O M w S' e oo ho hc st he hd=>?_,λ_ hb=>by first|(cases hb;done)|(subst_vars;simp_all)⟩;have bn:(au TY t).zero≠[]:=λhe=>by rw [he]at vI;cases vI
  have aH:=az.at (t:=t) (.inl (by rw [<-dD hl];exact λhe=>bn (akj he)));obtain⟨i,u,hi,AK,_,_,_,hzero⟩:=aH.row;obtain⟨z,gE,uE⟩:=hzero bn;have mM:(zeroValue t).run P w= .ok z w:=by simp [zeroValue,typeInfo,hi,gE]
  have hzz:ji (au TY t).zero=true/\Nat.ble (au TY t).sz 1000000=true:=by
   unfold IA at Yo;split at Yo
   ·split at Yo
    ·exact⟨by assumption,by assumption⟩
    ·cases Yo
   ·cases Yo
  have hlen:=dD hl;have bU:z.cells.toList=List.replicate (au TY t).sz (.bool false):=by rw [<-hlen];exact bools_cells hzz.1 uE.1
  have hcz:z.cells.size=(au TY t).sz:=by rw [<-ajw,bU,ajz]
  have abo:(au TY t).sz<=LB:=by have:=ah hzz.2;simp only [LB];omega
  obtain⟨O',M',h1,h2,h3,h4⟩:=st.push (w':={ w with heap:=w.heap.push (.cells z.cells t) }) (cs:=z.cells) (ty:=t) (own:=.sl ⟨some w.heap.size,(au TY t).sz,(au TY t).sz,1⟩) (B:=.vec 0 (.aI (List.replicate (au TY t).sz false)) []) (hd (by simp)).1 (hd (by simp)).2 rfl (by first|exact kg.refl _|exact⟨⟨rfl,rfl⟩,rfl,akg _⟩) (λ_ h=>(ajN h).symm)
   (λO' M' hρ hM hk fk=>⟨⟨_,hρ,by simp [RO.len],rfl,by simp only [RO.len,ajz];exact abo,ajk _,by
    refine⟨ajl _,z.cells,t,by simp,by simp only [hcz,ajV],λoff=>?_,λq hq=>?_⟩
    ·rw [hM off];simp
    ·have hq:q<(au TY t).sz:=by simpa [RO.cells,RO.len,RO.sz]using hq
     refine⟨.bool false,?_,?_⟩
     ·rw [<-ajt,bU];simp [hq]
     ·simp [ay,List.getElem?_replicate,hq]⟩,.inl rfl⟩)
  refine .val (v:=.pointer (some ⟨w.heap.size,0,none⟩)) (w':={ w with heap:=w.heap.push (.cells z.cells t) }) ?_ ⟨O',M',h1,⟨_,_,iR h2,rfl,aj5 _,?_,by simp⟩,h3,h4⟩
  ·simp [execOp,ho,Instr.alloc,mM,newVar,newRow]
  ·have:0<(au TY t).sz:=by rw [<-hlen];exact List.length_pos_iff.2 bn
   simp only;omega
 refine⟨_,_,h,λw0 M0 O M w S' e oo ho hc st he hd=>?_,λ_ hb=>by first|(cases hb;done)|(subst_vars;simp_all)⟩;have bn:(au TY t).zero≠[]:=λhe=>by rw [he]at vI;cases vI
 have aH:=az.at (t:=t) (.inl (by rw [<-dD hl];exact λhe=>bn (akj he)));obtain⟨i,u,hi,AK,_,_,_,hzero⟩:=aH.row;obtain⟨z,gE,uE⟩:=hzero bn;have mM:(zeroValue t).run P w= .ok z w:=by simp [zeroValue,typeInfo,hi,gE]
 obtain⟨O',M',h1,h2,h3,h4⟩:=st.push (w':={ w with heap:=w.heap.push (.cells z.cells t) }) (cs:=z.cells) (ty:=t) (own:=.bx w.heap.size) (B:=.box (au TY t).zero) (hd (by simp)).1 (hd (by simp)).2 rfl (by first|exact kg.refl _|exact⟨⟨rfl,rfl⟩,rfl,akg _⟩) (λ_ h=>h.symm)
  (λO' M' hρ hM hk fk=>⟨w.heap.size,hρ,z.cells,t,by simp,hM,uE.1.imp λa v h=>h _ _ _⟩)
 refine .val (v:=.pointer (some ⟨w.heap.size,0,none⟩)) (w':={ w with heap:=w.heap.push (.cells z.cells t) }) ?_ ⟨O',M',h1,Db 0 h2,h3,h4⟩;simp [execOp,ho,Instr.alloc,mM,newVar,newRow]
theorem Jj(_hty:aR P TY){F:Spec}{t:Nat}{x:Operand}{T:List AV}{K:AV->Option dQ->Prop}(h:qK TY F d (.box t x) T S0 K):
  ∃v B,K v B/\QS P d (.box t x) T S0 v B:=by
 simp only [qK,aD]at h
 have hor:(iE TY t (aT T x) λm=>K (.ptr d 0) (some (.box m)))\/∃l,aT T x= .ro (.rows .i64 l)/\iE TY t (.ro (.rows .i64 l)) λ_=>K (.eZ (.bH [l]) 0) none:=by
  unfold Yp at h;split at h
  ·rename_i l hx;rw [hx];exact h.imp id λh=>⟨l,rfl,h⟩
  ·exact .inl h
 rcases hor with h|⟨l,uz,h⟩
 rotate_left
 ·obtain⟨m,hK,hlen,hm⟩:=sS h
  refine⟨_,none,hK,λw0 M0 O M w S' e oo ho hc st he hd=>?_,λhq=>by simp [bS,lX]at hq⟩;have hx:=he x (by simp [Op.operands]);rw [uz]at hx;have hx:bd w M (.rows .i64 l) (e x):=hx
  have cT:(e x).cells= #[e x]:=by
   obtain⟨_,a,cap,h1,_⟩:=hx;rw [h1];rfl
  have hs:gH (λ_ _=>False) w { w with heap:=w.heap.push (.cells (e x).cells t) }:=gH.alloc _ w _;obtain⟨st2,hk⟩:=st.same (M':=M) hs (λ_ _ _=>Iff.rfl) (λb off KW=>ajT (st.mlt b off KW) hs.size);refine .val (v:=.pointer (some ⟨w.heap.size,0,none⟩)) (w':={ w with heap:=w.heap.push (.cells (e x).cells t) }) ?_ ⟨O,M,st2,?_,hk,λ_ _ h=>h⟩
  ·simp [execOp,ho,Instr.box,newVar,newRow]
  ·refine⟨w.heap.size,0,1,⟨by simp [RO.len,LB],some ⟨w.heap.size,0,none⟩,1,by simp [RO.len],by simp [RO.len],.inr ⟨w.heap.size,0,rfl,λq hq=>?_⟩⟩,aj5 _,by simp [RO.len],by simp⟩
   have hq:q=0:=by simp [RO.cells,RO.len,RO.sz]at hq;omega
   subst hq;refine⟨e x,?_,λhm=>absurd (st.mlt _ _ hm) (Nat.lt_irrefl _),?_⟩
   ·simp [World.cell?,cT]
   ·show Ph _ M .i64 _ (e x)
    exact jB.1 (bd.keep hk hx)
 obtain⟨m,hK,hlen,hm⟩:=sS h;refine⟨_,_,hK,λw0 M0 O M w S' e oo ho hc st he hd=>?_,λ_ hb=>by first|(cases hb;done)|(subst_vars;simp_all)⟩;have hx:=he x (by simp [Op.operands])
 have bg:aM (aJ O w M) m (e x).cells.toList:=by
  rcases hm with ⟨_,hm⟩|⟨_,hc,rfl⟩
  ·rw [hm]at hx
   obtain⟨cs,h1,h2⟩:=hx;rw [h1];exact h2
  ·have hx:=mh hc hx
   have cT:=aJ.aO hx
   revert hx cT
   cases e x<;>intro hx cT<;>first|exact⟨hx,ag⟩|exact cT.elim
 obtain⟨O',M',h1,h2,h3,h4⟩:=st.push (w':={ w with heap:=w.heap.push (.cells (e x).cells t) }) (cs:=(e x).cells) (ty:=t) (own:=.bx w.heap.size) (B:=.box m) (hd (by simp)).1 (hd (by simp)).2 rfl (by first|exact kg.refl _|exact⟨⟨rfl,rfl⟩,rfl,akg _⟩) (λ_ h=>h.symm)
  (λO' M' hρ hM hk fk=>⟨w.heap.size,hρ,(e x).cells,t,by simp,hM,bg.imp λa v=>aJ.keep hk fk⟩)
 refine .val (v:=.pointer (some ⟨w.heap.size,0,none⟩)) (w':={ w with heap:=w.heap.push (.cells (e x).cells t) }) ?_ ⟨O',M',h1,Db 0 h2,h3,h4⟩;simp [execOp,ho,Instr.box,newVar,newRow]
theorem dg{α:Type}(n q:Nat)(a:α):(List.replicate n a).getD q a=a:=by
 simp only [List.getD,ajH];split<;>rfl
theorem xi{z c:Value}{m q:Nat}(hz:z.cells= #[c])(hq:q<m):(madeCells z.cells m)[q]? =some c:=by
 simp [madeCells,hz,hq,Nat.mod_one]
theorem xj{z c d:Value}{m q:Nat}(hz:z.cells= #[c,d])(hq:q<m):(madeCells z.cells m)[q]? =some (if q % 2=0 then c else d):=by
 simp only [madeCells,hz];have:q % 2=0\/q % 2=1:=aa;rcases this with h|h<;>simp [hq,h]
theorem Gs:∀{l:List AV},rE l=true->l=[.str [],.str []]
 |[.str [],.str []],_=>rfl
theorem Gt:∀{l:List AV},IB l=true->l=[.int .i64 0,.ar,.int .i64 0]
 |[.int .i64 (.ofNat 0),.ar,.int .i64 (.ofNat 0)],_=>rfl
theorem Gu{z c d e:Value}{m q:Nat}(hz:z.cells= #[c,d,e])(hq:q<m):(madeCells z.cells m)[q]? =some (if q % 3=0 then c else if q % 3=1 then d else e):=by
 simp only [madeCells,hz];have:q % 3=0\/q % 3=1\/q % 3=2:=aa;rcases this with h|h|h<;>simp [hq,h]
theorem Gv:∀{l:List AV},IC l=true->l=[.str []]
 |[.str []],_=>rfl
theorem tF:∀{l:List AV},xk l=true->l=[.int .i64 0,.int .i64 0]
 |[.int .i64 (.ofNat 0),.int .i64 (.ofNat 0)],_=>rfl
theorem nK{k:IntKind}:∀{n:Nat} {l:List AV} {cs:List Value},lG k n l=true->aM zC l cs->cs=List.replicate n (.int k 0)
 |0,[],[],_,_=>rfl
 |n+1,a::l,c::cs,h,hr=>by
  obtain⟨h1,h2⟩:=hr;unfold lG at h;split at h
  ·rename_i he;cases he
  ·rename_i n' k' l' hn he
   cases hn;cases he;split at h
   ·rename_i hk
    obtain rfl:=b8 hk;have h1:=(h1 bh default (λ_ _=>False)).1;rw [nK h h2,h1];rfl
   ·cases h
  ·cases h
 |0,_::_,_,h,_=>by simp [lG]at h
 |0,[],_::_,_,hr=>hr.elim
 |_+1,[],_,h,_=>by simp [lG]at h
 |_+1,_::_,[],_,hr=>hr.elim
theorem xl(w:World)(M:a7)(C:Nat->Value->Prop):kN w M 0 C 0 (.slice none 0 0):=⟨none,0,rfl,ajl _,.inl rfl⟩
theorem ng{e n:Nat}{K:RO->Prop}(az:aR P TY)(vI:kz (au TY e).zero=true)(h:pQ TY e n K):
  ∃r,K r/\r.len=n/\∃i z,P.info? e=some i/\i.zero=some z/\i.size=(au TY e).sz/\i.bytes=(au TY e).bytes/\z.cells.size=r.sz/\
   ∀(w:World) (M:a7) q,q<r.cells->∃c,(madeCells z.cells r.cells)[q]? =some c/\ay w M r q c:=by
 have bn:(au TY e).zero≠[]:=λhe=>by rw [he]at vI;cases vI
 have get:(au TY e).d≠.other->∃i z,P.info? e=some i/\i.zero=some z/\i.size=(au TY e).sz/\i.bytes=(au TY e).bytes/\Gl (au TY e) z:=by
  intro hd;obtain⟨i,u,hi,hu,h1,h2,_,hzero⟩:=(az.at (t:=e) (.inr hd)).row;obtain⟨z,gE,uE⟩:=hzero bn;exact⟨i,z,hi,gE,h1,h2,uE⟩
 have one:∀(r:RO),r.sz=1->r.len=n->K r->(au TY e).d≠.other->(∀z,Ed (au TY e).d z->∃c,z.cells= #[c]/\∀w M q,ay w M r q c)->
   ∃r,K r/\r.len=n/\∃i z,P.info? e=some i/\i.zero=some z/\i.size=(au TY e).sz/\i.bytes=(au TY e).bytes/\z.cells.size=r.sz/\
   ∀(w:World) (M:a7) q,q<r.cells->∃c,(madeCells z.cells r.cells)[q]? =some c/\ay w M r q c:=by
  intro r hs hl hK hd hc;obtain⟨i,z,h1,h2,h3,h4,h5⟩:=get hd;obtain⟨c,h6,h7⟩:=hc z h5.2.2.2.1;exact⟨r,hK,hl,i,z,h1,h2,h3,h4,by rw [h6,hs];rfl,λw M q hq=>⟨c,xi h6 hq,h7 w M q⟩⟩
 unfold pQ sn at h;split at h
 ·rename_i k hd
  exact one _ rfl (by simp [RO.len]) h (by rw [hd];simp) λz hz=>by
   rw [hd]at hz;have hz:z= .int k 0:=hz;subst hz;exact⟨_,rfl,λw M q=>by simp only [ay,dg];exact⟨ag,kA k⟩⟩
 ·rename_i hd
  exact one _ rfl (by simp [RO.len]) h (by rw [hd];simp) λz hz=>by
   rw [hd]at hz;have hz:z= .bool false:=hz;subst hz;exact⟨_,rfl,λw M q=>by simp only [ay,dg]⟩
 ·rename_i hd
  rw [aq]at h;obtain⟨xX,h⟩:=h;obtain⟨i,z,h1,h2,h3,h4,h5⟩:=get (by rw [hd];simp);have h6:=h5.1;rw [Gv xX]at h6
  obtain⟨c,Xh,hc⟩:∃c,z.cells= #[c]/\c= .string (cv []):=by
   match hc:z.cells.toList,h6 with
   |[a],h6=>exact⟨a,by simpa using ajs List.toArray hc,(h6.1 bh default (λ_ _=>False)).1⟩
  refine⟨_,h,by simp [RO.len],i,z,h1,h2,h3,h4,by rw [Xh];rfl,λw M q hq=>⟨c,xi Xh hq,?_⟩⟩;simp only [ay,dg];exact⟨hc,by simp⟩
 ·rename_i f hd
  have yI:∀z,Ed (au TY e).d z->z= .slice none 0 0:=λz hz=>by rw [hd]at hz;exact hz
  split at h
  ·exact one _ rfl (by simp [RO.len]) h (by rw [hd];simp) λz hz=>by
    rw [yI z hz];exact⟨_,rfl,λw M q=>by simp only [ay,dg];exact⟨ajk _,xl _ _ _⟩⟩
  ·exact one _ rfl (by simp [RO.len]) h (by rw [hd];simp) λz hz=>by
    rw [yI z hz];exact⟨_,rfl,λw M q=>by simp only [ay,dg];exact⟨ajk _,xl _ _ _⟩⟩
  ·split at h
   ·exact one _ rfl (by simp [RO.len]) h (by rw [hd];simp) λz hz=>by
     rw [yI z hz];exact⟨_,rfl,λw M q=>by simp only [ay,dg];exact⟨ajk _,xl _ _ _⟩⟩
   ·exact h.elim
  ·split at h
   ·exact one _ rfl (by simp [RO.len]) h (by rw [hd];simp) λz hz=>by
     rw [yI z hz];exact⟨_,rfl,λw M q=>by simp only [ay,dg];exact⟨ajk _,xl _ _ _⟩⟩
   ·exact h.elim
  ·exact h.elim
 ·rename_i f hd
  split at h
  ·rw [aq]at h
   obtain⟨Yq,h⟩:=h;obtain⟨i,z,h1,h2,h3,h4,h5⟩:=get (by rw [hd];simp);obtain⟨cs,rfl⟩:=h5.2.1 (by rw [hd];rfl);have h6:=h5.1;rw [tF Yq]at h6
   have bU:cs= #[.int .i64 0,.int .i64 0]:=by
    match hc:cs.toList,h6 with
    |[a,b],h6=>
     obtain⟨ha,hb,_⟩:=h6;have ha:=(ha bh default (λ_ _=>False)).1;have hb:=(hb bh default (λ_ _=>False)).1;subst ha;subst hb
     simpa using ajs List.toArray hc
   subst bU;refine⟨_,h,by simp [RO.len],i,_,h1,h2,h3,h4,rfl,λw M q hq=>⟨_,xj rfl hq,?_⟩⟩;simp only [ay,dg];split<;>exact⟨rfl,kA _⟩
  ·exact h.elim
 ·rename_i n' f _ hd
  split at h
  ·rename_i k _
   rw [aq]at h;obtain⟨Yq,h⟩:=h;obtain⟨i,z,h1,h2,h3,h4,h5⟩:=get (by rw [hd];simp);obtain⟨cs,rfl⟩:=h5.2.1 (by rw [hd];rfl);have h6:cs.toList=_:=nK Yq h5.1;refine⟨_,h,by simp [RO.len],i,_,h1,h2,h3,h4,by simpa [RO.sz,Value.cells]using ajs List.length h6,λw M q hq=>⟨.int k 0,?_,?_⟩⟩
   ·have bU:cs=(List.replicate (n'+2) (Value.int k 0)).toArray:=by simpa using ajs List.toArray h6
    subst bU;simp only [madeCells,Value.cells];have hp:q % (n'+2)<n'+2:=Nat.mod_lt _ (ako _);simp [hq,hp]
   ·simp only [ay]
    have:(List.getD (List.replicate n (List.replicate (n'+2) (0:Int))) (q / (n'+2)) []).getD (q % (n'+2)) 0=0:=by
     simp only [List.getD,ajH];split<;>simp [List.getElem?_replicate]
     split<;>rfl
    rw [this];exact⟨rfl,kA k⟩
  ·exact h.elim
 ·rename_i fs hd
  split at h
  ·rename_i hzf
   obtain⟨i,z,h1,h2,h3,h4,h5⟩:=get (by rw [hd];simp);obtain⟨cs,rfl⟩:=h5.2.1 (by rw [hd];rfl);have h6:=h5.1;rw [Gs hzf]at h6
   have bU:cs= #[.string (cv []),.string (cv [])]:=by
    match hc:cs.toList,h6 with
    |[a,b],h6=>
     obtain⟨ha,hb,_⟩:=h6;have ha:=(ha bh default (λ_ _=>False)).1;have hb:=(hb bh default (λ_ _=>False)).1;subst ha;subst hb
     simpa using ajs List.toArray hc
   subst bU;refine⟨_,h,by simp [RO.len],i,_,h1,h2,h3,h4,rfl,λw M q hq=>⟨_,xj rfl hq,?_⟩⟩;simp only [ay,dg];split<;>exact⟨rfl,by simp⟩
  ·split at h
   ·rename_i hzf
    obtain⟨i,z,h1,h2,h3,h4,h5⟩:=get (by rw [hd];simp);obtain⟨cs,rfl⟩:=h5.2.1 (by rw [hd];rfl);have h6:=h5.1;rw [Gt hzf]at h6
    have bU:cs= #[.int .i64 0,.slice none 0 0,.int .i64 0]:=by
     match hc:cs.toList,h6 with
     |[a,b,c],h6=>
      obtain⟨ha,hb,V4,_⟩:=h6;have ha:=(ha bh default (λ_ _=>False)).1;have hb:b= .slice none 0 0:=hb bh default (λ_ _=>False);have V4:=(V4 bh default (λ_ _=>False)).1;subst ha;subst hb;subst V4
      simpa using ajs List.toArray hc
    subst bU;refine⟨_,h,by simp [RO.len],i,_,h1,h2,h3,h4,rfl,λw M q hq=>⟨_,Gu rfl hq,?_⟩⟩;simp only [ay,dg];split
    ·exact⟨rfl,kA _⟩
    ·split
     ·exact⟨ajk _,xl _ _ _⟩
     ·exact⟨rfl,kA _⟩
   ·rw [aq]at h
    obtain⟨Yq,h⟩:=h;obtain⟨i,z,h1,h2,h3,h4,h5⟩:=get (by rw [hd];simp);obtain⟨cs,rfl⟩:=h5.2.1 (by rw [hd];rfl);have h6:=h5.1;rw [tF Yq]at h6
    have bU:cs= #[.int .i64 0,.int .i64 0]:=by
     match hc:cs.toList,h6 with
     |[a,b],h6=>
      obtain⟨ha,hb,_⟩:=h6;have ha:=(ha bh default (λ_ _=>False)).1;have hb:=(hb bh default (λ_ _=>False)).1;subst ha;subst hb
      simpa using ajs List.toArray hc
    subst bU;refine⟨_,h,by simp [RO.len],i,_,h1,h2,h3,h4,rfl,λw M q hq=>⟨_,xj rfl hq,?_⟩⟩;simp only [ay,dg];split<;>exact⟨rfl,kA _⟩
 ·exact h.elim
theorem Yr{r:RO}(hr:nL r=true)(q:Nat):(r.row q).sz=1:=by cases r<;>first|rfl|cases hr
theorem Gw{e n:Nat}{K:RO->Prop}(h:pQ TY e n K):pQ TY e n λr=>K r/\(nL r=true->(∀q,(r.row q).len=0)/\∃f,(au TY e).d= .slice f):=by
 unfold pQ sn at*;split at h
 ·exact⟨h,λh=>by cases h⟩
 ·exact⟨h,λh=>by cases h⟩
 ·rw [aq]at h ⊢
  exact⟨h.1,h.2,λh=>by cases h⟩
 ·rename_i f hd
  split at h
  ·exact⟨h,λ_=>⟨λq=>by simp only [RO.row,dg];rfl,f,hd⟩⟩
  ·exact⟨h,λ_=>⟨λq=>by simp only [RO.row,dg];rfl,f,hd⟩⟩
  ·split at h
   ·exact⟨h,λ_=>⟨λq=>by simp only [RO.row,dg];rfl,f,hd⟩⟩
   ·exact h.elim
  ·split at h
   ·exact⟨h,λh=>by cases h⟩
   ·exact h.elim
  ·exact h.elim
 ·split at h
  ·rw [aq]at h ⊢
   exact⟨h.1,h.2,λh=>by cases h⟩
  ·exact h.elim
 ·split at h
  ·rw [aq]at h ⊢
   exact⟨h.1,h.2,λh=>by cases h⟩
  ·exact h.elim
 ·split at h
  ·rename_i hz
   simp only [hz];exact⟨h,λh=>by cases h⟩
  ·rename_i hz
   simp only [hz];split at h
   ·rename_i uE
    exact⟨h,λh=>by cases h⟩
   ·rename_i uE
    try simp only [uE]
    rw [aq]at h ⊢;exact⟨h.1,h.2,λh=>by cases h⟩
 ·exact h.elim
theorem Fu(az:aR P TY){F:Spec}{t:Nat}{l c:Operand}{T:List AV}{K:AV->Option dQ->Prop}(h:qK TY F d (.makeSlice t l c) T S0 K):
  ∃v B,K v B/\QS P d (.makeSlice t l c) T S0 v B:=by
 simp only [qK,aD]at h;split at h
 ·rename_i e hd
  obtain⟨kl,ln,hl,h⟩:=dU h;obtain⟨kc,cn,hc,⟨h0,h1⟩,h⟩:=dU h;obtain⟨h2,_,h⟩:=rK h aa
  have hz:kz (au TY e).zero=true:=by
   unfold pQ sn at h
   revert h
   repeat' split
   all_goals (intro h;first|exact h.elim|(simp only [aq]at h;first|exact h.2.1|exact h.2.2.1))
  obtain⟨r,⟨hK,Cw⟩,hlen,i,z,hi,gE,bu,tY,xX,cT⟩:=ng az hz (Gw h);rw [aq,aq,aq]at hK;obtain⟨abq,_,aY,hK⟩:=hK;rw [Nat.ble_eq]at abq;obtain⟨e',iK,hu,oT,aH⟩:=bW az aY;rw [hd]at iK;cases iK
  have hK2:∃B,K (.vec d) (some B)/\(B= .vec 0 r []\/(B= .deep r none/\nL r=true)\/∃k l,r= .rows k l/\B= .vec 0 (.cY k l) []):=by
   unfold Ys at hK;split at hK
   ·exact⟨_,hK,.inl rfl⟩
   ·rename_i hq
    rcases hK with hK|hK|hK
    ·exact⟨_,hK,.inl rfl⟩
    ·exact⟨_,hK,.inr (.inl ⟨rfl,hq⟩)⟩
    ·split at hK
     ·exact⟨_,hK,.inr (.inr ⟨_,_,rfl,rfl⟩)⟩
     ·exact hK.elim
  obtain⟨B,hK,Xr⟩:=hK2;refine⟨_,_,hK,λw0 M0 O M w S' ev oo ho hcm st he Mc=>?_,λ_ hb=>by rcases Xr with rfl|⟨rfl,_⟩|⟨_,_,_,rfl⟩<;>cases hb⟩;have Ff:=he l (by simp [Op.operands]);have hec:=he c (by simp [Op.operands]);rw [hl]at Ff;rw [hc]at hec;have hb:(i.bytes:Int)*cn<=281474976710656:=by rw [tY,Int.mul_comm];omega
  have abr:0<=cn:=aa
  have V3:cn<=140737488355328:=by
   have h3:cn*1<=cn*((au TY e).bytes:Int):=Int.mul_le_mul_of_nonneg_left aa abr;omega
  have aN:=run_make (P:=P) w t e i z hu hi gE kl kc ln cn h0 h1 hb aa;have R6:i.size=r.sz:=by rw [bu,oT]
  have hw:(w.alloc (.cells (madeCells z.cells (cn.toNat*i.size)) e)).heap=w.heap.push (.cells (madeCells z.cells (cn.toNat*i.size)) e (0,0)):=rfl;have hle:r.cells<=cn.toNat*i.size:=by rw [R6];simp only [RO.cells,hlen];exact ajO _ aa
  have OB:∀q,q<r.cells->(madeCells z.cells (cn.toNat*i.size))[q]? =(madeCells z.cells r.cells)[q]? :=λq hq=>by
   simp [madeCells,hq,Nat.lt_of_lt_of_le hq hle]
  have Yt:∃O' M',St M0 O' M' ((d,B)::S') (w.alloc (.cells (madeCells z.cells (cn.toNat*i.size)) e))/\(O' d).bind b6.yM=some ⟨some w.heap.size,r.len,cn.toNat,r.sz⟩/\bE w M (w.alloc (.cells (madeCells z.cells (cn.toNat*i.size)) e)) M'/\∀k o,O k=some o->O' k=some o:=by
   have TK:nL r=true->(∀q,(r.row q).len=0)/\∀(q:Nat) (c:Value),(madeCells z.cells r.cells)[q]? =some c->c=cG.val:=by
    intro BS;obtain⟨h1,f,UH⟩:=Cw BS;refine⟨h1,λq c hc=>?_⟩;obtain⟨i',u,Aa,_,_,_,_,hzero⟩:=(az.at (t:=e) (.inr (by rw [UH];simp))).row;rw [hi]at Aa;cases Aa;obtain⟨z',yI,SY⟩:=hzero λhe=>by rw [he]at hz;cases hz
    rw [gE]at yI;cases yI;have SY:=SY.2.2.2.1;rw [UH]at SY;have SY:z= .slice none 0 0:=SY;subst SY
    have hq:q<r.cells:=by
     rcases ajF q r.cells with h|h
     ·exact h
     ·rw [ajD (by simp [size_madeCells];exact h)]at hc;cases hc
    have u5:r.sz=1:=lq BS;have:=xi (z:=.slice none 0 0) (c:=.slice none 0 0) rfl hq;rw [hc]at this;exact ajN this
   rcases Xr with rfl|⟨rfl,BS⟩|⟨kk,ll,rfl,rfl⟩
   ·obtain⟨O',M',g1,g2,g3,g4⟩:=st.push (own:=.sl ⟨some w.heap.size,r.len,cn.toNat,r.sz⟩) (B:=.vec 0 r []) (Mc (by simp)).1 (Mc (by simp)).2 hw (by first|exact kg.refl _|exact⟨⟨rfl,rfl⟩,rfl,akg _⟩) (λ_ h=>(ajN h).symm)
     (λO' M' hρ hM hk fk=>⟨⟨_,hρ,rfl,rfl,by simp only [LB];omega,ajk _,by
      refine⟨by simp only;omega,madeCells z.cells (cn.toNat*i.size),e,by rw [hw];simp,by simp only [size_madeCells,R6],λoff=>?_,λq hq=>?_⟩
      ·rw [hM off];simp
      ·obtain⟨c,g5,g6⟩:=cT _ M' q hq
       exact⟨c,by rw [OB q hq];exact g5,g6⟩⟩,.inl rfl⟩)
    exact⟨O',M',g1,iR g2,g3,g4⟩
   ·have u5:r.sz=1:=lq BS
    have mN:=TK BS;have En:∀q,(List.replicate r.len cG).getD q cG=cG:=λq=>by simp only [List.getD,ajH];split<;>rfl
    obtain⟨O',M',g1,g2,g3,g4⟩:=st.push (own:=.dp ⟨some w.heap.size,r.len,cn.toNat,r.sz⟩ (List.replicate r.len cG)) (B:=.deep r none) (Mc (by simp)).1 (Mc (by simp)).2 hw (by first|exact kg.refl _|exact⟨⟨rfl,rfl⟩,rfl,akg _⟩)
     (λb h=>by
      rcases h with h|⟨q,h⟩
      ·exact(ajN h).symm
      ·rw [En]at h;cases h)
     (λO' M' hρ hM hk fk=>⟨_,_,hρ,{
      rq:=BS,len:=rfl,Pd:=u5,lb:=by simp only [LB];omega,Gx:=by simp
      outer:=by
       refine⟨by simp only;omega,madeCells z.cells (cn.toNat*i.size),e,by rw [hw];simp,by simp only [size_madeCells,R6,u5,ajV],λoff=>hM off,λq hq=>?_⟩;obtain⟨c,g5,g6⟩:=cT (w.alloc (.cells (madeCells z.cells (cn.toNat*i.size)) e)) M' q (by simp [RO.cells,u5,hq]);refine⟨c,by rw [OB q (by simp [RO.cells,u5,hq])];exact g5,.inr ?_⟩;rw [En];exact mN.2 q c g5
      row:=λq hq _=>by
       rw [En];have:=mN.1 q;refine⟨by rw [this];rfl,by rw [Yr BS];rfl,by rw [this];exact ajk _,ajk _,this,rfl⟩
      M4:=λi h=>by cases h
      out:=λq b h=>by rw [En]at h;cases h
      apart:=λq q' b h=>by rw [En]at h;cases h }⟩)
    exact⟨O',M',g1,oV g2,g3,g4⟩
   ·have mV:(RO.cY kk ll).len=(RO.rows kk ll).len:=rfl
    obtain⟨O',M',g1,g2,g3,g4⟩:=st.push (own:=.sl ⟨some w.heap.size,(RO.rows kk ll).len,cn.toNat,(RO.rows kk ll).sz⟩) (B:=.vec 0 (.cY kk ll) []) (Mc (by simp)).1 (Mc (by simp)).2 hw (by first|exact kg.refl _|exact⟨⟨rfl,rfl⟩,rfl,akg _⟩) (λ_ h=>(ajN h).symm)
     (λO' M' hρ hM hk fk=>⟨⟨_,hρ,rfl,rfl,by simp only [LB,mV];omega,ajk _,by
      refine⟨by simp only;omega,madeCells z.cells (cn.toNat*i.size),e,by rw [hw];simp,by simp only [size_madeCells,R6],λoff=>?_,λq hq=>?_⟩
      ·rw [hM off];simp
      ·obtain⟨c,g5,g6⟩:=cT _ M' q hq
       refine⟨c,by rw [OB q hq];exact g5,g6,λ_=>(TK rfl).2 q c g5⟩⟩,.inl rfl⟩)
    exact⟨O',M',g1,iR g2,g3,g4⟩
  obtain⟨O',M',g1,g2,g3,g4⟩:=Yt;refine .val (v:=.slice (some ⟨w.heap.size,0,none⟩) ln.toNat cn.toNat) (w':=w.alloc (.cells (madeCells z.cells (cn.toNat*i.size)) e)) ?_ ⟨O',M',g1,⟨_,g2,by simp [Sl.val,hlen]⟩,g3,g4⟩;have abt:ev l= .int kl ln:=Ff.1;have abu:ev c= .int kc cn:=hec.1;simp [execOp,ho,abt,abu,aN]
 ·exact h.elim
end
end Go.AM
end
