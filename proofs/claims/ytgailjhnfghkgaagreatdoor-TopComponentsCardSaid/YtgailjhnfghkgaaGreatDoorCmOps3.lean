import Derived.Test.YtgailjhnfghkgaaGreatDoorAmRet
import Derived.Laws.StructEq
section
namespace Go.CM
open Go Go.AM
noncomputable section
inductive Cp where
 |n (n:Nat)|g|u
inductive CC where
 |int (k:IntKind) (n:Int)|bool (b:Bool)|str (s:List Nat)|ptr (k off:Nat)|dO|sl (k off len:Nat) (cap:Cp)|ar|mp (k:Nat)|bO|fn (f:FuncId)|aK|XU
inductive CW where
 |c (x:CC)|a (l:List CC)
inductive CV where
 |c (x:CC)|a (l:List CC)|t (l:List CW)|Ts (f:FuncId) (l:List CC)|U9
inductive CO where
 |cells (l:List CC) (g:Option (Nat × Nat))|map (es:List (CW × CW))
inductive Tr (α:Type) where
 |lf|nd (l:Tr α) (x:Option α) (r:Tr α)
def Tr.get{α:Type}(t:Tr α):Nat->Option α:=
 Tr.rec (motive:=λ_=>Nat->Option α) (λ_=>none) (λ_ x _ gl gr n=>Nat.rec (motive:=λ_=>Option α) x (λm _=>Nat.rec (motive:=λ_=>Option α) (gl (m / 2)) (λ_ _=>gr (m / 2)) (m % 2)) n) t
def Tr.one{α:Type}:Nat->Nat->Option α->Tr α
 |0,_,_=>.lf
 |f+1,n,v=>match n with|0=>.nd .lf v .lf|n+1=>(match n % 2 with|0=>.nd (Tr.one f (n / 2) v) none .lf|_=>.nd .lf none (Tr.one f (n / 2) v))
def Tr.put{α:Type}(t:Tr α):Nat->Option α->Tr α:=
 Tr.rec (motive:=λ_=>Nat->Option α->Tr α) (λn v=>Tr.one (n+1) n v) (λl x r pl pr n v=>Nat.rec (motive:=λ_=>Tr α) (.nd l v r) (λm _=>Nat.rec (motive:=λ_=>Tr α) (.nd (pl (m / 2) v) x r) (λ_ _=>.nd l x (pr (m / 2) v)) (m % 2)) n) t
def bo{α β:Type}(x:Option α)(f:α->Option β):Option β:=Option.rec (motive:=λ_=>Option β) none f x
def bt{β:Type}(b:Bool)(x:Option β):Option β:=Bool.rec (motive:=λ_=>Option β) none x b
structure HS where
 H:Tr CO
 nx:Nat
 wb:Nat
 wr:List Nat
def G9(n:Nat × Nat):List (Nat × Nat)->Bool
 |[]=>false|m::l=>match Nat.beq n.1 m.1&&Nat.beq n.2 m.2 with|true=>true|false=>G9 n l
def wC(n:Nat):List Nat->Bool
 |[]=>false|m::l=>match Nat.beq n m with|true=>true|false=>wC n l
def wrote(wb k:Nat)(wr:List Nat):List Nat:=match Nat.ble wb k with|true=>wr|false=>match wC k wr with|true=>wr|false=>k::wr
def pD(wb:Nat):List Nat->List Nat->List Nat
 |[],wr=>wr|k::l,wr=>pD wb l (wrote wb k wr)
def uk(a b:Nat):Nat:=match Nat.ble a b with|true=>a|false=>b
def HS.new(s:HS)(o:CO):HS:=⟨s.H.put s.nx (some o),s.nx+1,s.wb,s.wr⟩
def HS.put(s:HS)(k:Nat)(o:CO):HS:=⟨s.H.put k (some o),s.nx,s.wb,wrote s.wb k s.wr⟩
structure cW where
 n:Nat
 t:Tr CV
def l9(T:cW)(i:Nat):CV:=match T.t.get i with|some v=>v|none=>.U9
def J1(T:cW)(d:Nat)(v:CV):Option cW:=bt (Nat.ble (d+1) T.n) (some ⟨T.n,T.t.put d (some v)⟩)
def oI(d:Option Nat)(T:cW)(v:CV):Option cW:=match d with|none=>some T|some d=>J1 T d v
def sG:List UInt8->List Nat
 |[]=>[]|b::l=>b.toNat::sG l
def nw:Value->Option CC
 |.int k n=>bt (yd k n) (some (.int k n))|.bool b=>some (.bool b)|.string s=>some (.str (sG s.data.toList))
 |.slice a n c=>(match a,n,c with|none,0,0=>some .ar|_,_,_=>none)|.pointer a=>(match a with|none=>some .dO|_=>none)|.map a=>(match a with|none=>some .bO|_=>none)|.nilFunc=>some .aK|.nilIface=>some .XU|_=>none
def consts:List Value->Option (List CC)
 |[]=>some []|v::l=>bo (nw v) λx=>bo (consts l) λm=>some (x::m)
def HM(x:Option CV):CV:=match x with|some v=>v|none=>.U9
def Nd(v:Value):CV:=
 match v with
 |.agg cs=>HM (bo (consts cs.toList) λl=>some (.a l))
 |v=>HM (bo (nw v) λx=>some (.c x))
def cP(T:cW):Operand->CV
 |.tmp t=>l9 T t|.const v=>Nd v|.func f=>.c (.fn f)|.global _=>.U9
def Rj(T:cW):List Operand->List CV
 |[]=>[]|x::l=>cP T x::Rj T l
def ye:CV->Option CC|.c x=>some x|_=>none
def Va:CV->Option (List CC)|.a l=>some l|_=>none
def asT:CV->Option (List CW)|.t l=>some l|_=>none
def WB:CV->Option CW|.c x=>some (.c x)|.a l=>some (.a l)|_=>none
def WC:CW->CV|.c x=>.c x|.a l=>.a l
def XV(v:CV):Option Bool:=bo (ye v) λx=>match x with|.bool b=>some b|_=>none
def O5(v:CV):Option (IntKind × Int):=bo (ye v) λx=>match x with|.int k n=>some (k,n)|_=>none
def I8:Int->Option Nat|.ofNat n=>some n|.negSucc _=>none
def WD(v:CV):Option Nat:=bo (O5 v) λp=>I8 p.2
def Uk(v:CV):Option (Nat × Nat):=bo (ye v) λx=>match x with|.ptr k off=>some (k,off)|_=>none
structure Po where
 k:Nat
 off:Nat
 len:Nat
 cap:Cp
def Zn(v:CV):Option Po:=bo (ye v) λx=>match x with|.sl k off len cap=>some ⟨k,off,len,cap⟩|_=>none
def Vb(T:cW):List Operand->Option (List CC)
 |[]=>some []|x::l=>bo (ye (cP T x)) λa=>bo (Vb T l) λm=>some (a::m)
def J2(T:cW)(x:Option Operand):Option (Option Nat):=match x with|none=>some none|some x=>bo (WD (cP T x)) λn=>some (some n)
def nA:List CC->Nat->Option (List CC)
 |l,n=>match n with|0=>some []|n+1=>match l with|[]=>none|a::l=>bo (nA l n) λm=>some (a::m)
def wD:List CC->Nat->List CC
 |l,n=>match n with|0=>l|n+1=>match l with|[]=>[]|_::l=>wD l n
def y4(l:List CC)(off n:Nat):Option (List CC):=nA (wD l off) n
def Tt:List CC->Option CC|[]=>none|a::_=>some a
def y5:List CC->List CC->Option (List CC)
 |l,m=>match m with|[]=>some l|b::m=>match l with|[]=>none|_::l=>bo (y5 l m) λr=>some (b::r)
def iO:List CC->Nat->List CC->Option (List CC)
 |l,n,m=>match n with|0=>y5 l m|n+1=>match l with|[]=>none|a::l=>bo (iO l n m) λr=>some (a::r)
def wE:List CC->Nat->Bool
 |[],n=>(match n with|0=>true|_+1=>false)|_::l,n=>(match n with|0=>false|n+1=>wE l n)
abbrev Zs:=List (List CC)
def um:Zs->Nat->List CC
 |[],_=>[]|a::l,n=>match n with|0=>a|n+1=>um l n
abbrev WY:=FuncId->List CV->HS->Option (CV × HS)
structure Ev where
 TY:List cV
 TZ:Zs
 call:WY
 eqs:List Nat
 FW:List (Nat × Nat)
def Ev.d(E:Ev)(t:Nat):HN:=(au E.TY t).d
def Ev.sz(E:Ev)(t:Nat):Nat:=(au E.TY t).sz
def Ev.z(E:Ev)(t:Nat):List CC:=um E.TZ t
def Ev.agg(E:Ev)(t:Nat):Bool:=bN (au E.TY t).d
def pE(E:Ev)(t:Nat)(v:CV):Option (List CC):=
 match E.agg t with
 |true=>bo (Va v) λl=>bt (wE l (E.sz t)) (some l)
 |false=>bo (ye v) λx=>bt (Nat.beq (E.sz t) 1) (some [x])
def oZ(E:Ev)(t:Nat)(l:List CC)(off:Nat):Option CW:=
 match E.agg t with
 |true=>bo (y4 l off (E.sz t)) λm=>some (.a m)
 |false=>bt (Nat.beq (E.sz t) 1) (bo (Tt (wD l off)) λx=>some (.c x))
def wF(k:IntKind)(n:Int):CC:=match yd k n with|true=>.int k n|false=>.int k (k.wrap n)
def A6(b:Bool):Bool:=match b with|true=>false|false=>true
def Rk(op:BinOp)(k:IntKind)(a b:Int):Option CC:=
 match op with
 |.lss=>some (.bool (decide (a<b)))|.leq=>some (.bool (decide (a<=b)))|.gtr=>some (.bool (decide (b<a)))|.geq=>some (.bool (decide (b<=a)))
 |.eql=>some (.bool (a==b))|.neq=>some (.bool (A6 (a==b)))
 |.add=>some (wF k (a+b))|.sub=>some (wF k (a - b))|.mul=>some (wF k (a*b))
 |.quo=>bt (A6 (b==0)) (some (wF k (a.tdiv b)))
 |.rem=>bt (A6 (b==0)) (some (wF k (a.tmod b)))
 |.and=>some (.int k (J3 k a b))|.or=>some (.int k (WE k a b))
 |_=>none
def XW(op:BinOp)(k:IntKind)(a:Int)(k':IntKind)(b:Int):Option CC:=
 match op with
 |.shl=>bt (decide (0<=b)) (some (wF k (Dx k a b)))|.shr=>bt (decide (0<=b)) (some (wF k (Dy k a b)))
 |op=>bt (kq k k') (Rk op k a b)
def HO:List Nat->List Nat->Bool
 |[],m=>(match m with|[]=>true|_::_=>false)|a::l,m=>(match m with|[]=>false|b::m=>(match Nat.beq a b with|true=>HO l m|false=>false))
def yf(op:BinOp)(e:Bool):Option CC:=match op with|.eql=>some (.bool e)|.neq=>some (.bool (A6 e))|_=>none
def aaR(op:BinOp)(a b:List Nat):Option CC:=yf op (HO a b)
def A7:CC->Bool|.bO=>true|_=>false
def FX:HN->Bool|.map _ _=>true|_=>false
def A8:CC->Bool|.ar=>true|_=>false
def aaS(E:Ev)(op:BinOp)(t:Nat)(x y:CC):Option CC:=
 match x with
 |.int k a=>(match y with|.int k' b=>XW op k a k' b|_=>none)
 |.bool a=>(match y with|.bool b=>bt (q8 E.TY t) (yf op (a==b))|_=>none)
 |.str a=>(match y with|.str b=>aaR op a b|_=>none)
 |.sl _ _ _ _=>bt (A8 y) (bt (iP E.TY t) (yf op false))
 |.ar=>bt (A8 y) (bt (iP E.TY t) (yf op true))
 |.mp _=>bt (A7 y) (bt (FX (E.d t)) (yf op false))
 |.bO=>bt (A7 y) (bt (FX (E.d t)) (yf op true))
 |_=>none
def eqC(x y:CC):Option Bool:=
 match x with
 |.int k a=>(match y with|.int k' b=>bt (kq k k') (some (a==b))|_=>none)
 |.str a=>(match y with|.str b=>some (HO a b)|_=>none)
 |.bool a=>(match y with|.bool b=>some (a==b)|_=>none)
 |_=>none
def WG:List CC->List CC->Option Bool
 |[],m=>(match m with|[]=>some true|_=>none)|a::l,m=>(match m with|[]=>none|b::m=>bo (eqC a b) λe=>match e with|true=>WG l m|false=>bo (WG l m) λ_=>some false)
def eqW(x y:CW):Option Bool:=match x with|.c a=>(match y with|.c b=>eqC a b|_=>none)|.a l=>(match y with|.a m=>WG l m|_=>none)
def y6:List (CW × CW)->CW->Nat->Option (Option (Nat × CW))
 |[],_,_=>some none
 |p::m,k,i=>bo (eqW k p.1) λe=>match e with|true=>some (some (i,p.2))|false=>y6 m k (i+1)
def lA:List (CW × CW)->Nat->CW->CW->List (CW × CW)
 |[],_,_,_=>[]|p::m,i,k,v=>match i with|0=>(k,v)::m|i+1=>p::lA m i k v
def tv(E:Ev)(t:Nat):Option (Nat × Nat):=match E.d t with|.map k e=>some (k,e)|_=>none
def J4:List (CW × CW)->Nat->Nat
 |[],n=>n|_::l,n=>J4 l (n+1)
def pF(k:IntKind):List CC->Bool
 |[]=>true|x::l=>match x with|.int k' _=>(match kq k k' with|true=>pF k l|false=>false)|_=>false
def pG(E:Ev)(t:Nat)(l:List CC):Bool:=
 match E.d t with
 |.arr n e=>(match wE l n with|true=>(match Nat.beq (E.sz e) 1 with|true=>(match E.d e with|.int k=>pF k l|_=>false)|false=>false)|false=>false)
 |_=>false
def XX:CW->Bool|.c _=>true|.a _=>false
def y7(E:Ev)(t:Nat)(k:CW):Bool:=
 match k with
 |.c x=>(match x with
  |.int k' _=>(match E.d t with|.int k=>kq k k'|_=>false)
  |.str _=>(match E.d t with|.str=>true|_=>false)
  |.bool _=>(match E.d t with|.bool=>true|_=>false)
  |_=>false)
 |.a l=>pG E t l
def Nf(E:Ev)(t:Nat):Option CW:=
 match E.agg t with
 |true=>bt (wE (E.z t) (E.sz t)) (match E.z t with|[]=>none|a::l=>some (.a (a::l)))
 |false=>(match E.z t with|[x]=>some (.c x)|_=>none)
def Dz(z:List CC):Nat->List CC->List CC
 |0,acc=>acc|n+1,acc=>Dz z n (z++acc)
def nB(E:Ev)(t:Nat):Option Nat:=match E.d t with|.slice e=>some e|_=>none
def HP(E:Ev)(T:cW)(e:Nat):List (Nat × Operand)->List CC->Option (List CC)
 |[],l=>some l
 |p::ps,l=>bo (pE E e (cP T p.2)) λm=>bo (iO l (p.1*E.sz e) m) λl'=>HP E T e ps l'
def Ng(E:Ev)(T:cW)(fs:List (Nat × Nat)):List (Nat × Operand)->List CC->Option (List CC)
 |[],l=>some l
 |p::ps,l=>bo (de fs p.1) λq=>bo (pE E q.2 (cP T p.2)) λm=>bo (iO l q.1 m) λl'=>Ng E T fs ps l'
def kQ(n:Nat):Bool:=Nat.ble n 1000000
def XY(s:HS)(k:Nat):Option CO:=s.H.get k
def jq(s:HS)(k:Nat):Option (List CC × Option (Nat × Nat)):=bo (XY s k) λo=>match o with|.cells l g=>some (l,g)|_=>none
def Rl(s:HS)(k:Nat):Option (List (CW × CW)):=bo (XY s k) λo=>match o with|.map es=>some es|_=>none
def A9(s:HS)(k off n:Nat):Option (List CC):=bo (jq s k) λp=>y4 p.1 off n
def Ba(k off sz l h m:Nat):CC:=match Nat.beq m l with|true=>.sl k off (h - l) (.n (m - l))|false=>.sl k (off+l*sz) (h - l) (.n (m - l))
def lC(d:Nat)(x:Option Nat):Nat:=match x with|some n=>n|none=>d
def Nh(v:Po):Nat:=match v.cap with|.n c=>c|_=>v.len
def HQ(sz:Nat)(v:Po)(l h:Nat):Option CC:=
 bt (Nat.ble h v.len) (match l with
  |0=>bt (Nat.ble 1 v.len) (some (.sl v.k v.off h v.cap))
  |l+1=>bt (Nat.ble (l+2) v.len) (some (.sl v.k (v.off+(l+1)*sz) (h - (l+1)) .u)))
def DA(sz:Nat)(v:Po)(l h:Nat):Option CC:=
 bt (Nat.ble l h) (match v.cap with|.n c=>bt (Nat.ble h c) (some (Ba v.k v.off sz l h c))|_=>HQ sz v l h)
def aaV(sz:Nat)(v:Po)(l:Nat)(h:Option Nat)(m:Option Nat):Option CC:=
 match m with
 |some m=>(match h with|none=>none|some h=>bt (Nat.ble l h) (bt (Nat.ble h m) (bt (Nat.ble m (Nh v)) (some (Ba v.k v.off sz l h m)))))
 |none=>DA sz v l (lC v.len h)
def iB:List Nat->Nat->Nat
 |[],n=>n|_::l,n=>iB l (n+1)
def Rm(s:HS)(sz:Nat)(x:CC):Option (Nat × List CC):=
 match x with
 |.ar=>some (0,[])
 |.sl k off len _=>bo (A9 s k off (len*sz)) λl=>some (len,l)
 |_=>none
def Bb(s:HS)(sz e n:Nat)(l:List CC):Option (CV × HS):=bt (kQ n) (some (.c (.sl s.nx 0 n .g),s.new (.cells l (some (sz,e)))))
def XZ(s:HS)(sz:Nat)(v:Po)(c n:Nat)(new:List CC):Option (CV × HS):=
 match n with
 |0=>some (.c (.sl v.k v.off v.len (.n c)),s)
 |n+1=>bo (jq s v.k) λp=>bo (iO p.1 (v.off+v.len*sz) new) λl'=>some (.c (.sl v.k v.off (v.len+(n+1)) (.n c)),s.put v.k (.cells l' p.2))
def Ro(s:HS)(sz e:Nat)(v:Po)(n:Nat)(new:List CC):Option (CV × HS):=
 match n with
 |0=>some (.c (.sl v.k v.off v.len .g),s)
 |n+1=>bt (kQ (v.len+(n+1))) (bo (jq s v.k) λp=>match p.2 with
  |none=>none
  |some g=>bt (Nat.beq g.1 sz) (bt (Nat.beq g.2 e) (bo (nA p.1 (v.len*sz)) λeI=>
   some (.c (.sl s.nx 0 (v.len+(n+1)) .g),⟨(s.H.put v.k none).put s.nx (some (.cells (eI++new) (some (sz,e)))),s.nx+1,s.wb,wrote s.wb v.k s.wr⟩))))
def ot(E:Ev)(e:Nat)(x:CC)(q:Nat × List CC)(s:HS):Option (CV × HS):=
 match x with
  |.ar=>(match q.1 with|0=>some (.c .ar,s)|n+1=>Bb s (E.sz e) e (n+1) q.2)
  |.sl k off len cap=>(match cap with
   |.n c=>(match Nat.ble (len+q.1) c with
    |true=>XZ s (E.sz e) ⟨k,off,len,cap⟩ c q.1 q.2
    |false=>bt (kQ c) (bo (A9 s k off (len*E.sz e)) λeI=>Bb s (E.sz e) e (len+q.1) (eI++q.2)))
   |.g=>bt (Nat.beq off 0) (Ro s (E.sz e) e ⟨k,off,len,cap⟩ q.1 q.2)
   |.u=>none)
  |_=>none
def Bc(E:Ev)(e:Nat)(x y:CC)(s:HS):Option (CV × HS):=
 bt (kQ (au E.TY e).bytes) (bt (Nat.ble 1 (E.sz e)) (bt (wE (E.z e) (E.sz e)) (bo (Rm s (E.sz e) y) λq=>ot E e x q s)))
def Vc:List Nat->List CC
 |[]=>[]|b::l=>.int .u8 b::Vc l
def Ni(d:HN):Bool:=match d with|.str=>true|_=>false
def HR(E:Ev)(e:Nat)(x:CC)(l:List Nat)(s:HS):Option (CV × HS):=
 bt (kQ (au E.TY e).bytes) (bt (Nat.beq (E.sz e) 1) (bt (wE (E.z e) (E.sz e)) (ot E e x (iB l 0,Vc l) s)))
def bytesOf:List CC->Option (List Nat)
 |[]=>some []|x::l=>match x with|.int k n=>(match k with|.u8=>bo (I8 n) λb=>bo (bytesOf l) λm=>some (b::m)|_=>none)|_=>none
def SU(s:HS)(x:Option CC):Option (CV × HS):=bo x λa=>some (.c a,s)
def okW(s:HS)(x:Option CW):Option (CV × HS):=bo x λa=>some (WC a,s)
def Nj(T:cW)(c a b:Operand)(s:HS):Option (CV × HS):=bo (XV (cP T c)) λt=>match t with|true=>some (cP T a,s)|false=>some (cP T b,s)
def Vd(d:HN)(a b:CW):Option Bool:=
 match a with
 |.c x=>(match b with
  |.c y=>(match d with
   |.int _=>(match x with|.int k n=>(match y with|.int k' m=>bt (kq k k') (some (n==m))|_=>none)|_=>none)
   |.bool=>(match x with|.bool n=>(match y with|.bool m=>some (n==m)|_=>none)|_=>none)
   |.str=>(match x with|.str n=>(match y with|.str m=>some (HO n m)|_=>none)|_=>none)
   |_=>none)
  |_=>none)
 |_=>none
def eqF(E:Ev):List (Nat × Nat)->List CC->List CC->Option Bool
 |[],_,_=>some true
 |p::fs,l,m=>bo (oZ E p.2 l p.1) λa=>bo (oZ E p.2 m p.1) λb=>bo (Vd (E.d p.2) a b) λe=>match e with|true=>eqF E fs l m|false=>some false
def Ve(E:Ev)(T:cW)(op:BinOp)(t:Nat)(l:List CC)(y:Operand)(s:HS):Option (CV × HS):=
 bt (wC t E.eqs) (bo (Va (cP T y)) λm=>match E.d t with|.struct fs=>bo (eqF E fs l m) λe=>SU s (yf op e)|_=>none)
def Nk(E:Ev)(T:cW)(op:BinOp)(t:Nat)(x y:Operand)(s:HS):Option (CV × HS):=
 match Va (cP T x)with
 |some l=>Ve E T op t l y s
 |none=>bo (ye (cP T x)) λa=>bo (ye (cP T y)) λb=>SU s (aaS E op t a b)
def X0(T:cW)(op:UnOp)(x:Operand)(s:HS):Option (CV × HS):=
 match op with|.not=>bo (XV (cP T x)) λb=>some (.c (.bool (A6 b)),s)|.neg=>bo (O5 (cP T x)) λp=>some (.c (wF p.1 (0 - p.2)),s)|_=>none
def Vf(d:HN):Bool:=match d with|.int k=>(match k with|.u8=>true|_=>false)|_=>false
def FY(E:Ev)(T:cW)(a b:Nat)(x:Operand)(s:HS):Option (CV × HS):=
 match E.d b with
 |.int k=>(match E.d a with|.int _=>bo (O5 (cP T x)) λp=>some (.c (wF k p.2),s)|_=>none)
 |.str=>(match E.d a with
  |.slice e=>bt (Vf (E.d e)) (bo (ye (cP T x)) λv=>match v with
   |.ar=>some (.c (.str []),s)
   |.sl k off len _=>bo (A9 s k off len) λl=>bo (bytesOf l) λm=>some (.c (.str m),s)
   |_=>none)
  |_=>none)
 |_=>none
def Be(E:Ev)(t:Nat)(s:HS):Option (CV × HS):=match E.z t with|[]=>none|a::l=>some (.c (.ptr s.nx 0),s.new (.cells (a::l) (some (0,t))))
def Tu(E:Ev)(T:cW)(t:Nat)(x:Operand)(s:HS):Option (CV × HS):=bo (pE E t (cP T x)) λl=>some (.c (.ptr s.nx 0),s.new (.cells l none))
def Bg(E:Ev)(T:cW)(t:Nat)(ps:List (Nat × Operand))(s:HS):Option (CV × HS):=
 match E.z t with
 |[]=>none
 |z::zs=>(match E.d t with
  |.struct fs=>bo (Ng E T fs ps (z::zs)) λl=>some (.a l,s)
  |.arr _ e=>bt (Nat.ble 1 (E.sz e)) (bo (HP E T e ps (z::zs)) λl=>some (.a l,s))
  |_=>none)
def DB(E:Ev)(T:cW)(t n:Nat)(ps:List (Nat × Operand))(s:HS):Option (CV × HS):=
 bo (nB E t) λe=>bt (wE (E.z e) (E.sz e)) (bt (Nat.ble 1 (E.sz e)) (bt (Nat.ble (n*E.sz e) 1000000) (bo (HP E T e ps (Dz (E.z e) n [])) λl=>some (.c (.sl s.nx 0 n (.n n)),s.new (.cells l none)))))
def Nl(E:Ev)(T:cW)(t:Nat)(l c:Operand)(s:HS):Option (CV × HS):=
 bo (nB E t) λe=>bo (WD (cP T l)) λl=>bo (WD (cP T c)) λc=>
  bt (wE (E.z e) (E.sz e)) (bt (Nat.ble 1 (E.sz e)) (bt (Nat.ble l c) (bt (kQ c) (bt (kQ (au E.TY e).bytes) (some (.c (.sl s.nx 0 l (.n c)),s.new (.cells (Dz (E.z e) c []) none)))))))
def Nn(E:Ev)(T:cW)(t:Nat)(x:Operand)(s:HS):Option (CV × HS):=bo (Uk (cP T x)) λp=>bo (jq s p.1) λq=>okW s (oZ E t q.1 p.2)
def HT(E:Ev)(T:cW)(t:Nat)(x y:Operand)(s:HS):Option (CV × HS):=
 bo (Uk (cP T x)) λp=>bo (pE E t (cP T y)) λm=>bo (jq s p.1) λq=>bo (iO q.1 p.2 m) λl=>some (.t [],s.put p.1 (.cells l q.2))
def Np(T:cW)(x:Operand)(s:HS):Option (CV × HS):=
 match cP T x with|.c c=>(match c with|.ptr k o=>some (.c (.ptr k o),s)|.fn f=>some (.c (.fn f),s)|_=>none)|.Ts f l=>some (.Ts f l,s)|_=>none
def Nq(T:cW)(fn:Fn)(first cap:List Operand)(s:HS):Option (CV × HS):=
 match fn with
 |.func f=>(match first with|[]=>bo (Vb T cap) λl=>(match l with|[]=>some (.c (.fn f),s)|a::l=>some (.Ts f (a::l),s))|_=>none)
 |_=>none
def Nr(E:Ev)(T:cW)(t:Nat)(x k:Operand)(ok:Bool)(s:HS):Option (CV × HS):=
 bo (tv E t) λq=>bo (ye (cP T x)) λm=>bo (WB (cP T k)) λkv=>bt (y7 E q.1 kv) (bo (Nf E q.2) λz=>
  bo (match m with|.bO=>some []|.mp k=>Rl s k|_=>none) λes=>bo (y6 es kv 0) λr=>match ok with
   |true=>(match r with|some p=>some (.t [p.2,.c (.bool true)],s)|none=>some (.t [z,.c (.bool false)],s))
   |false=>(match r with|some p=>some (WC p.2,s)|none=>some (WC z,s)))
def Ns(E:Ev)(T:cW)(t:Nat)(x k y:Operand)(s:HS):Option (CV × HS):=
 bo (tv E t) λq=>bo (ye (cP T x)) λm=>bo (WB (cP T k)) λkv=>bo (WB (cP T y)) λv=>bt (y7 E q.1 kv) (match m with
  |.mp j=>bo (Rl s j) λes=>bo (y6 es kv 0) λr=>(match r with
   |some p=>bt (XX kv) (some (.t [],s.put j (.map (lA es p.1 kv v))))
   |none=>some (.t [],s.put j (.map (es++[(kv,v)]))))
  |_=>none)
def HU(E:Ev)(T:cW)(t:Nat)(x:Operand)(lo hi mx:Option Operand)(s:HS):Option (CV × HS):=
 bo (Zn (cP T x)) λv=>bo (J2 T lo) λl=>bo (J2 T hi) λh=>bo (J2 T mx) λm=>bo (nB E t) λe=>bt (Nat.ble 1 (E.sz e)) (SU s (aaV (E.sz e) v (lC 0 l) h m))
def DC(E:Ev)(T:cW)(t:Nat)(x:Operand)(f:Nat)(s:HS):Option (CV × HS):=
 bo (Uk (cP T x)) λp=>match E.d t with|.struct fs=>bo (de fs f) λq=>bt (Nat.ble 1 (E.sz q.2)) (some (.c (.ptr p.1 (p.2+q.1)),s))|_=>none
def HV(E:Ev)(T:cW)(t:Nat)(x:Operand)(f:Nat)(s:HS):Option (CV × HS):=
 bo (Va (cP T x)) λl=>match E.d t with|.struct fs=>bo (de fs f) λq=>okW s (oZ E q.2 l q.1)|_=>none
def DD(E:Ev)(T:cW)(t:Nat)(x i:Operand)(s:HS):Option (CV × HS):=
 bo (WD (cP T i)) λi=>match E.d t with
  |.slice e=>bo (Zn (cP T x)) λv=>bt (Nat.ble 1 (E.sz e)) (bt (Nat.ble (i+1) v.len) (some (.c (.ptr v.k (v.off+i*E.sz e)),s)))
  |.arr n e=>bo (Uk (cP T x)) λp=>bt (Nat.ble 1 (E.sz e)) (bt (Nat.ble (i+1) n) (some (.c (.ptr p.1 (p.2+i*E.sz e)),s)))
  |_=>none
def HW(E:Ev)(T:cW)(t:Nat)(x i:Operand)(s:HS):Option (CV × HS):=
 bo (WD (cP T i)) λi=>match E.d t with
  |.arr n e=>bo (Va (cP T x)) λl=>bt (Nat.ble 1 (E.sz e)) (bt (Nat.ble (i+1) n) (okW s (oZ E e l (i*E.sz e))))
  |.str=>bo (ye (cP T x)) λc=>(match c with|.str l=>bo (l[i]?) λb=>some (.c (.int .u8 b),s)|_=>none)
  |_=>none
def y8(T:cW)(x:Operand)(i:Nat)(s:HS):Option (CV × HS):=bo (asT (cP T x)) λl=>okW s (l[i]?)
def Tv(s:HS)(n:Nat):Option (CV × HS):=bt (Nat.ble n 9223372036854775807) (some (.c (.int .i64 n),s))
def Nt(E:Ev)(t:Nat)(v:CC)(s:HS):Option (CV × HS):=
 match E.d t with
 |.slice _=>(match v with|.sl _ _ n _=>Tv s n|.ar=>Tv s 0|_=>none)
 |.str=>(match v with|.str l=>Tv s (iB l 0)|_=>none)
 |.map _ _=>(match v with|.bO=>Tv s 0|.mp k=>bo (Rl s k) λes=>Tv s (J4 es 0)|_=>none)
 |_=>none
def Nu(E:Ev)(t:Nat)(v:Po)(y:CC)(s:HS):Option (CV × HS):=
 bo (nB E t) λe=>bt (Nat.ble 1 (E.sz e)) (bo (Rm s (E.sz e) y) λq=>bo (jq s v.k) λp=>bo (nA q.2 (uk q.1 v.len*E.sz e)) λm=>bo (iO p.1 v.off m) λl=>
  Tv (s.put v.k (.cells l p.2)) (uk q.1 v.len))
def Bh(t:Nat)(tys:List Nat):Bool:=match tys with|[]=>false|u::l=>(match l with|[]=>Nat.beq t u|_::_=>false)
def HX(E:Ev)(t:Nat)(v:CC)(s:HS):Option (CV × HS):=
 bo (nB E t) λe=>match v with
  |.ar=>some (.t [],s)
  |.sl k off len _=>(match len with
   |0=>some (.t [],s)
   |n+1=>bt (Nat.ble 1 (E.sz e)) (bt (wE (E.z e) (E.sz e)) (bo (jq s k) λp=>bo (iO p.1 off (Dz (E.z e) (n+1) [])) λl=>some (.t [],s.put k (.cells l p.2)))))
  |_=>none
def HY(v:CC)(s:HS):Option (CV × HS):=
 match v with
 |.ar=>some (.c .dO,s)
 |.sl k off len _=>bt (Nat.ble 1 len) (some (.c (.ptr k off),s))
 |_=>none
def Nv(E:Ev)(t:Nat)(v:CC)(n:Nat)(s:HS):Option (CV × HS):=
 match n with
 |0=>(match v with|.dO=>some (.c (.str []),s)|.ptr _ _=>some (.c (.str []),s)|_=>none)
 |n+1=>(match v with
  |.ptr k off=>bt (Nat.beq off 0) (bo (jq s k) λp=>match p.2 with
   |none=>none
   |some g=>bt (G9 (t,g.2) E.FW) (bt (kQ n) (bo (y4 p.1 0 (n+1)) λl=>bo (bytesOf l) λm=>some (.c (.str m),⟨s.H.put k none,s.nx,s.wb,wrote s.wb k s.wr⟩))))
  |_=>none)
def y9(E:Ev)(T:cW)(b:Builtin)(args:List Operand)(tys:List Nat)(s:HS):Option (CV × HS):=
 match args with
 |[]=>none
 |x::args=>(match args with
  |[]=>(match b with|.len=>(match tys with|[]=>none|t::_=>bo (ye (cP T x)) λv=>Nt E t v s)|.clear=>(match tys with|[]=>none|t::_=>bo (ye (cP T x)) λv=>HX E t v s)|.unsafeSliceData=>bo (ye (cP T x)) λv=>HY v s|_=>none)
  |y::args=>(match args with
   |_::_=>none
   |[]=>(match b with
    |.unsafeString=>(match tys with|[]=>none|t::r=>match r with|[]=>none|_::r'=>match r' with|_::_=>none|[]=>bo (O5 (cP T y)) λn=>bt (kq n.1 .i64) (bo (I8 n.2) λn=>bo (ye (cP T x)) λv=>Nv E t v n s))
    |.append=>(match tys with|[]=>none|t::tys=>bo (nB E t) λe=>bo (ye (cP T x)) λa=>bo (ye (cP T y)) λb=>(match b with
     |.str l=>(match tys with|[]=>none|u::r=>(match r with|[]=>bt (Ni (E.d u)) (HR E e a l s)|_::_=>none))
     |b=>bt (Bh t tys) (Bc E e a b s)))
    |.copy=>(match tys with|[]=>none|t::tys=>bt (Bh t tys) (bo (Zn (cP T x)) λv=>bo (ye (cP T y)) λb=>Nu E t v b s))
    |.max=>bo (O5 (cP T x)) λp=>bo (O5 (cP T y)) λq=>bt (kq p.1 q.1) (some (.c (.int p.1 (match decide (p.2<=q.2)with|true=>q.2|false=>p.2)),s))
    |.min=>bo (O5 (cP T x)) λp=>bo (O5 (cP T y)) λq=>bt (kq p.1 q.1) (some (.c (.int p.1 (match decide (p.2<=q.2)with|true=>p.2|false=>q.2)),s))
    |_=>none)))
def FZ:List CC->List CV
 |[]=>[]|a::l=>.c a::FZ l
def Vg:List CV->List CV->List CV
 |[],m=>m|a::l,m=>a::Vg l m
def F4(E:Ev)(T:cW)(c:Call)(s:HS):Option (CV × HS):=
 match c.callee with
 |.value x=>(match cP T x with
  |.c a=>(match a with|.fn f=>E.call f (Rj T c.args.toList) s|_=>none)
  |.Ts f l=>E.call f (Vg (Rj T c.args.toList) (FZ l)) s
  |_=>none)
 |.builtin b=>y9 E T b c.args.toList c.argTypes.toList s
 |_=>none
def X1(o:Op):Ev->cW->HS->Option (CV × HS):=
 Op.rec (motive:=λ_=>Ev->cW->HS->Option (CV × HS))
   (λx=>λ_ T s=>some (cP T x,s))
   (λx=>λ_ T s=>some (cP T x,s))
   (λc a b=>λ_ T s=>Nj T c a b s)
   (λt=>λE _ s=>Be E t s)
   (λt x=>λE T s=>Tu E T t x s)
   (λt ps=>λE T s=>Bg E T t ps.toList s)
   (λt n ps=>λE T s=>DB E T t n ps.toList s)
   (λt x k y=>λE T s=>Ns E T t x k y s)
   (λt x=>λE T s=>Nn E T t x s)
   (λt x y=>λE T s=>HT E T t x y s)
   (λ_=>λ_ _ _=>none)
   (λ_=>λ_ _ _=>none)
   (λx=>λ_ T s=>Np T x s)
   (λop t x y _=>λE T s=>Nk E T op t x y s)
   (λop _ x=>λ_ T s=>X0 T op x s)
   (λa b x=>λE T s=>FY E T a b x s)
   (λ_ _=>λ_ _ _=>none)
   (λ_ _=>λ_ _ _=>none)
   (λfn first cap=>λ_ T s=>Nq T fn first.toList cap.toList s)
   (λt r=>λE T s=>bo (tv E t) λ_=>bo (J2 T r) λ_=>some (.c (.mp s.nx),s.new (.map [])))
   (λ_ _=>λ_ _ _=>none)
   (λt l c=>λE T s=>Nl E T t l c s)
   (λt x lo hi mx=>λE T s=>HU E T t x lo hi mx s)
   (λt x f=>λE T s=>DC E T t x f s)
   (λt x f=>λE T s=>HV E T t x f s)
   (λt x i=>λE T s=>DD E T t x i s)
   (λt x i=>λE T s=>HW E T t x i s)
   (λt x k ok=>λE T s=>Nr E T t x k ok s)
   (λt x k y=>λE T s=>Ns E T t x k y s)
   (λ_ _ _=>λ_ _ _=>none)
   (λ_ _ _ _=>λ_ _ _=>none)
   (λ_ _=>λ_ _ _=>none)
   (λ_ _=>λ_ _ _=>none)
   (λ_=>λ_ _ _=>none)
   (λ_ _ _ _=>λ_ _ _=>none)
   (λx i=>λ_ T s=>y8 T x i s)
   (λc=>λE T s=>F4 E T c s)
   (λ_=>λ_ _ _=>none)
   (λ_=>λ_ _ _=>none)
   (λ_=>λ_ _ _=>none)
   (λ_ _=>λ_ _ _=>none)
   (λ_ _ _=>λ_ _ _=>none)
   (λ_ _=>λ_ _ _=>none)
   o
def F5(E:Ev)(o:Op)(T:cW)(s:HS):Option (CV × HS):=X1 o E T s
def Vh(ops:Array Oper)(g:Option (Nat × Bool))(T:cW):Option Bool:=
 match g with
 |none=>some true
 |some p=>bo (bK ops p.1) λd=>match l9 T d with
  |.c x=>(match x with|.bool b=>some (match p.2 with|true=>b|false=>A6 b)|_=>none)
  |.t l=>(match l with|[]=>some false|_=>none)
  |_=>none
def HZ(E:Ev)(A:Array Oper):List Oper->cW->HS->Option (cW × HS)
 |[],T,s=>some (T,s)
 |o::rest,T,s=>bo (Vh A o.guard T) λg=>match g with
  |true=>bo (F5 E o.op T s) λp=>bo (oI o.dst T p.1) λT'=>HZ E A rest T' p.2
  |false=>bo (oI o.dst T (.t [])) λT'=>HZ E A rest T' s
structure Hint where
 ws:List Nat
 lo:Nat
 hi:Nat
def Hint.idle(h:Hint):Bool:=match h.ws with|[]=>Nat.ble h.hi h.lo|_=>false
def Hint.has(h:Hint)(k:Nat):Bool:=match wC k h.ws with|true=>true|false=>Nat.ble h.lo k&&Nat.ble (k+1) h.hi
def aaX(k:Nat):List Hint->Bool
 |[]=>false|h::l=>match h.has k with|true=>true|false=>aaX k l
def za(s:HS)(p:HS)(h:Hint):HS:=match h.idle with|true=>s|false=>⟨p.H,p.nx,s.wb,pD s.wb p.wr s.wr⟩
def q9(E:Ev)(A:Array Oper):List Oper->List Hint->cW->HS->Option (cW × HS × List Hint)
 |[],acc,T,s=>some (T,s,acc.reverse)
 |o::rest,acc,T,s=>bo (Vh A o.guard T) λg=>match g with
  |true=>bo (F5 E o.op T ⟨s.H,s.nx,s.nx,[]⟩) λp=>bt (Nat.ble s.nx p.2.nx) (bo (oI o.dst T p.1) λT'=>q9 E A rest (⟨p.2.wr,s.nx,p.2.nx⟩::acc) T' (za s p.2 ⟨p.2.wr,s.nx,p.2.nx⟩))
  |false=>bo (oI o.dst T (.t [])) λT'=>q9 E A rest (⟨[],s.nx,s.nx⟩::acc) T' s
def oJ(m j:Nat):Bool:=Nat.beq (Nat.land (Nat.shiftRight m j) 1) 1
def Tw(C:List Nat):List Edge->Nat->Nat
 |[],acc=>acc
 |e::l,acc=>match e7 e with|true=>Tw C l (Nat.lor (Nat.lor acc (Nat.shiftLeft 1 e.on)) (C.getD e.on 0))|false=>Tw C l acc
def dG:List Oper->List Nat->List Nat
 |[],C=>C|o::l,C=>dG l (C++[Tw C o.after.toList 0])
def re(C:List Nat)(i j:Nat):Bool:=match Nat.beq j i with|true=>true|false=>match oJ (C.getD i 0) j with|true=>true|false=>oJ (C.getD j 0) i
def others(C:List Nat)(i:Nat):List Hint->Nat->List Hint
 |[],_=>[]
 |h::l,j=>match h.idle with|true=>others C i l (j+1)|false=>match re C i j with|true=>others C i l (j+1)|false=>h::others C i l (j+1)
def pH:Nat->Nat->List Nat
 |_,0=>[]|lo,n+1=>lo::pH (lo+1) n
def jE:List Hint->List Nat
 |[]=>[]|h::l=>h.ws++pH h.lo (h.hi - h.lo)++jE l
def Hint.keys(h:Hint):List Nat:=h.ws++pH h.lo (h.hi - h.lo)
def tw:List Nat->Tr CO->Tr CO
 |[],H=>H|k::l,H=>tw l (H.put k none)
def tx(G:Tr CO):List Nat->Tr CO->Tr CO
 |[],H=>H|k::l,H=>tx G l (H.put k (G.get k))
def J5:List Nat->List Nat->Bool
 |[],_=>true|a::l,m=>match wC a m with|true=>false|false=>J5 l m
def wG:List Nat->List Nat->Bool
 |[],_=>true|a::l,m=>match wC a m with|true=>wG l m|false=>false
def uO:List Hint->Bool
 |[]=>true|h::l=>match h.idle with|true=>uO l|false=>false
def Bi(C:List Nat)(hs:List Hint):Nat->Bool
 |0=>true|n+1=>match others C n hs 0 with|[]=>Bi C hs n|_::_=>false
def Bj(C:List Nat)(hs:List Hint)(n:Nat):Bool:=match uO hs with|true=>true|false=>Bi C hs n
def wH(E:Ev)(A:Array Oper)(C:List Nat)(hs:List Hint):List Oper->Nat->cW->HS->Option (cW × HS)
 |[],_,T,s=>some (T,s)
 |o::rest,i,T,s=>bo (hs[i]?) λh=>bt (Nat.beq h.lo s.nx) (bt (Nat.ble h.lo h.hi) (bt (J5 h.keys (jE (others C i hs 0))) (bo (Vh A o.guard T) λg=>match g with
  |true=>bo (F5 E o.op T ⟨tw (jE (others C i hs 0)) s.H,s.nx,s.nx,[]⟩) λp=>bt (Nat.beq h.hi p.2.nx) (bt (wG p.2.wr h.ws) (bo (oI o.dst T p.1) λT'=>
    wH E A C hs rest (i+1) T' ⟨tx p.2.H h.keys s.H,p.2.nx,s.wb,pD s.wb p.2.wr s.wr⟩))
  |false=>bt h.idle (bo (oI o.dst T (.t [])) λT'=>wH E A C hs rest (i+1) T' s))))
def tz:List Oper->Nat->List (Nat × Nat)
 |[],_=>[]|o::l,i=>match o.dst with|some d=>(d,i)::tz l (i+1)|none=>tz l (i+1)
def zd(i:Nat):List Edge->Bool
 |[]=>true|e::l=>match e7 e with|true=>(match Nat.ble (e.on+1) i with|true=>zd i l|false=>false)|false=>zd i l
def ze(C:List Nat)(i t:Nat):List (Nat × Nat)->Bool
 |[]=>true|p::l=>match Nat.beq p.1 t with|false=>ze C i t l|true=>match re C i p.2 with|true=>ze C i t l|false=>false
def DE(C:List Nat)(i:Nat)(D:List (Nat × Nat)):List Nat->Bool
 |[]=>true|t::l=>match ze C i t D with|true=>DE C i D l|false=>false
def H0(d:Nat):List (Nat × Nat)->Bool
 |[]=>true|p::l=>match Nat.beq p.1 d with|true=>false|false=>H0 d l
def Bk:List (Nat × Nat)->Bool
 |[]=>true|p::l=>match H0 p.1 l with|true=>Bk l|false=>false
def Bl(A:Array Oper)(C:List Nat)(D:List (Nat × Nat)):List Oper->Nat->Bool
 |[],_=>true|o::l,i=>match zd i o.after.toList with|false=>false|true=>match DE C i D (o.looksAt A)with|false=>false|true=>Bl A C D l (i+1)
def F7(A:Array Oper):Bool:=match Bk (tz A.toList 0)with|false=>false|true=>Bl A (dG A.toList []) (tz A.toList 0) A.toList 0
def Tx(E:Ev)(A:Array Oper)(T:cW)(s:HS):Option (cW × HS):=
 bt (F7 A) (bo (q9 E A A.toList [] T s) λr=>match Bj (dG A.toList []) r.2.2 A.size with
  |true=>some (r.1,r.2.1)
  |false=>wH E A (dG A.toList []) r.2.2 A.toList 0 T s)
def wI(E:Ev)(A:Array Oper)(d:Bool)(T:cW)(s:HS):Option (cW × HS):=
 match d with
 |false=>HZ E A A.toList T s
 |true=>Tx E A T s
structure Out where
 e:EX
 T:cW
 s:HS
def Bm(body:cW->HS->Option Out):Nat->cW->HS->Option Out
 |0,_,_=>none
 |n+1,T,s=>bo (body T s) λr=>match r.e with|.normal=>Bm body n r.T r.s|.exit i=>some ⟨.exit i,r.T,r.s⟩|.ret=>some ⟨.ret,r.T,r.s⟩
def X2(r:Out)(k:cW->HS->Option Out):Option Out:=EX.rec (motive:=λ_=>Option Out) (k r.T r.s) (λi=>some ⟨.exit i,r.T,r.s⟩) (some ⟨.ret,r.T,r.s⟩) r.e
def X3(id:Nat)(r:Out):Option Out:=EX.rec (motive:=λ_=>Option Out) (some ⟨.normal,r.T,r.s⟩) (λj=>Bool.rec (motive:=λ_=>Option Out) (some ⟨.exit j,r.T,r.s⟩) (some ⟨.normal,r.T,r.s⟩) (Nat.beq j id)) (some ⟨.ret,r.T,r.s⟩) r.e
def yg(c:Code):Ev->Nat->cW->HS->Option Out:=
 Code.rec (motive:=λ_=>Ev->Nat->cW->HS->Option Out)
  (λ_ _ T s=>some ⟨.normal,T,s⟩)
  (λ_ ops d E _ T s=>bo (wI E ops d T s) λp=>some ⟨.normal,p.1,p.2⟩)
  (λ_ _ a b E n T s=>bo (a E n T s) λr=>X2 r (b E n))
  (λc _ _ a b E n T s=>bo (XV (cP T c)) λt=>Bool.rec (motive:=λ_=>Option Out) (b E n T s) (a E n T s) t)
  (λid _ b E n T s=>bo (b E n T s) λr=>X3 id r)
  (λ_ b E n T s=>Bm (b E n) n T s)
  (λ_ _ _ _ _ _ _ _ _ _=>none)
  (λid _ _ T s=>some ⟨.exit id,T,s⟩)
  (λ_ b E n T s=>b E n T s)
  (λ_ _ _ _ _=>none)
  (λ_ _ _ _ _=>none)
  (λ_ _ T s=>some ⟨.ret,T,s⟩)
  (λ_ _ _ _ _=>none)
  c
def evC(E:Ev)(rounds:Nat)(c:Code)(T:cW)(s:HS):Option Out:=yg c E rounds T s
def wh(E:Ev)(T:cW)(s:HS):List ResultVar->Option (List CW)
 |[]=>some []
 |r::l=>match r with
  |.tmp t=>bo (WB (l9 T t)) λw=>bo (wh E T s l) λm=>some (w::m)
  |.cell t ty=>bo (Uk (l9 T t)) λp=>bo (jq s p.1) λq=>bo (oZ E ty q.1 p.2) λw=>bo (wh E T s l) λm=>some (w::m)
def Vi(l:List CW):CV:=match l with|[]=>.t []|w::l=>match l with|[]=>WC w|_=>.t (w::l)
def zf:List CV->Nat->Tr CV->Tr CV
 |[],_,t=>t|a::l,i,t=>zf l (i+1) (t.put i (some a))
def sH:Nat->Nat->Tr CV->Tr CV
 |0,_,t=>t|n+1,i,t=>sH n (i+1) (t.put i (some (.t [])))
def Nw(args:List CV)(n:Nat):cW:=⟨n,sH (n - args.length) args.length (zf args 0 .lf)⟩
structure Kn where
 eqs:List Nat
 FW:List (Nat × Nat)
 Vj:WY
def O6(P:Program)(TY:List cV)(TZ:Zs)(K:Kn)(rounds:Nat):Nat->WY
 |0,_,_,_=>none
 |n+1,f,args,s=>match K.Vj f args s with
  |some r=>some r
  |none=>bo (P.funcs[f]?) λfn=>bo fn.body λc=>bt (Nat.ble args.length fn.ntmps)
   (bo (evC ⟨TY,TZ,O6 P TY TZ K rounds n,K.eqs,K.FW⟩ rounds c (Nw args fn.ntmps) s) λr=>match r.e with
    |.exit _=>none
    |_=>bo (wh ⟨TY,TZ,O6 P TY TZ K rounds n,K.eqs,K.FW⟩ r.T r.s fn.results.toList) λl=>some (Vi l,r.s))
end
theorem aw{α β:Type}{x:Option α}{f:α->Option β}{y:β}(h:bo x f=some y):∃a,x=some a/\f a=some y:=by
 cases x with
 |none=>cases h
 |some a=>exact⟨a,rfl,h⟩
theorem aE{β:Type}{b:Bool}{x:Option β}{y:β}(h:bt b x=some y):b=true/\x=some y:=by
 cases b with
 |false=>cases h
 |true=>exact⟨rfl,h⟩
namespace Tr
variable{α:Type}
theorem lD(l r:Tr α)(x:Option α):(nd l x r).get 0=x:=rfl
theorem gd(l r:Tr α)(x:Option α)(n:Nat):(nd l x r).get (n+1)=if n % 2=0 then l.get (n / 2) else r.get (n / 2):=by
 show Nat.rec (motive:=λ_=>Option α) (l.get (n / 2)) (λ_ _=>r.get (n / 2)) (n % 2)=_;cases h:n % 2 with
 |zero=>rfl
 |succ m=>rfl
theorem Vk(n:Nat)(v:Option α):(lf:Tr α).put n v=Tr.one (n+1) n v:=rfl
theorem Nx(l r:Tr α)(x v:Option α):(nd l x r).put 0 v=nd l v r:=rfl
theorem Ny(l r:Tr α)(x v:Option α)(n:Nat):(nd l x r).put (n+1) v=if n % 2=0 then nd (l.put (n / 2) v) x r else nd l x (r.put (n / 2) v):=by
 show Nat.rec (motive:=λ_=>Tr α) (nd (l.put (n / 2) v) x r) (λ_ _=>nd l x (r.put (n / 2) v)) (n % 2)=_;cases h:n % 2 with
 |zero=>rfl
 |succ m=>rfl
theorem H2:∀(f n:Nat) (v:Option α) (j:Nat),n<f->(Tr.one f n v).get j=if j=n then v else none
 |0,n,v,j,h=>absurd h (aju _)
 |f+1,0,v,j,h=>by
  show(nd lf v lf).get j=_;cases j with
  |zero=>rfl
  |succ j=>rw [gd,ajm (Nat.succ_ne_zero j)];split<;>rfl
 |f+1,n+1,v,j,h=>by
  have e:Tr.one (f+1) (n+1) v=if n % 2=0 then nd (Tr.one f (n / 2) v) none lf else nd lf none (Tr.one f (n / 2) v):=by
   show(match n % 2 with|0=>nd (Tr.one f (n / 2) v) none lf|_=>nd lf none (Tr.one f (n / 2) v))=_;cases n % 2 with
   |zero=>rfl
   |succ m=>rfl
  rw [e];have ih:=λj=>H2 f (n / 2) v j aa
  by_cases h2:n % 2=0
  ·rw [ajq h2]
   cases j with
   |zero=>rw [lD,ajm aa]
   |succ j=>
    rw [gd,ih]
    by_cases h3:j % 2=0
    ·rw [ajq h3]
     by_cases h4:j / 2=n / 2
     ·rw [ajq h4,ajq aa]
     ·rw [ajm h4,ajm aa]
    ·rw [ajm h3,ajm aa];rfl
  ·rw [ajm h2]
   cases j with
   |zero=>rw [lD,ajm aa]
   |succ j=>
    rw [gd,ih]
    by_cases h3:j % 2=0
    ·rw [ajq h3,ajm aa];rfl
    ·rw [ajm h3]
     by_cases h4:j / 2=n / 2
     ·rw [ajq h4,ajq aa]
     ·rw [ajm h4,ajm aa]
theorem fw:∀(t:Tr α) (n:Nat) (v:Option α) (j:Nat),(t.put n v).get j=if j=n then v else t.get j
 |lf,n,v,j=>by rw [Vk,H2 _ _ _ _ (Nat.lt_succ_self n)];rfl
 |nd l x r,0,v,j=>by
  rw [Nx];cases j with
  |zero=>rfl
  |succ j=>rw [gd,gd,ajm (Nat.succ_ne_zero j)]
 |nd l x r,n+1,v,j=>by
  rw [Ny];have il:=λj=>fw l (n / 2) v j;have ir:=λj=>fw r (n / 2) v j
  by_cases h2:n % 2=0
  ·rw [ajq h2]
   cases j with
   |zero=>rw [lD,lD,ajm aa]
   |succ j=>
    rw [gd,gd,il]
    by_cases h3:j % 2=0
    ·rw [ajq h3,ajq h3]
     by_cases h4:j / 2=n / 2
     ·rw [ajq h4,ajq aa]
     ·rw [ajm h4,ajm aa]
    ·rw [ajm h3,ajm h3,ajm aa]
  ·rw [ajm h2]
   cases j with
   |zero=>rw [lD,lD,ajm aa]
   |succ j=>
    rw [gd,gd,ir]
    by_cases h3:j % 2=0
    ·rw [ajq h3,ajq h3,ajm aa]
    ·rw [ajm h3,ajm h3]
     by_cases h4:j / 2=n / 2
     ·rw [ajq h4,ajq aa]
     ·rw [ajm h4,ajm aa]
end Tr
theorem rf{n:Nat}:∀{l:List Nat},wC n l=true↔n∈l
 |[]=>by simp [wC]
 |m::l=>by
  simp only [wC,ajo];cases h:Nat.beq n m with
  |true=>simp [aA.1 h]
  |false=>simp only [rf (l:=l)];exact⟨.inr,λh'=>h'.resolve_left (beq_false h)⟩
theorem gT{wb k j:Nat}{wr:List Nat}:j∈wrote wb k wr↔j∈wr\/(j=k/\k<wb):=by
 unfold wrote;cases h:Nat.ble wb k with
 |true=>rw [Nat.ble_eq]at h;exact⟨.inl,λh'=>h'.resolve_right λh2=>by omega⟩
 |false=>
  have aX:k<wb:=Nat.lt_of_not_le λh'=>by rw [<-Nat.ble_eq]at h';rw [h']at h;cases h
  cases hm:wC k wr with
  |true=>exact⟨.inl,λh'=>h'.elim id λh2=>by rw [h2.1];exact rf.1 hm⟩
  |false=>simp only [ajo];exact⟨λh'=>h'.elim (λe=>.inr ⟨e,aX⟩) .inl,λh'=>h'.elim .inr λe=>.inl e.1⟩
theorem jF{wb j:Nat}:∀{l wr:List Nat},j∈pD wb l wr↔j∈wr\/(j∈l/\j<wb)
 |[],wr=>by simp [pD]
 |k::l,wr=>by
  simp only [pD,jF (l:=l),gT,ajo]
  constructor
  ·rintro ((h|⟨rfl,h⟩)|⟨h1,h2⟩)
   ·exact .inl h
   ·exact .inr ⟨.inl rfl,h⟩
   ·exact .inr ⟨.inr h1,h2⟩
  ·rintro (h|⟨rfl|h1,h2⟩)
   ·exact .inl (.inl h)
   ·exact .inl (.inr ⟨rfl,h2⟩)
   ·exact .inr ⟨h1,h2⟩
abbrev Rn:=Nat->Option (Nat × Nat)
def bJ(l:List Nat):ByteArray:=⟨(l.map UInt8.ofNat).toArray⟩
def aaY(c x:Nat):Cp->Prop
 |.n n=>x=n|.g=>x=c|.u=>True
def jU(O:Rn):CC->Value->Prop
 |.int k n,v=>v= .int k n/\eO k n
 |.bool b,v=>v= .bool b
 |.str s,v=>v= .string (bJ s)/\∀x∈s,x<256
 |.ptr k off,v=>∃b c,O k=some (b,c)/\v= .pointer (some ⟨b,off,none⟩)
 |.dO,v=>v= .pointer none
 |.sl k off len cap,v=>∃b c x,O k=some (b,c)/\len<=x/\v= .slice (some ⟨b,off,none⟩) len x/\aaY c x cap
 |.ar,v=>v= .slice none 0 0
 |.mp k,v=>∃b c,O k=some (b,c)/\v= .map (some b)
 |.bO,v=>v= .map none
 |.fn f,v=>v= .func (.func f) #[] #[]
 |.aK,v=>v= .nilFunc
 |.XU,v=>v= .nilIface
def cJ(O:Rn):List CC->List Value->Prop
 |[],[]=>True|a::l,v::m=>jU O a v/\cJ O l m|_,_=>False
def pI(O:Rn):CW->Value->Prop
 |.c x,v=>jU O x v|.a l,v=>∃cs,v= .agg cs/\cJ O l cs.toList
def uo(O:Rn):List CW->List Value->Prop
 |[],[]=>True|a::l,v::m=>pI O a v/\uo O l m|_,_=>False
def ef(O:Rn):CV->Value->Prop
 |.c x,v=>jU O x v
 |.a l,v=>∃cs,v= .agg cs/\cJ O l cs.toList
 |.t l,v=>∃cs,v= .tuple cs/\uo O l cs.toList
 |.Ts f l,v=>∃cs,v= .func (.func f) #[] cs/\cJ O l cs.toList
 |.U9,_=>True
def nC(O:Rn):List CV->List Value->Prop
 |[],[]=>True|a::l,v::m=>ef O a v/\nC O l m|_,_=>False
def Ext(O O':Rn):Prop:=∀k x,O k=some x->O' k=some x
theorem Ext.refl(O:Rn):Ext O O:=λ_ _ h=>h
theorem Ext.trans{O O' O'':Rn}(h:Ext O O')(h':Ext O' O''):Ext O O'':=λk x e=>h' k x (h k x e)
section
variable{O O':Rn}
theorem jU.ext(h:Ext O O'){a:CC}{v:Value}(hv:jU O a v):jU O' a v:=by
 cases a with
 |ptr k off=>obtain⟨b,c,h1,h2⟩:=hv;exact⟨b,c,h _ _ h1,h2⟩
 |sl k off len cap=>obtain⟨b,c,x,h1,h2⟩:=hv;exact⟨b,c,x,h _ _ h1,h2⟩
 |mp k=>obtain⟨b,c,h1,h2⟩:=hv;exact⟨b,c,h _ _ h1,h2⟩
 |_=>exact hv
theorem cJ.ext(h:Ext O O'):∀{l:List CC} {m:List Value},cJ O l m->cJ O' l m
 |[],[],_=>trivial|_::_,_::_,hv=>⟨hv.1.ext h,cJ.ext h hv.2⟩|[],_::_,hv=>hv.elim|_::_,[],hv=>hv.elim
theorem pI.ext(h:Ext O O'){a:CW}{v:Value}(hv:pI O a v):pI O' a v:=by
 cases a with
 |c x=>exact jU.ext h hv
 |a l=>obtain⟨cs,h1,h2⟩:=hv;exact⟨cs,h1,h2.ext h⟩
theorem uo.ext(h:Ext O O'):∀{l:List CW} {m:List Value},uo O l m->uo O' l m
 |[],[],_=>trivial|_::_,_::_,hv=>⟨hv.1.ext h,uo.ext h hv.2⟩|[],_::_,hv=>hv.elim|_::_,[],hv=>hv.elim
theorem ef.ext(h:Ext O O'){a:CV}{v:Value}(hv:ef O a v):ef O' a v:=by
 cases a with
 |c x=>exact jU.ext h hv
 |a l=>obtain⟨cs,h1,h2⟩:=hv;exact⟨cs,h1,h2.ext h⟩
 |t l=>obtain⟨cs,h1,h2⟩:=hv;exact⟨cs,h1,h2.ext h⟩
 |Ts f l=>obtain⟨cs,h1,h2⟩:=hv;exact⟨cs,h1,h2.ext h⟩
 |U9=>trivial
theorem jU.aO{a:CC}{v:Value}(hv:jU O a v):aO v:=by
 cases a with
 |int k n=>obtain⟨rfl,_⟩:=hv;trivial
 |str s=>obtain⟨rfl,_⟩:=hv;trivial
 |ptr k off=>obtain⟨b,c,_,rfl⟩:=hv;trivial
 |sl k off len cap=>obtain⟨b,c,x,_,_,rfl,_⟩:=hv;trivial
 |mp k=>obtain⟨b,c,_,rfl⟩:=hv;trivial
 |_=>(have hv:v=_:=hv;subst hv;trivial)
theorem sI{v:Value}(h:aO v):v.cells= #[v]:=by cases v<;>first|rfl|exact h.elim
theorem cJ.len:∀{l:List CC} {m:List Value},cJ O l m->m.length=l.length
 |[],[],_=>rfl|_::_,_::_,hv=>by simp [cJ.len hv.2]|[],_::_,hv=>hv.elim|_::_,[],hv=>hv.elim
theorem cJ.cell:∀{l:List CC} {m:List Value},cJ O l m->∀v∈m,aO v
 |[],[],_,_,h=>by cases h
 |_::_,_::_,hv,v,h=>by
  rcases ajo.1 h with rfl|h
  ·exact hv.1.aO
  ·exact cJ.cell hv.2 v h
 |[],_::_,hv,_,_=>hv.elim|_::_,[],hv,_,_=>hv.elim
theorem cJ.app:∀{l l':List CC} {m m':List Value},cJ O l m->cJ O l' m'->cJ O (l++l') (m++m')
 |[],_,[],_,_,h=>h|_::_,_,_::_,_,h,h'=>⟨h.1,cJ.app h.2 h'⟩|[],_,_::_,_,h,_=>h.elim|_::_,_,[],_,h,_=>h.elim
theorem wJ(l:List CC):wD l 0=l:=by cases l<;>rfl
theorem cJ.drop:∀{l:List CC} {m:List Value} (n:Nat),cJ O l m->cJ O (wD l n) (m.drop n)
 |l,m,0,h=>by rw [wJ];simpa using h
 |[],[],_+1,_=>trivial|_::_,_::_,n+1,h=>by simpa [wD]using cJ.drop n h.2|[],_::_,_+1,h=>h.elim|_::_,[],_+1,h=>h.elim
theorem pJ(l:List CC):nA l 0=some []:=by cases l<;>rfl
theorem wK(a:CC)(l:List CC)(n:Nat):nA (a::l) (n+1)=bo (nA l n) λm=>some (a::m):=rfl
theorem cJ.take:∀{l:List CC} {m:List Value} (n:Nat) {r:List CC},cJ O l m->nA l n=some r->cJ O r (m.take n)/\n<=m.length
 |l,m,0,r,h,e=>by rw [pJ]at e;cases e;exact⟨by simp;trivial,ajk _⟩
 |[],[],_+1,_,_,e=>by cases e
 |a::l,v::m,n+1,r,h,e=>by
  rw [wK]at e;obtain⟨r',he,e⟩:=aw e;cases e;obtain⟨h1,h2⟩:=cJ.take n h.2 he;exact⟨⟨h.1,h1⟩,by simp;omega⟩
 |[],_::_,_+1,_,h,_=>h.elim|_::_,[],_+1,_,h,_=>h.elim
theorem cJ.part{l:List CC}{m:List Value}{off n:Nat}{r:List CC}(h:cJ O l m)(e:y4 l off n=some r):cJ O r ((m.drop off).take n)/\n<=(m.drop off).length:=cJ.take n (h.drop off) e
theorem zh:∀{l:List CC} {n:Nat} {r:List CC},nA l n=some r->r.length=n/\n<=l.length
 |l,0,r,e=>by rw [pJ]at e;cases e;exact⟨rfl,ajk _⟩
 |[],_+1,_,e=>by cases e
 |a::l,n+1,r,e=>by
  rw [wK]at e;obtain⟨r',he,e⟩:=aw e;cases e;obtain⟨h1,h2⟩:=zh he;exact⟨by simp [h1],by simp;omega⟩
theorem J6(l:List CC):y5 l []=some l:=by cases l<;>rfl
theorem DF:∀{l m r:List CC} {lv mv:List Value},y5 l m=some r->cJ O l lv->cJ O m mv->cJ O r (mv++lv.drop mv.length)/\mv.length<=lv.length/\r.length=l.length
 |l,[],r,lv,mv,e,h1,h2=>by
  cases mv with
  |nil=>rw [J6]at e;cases e;exact⟨by simpa using h1,ajk _,rfl⟩
  |cons=>exact h2.elim
 |[],_::_,_,_,_,e,_,_=>by cases e
 |a::l,b::m,r,v::lv,u::mv,e,h1,h2=>by
  have e:(bo (y5 l m) λr=>some (b::r))=some r:=e;obtain⟨r',he,e⟩:=aw e;cases e;obtain⟨h3,h4,h5⟩:=DF he h1.2 h2.2;exact⟨⟨h2.1,by simpa using h3⟩,by simp;omega,by simp [h5]⟩
 |_::_,_::_,_,[],_,_,h1,_=>h1.elim
 |_::_,_::_,_,_::_,[],_,_,h2=>h2.elim
theorem DG(l m:List CC):iO l 0 m=y5 l m:=by cases l<;>rfl
theorem sJ:∀{l:List CC} {n:Nat} {m r:List CC} {lv mv:List Value},iO l n m=some r->cJ O l lv->cJ O m mv->cJ O r (lv.take n++(mv++lv.drop (n+mv.length)))/\n+mv.length<=lv.length/\r.length=l.length
 |l,0,m,r,lv,mv,e,h1,h2=>by
  rw [DG]at e;obtain⟨h3,h4,h5⟩:=DF e h1 h2;exact⟨by simpa using h3,aa,h5⟩
 |[],_+1,_,_,_,_,e,_,_=>by cases e
 |a::l,n+1,m,r,v::lv,mv,e,h1,h2=>by
  have e:(bo (iO l n m) λr=>some (a::r))=some r:=e;obtain⟨r',he,e⟩:=aw e;cases e;obtain⟨h3,h4,h5⟩:=sJ he h1.2 h2;refine⟨⟨h1.1,?_⟩,by simp;omega,by simp [h5]⟩;rw [show n+1+mv.length=(n+mv.length)+1 by omega]
  simpa using h3
 |_::_,_+1,_,_,[],_,_,h1,_=>h1.elim
theorem uP:∀{l:List CC} {n:Nat},wE l n=true->l.length=n
 |[],0,_=>rfl|_::l,n+1,h=>by simp [uP (l:=l) h]|[],_+1,h=>by cases h|_::_,0,h=>by cases h
theorem zi:∀{l:List CC} {m:List Value} {x:CC},cJ O l m->Tt l=some x->∃v,m[0]? =some v/\jU O x v
 |a::l,v::m,x,h,e=>by cases e;exact⟨v,rfl,h.1⟩
 |[],_,_,_,e=>by cases e
 |_::_,[],_,h,_=>h.elim
end
def tA(O:Rn):List (CW × CW)->List MapEntry->Prop
 |[],[]=>True|p::m,e::es=>(pI O p.1 e.key/\pI O p.2 e.val)/\tA O m es|_,_=>False
theorem tA.ext{O O':Rn}(h:Ext O O'):∀{l:List (CW × CW)} {m:List MapEntry},tA O l m->tA O' l m
 |[],[],_=>trivial|_::_,_::_,hv=>⟨⟨hv.1.1.ext h,hv.1.2.ext h⟩,tA.ext h hv.2⟩|[],_::_,hv=>hv.elim|_::_,[],hv=>hv.elim
def Nz(c n l:Nat)(ty:TypeId):Option (Nat × Nat)->Prop|none=>n=l|some p=>ty=p.2/\(p.1=0->n=l)/\(p.1≠0->n=c*p.1)
def B5(O:Rn)(c:Nat):CO->Obj->Prop
 |.cells l g,o=>∃cs ty,o= .cells cs ty (0,0)/\l.length<=cs.size/\Nz c cs.size l.length ty g/\cJ O l (cs.toList.take l.length)
 |.map es,o=>∃en n,o= .map en n/\tA O es en.toList
theorem B5.ext{O O':Rn}(h:Ext O O'){c:Nat}{x:CO}{o:Obj}(hv:B5 O c x o):B5 O' c x o:=by
 cases x with
 |cells l g=>obtain⟨cs,ty,h1,h2,h3,h4⟩:=hv;exact⟨cs,ty,h1,h2,h3,h4.ext h⟩
 |map es=>obtain⟨en,n,h1,h2⟩:=hv;exact⟨en,n,h1,h2.ext h⟩
structure Hd(O:Rn)(h:Nat->Option CO)(nx:Nat)(w:World):Prop where
 obj:∀k o,h k=some o->∃b c x,O k=some (b,c)/\w.heap[b]? =some x/\B5 O c o x
 inj:∀k k' o o' b c c',h k=some o->h k'=some o'->O k=some (b,c)->O k'=some (b,c')->k=k'
 new:∀k,nx<=k->O k=none
 lw:AQ w
 nz:∀k o b c,h k=some o->O k=some (b,c)->b≠0
theorem rh{w w':World}(h:AQ w)(e:w'.heap[0]? =w.heap[0]?):AQ w':=λj hj=>by
 rw [<-h j hj];simp only [World.cell?,e]
theorem nD{w:World}(h:AQ w):0<w.heap.size:=by
 have:=h 0 (by decide);cases e:w.heap[0]? with
 |none=>simp [World.cell?,e]at this
 |some x=>exact(ajL.1 e).1
structure bM(O O':Rn)(s s':HS)(w w':World):Prop where
 ext:Ext O O'
 hd:Hd O' s'.H.get s'.nx w'
 frame:∀b,b<w.heap.size->(∀k o c,s.H.get k=some o->O k≠some (b,c))->w'.heap[b]? =w.heap[b]?
 fresh:∀k o b c,s'.H.get k=some o->O' k=some (b,c)->w.heap.size<=b\/∃k0 o0 c0,s.H.get k0=some o0/\O k0=some (b,c0)
 size:w.heap.size<=w'.heap.size
 io:kg w w'
 nx:s.nx<=s'.nx
 same:∀k,k<s.nx->O' k=O k
 wb:s'.wb=s.wb
 sub:∀k,k∈s.wr->k∈s'.wr
 keep:∀k,k<s.wb->k<s.nx->k∉s'.wr->s'.H.get k=s.H.get k
theorem Hd.lt{O:Rn}{H:Nat->Option CO}{nx:Nat}{w:World}(h:Hd O H nx w){k:Nat}{o:CO}(hk:H k=some o):k<nx:=by
 rcases ajF k nx with h'|h'
 ·exact h'
 ·obtain⟨b,c,x,h1,_⟩:=h.obj k o hk
  rw [h.new k h']at h1;cases h1
theorem Hd.blt{O:Rn}{H:Nat->Option CO}{nx:Nat}{w:World}(h:Hd O H nx w){k:Nat}{o:CO}(hk:H k=some o){b c:Nat}(hb:O k=some (b,c)):b<w.heap.size:=by
 obtain⟨b',c',x,h1,h2,_⟩:=h.obj k o hk;rw [hb]at h1;cases h1;exact(ajL.1 h2).1
theorem bM.refl{O:Rn}{s:HS}{w:World}(h:Hd O s.H.get s.nx w):bM O O s s w w:=
 ⟨Ext.refl O,h,λ_ _ _=>rfl,λk o _b c hk hb=>.inr ⟨k,o,c,hk,hb⟩,ajl _,kg.refl _,ajl _,λ_ _=>rfl,rfl,λ_ h=>h,λ_ _ _ _=>rfl⟩
theorem bM.trans{O O' O'':Rn}{s s' s'':HS}{w w' w'':World}(h:bM O O' s s' w w')(h':bM O' O'' s' s'' w' w''):bM O O'' s s'' w w'' where
 ext:=h.ext.trans h'.ext
 hd:=h'.hd
 frame b hb hn:=by
  rw [<-h.frame b hb hn];refine h'.frame b (ajT hb h.size) λk o c hk hr=>?_;rcases h.fresh k o b c hk hr with h1|⟨k0,o0,c0,h1,h2⟩
  ·omega
  ·exact hn k0 o0 c0 h1 h2
 fresh k o b c hk hr:=by
  rcases h'.fresh k o b c hk hr with h1|⟨k0,o0,c0,h1,h2⟩
  ·exact .inl (ajW h.size h1)
  ·exact h.fresh k0 o0 b c0 h1 h2
 size:=ajW h.size h'.size
 io:=h.io.trans h'.io
 nx:=ajW h.nx h'.nx
 same k hk:=(h'.same k (ajT hk h.nx)).trans (h.same k hk)
 wb:=h'.wb.trans h.wb
 sub k hk:=h'.sub k (h.sub k hk)
 keep k h1 h2 h3:=(h'.keep k (by rw [h.wb];exact h1) (ajT h2 h.nx) h3).trans (h.keep k h1 h2 λh4=>h3 (h'.sub k h4))
theorem bM.make{O:Rn}{s:HS}{w w':World}{o:CO}{x:Obj}(c:Nat)(h:Hd O s.H.get s.nx w)(hw:w'.heap=w.heap.push x)(oK:kg w w')(ho:∀O',Ext O O'->B5 O' c o x):
  ∃O',bM O O' s (s.new o) w w'/\O' s.nx=some (w.heap.size,c):=by
 let O':Rn:=λk=>if k=s.nx then some (w.heap.size,c) else O k
 have fk:Ext O O':=λk x hk=>by
  show(if k=s.nx then _ else _)=_;rw [ajm λe=>by subst e;rw [h.new _ (ajl _)]at hk;cases hk];exact hk
 have qH:O' s.nx=some (w.heap.size,c):=ajq rfl;have hold:∀{k},k<s.nx->O' k=O k:=λ{k} hk=>ajm (akk hk);have hg:∀k,(s.new o).H.get k=if k=s.nx then some o else s.H.get k:=λk=>Tr.fw _ _ _ _
 have xJ:AQ w':=rh h.lw (by rw [hw,Array.getElem?_push_lt (nD h.lw),ajE (nD h.lw)])
 have hnz:∀k y b c1,(s.new o).H.get k=some y->O' k=some (b,c1)->b≠0:=λk y b c1 hk hb=>by
  rw [hg]at hk
  by_cases e:k=s.nx
  ·subst e;rw [qH]at hb;cases hb;exact Nat.ne_of_gt (nD h.lw)
  ·rw [ajm e]at hk;exact h.nz k y b c1 hk (by rw [<-hold (h.lt hk)];exact hb)
 refine⟨O',⟨fk,⟨λk y hk=>?_,λk k' y y' b c1 c2 hk oC hb cy=>?_,λk hk=>?_,xJ,hnz⟩,λb hb _=>?_,λk y b c1 hk hb=>?_,?_,oK,akg _,λk hk=>hold hk,rfl,λ_ h=>h,λk _ hk _=>?_⟩,qH⟩
 ·rw [hg]at hk
  by_cases e:k=s.nx
  ·subst e
   rw [ajq rfl]at hk;cases hk;exact⟨w.heap.size,c,x,qH,by rw [hw];simp,ho O' fk⟩
  ·rw [ajm e]at hk
   obtain⟨b,c1,y',h1,h2,h3⟩:=h.obj k y hk;exact⟨b,c1,y',fk _ _ h1,by rw [hw,Array.getElem?_push_lt (ajL.1 h2).1,<-ajE,h2],h3.ext fk⟩
 ·rw [hg]at hk oC
  have lt:∀{k y b c},s.H.get k=some y->O' k=some (b,c)->b<w.heap.size:=λhk hb=>h.blt hk (by rw [<-hold (h.lt hk)];exact hb)
  by_cases e:k=s.nx<;>by_cases e':k'=s.nx
  ·omega
  ·subst e
   rw [ajm e']at oC;rw [qH]at hb;cases hb;have:=lt oC cy;omega
  ·subst e'
   rw [ajm e]at hk;rw [qH]at cy;cases cy;have:=lt hk hb;omega
  ·rw [ajm e]at hk;rw [ajm e']at oC
   exact h.inj k k' _ _ b c1 c2 hk oC (by rw [<-hold (h.lt hk)];exact hb) (by rw [<-hold (h.lt oC)];exact cy)
 ·have hk:s.nx+1<=k:=hk
  show(if k=s.nx then _ else _)=_;rw [ajm aa];exact h.new k aa
 ·rw [hw,Array.getElem?_push_lt hb,ajE hb]
 ·rw [hg]at hk
  by_cases e:k=s.nx
  ·subst e;rw [qH]at hb;cases hb;exact .inl (ajl _)
  ·rw [ajm e]at hk
   exact .inr ⟨k,y,c1,hk,by rw [<-hold (h.lt hk)];exact hb⟩
 ·rw [hw];simp
 ·rw [hg,ajm aa]
theorem bM.write{O:Rn}{s:HS}{w w':World}{k b c:Nat}{o o':CO}{x:Obj}(h:Hd O s.H.get s.nx w)(hk:s.H.get k=some o)(hb:O k=some (b,c))(hw:w'.heap=w.heap.setIfInBounds b x)(oK:kg w w')(ho:B5 O c o' x):
  bM O O s (s.put k o') w w':=by
 have aX:=h.blt hk hb;have hg:∀j,(s.put k o').H.get j=if j=k then some o' else s.H.get j:=λj=>Tr.fw _ _ _ _
 have Rp:∀{j y},(s.put k o').H.get j=some y->∃y',s.H.get j=some y':=λ{j y} hj=>by
  rw [hg]at hj
  by_cases e:j=k
  ·subst e;exact⟨o,hk⟩
  ·rw [ajm e]at hj;exact⟨y,hj⟩
 have xJ:AQ w':=rh h.lw (by rw [hw,ajZ (h.nz k o b c hk hb)]);refine⟨Ext.refl O,⟨λj y hj=>?_,λj j' y y' b1 c1 c2 hj mC j9 Pm=>?_,h.new,xJ,λj y b1 c1 hj j9=>by obtain⟨z,hz⟩:=Rp hj;exact h.nz j z b1 c1 hz j9⟩,λb1 j9 hn=>?_,λj y b1 c1 hj j9=>?_,?_,oK,ajl _,λ_ _=>rfl,rfl,λj hj=>gT.2 (.inl hj),λj hj jX hn=>?_⟩
 ·rw [hg]at hj
  by_cases e:j=k
  ·subst e
   rw [ajq rfl]at hj;cases hj;exact⟨b,c,x,hb,by rw [hw];simp [aX],ho⟩
  ·rw [ajm e]at hj
   obtain⟨b1,c1,y',h1,h2,h3⟩:=h.obj j y hj;have bn:b≠b1:=λe'=>by subst e';exact e (h.inj j k _ _ b c1 c hj hk h1 hb)
   exact⟨b1,c1,y',h1,by rw [hw,ajZ bn];exact h2,h3⟩
 ·obtain⟨z,hz⟩:=Rp hj
  obtain⟨z',yI⟩:=Rp mC;exact h.inj j j' _ _ b1 c1 c2 hz yI j9 Pm
 ·have bn:b≠b1:=λe'=>by subst e';exact hn k o c hk hb
  rw [hw,ajZ bn]
 ·obtain⟨z,hz⟩:=Rp hj
  exact .inr ⟨j,z,c1,hz,j9⟩
 ·rw [hw];simp
 ·rw [hg,ajm λe=>hn (gT.2 (.inr ⟨e,aa⟩))]
theorem bM.drop{O:Rn}{s:HS}{w w':World}{k b c:Nat}{o:CO}(h:Hd O s.H.get s.nx w)(hk:s.H.get k=some o)(hb:O k=some (b,c))(hw:∀i,i<w.heap.size->i≠b->w'.heap[i]? =w.heap[i]?)(bu:w.heap.size<=w'.heap.size)(oK:kg w w'):
  bM O O s ⟨s.H.put k none,s.nx,s.wb,wrote s.wb k s.wr⟩ w w':=by
 have hg:∀j,(s.H.put k none).get j=if j=k then none else s.H.get j:=λj=>Tr.fw _ _ _ _
 have hold:∀{j y},(s.H.put k none).get j=some y->s.H.get j=some y/\j≠k:=λ{j y} hj=>by
  rw [hg]at hj
  by_cases e:j=k
  ·rw [ajq e]at hj;cases hj
  ·rw [ajm e]at hj;exact⟨hj,e⟩
 refine⟨Ext.refl O,⟨λj y hj=>?_,λj j' y y' b1 c1 c2 hj mC j9 Pm=>h.inj j j' _ _ b1 c1 c2 (hold hj).1 (hold mC).1 j9 Pm,h.new,rh h.lw (hw 0 (nD h.lw) (Ne.symm (h.nz k o b c hk hb))),λj y b1 c1 hj j9=>h.nz j y b1 c1 (hold hj).1 j9⟩,λb1 j9 hn=>hw b1 j9 λe=>hn k o c hk (by rw [e];exact hb),λj y b1 c1 hj j9=>.inr ⟨j,y,c1,(hold hj).1,j9⟩,bu,oK,ajl _,λ_ _=>rfl,rfl,λj hj=>gT.2 (.inl hj),λj hj jX hn=>?_⟩
 ·obtain⟨h1,h2⟩:=hold hj
  obtain⟨b1,c1,y',h3,h4,h5⟩:=h.obj j y h1;have bn:b1≠b:=λe=>h2 (h.inj j k _ _ b1 c1 c h1 hk h3 (by rw [e];exact hb));exact⟨b1,c1,y',h3,by rw [hw b1 (ajL.1 h4).1 bn];exact h4,h5⟩
 ·show(s.H.put k none).get j=_
  rw [hg,ajm λe=>hn (gT.2 (.inr ⟨e,aa⟩))]
theorem bM.Ty{O:Rn}{s s':HS}{w w':World}{k b c c' b':Nat}{o o':CO}{x:Obj}(h:Hd O s.H.get s.nx w)(hk:s.H.get k=some o)(hb:O k=some (b,c))(hs:s'=⟨(s.H.put k none).put s.nx (some o'),s.nx+1,s.wb,wrote s.wb k s.wr⟩)
  (cy:b'=b\/w.heap.size<=b') (hw:∀i,i<w.heap.size->i≠b->w'.heap[i]? =w.heap[i]?) (hwb:w'.heap[b']? =some x) (bu:w.heap.size<=w'.heap.size) (oK:kg w w') (ho:∀O',Ext O O'->B5 O' c' o' x):
  ∃O',bM O O' s s' w w'/\O' s.nx=some (b',c'):=by
 subst hs
 let O':Rn:=λj=>if j=s.nx then some (b',c') else O j
 have fk:Ext O O':=λj x hj=>by
  show(if j=s.nx then _ else _)=_;rw [ajm λe=>by subst e;rw [h.new _ (ajl _)]at hj;cases hj];exact hj
 have qH:O' s.nx=some (b',c'):=ajq rfl;have hold:∀{j},j<s.nx->O' j=O j:=λ{j} hj=>ajm (akk hj);have Zo:=h.lt hk;have Qr:=h.blt hk hb;have hg:∀j,((s.H.put k none).put s.nx (some o')).get j=if j=s.nx then some o' else if j=k then none else s.H.get j:=λj=>by rw [Tr.fw,Tr.fw]
 have other:∀{j y},j≠s.nx->((s.H.put k none).put s.nx (some o')).get j=some y->s.H.get j=some y/\j≠k:=λ{j y} hj hy=>by
  rw [hg,ajm hj]at hy
  by_cases e:j=k
  ·rw [ajq e]at hy;cases hy
  ·rw [ajm e]at hy;exact⟨hy,e⟩
 have apart:∀{j y b1 c1},j≠s.nx->((s.H.put k none).put s.nx (some o')).get j=some y->O' j=some (b1,c1)->b1≠b'/\b1≠b/\b1<w.heap.size:=λ{j y b1 c1} hj hy j9=>by
  obtain⟨h1,h2⟩:=other hj hy;rw [hold (h.lt h1)]at j9;have h3:=h.blt h1 j9;have h4:b1≠b:=λe=>by subst e;exact h2 (h.inj j k _ _ b1 c1 c h1 hk j9 hb)
  refine⟨λe=>?_,h4,h3⟩;rcases cy with h5|h5
  ·exact h4 (e.trans h5)
  ·omega
 have xJ:AQ w':=rh h.lw (hw 0 (nD h.lw) (Ne.symm (h.nz k o b c hk hb)))
 have hnz:∀j y b1 c1,((s.H.put k none).put s.nx (some o')).get j=some y->O' j=some (b1,c1)->b1≠0:=λj y b1 c1 hj j9=>by
  by_cases e:j=s.nx
  ·subst e
   rw [qH]at j9;cases j9;rcases cy with h5|h5
   ·rw [h5];exact h.nz k o b c hk hb
   ·have:=nD h.lw;omega
  ·obtain⟨h1,_⟩:=other e hj
   exact h.nz j y b1 c1 h1 (by rw [<-hold (h.lt h1)];exact j9)
 refine⟨O',⟨fk,⟨λj y hj=>?_,λj j' y y' b1 c1 c2 hj mC j9 Pm=>?_,λj hj=>?_,xJ,hnz⟩,λi hi hn=>?_,λj y b1 c1 hj j9=>?_,bu,oK,akg _,λj hj=>hold hj,rfl,λj hj=>gT.2 (.inl hj),λj h1 h2 h3=>?_⟩,qH⟩
 ·by_cases e:j=s.nx
  ·subst e
   rw [hg,ajq rfl]at hj;cases hj;exact⟨b',c',x,qH,hwb,ho O' fk⟩
  ·obtain⟨h1,_⟩:=other e hj
   obtain⟨b1,c1,y',h3,h4,h5⟩:=h.obj j y h1;have h6:=apart e hj (fk _ _ h3);exact⟨b1,c1,y',fk _ _ h3,by rw [hw b1 h6.2.2 h6.2.1];exact h4,h5.ext fk⟩
 ·by_cases e:j=s.nx<;>by_cases e':j'=s.nx
  ·omega
  ·subst e
   rw [qH]at j9;cases j9;exact absurd rfl (apart e' mC Pm).1
  ·subst e'
   rw [qH]at Pm;cases Pm;exact absurd rfl (apart e hj j9).1
  ·obtain⟨h1,_⟩:=other e hj
   obtain⟨h2,_⟩:=other e' mC;exact h.inj j j' _ _ b1 c1 c2 h1 h2 (by rw [<-hold (h.lt h1)];exact j9) (by rw [<-hold (h.lt h2)];exact Pm)
 ·have hj:s.nx+1<=j:=hj
  show(if j=s.nx then _ else _)=_;rw [ajm aa];exact h.new j aa
 ·exact hw i hi λe=>hn k o c hk (by rw [e];exact hb)
 ·by_cases e:j=s.nx
  ·subst e
   rw [qH]at j9;cases j9;rcases cy with h5|h5
   ·exact .inr ⟨k,o,c,hk,by rw [h5];exact hb⟩
   ·exact .inl h5
  ·obtain⟨h1,_⟩:=other e hj
   exact .inr ⟨j,y,c1,h1,by rw [<-hold (h.lt h1)];exact j9⟩
 ·show((s.H.put k none).put s.nx (some o')).get j=_
  rw [hg,ajm aa,ajm λe=>h3 (gT.2 (.inr ⟨e,aa⟩))]
end Go.CM
end
section
namespace Go.CM
open Go Go.AM
def zcB(x:CC)(v:Value):Bool:=
 match x,v with
 |.int k n,.int k' n'=>kq k k'&&decide (n=n')&&yd k n
 |.bool b,.bool b'=>b==b'
 |.str [],.string s=>Nat.beq s.size 0
 |.dO,.pointer none=>true|.ar,.slice none 0 0=>true|.bO,.map none=>true|.aK,.nilFunc=>true
 |_,_=>false
def Rq:List CC->List Value->Bool
 |[],[]=>true|a::l,v::m=>zcB a v&&Rq l m|_,_=>false
def NA(P:Program)(TY:List cV)(t:Nat)(l:List CC):Bool:=
 match l with
 |[]=>true
 |a::l=>match P.info? t with|some i=>(match i.zero with|some z=>Rq (a::l) z.cells.toList&&DH (bN (au TY t).d) z|none=>false)|none=>false
def wM(P:Program)(TY:List cV):Nat->List (List CC)->Bool
 |_,[]=>true|t,l::m=>NA P TY t l&&wM P TY (t+1) m
theorem J7{s:ByteArray}(h:s.size=0):s=bJ []:=by
 cases s with
 |mk d=>
  have h:d.size=0:=h;have:d= #[]:=Array.eq_empty_of_size_eq_zero h;subst this;rfl
theorem Vl{x:CC}{v:Value}(h:zcB x v=true)(O:Rn):jU O x v:=by
 unfold zcB at h;split at h
 ·simp only [ajB,decide_eq_true_eq]at h
  obtain⟨⟨h1,rfl⟩,h3⟩:=h;obtain rfl:=b8 h1;exact⟨rfl,wN h3⟩
 ·rename_i b b'
  have h:b=b':=by simpa using h
  subst h;rfl
 ·exact⟨by rw [J7 (aA.1 h)],by simp⟩
 ·rfl
 ·rfl
 ·rfl
 ·rfl
 ·cases h
theorem H3:∀{l:List CC} {m:List Value},Rq l m=true->∀O,cJ O l m
 |[],[],_,_=>trivial
 |a::l,v::m,h,O=>by simp only [Rq,ajB]at h;exact⟨Vl h.1 O,H3 h.2 O⟩
 |[],_::_,h,_=>by cases h
 |_::_,[],h,_=>by cases h
structure xK(P:Program)(TY:List cV)(TZ:Zs):Prop where
 row:∀t,um TZ t≠[]->∃i z,P.info? t=some i/\i.zero=some z/\(∀O,cJ O (um TZ t) z.cells.toList)/\DH (bN (au TY t).d) z=true
theorem NB(t:Nat):um [] t=[]:=by cases t<;>rfl
theorem DI{P:Program}{TY:List cV}:∀{m:Zs} {t:Nat},wM P TY t m=true->∀i,NA P TY (t+i) (um m i)=true
 |[],t,_,i=>by rw [NB];rfl
 |l::m,t,h,0=>by simp only [wM,ajB]at h;exact h.1
 |l::m,t,h,i+1=>by
  simp only [wM,ajB]at h;have:=DI h.2 i;rw [show t+1+i=t+(i+1) by omega]at this;exact this
theorem Um{P:Program}{TY:List cV}{TZ:Zs}(h:wM P TY 0 TZ=true):xK P TY TZ:=⟨λt ht=>by
 have h1:=DI h t;rw [ajQ]at h1;generalize um TZ t=l at h1 ht;cases l with
 |nil=>exact absurd rfl ht
 |cons a l=>
  simp only [NA]at h1;split at h1
  ·rename_i i hi
   split at h1
   ·rename_i z hz
    rw [ajB]at h1;exact⟨i,z,hi,hz,H3 h1.1,h1.2⟩
   ·cases h1
  ·cases h1⟩
section
variable{O:Rn}{v:CV}{u:Value}
theorem cr{x:CC}(h:ye v=some x)(hv:ef O v u):jU O x u:=by cases v<;>simp [ye]at h;subst h;exact hv
theorem rp{l:List CC}(h:Va v=some l)(hv:ef O v u):∃cs,u= .agg cs/\cJ O l cs.toList:=by cases v<;>simp [Va]at h;subst h;exact hv
theorem Rr{l:List CW}(h:asT v=some l)(hv:ef O v u):∃cs,u= .tuple cs/\uo O l cs.toList:=by cases v<;>simp [asT]at h;subst h;exact hv
theorem uQ{x:CW}(h:WB v=some x)(hv:ef O v u):pI O x u:=by cases v<;>simp [WB]at h<;>(subst h;exact hv)
theorem ma{x:CW}(h:pI O x u):ef O (WC x) u:=by cases x<;>exact h
theorem Bn{b:Bool}(h:XV v=some b)(hv:ef O v u):u= .bool b:=by
 obtain⟨x,h1,h2⟩:=aw h;have:=cr h1 hv;cases x<;>simp at h2
 subst h2;exact this
theorem iX{p:IntKind × Int}(h:O5 v=some p)(hv:ef O v u):u= .int p.1 p.2/\eO p.1 p.2:=by
 obtain⟨x,h1,h2⟩:=aw h;have:=cr h1 hv;cases x<;>simp at h2
 subst h2;exact this
theorem H4{i:Int}{n:Nat}(h:I8 i=some n):i=n:=by cases i<;>simp [I8]at h;subst h;rfl
theorem ru{n:Nat}(h:WD v=some n)(hv:ef O v u):∃k,u= .int k n/\eO k n:=by
 obtain⟨p,h1,h2⟩:=aw h;have:=iX h1 hv;rw [H4 h2]at this;exact⟨_,this⟩
theorem rv{p:Nat × Nat}(h:Uk v=some p)(hv:ef O v u):∃b c,O p.1=some (b,c)/\u= .pointer (some ⟨b,p.2,none⟩):=by
 obtain⟨x,h1,h2⟩:=aw h;have:=cr h1 hv;cases x<;>simp at h2
 subst h2;exact this
theorem Bo{s:Po}(h:Zn v=some s)(hv:ef O v u):jU O (.sl s.k s.off s.len s.cap) u:=by
 obtain⟨x,h1,h2⟩:=aw h;have:=cr h1 hv;cases x<;>simp at h2
 subst h2;exact this
end
theorem ofNat_toNat(b:UInt8):UInt8.ofNat b.toNat=b:=by simp
theorem zj:∀(l:List UInt8),(sG l).map UInt8.ofNat=l
 |[]=>rfl
 |b::l=>by simp only [sG,akd,zj l,ofNat_toNat]
theorem zk:∀(l:List UInt8),∀x∈sG l,x<256
 |[],x,h=>by cases h
 |b::l,x,h=>by
  simp only [sG,ajo]at h;rcases h with rfl|h
  ·exact b.toNat_lt
  ·exact zk l x h
theorem wO{v:Value}{x:CC}(h:nw v=some x)(O:Rn):jU O x v:=by
 cases v with
 |int k n=>obtain⟨h1,h2⟩:=aE h;cases h2;exact⟨rfl,wN h1⟩
 |bool b=>cases h;rfl
 |string s=>
  cases h;refine⟨?_,zk _⟩;cases s with
  |mk d=>simp [bJ,zj]
 |slice a n c=>simp only [nw]at h;split at h<;>cases h;rfl
 |pointer a=>simp only [nw]at h;split at h<;>cases h;rfl
 |map a=>simp only [nw]at h;split at h<;>cases h;rfl
 |nilFunc=>cases h;rfl
 |nilIface=>cases h;rfl
 |_=>cases h
theorem wP{O:Rn}:∀{l:List Value} {m:List CC},consts l=some m->cJ O m l
 |[],_,h=>by cases h;trivial
 |v::l,m,h=>by
  obtain⟨x,h1,h⟩:=aw h;obtain⟨r,h2,h⟩:=aw h;cases h;exact⟨wO h1 O,wP h2⟩
theorem wQ(O:Rn)(v:Value):ef O (Nd v) v:=by
 have plain:∀v:Value,ef O (HM (bo (nw v) λx=>some (.c x))) v:=λv=>by
  cases hc:nw v with
  |none=>trivial
  |some x=>exact wO hc O
 cases v with
 |agg cs=>
  show ef O (HM (bo (consts cs.toList) λl=>some (.a l))) _;cases hc:consts cs.toList with
  |none=>trivial
  |some l=>exact⟨cs,rfl,wP hc⟩
 |bool b=>exact plain (.bool b)
 |int k n=>exact plain (.int k n)
 |float k b=>exact plain (.float k b)
 |complex k a b=>exact plain (.complex k a b)
 |string b=>exact plain (.string b)
 |pointer a=>exact plain (.pointer a)
 |slice a n c=>exact plain (.slice a n c)
 |map r=>exact plain (.map r)
 |chan r=>exact plain (.chan r)
 |func f a b=>exact plain (.func f a b)
 |nilFunc=>exact plain .nilFunc
 |iface t v=>exact plain (.iface t v)
 |nilIface=>exact plain .nilIface
 |tuple vs=>exact plain (.tuple vs)
structure zl(O:Rn)(T:cW)(a:Act):Prop where
 defers:a.defers=[]
 size:a.tmps.size=T.n
 tmp:∀i,ef O (l9 T i) (a.tmps.getD i undef)
theorem zl.ext{O O':Rn}{T:cW}{a:Act}(h:zl O T a)(he:Ext O O'):zl O' T a:=⟨h.defers,h.size,λi=>(h.tmp i).ext he⟩
theorem H5{O:Rn}{T:cW}{a:Act}(h:zl O T a)(x:Operand):ef O (cP T x) (a.eval x):=by
 cases x with
 |tmp t=>exact h.tmp t
 |const v=>exact wQ O v
 |global g=>trivial
 |func f=>exact rfl
theorem rA{T T':cW}{d:Nat}{v:CV}(h:J1 T d v=some T')(i:Nat):l9 T' i=if i=d then v else l9 T i:=by
 obtain⟨_,h2⟩:=aE h;cases h2;show(match (T.t.put d (some v)).get i with|some v=>v|none=>.U9)=_;rw [Tr.fw]
 by_cases e:i=d
 ·rw [ajq e,ajq e]
 ·rw [ajm e,ajm e];rfl
theorem zl.put{O:Rn}{T T':cW}{a:Act}{d:Option Nat}{v:CV}{u:Value}(h:zl O T a)(hd:oI d T v=some T')(hv:ef O v u):zl O T' (a.put d u):=by
 cases d with
 |none=>cases hd;exact h
 |some d=>
  have hp:J1 T d v=some T':=hd;obtain⟨h1,h2⟩:=aE hp;have hn:T'.n=T.n:=by cases h2;rfl
  have aX:d<a.tmps.size:=by rw [h.size];exact ah h1
  refine⟨h.defers,by simp [Act.put,h.size,hn],λi=>?_⟩;rw [rA hp i]
  by_cases e:i=d
  ·subst e
   rw [ajq rfl];have:(a.put (some i) u).tmps.getD i undef=u:=by simp [Act.put,aX]
   rw [this];exact hv
  ·rw [ajm e]
   have:(a.put (some d) u).tmps.getD i undef=a.tmps.getD i undef:=by simp [Act.put,Array.getD_eq_getD_getElem?,Array.getElem?_setIfInBounds_ne (Ne.symm e)]
   rw [this];exact h.tmp i
theorem lE(O:Rn):ef O (.t []) undef:=⟨#[],rfl,ag⟩
section
variable{P:Program}{E:Ev}{O:Rn}{s s':HS}{w:World}
theorem bB{k:Nat}{p:List CC × Option (Nat × Nat)}(h:jq s k=some p):s.H.get k=some (.cells p.1 p.2):=by
 obtain⟨o,h1,h2⟩:=aw h;cases o<;>simp at h2
 subst h2;exact h1
theorem uR{k:Nat}{es:List (CW × CW)}(h:Rl s k=some es):s.H.get k=some (.map es):=by
 obtain⟨o,h1,h2⟩:=aw h;cases o<;>simp at h2
 subst h2;exact h1
theorem dP(hd:Hd O s.H.get s.nx w){k b c:Nat}{l:List CC}{g:Option (Nat × Nat)}(hk:s.H.get k=some (.cells l g))(hb:O k=some (b,c)):
  ∃cs ty,w.heap[b]? =some (.cells cs ty (0,0))/\l.length<=cs.size/\Nz c cs.size l.length ty g/\cJ O l (cs.toList.take l.length):=by
 obtain⟨b',c',x,h1,h2,h3⟩:=hd.obj k _ hk;rw [hb]at h1;cases h1;obtain⟨cs,ty,rfl,h4,h5,h6⟩:=h3;exact⟨cs,ty,h2,h4,h5,h6⟩
theorem jG{l m:List CC}{cs:Array Value}{ty:TypeId}{b off n:Nat}(hl:cJ O l (cs.toList.take l.length))(hb:w.heap[b]? =some (.cells cs ty (0,0)))(h:y4 l off n=some m):
  ∃mv:List Value,cJ O m mv/\mv.length=n/\∀j x,mv[j]? =some x->w.cell? ⟨b,off+j,none⟩=some x:=by
 obtain⟨h1,h2⟩:=hl.part h;refine⟨_,h1,by rw [ajA];omega,λj x hj=>?_⟩;rw [cell_of_heap hb];rw [akm]at hj;split at hj
 ·rw [akt,akm]at hj
  split at hj
  ·rw [<-ajt];exact hj
  ·cases hj
 ·cases hj
variable(az:aR P E.TY)
include az
theorem H6{t off b:Nat}{l:List CC}{x:CW}{cs:Array Value}{ty:TypeId}(hl:cJ O l (cs.toList.take l.length))(hb:w.heap[b]? =some (.cells cs ty (0,0)))(h:oZ E t l off=some x):
  ∃u,(Instr.loadAt t (.pointer (some ⟨b,off,none⟩))).run P w= .ok u w/\pI O x u:=by
 unfold oZ at h;split at h
 ·rename_i ha
  obtain⟨m,h1,h2⟩:=aw h;cases h2;have aH:=az.at (t:=t) (.inr λe=>by unfold Ev.agg at ha;rw [e]at ha;cases ha);obtain⟨mv,h3,h4,h5⟩:=jG hl hb h1;exact⟨_,gQ aH ha (by rw [h4];rfl) h5,mv.toArray,rfl,by simpa using h3⟩
 ·rename_i ha
  obtain⟨h1,h2⟩:=aE h;obtain⟨y,h3,h4⟩:=aw h2;cases h4;have aH:=az.at (t:=t) (.inl (by have:(au E.TY t).sz=1:=aA.1 h1;omega));obtain⟨v,h5,h6⟩:=zi (hl.drop off) h3;refine⟨v,fF aH ha ?_,h6⟩;rw [cell_of_heap hb];rw [akt,akm]at h5;split at h5
  ·rw [<-ajt];simpa using h5
  ·cases h5
theorem uS{t off:Nat}{l:List CC}{x:CW}{cs:Array Value}(hl:cJ O l cs.toList)(h:oZ E t l off=some x):∃u,(part t cs off).run P w= .ok u w/\pI O x u:=by
 unfold oZ at h;split at h
 ·rename_i ha
  obtain⟨m,h1,h2⟩:=aw h;cases h2;have aH:=az.at (t:=t) (.inr λe=>by unfold Ev.agg at ha;rw [e]at ha;cases ha);obtain⟨h3,h4⟩:=hl.part h1;have ha':bN (au E.TY t).d=true:=ha;refine⟨.agg (cs.extract off (off+(au E.TY t).sz)),by simp [part,aH.agg,ha',aH.size],_,rfl,?_⟩
  have e:(cs.extract off (off+(au E.TY t).sz)).toList=(cs.toList.drop off).take (E.sz t):=by
   rw [Array.toList_extract,List.extract_eq_take_drop];congr 1;show off+(au E.TY t).sz - off=_;unfold Ev.sz;omega
  rw [e];exact h3
 ·rename_i ha
  obtain⟨h1,h2⟩:=aE h;obtain⟨y,h3,h4⟩:=aw h2;cases h4;have aH:=az.at (t:=t) (.inl (by have:(au E.TY t).sz=1:=aA.1 h1;omega));obtain⟨v,h5,h6⟩:=zi (hl.drop off) h3;have ha':bN (au E.TY t).d=false:=ha;have hv:cs[off]? =some v:=by rw [<-ajt];simpa using h5
  exact⟨v,by simp [part,aH.agg,ha',hv],h6⟩
omit az in
theorem ou{t:Nat}{v:CV}{m:List CC}{u:Value}(h:pE E t v=some m)(hv:ef O v u):cJ O m u.cells.toList/\u.cells.size=E.sz t/\m.length=E.sz t/\(∀x∈u.cells.toList,aO x):=by
 unfold pE at h;split at h
 ·obtain⟨l,h1,h2⟩:=aw h
  obtain⟨h3,h4⟩:=aE h2;cases h4;obtain⟨cs,rfl,h5⟩:=rp h1 hv;have:=h5.len;have h6:=uP h3;exact⟨h5,by show cs.size=_;rw [<-ajw,this,h6],h6,h5.cell⟩
 ·obtain⟨x,h1,h2⟩:=aw h
  obtain⟨h3,h4⟩:=aE h2;cases h4;have h5:=cr h1 hv;rw [sI h5.aO];exact⟨⟨h5,ag⟩,(aA.1 h3).symm,(aA.1 h3).symm,λy hy=>by simp at hy;subst hy;exact h5.aO⟩
omit az in
theorem kr{l m r:List CC}{g:Option (Nat × Nat)}{cs:Array Value}{c off:Nat}{mv:List Value}(h1:l.length<=cs.size){ty:TypeId}(h2:Nz c cs.size l.length ty g)(h3:cJ O l (cs.toList.take l.length))(hm:cJ O m mv)
  (hp:iO l off m=some r):B5 O c (.cells r g) (.cells (cs.toList.take off++mv++cs.toList.drop (off+mv.length)).toArray ty (0,0))/\off+mv.length<=l.length:=by
 obtain⟨h4,h5,h6⟩:=sJ hp h3 hm
 have hL:(cs.toList.take l.length).length=l.length:=by
  have e:cs.toList.length=cs.size:=ajw;rw [ajA];omega
 rw [hL]at h5
 have bu:(cs.toList.take off++mv++cs.toList.drop (off+mv.length)).toArray.size=cs.size:=by
  have e:cs.toList.length=cs.size:=ajw;simp only [List.size_toArray,ajp,ajA,aks];omega
 refine⟨⟨_,ty,rfl,by rw [bu,h6];exact h1,by rw [bu,h6];exact h2,?_⟩,h5⟩
 have e:((cs.toList.take off++mv++cs.toList.drop (off+mv.length)).toArray.toList).take r.length=(cs.toList.take l.length).take off++(mv++(cs.toList.take l.length).drop (off+mv.length)):=by
  rw [h6];apply List.ext_getElem?;intro q;simp only [akm,List.getElem?_append,ajp,ajA,akt,ajw]
  by_cases hq:q<l.length
  ·by_cases h7:q<off
   ·rw [ajq hq,ajq aa,ajq aa,ajq h7,ajq aa,ajq h7,ajq hq]
   ·by_cases h8:q<off+mv.length
    ·rw [ajq hq,ajq aa,ajm aa,ajm aa,ajq aa]
     congr 1;omega
    ·rw [ajq hq,ajm aa,ajm aa,ajm aa,ajq aa]
     congr 1;omega
  ·rw [ajm hq]
   by_cases h7:q<off
   ·omega
   ·rw [ajm aa]
    by_cases h8:q<off+mv.length
    ·omega
    ·rw [ajm aa,ajm aa]
 rw [e];exact h4
end
theorem uT{w:World}{b:Nat}{cs cs':Array Value}{ty:TypeId}(hb:w.heap[b]? =some (.cells cs ty (0,0))):(w.setRow b cs').heap=w.heap.setIfInBounds b (.cells cs' ty (0,0)):=by
 apply Array.ext_getElem?;intro i
 by_cases e:i=b
 ·subst e
  rw [setRow_heap w i cs cs' ty (0,0) hb];have:=(ajL.1 hb).1;simp [this]
 ·rw [setRow_other w b i cs' e,ajZ (Ne.symm e)]
def vo(P:Program)(call:WY):Prop:=∀f args s v s',call f args s=some (v,s')->eJ P f/\∀(O:Rn) (w:World) (vs:List Value),Hd O s.H.get s.nx w->nC O args vs->
 Calls P f vs.toArray w λe w'=>∃u,e= .returned u/\∃O',bM O O' s s' w w'/\ef O' v u
def Rs(P:Program)(eqs:List Nat):Prop:=∀t,wC t eqs=true->P.stoodInHeld t=false/\P.eqGuardType P.depth t=false/\∀f∈(P.fieldsOf t).toList,f.name≠ "_"
def H7(P:Program)(FW:List (Nat × Nat)):Prop:=∀p,G9 p FW=true->P.underlying p.1=some (.pointer p.2)/\P.cellsOf p.2=1
structure DJ(P:Program)(E:Ev):Prop where
 cal:vo P E.call
 eqs:Rs P E.eqs
 FW:H7 P E.FW
abbrev jQ(P:Program)(e:Operand->Value)(oo:Oper)(O:Rn)(s s':HS)(w:World)(v:CV):Prop:=fj P (execOp e oo) w λu w'=>∃O',bM O O' s s' w w'/\ef O' v u
section
variable{P:Program}{E:Ev}{O:Rn}{s s':HS}{w:World}{T:cW}{e:Operand->Value}{oo:Oper}{v:CV}
theorem aG{u:Value}(hd:Hd O s.H.get s.nx w)(h:(execOp e oo).run P w= .ok (.value u) w)(hv:ef O v u):jQ P e oo O s s w v:=.inl ⟨u,w,h,O,bM.refl hd,hv⟩
theorem Bp{x:Option CW}(h:okW s x=some (v,s')):∃y,x=some y/\v=WC y/\s=s':=by
 obtain⟨y,h1,h2⟩:=aw h;cases h2;exact⟨y,h1,rfl,rfl⟩
theorem F8{x:Option CC}(h:SU s x=some (v,s')):∃y,x=some y/\v= .c y/\s=s':=by
 obtain⟨y,h1,h2⟩:=aw h;cases h2;exact⟨y,h1,rfl,rfl⟩
theorem Rt{c a b:Operand}(h:Nj T c a b s=some (v,s'))(ho:oo.op= .pick c a b)(hd:Hd O s.H.get s.nx w)(he:∀x∈oo.op.operands,ef O (cP T x) (e x)):jQ P e oo O s s' w v:=by
 rw [ho]at he;obtain⟨t,h1,h2⟩:=aw h;have hc:=Bn h1 (he c (by simp [Op.operands]));cases t with
 |true=>cases h2;exact aG hd (u:=e a) (by simp [execOp,ho,hc,asBool]) (he a (by simp [Op.operands]))
 |false=>cases h2;exact aG hd (u:=e b) (by simp [execOp,ho,hc,asBool]) (he b (by simp [Op.operands]))
theorem gf(O:Rn)(k:IntKind)(n:Int):jU O (wF k n) (.int k (k.wrap n)):=by
 unfold wF;cases hf:yd k n with
 |true=>
  have:=wN hf;simp only;exact⟨by rw [rB this],this⟩
 |false=>exact⟨rfl,mb k n⟩
theorem Bq(b:Bool):A6 b= !b:=by cases b<;>rfl
theorem emod_le{a b:Int}(h:0<=a)(hb:b≠0):a % b<=a:=by
 have key:∀c:Int,0<c->a % c<=a:=λc hc=>by
  have e:=Int.mul_ediv_add_emod a c;have e2:=Int.mul_nonneg (show 0<=c by omega) (Int.ediv_nonneg h (show 0<=c by omega));omega
 rcases Int.lt_or_lt_of_ne hb with h1|h1
 ·rw [<-Int.emod_neg];exact key (-b) aa
 ·exact key b h1
theorem Ru{k:IntKind}{a b:Int}(ha:eO k a)(cy:eO k b)(hb:b≠0):eO k (a.tmod b):=by
 have Ql:0<=k.max:=by cases k<;>simp [IntKind.max,IntKind.bits,IntKind.signed]
 have xT:k.min<=0:=by cases k<;>simp [IntKind.min,IntKind.bits,IntKind.signed]
 obtain⟨a1,a2⟩:=ha;rcases Int.le_total 0 a with h0|h0
 ·have h1:0<=a.tmod b:=Int.tmod_nonneg _ h0
  have h2:a.tmod b<=a:=by
   rw [Int.tmod_eq_emod_of_nonneg h0];exact emod_le h0 hb
  exact⟨aa,aa⟩
 ·have h1:0<=(-a).tmod b:=Int.tmod_nonneg _ aa
  have h2:(-a).tmod b<= -a:=by
   rw [Int.tmod_eq_emod_of_nonneg aa];exact emod_le aa hb
  rw [Int.neg_tmod]at h1 h2;exact⟨aa,aa⟩
theorem Rv{op:BinOp}{t:Nat}{k:IntKind}{a b:Int}{r:CC}(h:Rk op k a b=some r)(ha:eO k a)(hb:eO k b):∃u,(binOp op t (.int k a) (.int k b)).run P w= .ok u w/\jU O r u:=by
 cases op<;>simp only [Rk]at h<;>first
  |(cases h;done)
  |skip
 case lss=>cases h;exact⟨.bool (decide (a<b)),by simp [binOp,Op.intCmp],rfl⟩
 case leq=>cases h;exact⟨.bool (decide (a<=b)),by simp [binOp,Op.intCmp],rfl⟩
 case gtr=>cases h;exact⟨.bool (decide (b<a)),by simp [binOp,Op.intCmp],rfl⟩
 case geq=>cases h;exact⟨.bool (decide (b<=a)),by simp [binOp,Op.intCmp],rfl⟩
 case eql=>cases h;exact⟨.bool (a==b),by simp [binOp,Op.intCmp],rfl⟩
 case neq=>cases h;exact⟨.bool (a !=b),by simp [binOp,Op.intCmp],by show Value.bool _= .bool (A6 _);rw [Bq];rfl⟩
 case add=>cases h;exact⟨.int k (k.wrap (a+b)),by simp [binOp,Op.intArith],gf _ _ _⟩
 case sub=>cases h;exact⟨.int k (k.wrap (a - b)),by simp [binOp,Op.intArith],gf _ _ _⟩
 case mul=>cases h;exact⟨.int k (k.wrap (a*b)),by simp [binOp,Op.intArith],gf _ _ _⟩
 case quo=>
  obtain⟨h1,h2⟩:=aE h;cases h2;have EM:b≠0:=λe=>by subst e;cases h1
  exact⟨.int k (k.wrap (a.tdiv b)),by simp [binOp,Op.intDiv,EM],gf _ _ _⟩
 case rem=>
  obtain⟨h1,h2⟩:=aE h;cases h2;have EM:b≠0:=λe=>by subst e;cases h1
  have lQ:=Ru ha hb EM;have hr:=gf O k (a.tmod b);rw [rB lQ]at hr;exact⟨.int k (a.tmod b),by simp [binOp,Op.intDiv,EM],hr⟩
 case and=>cases h;exact⟨.int k (J3 k a b),by simp [binOp,Op.intBits,J3],rfl,mb _ _⟩
 case or=>cases h;exact⟨.int k (WE k a b),by simp [binOp,Op.intBits,WE],rfl,mb _ _⟩
theorem Rw{op:BinOp}{t:Nat}{k k':IntKind}{a b:Int}{r:CC}(h:XW op k a k' b=some r)(ha:eO k a)(hb:eO k' b):∃u,(binOp op t (.int k a) (.int k' b)).run P w= .ok u w/\jU O r u:=by
 have rest:bt (kq k k') (Rk op k a b)=some r->∃u,(binOp op t (.int k a) (.int k' b)).run P w= .ok u w/\jU O r u:=λh=>by
  obtain⟨h1,h2⟩:=aE h;obtain rfl:=b8 h1;exact Rv h2 ha hb
 cases op<;>first|exact rest h|skip
 case shl=>
  obtain⟨h1,h2⟩:=aE h;cases h2;have h1:0<=b:=ajX h1;have hw:eO k (Dx k a b):=mb _ _;have hr:=gf O k (Dx k a b);rw [rB hw]at hr;exact⟨.int k (Dx k a b),by simp [binOp,Op.shift,Dx,Int.not_lt.2 h1],hr⟩
 case shr=>
  obtain⟨h1,h2⟩:=aE h;cases h2;have h1:0<=b:=ajX h1;have hr:=gf O k (Dy k a b);have lQ:eO k (Dy k a b):=H8 ha _;rw [rB lQ]at hr;exact⟨.int k (Dy k a b),by simp [binOp,Op.shift,Dy,Int.not_lt.2 h1],hr⟩
theorem nE{op:BinOp}{t:Nat}(x y:Operand){u1 u2:Value}(h:op≠.eql/\op≠.neq\/(∃k n k' m,u1= .int k n/\u2= .int k' m)\/(∃a b,u1= .bool a/\u2= .bool b)\/(∃a b,u1= .string a/\u2= .string b)):(eqGuard op t x y u1 u2).run P w= .ok () w:=by
 rcases h with ⟨h1,h2⟩|⟨k,n,k',m,rfl,rfl⟩|⟨a,b,rfl,rfl⟩|⟨a,b,rfl,rfl⟩
 ·cases op<;>first|rfl|exact absurd rfl h1|exact absurd rfl h2
 ·cases op<;>rfl
 ·cases op<;>rfl
 ·cases op<;>rfl
theorem H9:∀{a b:List Nat},HO a b=true↔a=b
 |[],[]=>by simp [HO]
 |[],_::_=>by simp [HO]
 |_::_,[]=>by simp [HO]
 |a::l,b::m=>by
  simp only [HO];cases h:Nat.beq a b with
  |true=>obtain rfl:=aA.1 h;simp [H9 (a:=l)]
  |false=>have:=beq_false h;simp [this]
theorem ofNat_inj{a b:Nat}(ha:a<256)(hb:b<256)(h:UInt8.ofNat a=UInt8.ofNat b):a=b:=by
 have:=ajs UInt8.toNat h;simp only [UInt8.toNat_ofNat']at this;omega
theorem wR:∀{a b:List Nat},(∀x∈a,x<256)->(∀x∈b,x<256)->a.map UInt8.ofNat=b.map UInt8.ofNat->a=b
 |[],[],_,_,_=>rfl
 |[],_::_,_,_,h=>by simp at h
 |_::_,[],_,_,h=>by simp at h
 |a::l,b::m,ha,hb,h=>by
  simp only [akd,List.cons.injEq]at h;rw [ofNat_inj (ha a (by simp)) (hb b (by simp)) h.1,wR (λx hx=>ha x (ajj _ hx)) (λx hx=>hb x (ajj _ hx)) h.2]
theorem rC{a b:List Nat}(ha:∀x∈a,x<256)(hb:∀x∈b,x<256):((bJ a).toList==(bJ b).toList)=HO a b:=by
 rw [ByteArray.toList_eq,ByteArray.toList_eq,Bool.eq_iff_iff,H9,beq_iff_eq]
 constructor
 ·intro h
  exact wR ha hb (by simpa [bJ]using h)
 ·rintro rfl;rfl
theorem jH{op:BinOp}{b:Bool}{r:CC}(h:yf op b=some r):(op= .eql/\r= .bool b)\/(op= .neq/\r= .bool (!b)):=by
 cases op<;>simp [yf]at h
 ·exact .inl ⟨rfl,h.symm⟩
 ·exact .inr ⟨rfl,by rw [<-h,Bq]⟩
theorem NC(az:aR P E.TY){t:Nat}(h:q8 E.TY t=true):P.underlying t=some .bool:=by
 unfold q8 at h;split at h
 ·rename_i hd
  obtain⟨u,h1,h2,_⟩:=(az.at (t:=t) (.inr (by rw [hd];simp))).under;rw [hd]at h2;cases u<;>first|exact h1|exact h2.elim
 ·cases h
theorem wS(az:aR P E.TY){t:Nat}(h:iP E.TY t=true):∃e,P.underlying t=some (.slice e):=by
 unfold iP at h;split at h
 ·rename_i e hd;exact⟨e,bY az hd⟩
 ·cases h
theorem DK(az:aR P E.TY){t:Nat}(h:FX (E.d t)=true):∃k e,P.underlying t=some (.map k e):=by
 cases hd:E.d t with
 |map k e=>
  have hd:(au E.TY t).d= .map k e:=hd;obtain⟨_,u,_,h1,_,_,h2,_⟩:=(az.at (t:=t) (.inr (by rw [hd];simp))).row;rw [hd]at h2;cases u<;>first|exact⟨_,_,h1⟩|exact h2.elim
 |_=>rw [hd]at h;cases h
theorem Rx(az:aR P E.TY){t d:Nat}{a b:CW}{u u':Value}{r:Bool}(h:Vd (E.d t) a b=some r)(ha:pI O a u)(hb:pI O b u'):(Op.equalIn (d+1) t u u').run P w= .ok r w:=by
 cases a with
 |a l=>cases h
 |c x=>
  cases b with
  |a l=>cases h
  |c y=>
   have und:E.d t≠.other->∃u,P.underlying t=some u/\mc (au E.TY t).d u:=λbn=>by
    obtain⟨_,u,_,h1,_,_,h2,_⟩:=(az.at (t:=t) (.inr bn)).row;exact⟨u,h1,h2⟩
   simp only [Vd]at h;split at h
   ·rename_i k gg
    obtain⟨v,h1,h2⟩:=und (by rw [gg];simp);have gg:(au E.TY t).d= .int k:=gg;rw [gg]at h2;cases v<;>try exact h2.elim
    cases x<;>simp only [reduceCtorEq]at h
    cases y<;>simp only [reduceCtorEq]at h
    rename_i k1 n k2 m;obtain⟨h3,h4⟩:=aE h;obtain rfl:=b8 h3;obtain rfl:(n==m)=r:=ajN h4;obtain⟨rfl,_⟩:=ha;obtain⟨rfl,_⟩:=hb;exact run_equalIn_int w d t _ _ _ _ h1
   ·rename_i gg
    obtain⟨v,h1,h2⟩:=und (by rw [gg];simp);have gg:(au E.TY t).d= .bool:=gg;rw [gg]at h2;cases v<;>try exact h2.elim
    cases x<;>simp only [reduceCtorEq]at h
    cases y<;>simp only [reduceCtorEq]at h
    cases h;have ha:u= .bool _:=ha;have hb:u'= .bool _:=hb;subst ha;subst hb;exact run_equalIn_bool' w d t _ _ h1
   ·rename_i gg
    obtain⟨v,h1,h2⟩:=und (by rw [gg];simp);have gg:(au E.TY t).d= .str:=gg;rw [gg]at h2;cases v<;>try exact h2.elim
    cases x<;>simp only [reduceCtorEq]at h
    cases y<;>simp only [reduceCtorEq]at h
    cases h;obtain⟨rfl,g1⟩:=ha;obtain⟨rfl,g2⟩:=hb;rw [run_equalIn_string w d t _ _ h1,rC g1 g2]
   ·cases h
theorem ND(az:aR P E.TY){xs ys:Array Value}{d:Nat}:∀{fl:List Field} {l m:List CC} {r:Bool},eqF E (fl.map λf=>(f.offset,f.type)) l m=some r->(∀f∈fl,f.name≠ "_")->cJ O l xs.toList->cJ O m ys.toList->(Op.eqFields (d+1) xs ys fl).run P w= .ok r w
 |[],l,m,r,h,_,_,_=>by cases h;simp [Op.eqFields]
 |f::fl,l,m,r,h,hn,hl,hm=>by
  obtain⟨a,h1,h⟩:=aw h;obtain⟨b,h2,h⟩:=aw h;obtain⟨e,h3,h⟩:=aw h;obtain⟨u,g1,g2⟩:=uS (w:=w) az hl h1;obtain⟨u',g3,g4⟩:=uS (w:=w) az hm h2;have g5:=Rx (w:=w) (d:=d) az h3 g2 g4;have hf:=hn f (by simp);cases e with
  |false=>
   cases h;simp [Op.eqFields,hf,g1,g3,g5]
  |true=>
   have ih:=ND (d:=d) az h (λg hg=>hn g (ajj _ hg)) hl hm;simp [Op.eqFields,hf,g1,g3,g5,ih]
theorem Vm(az:aR P E.TY)(aa3:Rs P E.eqs){op:BinOp}{t ty:Nat}{x y:Operand}(h:Nk E T op t x y s=some (v,s'))(ho:oo.op= .binOp op t x y ty)(hd:Hd O s.H.get s.nx w)(he:∀x∈oo.op.operands,ef O (cP T x) (e x)):jQ P e oo O s s' w v:=by
 rw [ho]at he;unfold Nk at h;split at h
 ·rename_i l hl
  obtain⟨h1,h⟩:=aE h;obtain⟨m,h2,h⟩:=aw h;obtain⟨hs,hg,Qo⟩:=aa3 t h1;split at h
  ·rename_i fs gg
   obtain⟨r,h3,h⟩:=aw h;obtain⟨c,h4,rfl,rfl⟩:=F8 h;obtain⟨F,hu,tX⟩:=di az gg;have hF:P.fieldsOf t=F:=by simp [Program.fieldsOf,hu]
   obtain⟨xs,e1,g1⟩:=rp hl (he x (by simp [Op.operands]));obtain⟨ys,e2,g2⟩:=rp h2 (he y (by simp [Op.operands]));rw [hF]at Qo;rw [tX]at h3;have g3:=ND (w:=w) (d:=9998) az h3 Qo g1 g2
   have g4:(Op.equalIn 10000 t (.agg xs) (.agg ys)).run P w= .ok r w:=by
    rw [run_equalIn_struct w 9999 t xs ys (by rw [hF];exact hu) hs,hF];exact g3
   have fin:∀u,(binOp op t (.agg xs) (.agg ys)).run P w= .ok u w->jU O c u->jQ P e oo O s s w (.c c):=λu k1 k2=>by
    refine aG hd (u:=u) ?_ k2;simp only [execOp,ho];rw [Sem.run_bind,Sem.run_bind,e1,e2,run_eqGuard_agg w op t x y xs ys hg];show Result.andThen ((binOp op t (.agg xs) (.agg ys)).run P w) _=_;rw [k1];rfl
   rcases jH h4 with ⟨rfl,rfl⟩|⟨rfl,rfl⟩
   ·exact fin (.bool r) (by rw [run_eql_struct,g4];rfl) rfl
   ·exact fin (.bool (!r)) (by rw [run_neq_struct,g4];rfl) rfl
  ·cases h
 obtain⟨a,h1,h⟩:=aw h;obtain⟨b,h2,h⟩:=aw h;obtain⟨r,h3,rfl,rfl⟩:=F8 h;have ha:=cr h1 (he x (by simp [Op.operands]));have hb:=cr h2 (he y (by simp [Op.operands]))
 have fin:∀u,(eqGuard op t x y (e x) (e y)).run P w= .ok () w->(binOp op t (e x) (e y)).run P w= .ok u w->jU O r u->jQ P e oo O s s w (.c r):=λu g1 g2 g3=>by
  refine aG hd (u:=u) ?_ g3;simp only [execOp,ho];rw [Sem.run_bind,Sem.run_bind,g1];show Result.andThen ((binOp op t (e x) (e y)).run P w) _=_;rw [g2];rfl
 cases a with
 |int k a=>
  cases b with
  |int k' b=>
   obtain⟨e1,Zp⟩:=ha;obtain⟨e2,BW⟩:=hb;obtain⟨u,g1,g2⟩:=Rw (P:=P) (w:=w) (O:=O) (t:=t) h3 Zp BW;rw [e1,e2]at fin;exact fin u (nE x y (.inr (.inl ⟨_,_,_,_,rfl,rfl⟩))) g1 g2
  |_=>cases h3
 |bool a=>
  cases b with
  |bool b=>
   obtain⟨g1,g2⟩:=aE h3;have hu:=NC az g1;have e1:e x= .bool a:=ha;have e2:e y= .bool b:=hb;rw [e1,e2]at fin;rcases jH g2 with ⟨rfl,rfl⟩|⟨rfl,rfl⟩
   ·exact fin (.bool (a==b)) (nE x y (.inr (.inr (.inl ⟨_,_,rfl,rfl⟩)))) (by simp [binOp,Go.AM.run_equal_bool hu]) rfl
   ·exact fin (.bool (!(a==b))) (nE x y (.inr (.inr (.inl ⟨_,_,rfl,rfl⟩)))) (by simp [binOp,Go.AM.run_equal_bool hu]) rfl
  |_=>cases h3
 |str a=>
  cases b with
  |str b=>
   have h3:yf op (HO a b)=some r:=h3;obtain⟨e1,Zp⟩:=ha;obtain⟨e2,BW⟩:=hb;rw [e1,e2]at fin;rcases jH h3 with ⟨rfl,rfl⟩|⟨rfl,rfl⟩
   ·exact fin (.bool (HO a b)) (nE x y (.inr (.inr (.inr ⟨_,_,rfl,rfl⟩)))) (by simp [binOp,Op.stringOp,rC Zp BW]) rfl
   ·exact fin (.bool (!(HO a b))) (nE x y (.inr (.inr (.inr ⟨_,_,rfl,rfl⟩)))) (by simp [binOp,Op.stringOp,rC Zp BW]) rfl
  |_=>cases h3
 |sl k off len cap=>
  obtain⟨g0,h3⟩:=aE h3;obtain⟨g1,g2⟩:=aE h3;cases b<;>simp [A8]at g0
  obtain⟨el,hu⟩:=wS az g1;obtain⟨bb,c,n,_,_,e1,_⟩:=ha;have e2:e y= .slice none 0 0:=hb;rw [e1,e2]at fin
  have heq:(Op.equal t (.slice (some ⟨bb,off,none⟩) len n) (.slice none 0 0)).run P w= .ok false w:=by
   have h:∀n',(Op.equalIn (n'+1) t (.slice (some ⟨bb,off,none⟩) len n) (.slice none 0 0)).run P w= .ok false w:=λn'=>by simp [Op.equalIn,underlying,hu]
   exact h 9999
  rcases jH g2 with ⟨rfl,rfl⟩|⟨rfl,rfl⟩
  ·exact fin (.bool false) (by rfl) (by simp [binOp,heq]) rfl
  ·exact fin (.bool true) (by rfl) (by simp [binOp,heq]) rfl
 |ar=>
  obtain⟨g0,h3⟩:=aE h3;obtain⟨g1,g2⟩:=aE h3;cases b<;>simp [A8]at g0
  obtain⟨el,hu⟩:=wS az g1;have e1:e x= .slice none 0 0:=ha;have e2:e y= .slice none 0 0:=hb;rw [e1,e2]at fin
  have heq:(Op.equal t (.slice none 0 0) (.slice none 0 0)).run P w= .ok true w:=by
   have h:∀n',(Op.equalIn (n'+1) t (.slice none 0 0) (.slice none 0 0)).run P w= .ok true w:=λn'=>by simp [Op.equalIn,underlying,hu]
   exact h 9999
  rcases jH g2 with ⟨rfl,rfl⟩|⟨rfl,rfl⟩
  ·exact fin (.bool true) (by rfl) (by simp [binOp,heq]) rfl
  ·exact fin (.bool false) (by rfl) (by simp [binOp,heq]) rfl
 |mp k=>
  obtain⟨g0,h3⟩:=aE h3;obtain⟨g1,g2⟩:=aE h3;cases b<;>simp [A7]at g0
  obtain⟨ke,el,hu⟩:=DK az g1;obtain⟨bb,c,_,e1⟩:=ha;have e2:e y= .map none:=hb;rw [e1,e2]at fin
  have heq:(Op.equal t (.map (some bb)) (.map none)).run P w= .ok false w:=by
   have h:∀n',(Op.equalIn (n'+1) t (.map (some bb)) (.map none)).run P w= .ok false w:=λn'=>by simp [Op.equalIn,underlying,hu]
   exact h 9999
  rcases jH g2 with ⟨rfl,rfl⟩|⟨rfl,rfl⟩
  ·exact fin (.bool false) (by rfl) (by simp [binOp,heq]) rfl
  ·exact fin (.bool true) (by rfl) (by simp [binOp,heq]) rfl
 |bO=>
  obtain⟨g0,h3⟩:=aE h3;obtain⟨g1,g2⟩:=aE h3;cases b<;>simp [A7]at g0
  obtain⟨ke,el,hu⟩:=DK az g1;have e1:e x= .map none:=ha;have e2:e y= .map none:=hb;rw [e1,e2]at fin
  have heq:(Op.equal t (.map none) (.map none)).run P w= .ok true w:=by
   have h:∀n',(Op.equalIn (n'+1) t (.map none) (.map none)).run P w= .ok true w:=λn'=>by simp [Op.equalIn,underlying,hu]
   exact h 9999
  rcases jH g2 with ⟨rfl,rfl⟩|⟨rfl,rfl⟩
  ·exact fin (.bool true) (by rfl) (by simp [binOp,heq]) rfl
  ·exact fin (.bool false) (by rfl) (by simp [binOp,heq]) rfl
 |_=>cases h3
theorem X4{op:UnOp}{t:Nat}{x:Operand}(h:X0 T op x s=some (v,s'))(ho:oo.op= .unOp op t x)(hd:Hd O s.H.get s.nx w)(he:∀x∈oo.op.operands,ef O (cP T x) (e x)):jQ P e oo O s s' w v:=by
 rw [ho]at he;cases op with
 |not=>
  obtain⟨b,h1,h2⟩:=aw h;cases h2;have hx:=Bn h1 (he x (by simp [Op.operands]));exact aG hd (u:=.bool (!b)) (by simp [execOp,ho,hx,Op.unary]) (by show Value.bool _= .bool (A6 b);rw [Bq])
 |neg=>
  obtain⟨p,h1,h2⟩:=aw h;cases h2;have hx:=(iX h1 (he x (by simp [Op.operands]))).1;exact aG hd (u:=.int p.1 (p.1.wrap (0 - p.2))) (by simp [execOp,ho,hx,Op.unary,Op.intArith]) (gf _ _ _)
 |_=>cases h
theorem Ia{x:Operand}(ho:oo.op= .move x\/oo.op= .assign x)(hd:Hd O s.H.get s.nx w)(he:∀x∈oo.op.operands,ef O (cP T x) (e x)):jQ P e oo O s s w (cP T x):=by
 rcases ho with ho|ho
 ·rw [ho]at he;exact aG hd (u:=e x) (by simp [execOp,ho]) (he x (by simp [Op.operands]))
 ·rw [ho]at he;exact aG hd (u:=e x) (by simp [execOp,ho]) (he x (by simp [Op.operands]))
theorem Vn{x:Operand}(h:Np T x s=some (v,s'))(ho:oo.op= .nilCheck x)(hd:Hd O s.H.get s.nx w)(he:∀x∈oo.op.operands,ef O (cP T x) (e x)):jQ P e oo O s s' w v:=by
 rw [ho]at he;have hx:=he x (by simp [Op.operands]);unfold Np at h;generalize hv:cP T x=y at h hx;cases y with
 |c c=>
  cases c<;>simp at h
  ·obtain⟨rfl,rfl⟩:=h
   have h2:=hx;obtain⟨b,c,_,h1⟩:=hx;exact aG hd (u:=e x) (by simp [execOp,ho,h1]) h2
  ·obtain⟨rfl,rfl⟩:=h
   have h2:e x= .func (.func _) #[] #[]:=hx;exact aG hd (u:=e x) (by simp [execOp,ho,h2]) hx
 |Ts f l=>
  simp at h;obtain⟨rfl,rfl⟩:=h;have h2:=hx;obtain⟨cs,h1,_⟩:=hx;exact aG hd (u:=e x) (by simp [execOp,ho,h1]) h2
 |_=>cases h
theorem uo.get:∀{l:List CW} {m:List Value} {i:Nat} {x:CW},uo O l m->l[i]? =some x->∃u,m[i]? =some u/\pI O x u
 |a::l,v::m,0,x,h,e=>by cases e;exact⟨v,rfl,h.1⟩
 |a::l,v::m,i+1,x,h,e=>by obtain⟨u,h1,h2⟩:=uo.get (i:=i) h.2 (by simpa using e);exact⟨u,by simpa using h1,h2⟩
 |[],_,_,_,_,e=>by simp at e
 |_::_,[],_,_,h,_=>h.elim
theorem F9{x:Operand}{i:Nat}(h:y8 T x i s=some (v,s'))(ho:oo.op= .extract x i)(hd:Hd O s.H.get s.nx w)(he:∀x∈oo.op.operands,ef O (cP T x) (e x)):jQ P e oo O s s' w v:=by
 rw [ho]at he;obtain⟨l,h1,h⟩:=aw h;obtain⟨y,h2,rfl,rfl⟩:=Bp h;obtain⟨cs,h3,h4⟩:=Rr h1 (he x (by simp [Op.operands]));obtain⟨u,h5,h6⟩:=h4.get h2;rw [ajt]at h5;exact aG hd (u:=u) (by simp [execOp,ho,h3,Instr.extract,h5]) (ma h6)
theorem DL:∀{l:List Operand} {m:List CC},Vb T l=some m->(∀x∈l,ef O (cP T x) (e x))->cJ O m (l.map e)
 |[],m,h,_=>by cases h;trivial
 |x::l,m,h,he=>by
  obtain⟨a,h1,h⟩:=aw h;obtain⟨r,h2,h⟩:=aw h;cases h;exact⟨cr h1 (he x (by simp)),DL h2 λy hy=>he y (ajj _ hy)⟩
theorem Vo{fn:Fn}{first cap:Array Operand}(h:Nq T fn first.toList cap.toList s=some (v,s'))(ho:oo.op= .makeFunc fn first cap)(hd:Hd O s.H.get s.nx w)(he:∀x∈oo.op.operands,ef O (cP T x) (e x)):jQ P e oo O s s' w v:=by
 rw [ho]at he;cases fn with
 |func f=>
  simp only [Nq]at h;split at h
  case h_2=>cases h
  rename_i hf;have Qh:first= #[]:=by simpa using ajs List.toArray hf
  subst Qh;obtain⟨l,h1,h⟩:=aw h;have hl:=DL (e:=e) h1 λx hx=>he x (by simp [Op.operands];exact aj6.1 hx);have aN:(execOp e oo).run P w= .ok (.value (.func (.func f) #[] (cap.map e))) w:=by simp [execOp,ho,Instr.makeFunc]
  cases l with
  |nil=>
   cases h
   have:cap.map e= #[]:=by
    have:=hl.len;simp at this;simp [this]
   rw [this]at aN;exact aG hd aN rfl
  |cons a l=>
   cases h;exact aG hd aN ⟨_,rfl,by rw [Array.toList_map];exact hl⟩
 |_=>cases h
theorem Ry(az:aR P E.TY){t:Nat}{x:Operand}(h:Nn E T t x s=some (v,s'))(ho:oo.op= .load t x)(hd:Hd O s.H.get s.nx w)(he:∀x∈oo.op.operands,ef O (cP T x) (e x)):jQ P e oo O s s' w v:=by
 rw [ho]at he;obtain⟨p,h1,h⟩:=aw h;obtain⟨q,h2,h⟩:=aw h;obtain⟨y,h3,rfl,rfl⟩:=Bp h;obtain⟨b,c,h4,h5⟩:=rv h1 (he x (by simp [Op.operands]));obtain⟨cs,ty,h6,_,_,h7⟩:=dP hd (bB h2) h4;obtain⟨u,h8,h9⟩:=H6 az h7 h6 h3;exact aG hd (u:=u) (by simp [execOp,ho,h5,h8]) (ma h9)
theorem NG(az:aR P E.TY){t:Nat}{x y:Operand}(h:HT E T t x y s=some (v,s'))(ho:oo.op= .store t x y)(hd:Hd O s.H.get s.nx w)(he:∀x∈oo.op.operands,ef O (cP T x) (e x)):jQ P e oo O s s' w v:=by
 rw [ho]at he;obtain⟨p,h1,h⟩:=aw h;obtain⟨m,h2,h⟩:=aw h;obtain⟨q,h3,h⟩:=aw h;obtain⟨l,h4,h⟩:=aw h;cases h;obtain⟨b,c,h5,h6⟩:=rv h1 (he x (by simp [Op.operands]));obtain⟨g1,g2,g3,g4⟩:=ou h2 (he y (by simp [Op.operands]));obtain⟨cs,ty,h7,h8,h9,cA⟩:=dP hd (bB h3) h5;obtain⟨lP,oP⟩:=kr h8 h9 cA g1 h4
 have aH:=az.at (t:=t) (by
  unfold pE at h2;split at h2
  ·rename_i ha;exact .inr λe=>by unfold Ev.agg at ha;rw [e]at ha;cases ha
  ·obtain⟨_,_,h2⟩:=aw h2
   obtain⟨h2,_⟩:=aE h2;exact .inl (by have:(au E.TY t).sz=1:=aA.1 h2;omega))
 have aN:=iC (P:=P) (TY:=E.TY) (w:=w) (o:=p.2) aH g2 h7 (by rw [<-ajw];omega) (λj z hz=>g4 z (List.mem_of_getElem? (by rw [ajt];exact hz)));rw [<-ajw]at aN
 have bT:(execOp e oo).run P w= .ok .skip (w.setRow b (cs.toList.take p.2++(e y).cells.toList++cs.toList.drop (p.2+(e y).cells.toList.length)).toArray):=by
  simp only [execOp,ho,h6];rw [Sem.run_bind,aN];rfl
 exact .inr (.inl ⟨_,bT,O,bM.write hd (bB h3) h5 (uT h7) ⟨⟨rfl,rfl⟩,rfl,ajl _⟩ lP,lE O⟩)
end
section
variable{P:Program}{E:Ev}{O:Rn}{s s':HS}{w:World}{T:cW}{e:Operand->Value}{oo:Oper}{v:CV}
theorem J8{l:List CC}{cs:Array Value}(h:cJ O l cs.toList)(c:Nat)(ty:TypeId):B5 O c (.cells l none) (.cells cs ty (0,0)):=by
 have:=h.len;rw [ajw]at this;exact⟨cs,ty,rfl,aa,this,by rw [aj4 (by rw [ajw];omega)];exact h⟩
theorem wT{u:Value}{l:List CC}{cs:Array Value}{ty:TypeId}{w':World}(hd:Hd O s.H.get s.nx w)(aN:(execOp e oo).run P w= .ok (.value u) w')(hw:w'.heap=w.heap.push (.cells cs ty (0,0)))(oK:kg w w')(hl:cJ O l cs.toList)
  (hu:∀O',O' s.nx=some (w.heap.size,0)->ef O' v u):jQ P e oo O s (s.new (.cells l none)) w v:=by
 obtain⟨O',h1,h2⟩:=bM.make (o:=.cells l none) 0 hd hw oK λO' hx=>J8 (hl.ext hx) 0 ty;exact .inl ⟨u,w',aN,O',h1,hu O' h2⟩
theorem Ga{l:List CC}{cs:Array Value}(h:cJ O l cs.toList)(c:Nat)(ty:TypeId):B5 O c (.cells l (some (0,ty))) (.cells cs ty (0,0)):=by
 have:=h.len;rw [ajw]at this;exact⟨cs,ty,rfl,aa,⟨rfl,λ_=>this,λh=>absurd rfl h⟩,by rw [aj4 (by rw [ajw];omega)];exact h⟩
theorem J9{u:Value}{l:List CC}{cs:Array Value}{ty:TypeId}{w':World}(hd:Hd O s.H.get s.nx w)(aN:(execOp e oo).run P w= .ok (.value u) w')(hw:w'.heap=w.heap.push (.cells cs ty (0,0)))(oK:kg w w')(hl:cJ O l cs.toList)
  (hu:∀O',O' s.nx=some (w.heap.size,0)->ef O' v u):jQ P e oo O s (s.new (.cells l (some (0,ty)))) w v:=by
 obtain⟨O',h1,h2⟩:=bM.make (o:=.cells l (some (0,ty))) 0 hd hw oK λO' hx=>Ga (hl.ext hx) 0 ty;exact .inl ⟨u,w',aN,O',h1,hu O' h2⟩
theorem NH(hz:xK P E.TY E.TZ){t:Nat}(h:Be E t s=some (v,s'))(ho:oo.op= .alloc t)(hd:Hd O s.H.get s.nx w):jQ P e oo O s s' w v:=by
 unfold Be at h;generalize hl:E.z t=l at h;cases l with
 |nil=>cases h
 |cons a l=>
  cases h;obtain⟨i,z,hi,gE,hr,_⟩:=hz.row t (by show E.z t≠[];rw [hl];simp);have mM:(zeroValue t).run P w= .ok z w:=by simp [zeroValue,typeInfo,hi,gE]
  have hr:=hr O;have n7:um E.TZ t=a::l:=hl;rw [n7]at hr;refine J9 hd (cs:=z.cells) (ty:=t) (w':={ w with heap:=w.heap.push (.cells z.cells t) }) ?_ rfl ⟨⟨rfl,rfl⟩,rfl,ajl _⟩ hr λO' h=>⟨_,_,h,rfl⟩;simp [execOp,ho,Instr.alloc,mM,newVar,newRow]
theorem Vp{t:Nat}{x:Operand}(h:Tu E T t x s=some (v,s'))(ho:oo.op= .box t x)(hd:Hd O s.H.get s.nx w)(he:∀x∈oo.op.operands,ef O (cP T x) (e x)):jQ P e oo O s s' w v:=by
 rw [ho]at he;obtain⟨l,h1,h⟩:=aw h;cases h;obtain⟨g1,_⟩:=ou h1 (he x (by simp [Op.operands]));refine wT hd (cs:=(e x).cells) (ty:=t) (w':={ w with heap:=w.heap.push (.cells (e x).cells t) }) ?_ rfl ⟨⟨rfl,rfl⟩,rfl,ajl _⟩ g1 λO' h=>⟨_,_,h,rfl⟩;simp [execOp,ho,Instr.box,newVar,newRow]
theorem wU{cells:Array Value}{u:Value}{off:Nat}{l m r:List CC}(hl:cJ O l cells.toList)(hm:cJ O m u.cells.toList)(hp:iO l off m=some r):
  cJ O r (u.cells.zipIdx.foldl (λcs (c,j)=>cs.setIfInBounds (off+j) c) cells).toList/\off+u.cells.size<=cells.size:=by
 obtain⟨h1,h2,_⟩:=sJ hp hl hm;rw [ajw,ajw]at h2;have CI:=qw off u.cells.toList 0 cells (by simp;omega)
 have fD:((u.cells.zipIdx.foldl (λcs (c,j)=>cs.setIfInBounds (off+j) c) cells).toList)=cells.toList.take off++(u.cells.toList++cells.toList.drop (off+u.cells.toList.length)):=by
  rw [<-Array.foldl_toList,Array.toList_zipIdx]
  simpa [<-Array.length_toList]using CI
 rw [fD];exact⟨h1,h2⟩
theorem wV{t:Nat}{place:Nat->Option (Nat × Nat)}(hp:∀i,place i=some (i*E.sz t,E.sz t)):∀{ps:List (Nat × Operand)} {l m:List CC} {cells:Array Value},HP E T t ps l=some m->(∀i x,(i,x)∈ps->ef O (cP T x) (e x))->cJ O l cells.toList->
  ∃cells',Instr.fill place cells (ps.map λ(i,x)=>(i,e x))=some cells'/\cJ O m cells'.toList
 |[],l,m,cells,h,_,hl=>by cases h;exact⟨cells,rfl,hl⟩
 |(i,x)::ps,l,m,cells,h,he,hl=>by
  obtain⟨a,h1,h⟩:=aw h;obtain⟨l',h2,h⟩:=aw h;obtain⟨g1,g2,g3,_⟩:=ou h1 (he i x (by simp));obtain⟨h3,h4⟩:=wU hl g1 h2;obtain⟨c',h5,h6⟩:=wV hp h (λj y hy=>he j y (ajj _ hy)) h3;refine⟨c',?_,h6⟩;have h4:i*E.sz t+(e x).cells.size<=cells.size:=h4;simp only [akd,Instr.fill,hp i];rw [ajm]
  ·exact h5
  ·simp only [Bool.or_eq_true,decide_eq_true_eq,not_or,ne_eq,Decidable.not_not]
   exact⟨g2,aa⟩
theorem DM{fs:List (Nat × Nat)}{place:Nat->Option (Nat × Nat)}(hp:∀i o t,de fs i=some (o,t)->place i=some (o,E.sz t)):∀{ps:List (Nat × Operand)} {l m:List CC} {cells:Array Value},Ng E T fs ps l=some m->(∀i x,(i,x)∈ps->ef O (cP T x) (e x))->cJ O l cells.toList->
  ∃cells',Instr.fill place cells (ps.map λ(i,x)=>(i,e x))=some cells'/\cJ O m cells'.toList
 |[],l,m,cells,h,_,hl=>by cases h;exact⟨cells,rfl,hl⟩
 |(i,x)::ps,l,m,cells,h,he,hl=>by
  obtain⟨⟨o,t⟩,h0,h⟩:=aw h;obtain⟨a,h1,h⟩:=aw h;obtain⟨l',h2,h⟩:=aw h;obtain⟨g1,g2,g3,_⟩:=ou h1 (he i x (by simp));obtain⟨h3,h4⟩:=wU hl g1 h2;obtain⟨c',h5,h6⟩:=DM hp h (λj y hy=>he j y (ajj _ hy)) h3;refine⟨c',?_,h6⟩;simp only [akd,Instr.fill,hp i o t h0];rw [ajm]
  ·exact h5
  ·simp only [Bool.or_eq_true,decide_eq_true_eq,not_or,ne_eq,Decidable.not_not]
   exact⟨g2,Nat.not_lt.2 h4⟩
theorem DN(zc:Array Value):(List.range zc.size).map (λi=>zc[i]!)=zc.toList:=by
 apply List.ext_getElem?;intro i
 by_cases h:i<zc.size
 ·simp [h]
 ·rw [aj0 (by simp;omega),aj0 (by simp;omega)]
theorem DO{z:List CC}{zc:Array Value}(hz:cJ O z zc.toList)(h0:0<zc.size):∀(n:Nat) {acc:List CC} {accv:List Value},cJ O acc accv->cJ O (Dz z n acc) ((List.range (n*zc.size)).map (λi=>zc[i % zc.size]!)++accv)
 |0,acc,accv,h=>by simpa [Dz]using h
 |n+1,acc,accv,h=>by
  have ih:=DO hz h0 n (hz.app h)
  have e:(List.range ((n+1)*zc.size)).map (λi=>zc[i % zc.size]!)=(List.range (n*zc.size)).map (λi=>zc[i % zc.size]!)++zc.toList:=by
   rw [ake,Nat.one_mul,List.range_add,List.map_append,List.map_map]
   congr 1
   rw [<-DN zc];apply List.map_congr_left;intro i hi;rw [ajJ]at hi;show zc[(n*zc.size+i) % zc.size]! =zc[i]!;rw [aki,Nat.mul_add_mod,Nat.mod_eq_of_lt hi]
  rw [e,List.append_assoc];exact ih
theorem Br{z:List CC}{zc:Array Value}(hz:cJ O z zc.toList)(h0:0<zc.size)(n:Nat):cJ O (Dz z n []) ((Array.range (n*zc.size)).map λi=>zc[i % zc.size]!).toList:=by
 have:=DO hz h0 n (acc:=[]) (accv:=[]) trivial
 simpa using this
theorem jI{t el:Nat}(h:nB E t=some el):(au E.TY t).d= .slice el:=by
 unfold nB Ev.d at h;split at h
 ·rename_i hd;cases h;exact hd
 ·cases h
theorem me{t:Nat}(h:Nat.ble 1 (E.sz t)=true):(au E.TY t).sz≠0:=by
 have:=ah h;unfold Ev.sz at this;omega
theorem NI(az:aR P E.TY)(hz:xK P E.TY E.TZ){t:Nat}{ps:Array (Nat × Operand)}(h:Bg E T t ps.toList s=some (v,s'))(ho:oo.op= .build t ps)(hd:Hd O s.H.get s.nx w)(he:∀x∈oo.op.operands,ef O (cP T x) (e x)):jQ P e oo O s s' w v:=by
 rw [ho]at he;have fg:∀i x,(i,x)∈ps.toList->ef O (cP T x) (e x):=λi x hx=>he x (by simp only [Op.operands,List.mem_toArray,ajU];exact⟨_,hx,rfl⟩);unfold Bg at h;generalize hl:E.z t=l at h;cases l with
 |nil=>cases h
 |cons a l=>
  obtain⟨i,z,hi,gE,hr,_⟩:=hz.row t (by show E.z t≠[];rw [hl];simp);have mM:(zeroValue t).run P w= .ok z w:=by simp [zeroValue,typeInfo,hi,gE]
  have hr:=hr O;have n7:um E.TZ t=a::l:=hl;rw [n7]at hr;simp only at h;split at h
  ·rename_i fs gg
   obtain⟨m,h1,h⟩:=aw h;cases h;have gg:(au E.TY t).d= .struct fs:=gg;obtain⟨F',hu,tX⟩:=di az gg
   have key:∀(l:List Field),(∀f∈l,f.type<E.TY.length)->∀w,(l.mapM λf=>Prod.mk f.offset<$>sizeOf f.type:Sem (List (Nat × Nat))).run P w= .ok (l.map λf=>(f.offset,(au E.TY f.type).sz)) w:=by
    intro l
    induction l with
    |nil=>intro _ w;simp
    |cons f l ih=>
     intro hl w;have hn:=(az.row f.type (hl f (by simp))).size w;simp [List.mapM_cons,hn,ih (λg hg=>hl g (List.mem_cons_of_mem _ hg))]
   have gw:∀w,(F'.mapM λf=>Prod.mk f.offset<$>sizeOf f.type:Sem (Array (Nat × Nat))).run P w= .ok (F'.toList.map λf=>(f.offset,(au E.TY f.type).sz)).toArray w:=by
    intro w;have:=key F'.toList (λf hf=>az.closed t fs gg (f.offset,f.type) (by rw [tX];exact ajU.2 ⟨f,hf,rfl⟩)) w;have he:F'=F'.toList.toArray:=by simp
    rw [he,List.mapM_toArray];simp [this]
   have Gb:∀j o u,de fs j=some (o,u)->(F'.toList.map λf=>(f.offset,(au E.TY f.type).sz)).toArray[j]? =some (o,E.sz u):=by
    intro j o u ho;have:=cu ho;rw [tX,ajR]at this;cases hg:F'.toList[j]? with
    |none=>rw [hg]at this;cases this
    |some f=>rw [hg]at this;cases this;simp only [List.getElem?_toArray,ajR,hg];rfl
   obtain⟨cells',h4,h5⟩:=DM (e:=e) (place:=λj=>(F'.toList.map λf=>(f.offset,(au E.TY f.type).sz)).toArray[j]?) Gb h1 fg hr;refine aG hd (u:=.agg cells') ?_ ⟨cells',rfl,h5⟩;have cd:(underlying t).run P w= .ok (.struct F') w:=by simp [underlying,hu]
   simp only [List.getElem?_toArray,ajR,ajt]at h4;simp [execOp,ho,Instr.build,mM,cd,gw];rw [h4]
   rfl
  ·rename_i n el gg
   obtain⟨h0,h⟩:=aE h;obtain⟨m,h1,h⟩:=aw h;cases h;have gg:(au E.TY t).d= .arr n el:=gg;have hu:=hZ az gg;have NJ:=az.at (t:=el) (.inl (me h0));obtain⟨cells',h4,h5⟩:=wV (e:=e) (place:=λi=>some (i*E.sz el,E.sz el)) (λi=>rfl) h1 fg hr;refine aG hd (u:=.agg cells') ?_ ⟨cells',rfl,h5⟩;have cd:(underlying t).run P w= .ok (.array n el) w:=by simp [underlying,hu]
   have h4:Instr.fill (λi=>some (i*(au E.TY el).sz,(au E.TY el).sz)) z.cells (ps.toList.map λ(i,x)=>(i,e x))=some cells':=h4;simp [execOp,ho,Instr.build,mM,cd,NJ.size,h4]
  ·cases h
theorem nF(hz:xK P E.TY E.TZ)(az:aR P E.TY){el:Nat}(h1:wE (E.z el) (E.sz el)=true)(h2:Nat.ble 1 (E.sz el)=true):∃i z,P.info? el=some i/\i.zero=some z/\i.size=E.sz el/\i.bytes=(au E.TY el).bytes/\z.cells.size=E.sz el/\(∀O,cJ O (E.z el) z.cells.toList):=by
 have h3:=uP h1;have h4:=ah h2;obtain⟨i,z,hi,gE,hr,_⟩:=hz.row el (by show E.z el≠[];intro e;rw [e]at h3;simp at h3;omega);obtain⟨i',u,Aa,_,h5,h6,_⟩:=(az.at (t:=el) (.inl (me h2))).row;rw [hi]at Aa;cases Aa;refine⟨i,z,hi,gE,h5,h6,?_,hr⟩;have:=(hr (λ_=>none)).len;rw [ajw]at this;rw [this];exact h3
theorem Ka(az:aR P E.TY)(hz:xK P E.TY E.TZ){t n:Nat}{ps:Array (Nat × Operand)}(h:DB E T t n ps.toList s=some (v,s'))(ho:oo.op= .buildSlice t n ps)(hd:Hd O s.H.get s.nx w)(he:∀x∈oo.op.operands,ef O (cP T x) (e x)):jQ P e oo O s s' w v:=by
 rw [ho]at he;have fg:∀i x,(i,x)∈ps.toList->ef O (cP T x) (e x):=λi x hx=>he x (by simp only [Op.operands,List.mem_toArray,ajU];exact⟨_,hx,rfl⟩);obtain⟨el,h1,h⟩:=aw h;obtain⟨h2,h⟩:=aE h;obtain⟨h3,h⟩:=aE h;obtain⟨h4,h⟩:=aE h;obtain⟨l,h5,h⟩:=aw h;cases h;obtain⟨i,z,hi,gE,bu,_,xX,hr⟩:=nF hz az h2 h3;have hu:=bY az (jI h1);have aH:=az.at (t:=el) (.inl (me h3));have h30:=ah h3;have h40:=ah h4;have hm:=Br (hr O) aa n;rw [xX]at hm;obtain⟨cells',h6,h7⟩:=wV (e:=e) (place:=λi=>some (i*E.sz el,E.sz el)) (λi=>rfl) h5 fg hm;have cd:(underlying t).run P w= .ok (.slice el) w:=by simp [underlying,hu]
 have tT:(sizeOf el).run P w= .ok (E.sz el) w:=aH.size w;have mM:(zeroValue el).run P w= .ok z w:=by simp [zeroValue,typeInfo,hi,gE]
 have X5:¬(2 ^ 24<n*E.sz el):=aa
 have wW:((Array.range (n*E.sz el)).map λj=>((if n*E.sz el=0 then #[] else z.cells):Array Value)[j % ((if n*E.sz el=0 then #[] else z.cells):Array Value).size]!)=(Array.range (n*E.sz el)).map λj=>z.cells[j % E.sz el]! :=by
  by_cases h0:n*E.sz el=0
  ·rw [h0];simp
  ·rw [ajm h0,xX]
 refine wT hd (l:=l) (u:=.slice (some ⟨w.heap.size,0,none⟩) n n) (cs:=cells') (ty:=el) (w':={ w with heap:=w.heap.push (.cells cells' el) }) ?_ rfl ⟨⟨rfl,rfl⟩,rfl,ajl _⟩ h7 λO' h=>⟨_,_,_,h,ajl _,rfl,rfl⟩;have h6:Instr.fill (λi=>some (i*E.sz el,E.sz el)) ((Array.range (n*E.sz el)).map λj=>((if n*E.sz el=0 then #[] else z.cells):Array Value)[j % ((if n*E.sz el=0 then #[] else z.cells):Array Value).size]!) (ps.toList.map λ(i,x)=>(i,e x))=some cells':=by rw [wW];exact h6
 by_cases h0:n*E.sz el=0
 ·rw [ajq h0]at h6
  simp [execOp,ho,Instr.buildSlice,cd,tT,h0]at h6 ⊢;simp [h6,newRow]
 ·rw [ajm h0]at h6
  have K3:¬(n=0\/E.sz el=0):=by rw [<-Nat.mul_eq_zero];exact h0
  simp [execOp,ho,Instr.buildSlice,cd,tT,X5,h0,mM,h6,newRow]
theorem Rz(az:aR P E.TY)(hz:xK P E.TY E.TZ){t:Nat}{l c:Operand}(h:Nl E T t l c s=some (v,s'))(ho:oo.op= .makeSlice t l c)(hd:Hd O s.H.get s.nx w)(he:∀x∈oo.op.operands,ef O (cP T x) (e x)):jQ P e oo O s s' w v:=by
 rw [ho]at he;obtain⟨el,h1,h⟩:=aw h;obtain⟨ln,h2,h⟩:=aw h;obtain⟨cn,h3,h⟩:=aw h;obtain⟨h4,h⟩:=aE h;obtain⟨h5,h⟩:=aE h;obtain⟨h6,h⟩:=aE h;obtain⟨h7,h⟩:=aE h;obtain⟨h8,h⟩:=aE h;cases h;obtain⟨kl,e1,_⟩:=ru h2 (he l (by simp [Op.operands]));obtain⟨kc,e2,_⟩:=ru h3 (he c (by simp [Op.operands]));obtain⟨i,z,hi,gE,bu,tY,xX,hr⟩:=nF hz az h4 h5;have hu:=bY az (jI h1);have h50:=ah h5;have h60:=ah h6;have h70:=ah h7;have h80:=ah h8;have hmul:i.bytes*cn<=1000000*1000000:=akf (by rw [tY];exact h80) h70;have aN:=run_make (P:=P) w t el i z hu hi gE kl kc (ln:Int) (cn:Int) aa aa (by have:((i.bytes*cn:Nat):Int)<=((1000000*1000000:Nat):Int):=Int.ofNat_le.2 hmul;rw [Int.natCast_mul]at this;omega) aa;simp only [ajr]at aN;have hm:=Br (hr O) aa cn;rw [xX]at hm;refine wT hd (l:=Dz (E.z el) cn []) (u:=.slice (some ⟨w.heap.size,0,none⟩) ln cn) (cs:=madeCells z.cells (cn*i.size)) (ty:=el) (w':=w.alloc (.cells (madeCells z.cells (cn*i.size)) el)) ?_ rfl ⟨⟨rfl,rfl⟩,rfl,ajl _⟩ ?_ λO' h=>⟨_,_,_,h,h60,rfl,rfl⟩
 ·simp [execOp,ho,e1,e2,aN]
 ·rw [bu]
  unfold madeCells;rw [xX];exact hm
theorem uU{x:Option Operand}{r:Option Nat}(h:J2 T x=some r)(he:∀y,x=some y->ef O (cP T y) (e y)):(x=none/\r=none)\/∃y n k,x=some y/\r=some n/\e y= .int k n/\eO k n:=by
 cases x with
 |none=>cases h;exact .inl ⟨rfl,rfl⟩
 |some y=>
  obtain⟨n,h1,h2⟩:=aw h;cases h2;obtain⟨k,h3,h4⟩:=ru h1 (he y rfl);exact .inr ⟨y,n,k,rfl,rfl,h3,h4⟩
theorem gh{k:IntKind}{n y:Nat}(code:BoundsCode)(h:n<=y):(Instr.sliceBound (.int k (n:Int)) y code).run P w= .ok n w:=by
 simp [Instr.sliceBound,asIntOf,h]
theorem Kb(b off n:Nat):(⟨b,off,none⟩:Addr).add n=⟨b,off+n,none⟩:=aU b off n
theorem NK(az:aR P E.TY){t:Nat}{x:Operand}{lo hi mx:Option Operand}(h:HU E T t x lo hi mx s=some (v,s'))(ho:oo.op= .slice t x lo hi mx)(hd:Hd O s.H.get s.nx w)(he:∀x∈oo.op.operands,ef O (cP T x) (e x)):jQ P e oo O s s' w v:=by
 rw [ho]at he;obtain⟨sv,h1,h⟩:=aw h;obtain⟨l,h2,h⟩:=aw h;obtain⟨hh,h3,h⟩:=aw h;obtain⟨m,h4,h⟩:=aw h;obtain⟨el,h5,h⟩:=aw h;obtain⟨h6,h⟩:=aE h;obtain⟨r,h7,rfl,rfl⟩:=F8 h;have hx:=Bo h1 (he x (by simp [Op.operands]));have KN:=uU (e:=e) h2 λy hy=>he y (by simp [Op.operands,hy]);have hhi:=uU (e:=e) h3 λy hy=>he y (by simp [Op.operands,hy]);have YV:=uU (e:=e) h4 λy hy=>he y (by simp [Op.operands,hy]);obtain⟨b,c,cap,g1,g2,g3,g4⟩:=hx;have hu:=bY az (jI h5);have cd:(underlying t).run P w= .ok (.slice el) w:=by simp [underlying,hu]
 have tT:(sizeOf el).run P w= .ok (E.sz el) w:=(az.at (t:=el) (.inl (me h6))).size w
 have fin:∀(l' h' m':Nat),lC 0 l=l'->lC sv.len hh=h'->lC cap m=m'->(m≠none->hh≠none)->l'<=h'->h'<=m'->m'<=cap->
   (execOp e oo).run P w= .ok (.value (.slice (some (if m'=l' then ⟨b,sv.off,none⟩ else ⟨b,sv.off+l'*E.sz el,none⟩)) (h' - l') (m' - l'))) w:=by
  intro l' h' m' e1 e2 e3 e4 b1 b2 b3
  have hb:(Instr.sliceBounds true sv.len cap (lo.map e) (hi.map e) (mx.map e)).run P w= .ok (l',h',m') w:=by
   rcases YV with ⟨rfl,rfl⟩|⟨ym,nm,km,rfl,rfl,em,_⟩
   ·simp only [lC]at e3;subst e3
    rcases hhi with ⟨rfl,rfl⟩|⟨yh,nh,kh,rfl,rfl,eh,_⟩
    ·simp only [lC]at e2;subst e2
     rcases KN with ⟨rfl,rfl⟩|⟨yl,nl,kl,rfl,rfl,el',_⟩
     ·simp only [lC]at e1;subst e1;simp [Instr.sliceBounds]
     ·simp only [lC]at e1;subst e1;simp [Instr.sliceBounds,el',gh _ b1]
    ·simp only [lC]at e2;subst e2
     rcases KN with ⟨rfl,rfl⟩|⟨yl,nl,kl,rfl,rfl,el',_⟩
     ·simp only [lC]at e1;subst e1;simp [Instr.sliceBounds,eh,gh _ b2]
     ·simp only [lC]at e1;subst e1;simp [Instr.sliceBounds,eh,el',gh _ b1,gh _ b2]
   ·simp only [lC]at e3;subst e3
    rcases hhi with ⟨rfl,rfl⟩|⟨yh,nh,kh,rfl,rfl,eh,_⟩
    ·exact absurd rfl (e4 (by simp))
    ·simp only [lC]at e2;subst e2
     rcases KN with ⟨rfl,rfl⟩|⟨yl,nl,kl,rfl,rfl,el',_⟩
     ·simp only [lC]at e1;subst e1;simp [Instr.sliceBounds,em,eh,gh _ b2,gh _ b3]
     ·simp only [lC]at e1;subst e1;simp [Instr.sliceBounds,em,eh,el',gh _ b1,gh _ b2,gh _ b3]
  have X6:∀w,(Instr.sliceAt t (e x) (lo.map e) (hi.map e) (mx.map e)).run P w=(Instr.slice t (e x) (lo.map e) (hi.map e) (mx.map e)).run P w:=λw=>by
   have:(underlying t).run P w= .ok (.slice el) w:=by simp [underlying,hu]
   simp [Instr.sliceAt,this]
  have:(Instr.slice t (e x) (lo.map e) (hi.map e) (mx.map e)).run P w= .ok (.slice (some (if m'=l' then ⟨b,sv.off,none⟩ else ⟨b,sv.off+l'*E.sz el,none⟩)) (h' - l') (m' - l')) w:=by
   rw [g3];simp [Instr.slice,cd,hb,tT];split<;>simp [Kb]
  simp [execOp,ho,X6,this]
 have done:∀{l' h' m':Nat} {r:CC},(execOp e oo).run P w= .ok (.value (.slice (some (if m'=l' then ⟨b,sv.off,none⟩ else ⟨b,sv.off+l'*E.sz el,none⟩)) (h' - l') (m' - l'))) w->h'<=m'->(r=Ba sv.k sv.off (E.sz el) l' h' m')->jQ P e oo O s s w (.c r):=by
  intro l' h' m' r aN hle hr;refine aG hd aN ?_;subst hr;unfold Ba;cases hb:Nat.beq m' l' with
  |true=>
   have:=aA.1 hb;rw [ajq this];exact⟨b,c,_,g1,aa,rfl,rfl⟩
  |false=>
   rw [ajm (beq_false hb)];exact⟨b,c,_,g1,aa,rfl,rfl⟩
 cases m with
 |some m=>
  cases hh with
  |none=>cases h7
  |some hh=>
   obtain⟨b1,h7⟩:=aE h7;obtain⟨b2,h7⟩:=aE h7;obtain⟨b3,h7⟩:=aE h7;cases h7;have b1:=ah b1;have b2:=ah b2;have b3:=ah b3
   have b4:m<=cap:=by
    unfold Nh at b3;cases hc:sv.cap with
    |n n=>rw [hc]at b3 g4;have g4:cap=n:=g4;simp only at b3;omega
    |g=>rw [hc]at b3;simp only at b3;omega
    |u=>rw [hc]at b3;simp only at b3;omega
   exact done (fin _ hh m rfl rfl rfl (λ_=>by simp) b1 b2 b4) b2 rfl
 |none=>
  have h7:DA (E.sz el) sv (lC 0 l) (lC sv.len hh)=some r:=h7;generalize hH:lC sv.len hh=H at h7;generalize hL:lC 0 l=L at h7;obtain⟨b1,h7⟩:=aE h7;have b1:=ah b1
  have open_:HQ (E.sz el) sv L H=some r->jQ P e oo O s s w (.c r):=by
   intro h7;obtain⟨b2,h7⟩:=aE h7;have b2:=ah b2;cases L with
   |zero=>
    obtain⟨b3,h7⟩:=aE h7;have b3:=ah b3;cases h7;have aN:=fin 0 H cap hL hH rfl (λh=>absurd rfl h) (ajk _) aa (ajl _);rw [ajm aa,Nat.sub_zero,Nat.sub_zero]at aN;exact aG hd aN ⟨b,c,cap,g1,aa,by simp,g4⟩
   |succ L=>
    obtain⟨b3,h7⟩:=aE h7;have b3:=ah b3;cases h7;have aN:=fin (L+1) H cap hL hH rfl (λh=>absurd rfl h) b1 aa (ajl _);rw [ajm aa]at aN;exact aG hd aN ⟨b,c,_,g1,aa,rfl,ag⟩
  cases hc:sv.cap with
  |n n=>
   rw [hc]at h7 g4;have g4:cap=n:=g4;obtain⟨b2,h7⟩:=aE h7;have b2:=ah b2;cases h7;subst g4;exact done (fin L H cap hL hH rfl (λh=>absurd rfl h) b1 b2 (ajl _)) b2 rfl
  |g=>rw [hc]at h7;exact open_ h7
  |u=>rw [hc]at h7;exact open_ h7
end
end Go.CM
end
