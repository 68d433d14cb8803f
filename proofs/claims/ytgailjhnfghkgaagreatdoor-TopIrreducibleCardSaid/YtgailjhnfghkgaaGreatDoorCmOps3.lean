import Derived.Test.YtgailjhnfghkgaaGreatDoorAmRet
import Derived.Laws.StructEq
section
namespace Go.CM
open Go Go.AM
noncomputable section
inductive Cp where
 |n (n:Nat)|g|u
inductive CC where
 |int (k:IntKind) (n:Int)|bool (b:Bool)|str (s:List Nat)|ptr (k off:Nat)|dG|sl (k off len:Nat) (cap:Cp)|ao|mp (k:Nat)|bK|fn (f:FuncId)|aG|Wk
inductive CW where
 |c (x:CC)|a (l:List CC)
inductive CV where
 |c (x:CC)|a (l:List CC)|t (l:List CW)|Rx (f:FuncId) (l:List CC)|Tt
inductive CO where
 |cells (l:List CC) (g:Option (Nat × Nat))|map (es:List (CW × CW))
inductive Tr (α:Type) where
 |lf|nd (l:Tr α) (x:Option α) (r:Tr α)
def Tr.get{α:Type}(t:Tr α):Nat->Option α:=
 Tr.rec (motive:=λ _=>Nat->Option α) (λ _=>none) (λ _ x _ gl gr n=>Nat.rec (motive:=λ _=>Option α) x (λ m _=>Nat.rec (motive:=λ _=>Option α) (gl (m / 2)) (λ _ _=>gr (m / 2)) (m % 2)) n) t
def Tr.one{α:Type}:Nat->Nat->Option α->Tr α
 |0,_,_=>.lf
 |f+1,n,v=>match n with|0=>.nd .lf v .lf|n+1=>(match n % 2 with|0=>.nd (Tr.one f (n / 2) v) none .lf|_=>.nd .lf none (Tr.one f (n / 2) v))
def Tr.put{α:Type}(t:Tr α):Nat->Option α->Tr α:=
 Tr.rec (motive:=λ _=>Nat->Option α->Tr α) (λ n v=>Tr.one (n+1) n v) (λ l x r pl pr n v=>Nat.rec (motive:=λ _=>Tr α) (.nd l v r) (λ m _=>Nat.rec (motive:=λ _=>Tr α) (.nd (pl (m / 2) v) x r) (λ _ _=>.nd l x (pr (m / 2) v)) (m % 2)) n) t
def bo{α β:Type}(x:Option α)(f:α->Option β):Option β:=Option.rec (motive:=λ _=>Option β) none f x
def bt{β:Type}(b:Bool)(x:Option β):Option β:=Bool.rec (motive:=λ _=>Option β) none x b
structure HS where
 H:Tr CO
 nx:Nat
 wb:Nat
 wr:List Nat
def F8(n:Nat × Nat):List (Nat × Nat)->Bool
 |[]=>false|m::l=>match Nat.beq n.1 m.1&&Nat.beq n.2 m.2 with|true=>true|false=>F8 n l
def vM(n:Nat):List Nat->Bool
 |[]=>false|m::l=>match Nat.beq n m with|true=>true|false=>vM n l
def wrote(wb k:Nat)(wr:List Nat):List Nat:=match Nat.ble wb k with|true=>wr|false=>match vM k wr with|true=>wr|false=>k::wr
def o9(wb:Nat):List Nat->List Nat->List Nat
 |[],wr=>wr|k::l,wr=>o9 wb l (wrote wb k wr)
def tD(a b:Nat):Nat:=match Nat.ble a b with|true=>a|false=>b
def HS.new(s:HS)(o:CO):HS:=⟨s.H.put s.nx (some o),s.nx+1,s.wb,s.wr⟩
def HS.put(s:HS)(k:Nat)(o:CO):HS:=⟨s.H.put k (some o),s.nx,s.wb,wrote s.wb k s.wr⟩
structure cQ where
 n:Nat
 t:Tr CV
def lQ(T:cQ)(i:Nat):CV:=match T.t.get i with|some v=>v|none=>.Tt
def IL(T:cQ)(d:Nat)(v:CV):Option cQ:=bt (Nat.ble (d+1) T.n) (some ⟨T.n,T.t.put d (some v)⟩)
def og(d:Option Nat)(T:cQ)(v:CV):Option cQ:=match d with|none=>some T|some d=>IL T d v
def rW:List UInt8->List Nat
 |[]=>[]|b::l=>b.toNat::rW l
def m8:Value->Option CC
 |.int k n=>bt (xD k n) (some (.int k n))|.bool b=>some (.bool b)|.string s=>some (.str (rW s.data.toList))
 |.slice a n c=>(match a,n,c with|none,0,0=>some .ao|_,_,_=>none)|.pointer a=>(match a with|none=>some .dG|_=>none)|.map a=>(match a with|none=>some .bK|_=>none)|.nilFunc=>some .aG|.nilIface=>some .Wk|_=>none
def consts:List Value->Option (List CC)
 |[]=>some []|v::l=>bo (m8 v) λ x=>bo (consts l) λ m=>some (x::m)
def GI(x:Option CV):CV:=match x with|some v=>v|none=>.Tt
def LK(v:Value):CV:=
 match v with
 |.agg cs=>GI (bo (consts cs.toList) λ l=>some (.a l))
 |v=>GI (bo (m8 v) λ x=>some (.c x))
def cJ(T:cQ):Operand->CV
 |.tmp t=>lQ T t|.const v=>LK v|.func f=>.c (.fn f)|.global _=>.Tt
def PR(T:cQ):List Operand->List CV
 |[]=>[]|x::l=>cJ T x::PR T l
def xE:CV->Option CC|.c x=>some x|_=>none
def Tu:CV->Option (List CC)|.a l=>some l|_=>none
def Zi:CV->Option (List CW)|.t l=>some l|_=>none
def U8:CV->Option CW|.c x=>some (.c x)|.a l=>some (.a l)|_=>none
def U9:CW->CV|.c x=>.c x|.a l=>.a l
def Wl(v:CV):Option Bool:=bo (xE v) λ x=>match x with|.bool b=>some b|_=>none
def NU(v:CV):Option (IntKind × Int):=bo (xE v) λ x=>match x with|.int k n=>some (k,n)|_=>none
def H4:Int->Option Nat|.ofNat n=>some n|.negSucc _=>none
def Va(v:CV):Option Nat:=bo (NU v) λ p=>H4 p.2
def SF(v:CV):Option (Nat × Nat):=bo (xE v) λ x=>match x with|.ptr k off=>some (k,off)|_=>none
structure N4 where
 k:Nat
 off:Nat
 len:Nat
 cap:Cp
def XQ(v:CV):Option N4:=bo (xE v) λ x=>match x with|.sl k off len cap=>some ⟨k,off,len,cap⟩|_=>none
def Tv(T:cQ):List Operand->Option (List CC)
 |[]=>some []|x::l=>bo (xE (cJ T x)) λ a=>bo (Tv T l) λ m=>some (a::m)
def IM(T:cQ)(x:Option Operand):Option (Option Nat):=match x with|none=>some none|some x=>bo (Va (cJ T x)) λ n=>some (some n)
def m9:List CC->Nat->Option (List CC)
 |l,n=>match n with|0=>some []|n+1=>match l with|[]=>none|a::l=>bo (m9 l n) λ m=>some (a::m)
def vN:List CC->Nat->List CC
 |l,n=>match n with|0=>l|n+1=>match l with|[]=>[]|_::l=>vN l n
def yu(l:List CC)(off n:Nat):Option (List CC):=m9 (vN l off) n
def Ry:List CC->Option CC|[]=>none|a::_=>some a
def yv:List CC->List CC->Option (List CC)
 |l,m=>match m with|[]=>some l|b::m=>match l with|[]=>none|_::l=>bo (yv l m) λ r=>some (b::r)
def iA:List CC->Nat->List CC->Option (List CC)
 |l,n,m=>match n with|0=>yv l m|n+1=>match l with|[]=>none|a::l=>bo (iA l n m) λ r=>some (a::r)
def vO:List CC->Nat->Bool
 |[],n=>(match n with|0=>true|_+1=>false)|_::l,n=>(match n with|0=>false|n+1=>vO l n)
abbrev Zs:=List (List CC)
def tE:Zs->Nat->List CC
 |[],_=>[]|a::l,n=>match n with|0=>a|n+1=>tE l n
abbrev VI:=FuncId->List CV->HS->Option (CV × HS)
structure Ev where
 TY:List cP
 TZ:Zs
 call:VI
 eqs:List Nat
 EY:List (Nat × Nat)
def Ev.d(E:Ev)(t:Nat):GJ:=(aq E.TY t).d
def Ev.sz(E:Ev)(t:Nat):Nat:=(aq E.TY t).sz
def Ev.z(E:Ev)(t:Nat):List CC:=tE E.TZ t
def Ev.agg(E:Ev)(t:Nat):Bool:=bJ (aq E.TY t).d
def pa(E:Ev)(t:Nat)(v:CV):Option (List CC):=
 match E.agg t with
 |true=>bo (Tu v) λ l=>bt (vO l (E.sz t)) (some l)
 |false=>bo (xE v) λ x=>bt (Nat.beq (E.sz t) 1) (some [x])
def oG(E:Ev)(t:Nat)(l:List CC)(off:Nat):Option CW:=
 match E.agg t with
 |true=>bo (yu l off (E.sz t)) λ m=>some (.a m)
 |false=>bt (Nat.beq (E.sz t) 1) (bo (Ry (vN l off)) λ x=>some (.c x))
def vP(k:IntKind)(n:Int):CC:=match xD k n with|true=>.int k n|false=>.int k (k.wrap n)
def Aj(b:Bool):Bool:=match b with|true=>false|false=>true
def PS(op:BinOp)(k:IntKind)(a b:Int):Option CC:=
 match op with
 |.lss=>some (.bool (decide (a<b)))|.leq=>some (.bool (decide (a<=b)))|.gtr=>some (.bool (decide (b<a)))|.geq=>some (.bool (decide (b<=a)))
 |.eql=>some (.bool (a==b))|.neq=>some (.bool (Aj (a==b)))
 |.add=>some (vP k (a+b))|.sub=>some (vP k (a - b))|.mul=>some (vP k (a*b))
 |.quo=>bt (Aj (b==0)) (some (vP k (a.tdiv b)))
 |.rem=>bt (Aj (b==0)) (some (vP k (a.tmod b)))
 |.and=>some (.int k (IP k a b))|.or=>some (.int k (Vb k a b))
 |_=>none
def Wm(op:BinOp)(k:IntKind)(a:Int)(k':IntKind)(b:Int):Option CC:=
 match op with
 |.shl=>bt (decide (0<=b)) (some (vP k (Cz k a b)))|.shr=>bt (decide (0<=b)) (some (vP k (CA k a b)))
 |op=>bt (kq k k') (PS op k a b)
def GK:List Nat->List Nat->Bool
 |[],m=>(match m with|[]=>true|_::_=>false)|a::l,m=>(match m with|[]=>false|b::m=>(match Nat.beq a b with|true=>GK l m|false=>false))
def xF(op:BinOp)(e:Bool):Option CC:=match op with|.eql=>some (.bool e)|.neq=>some (.bool (Aj e))|_=>none
def Zj(op:BinOp)(a b:List Nat):Option CC:=xF op (GK a b)
def Ak:CC->Bool|.bK=>true|_=>false
def EZ:GJ->Bool|.map _ _=>true|_=>false
def Al:CC->Bool|.ao=>true|_=>false
def Zk(E:Ev)(op:BinOp)(t:Nat)(x y:CC):Option CC:=
 match x with
 |.int k a=>(match y with|.int k' b=>Wm op k a k' b|_=>none)
 |.bool a=>(match y with|.bool b=>bt (qw E.TY t) (xF op (a==b))|_=>none)
 |.str a=>(match y with|.str b=>Zj op a b|_=>none)
 |.sl _ _ _ _=>bt (Al y) (bt (iB E.TY t) (xF op false))
 |.ao=>bt (Al y) (bt (iB E.TY t) (xF op true))
 |.mp _=>bt (Ak y) (bt (EZ (E.d t)) (xF op false))
 |.bK=>bt (Ak y) (bt (EZ (E.d t)) (xF op true))
 |_=>none
def Zl(x y:CC):Option Bool:=
 match x with
 |.int k a=>(match y with|.int k' b=>bt (kq k k') (some (a==b))|_=>none)
 |.str a=>(match y with|.str b=>some (GK a b)|_=>none)
 |.bool a=>(match y with|.bool b=>some (a==b)|_=>none)
 |_=>none
def Vc:List CC->List CC->Option Bool
 |[],m=>(match m with|[]=>some true|_=>none)|a::l,m=>(match m with|[]=>none|b::m=>bo (Zl a b) λ e=>match e with|true=>Vc l m|false=>bo (Vc l m) λ _=>some false)
def Zm(x y:CW):Option Bool:=match x with|.c a=>(match y with|.c b=>Zl a b|_=>none)|.a l=>(match y with|.a m=>Vc l m|_=>none)
def yw:List (CW × CW)->CW->Nat->Option (Option (Nat × CW))
 |[],_,_=>some none
 |p::m,k,i=>bo (Zm k p.1) λ e=>match e with|true=>some (some (i,p.2))|false=>yw m k (i+1)
def kI:List (CW × CW)->Nat->CW->CW->List (CW × CW)
 |[],_,_,_=>[]|p::m,i,k,v=>match i with|0=>(k,v)::m|i+1=>p::kI m i k v
def sM(E:Ev)(t:Nat):Option (Nat × Nat):=match E.d t with|.map k e=>some (k,e)|_=>none
def IQ:List (CW × CW)->Nat->Nat
 |[],n=>n|_::l,n=>IQ l (n+1)
def pb(k:IntKind):List CC->Bool
 |[]=>true|x::l=>match x with|.int k' _=>(match kq k k' with|true=>pb k l|false=>false)|_=>false
def pc(E:Ev)(t:Nat)(l:List CC):Bool:=
 match E.d t with
 |.arr n e=>(match vO l n with|true=>(match Nat.beq (E.sz e) 1 with|true=>(match E.d e with|.int k=>pb k l|_=>false)|false=>false)|false=>false)
 |_=>false
def Wn:CW->Bool|.c _=>true|.a _=>false
def yx(E:Ev)(t:Nat)(k:CW):Bool:=
 match k with
 |.c x=>(match x with
  |.int k' _=>(match E.d t with|.int k=>kq k k'|_=>false)
  |.str _=>(match E.d t with|.str=>true|_=>false)
  |.bool _=>(match E.d t with|.bool=>true|_=>false)
  |_=>false)
 |.a l=>pc E t l
def LL(E:Ev)(t:Nat):Option CW:=
 match E.agg t with
 |true=>bt (vO (E.z t) (E.sz t)) (match E.z t with|[]=>none|a::l=>some (.a (a::l)))
 |false=>(match E.z t with|[x]=>some (.c x)|_=>none)
def CB(z:List CC):Nat->List CC->List CC
 |0,acc=>acc|n+1,acc=>CB z n (z++acc)
def na(E:Ev)(t:Nat):Option Nat:=match E.d t with|.slice e=>some e|_=>none
def GL(E:Ev)(T:cQ)(e:Nat):List (Nat × Operand)->List CC->Option (List CC)
 |[],l=>some l
 |p::ps,l=>bo (pa E e (cJ T p.2)) λ m=>bo (iA l (p.1*E.sz e) m) λ l'=>GL E T e ps l'
def LM(E:Ev)(T:cQ)(fs:List (Nat × Nat)):List (Nat × Operand)->List CC->Option (List CC)
 |[],l=>some l
 |p::ps,l=>bo (cZ fs p.1) λ q=>bo (pa E q.2 (cJ T p.2)) λ m=>bo (iA l q.1 m) λ l'=>LM E T fs ps l'
def kD(n:Nat):Bool:=Nat.ble n 1000000
def Wo(s:HS)(k:Nat):Option CO:=s.H.get k
def jb(s:HS)(k:Nat):Option (List CC × Option (Nat × Nat)):=bo (Wo s k) λ o=>match o with|.cells l g=>some (l,g)|_=>none
def PT(s:HS)(k:Nat):Option (List (CW × CW)):=bo (Wo s k) λ o=>match o with|.map es=>some es|_=>none
def Am(s:HS)(k off n:Nat):Option (List CC):=bo (jb s k) λ p=>yu p.1 off n
def An(k off sz l h m:Nat):CC:=match Nat.beq m l with|true=>.sl k off (h - l) (.n (m - l))|false=>.sl k (off+l*sz) (h - l) (.n (m - l))
def kW(d:Nat)(x:Option Nat):Nat:=match x with|some n=>n|none=>d
def LN(v:N4):Nat:=match v.cap with|.n c=>c|_=>v.len
def GM(sz:Nat)(v:N4)(l h:Nat):Option CC:=
 bt (Nat.ble h v.len) (match l with
  |0=>bt (Nat.ble 1 v.len) (some (.sl v.k v.off h v.cap))
  |l+1=>bt (Nat.ble (l+2) v.len) (some (.sl v.k (v.off+(l+1)*sz) (h - (l+1)) .u)))
def CD(sz:Nat)(v:N4)(l h:Nat):Option CC:=
 bt (Nat.ble l h) (match v.cap with|.n c=>bt (Nat.ble h c) (some (An v.k v.off sz l h c))|_=>GM sz v l h)
def Zn(sz:Nat)(v:N4)(l:Nat)(h:Option Nat)(m:Option Nat):Option CC:=
 match m with
 |some m=>(match h with|none=>none|some h=>bt (Nat.ble l h) (bt (Nat.ble h m) (bt (Nat.ble m (LN v)) (some (An v.k v.off sz l h m)))))
 |none=>CD sz v l (kW v.len h)
def ic:List Nat->Nat->Nat
 |[],n=>n|_::l,n=>ic l (n+1)
def PU(s:HS)(sz:Nat)(x:CC):Option (Nat × List CC):=
 match x with
 |.ao=>some (0,[])
 |.sl k off len _=>bo (Am s k off (len*sz)) λ l=>some (len,l)
 |_=>none
def Ao(s:HS)(sz e n:Nat)(l:List CC):Option (CV × HS):=bt (kD n) (some (.c (.sl s.nx 0 n .g),s.new (.cells l (some (sz,e)))))
def Wp(s:HS)(sz:Nat)(v:N4)(c n:Nat)(new:List CC):Option (CV × HS):=
 match n with
 |0=>some (.c (.sl v.k v.off v.len (.n c)),s)
 |n+1=>bo (jb s v.k) λ p=>bo (iA p.1 (v.off+v.len*sz) new) λ l'=>some (.c (.sl v.k v.off (v.len+(n+1)) (.n c)),s.put v.k (.cells l' p.2))
def PV(s:HS)(sz e:Nat)(v:N4)(n:Nat)(new:List CC):Option (CV × HS):=
 match n with
 |0=>some (.c (.sl v.k v.off v.len .g),s)
 |n+1=>bt (kD (v.len+(n+1))) (bo (jb s v.k) λ p=>match p.2 with
  |none=>none
  |some g=>bt (Nat.beq g.1 sz) (bt (Nat.beq g.2 e) (bo (m9 p.1 (v.len*sz)) λ eu=>
   some (.c (.sl s.nx 0 (v.len+(n+1)) .g),⟨(s.H.put v.k none).put s.nx (some (.cells (eu++new) (some (sz,e)))),s.nx+1,s.wb,wrote s.wb v.k s.wr⟩))))
def nS(E:Ev)(e:Nat)(x:CC)(q:Nat × List CC)(s:HS):Option (CV × HS):=
 match x with
  |.ao=>(match q.1 with|0=>some (.c .ao,s)|n+1=>Ao s (E.sz e) e (n+1) q.2)
  |.sl k off len cap=>(match cap with
   |.n c=>(match Nat.ble (len+q.1) c with
    |true=>Wp s (E.sz e) ⟨k,off,len,cap⟩ c q.1 q.2
    |false=>bt (kD c) (bo (Am s k off (len*E.sz e)) λ eu=>Ao s (E.sz e) e (len+q.1) (eu++q.2)))
   |.g=>bt (Nat.beq off 0) (PV s (E.sz e) e ⟨k,off,len,cap⟩ q.1 q.2)
   |.u=>none)
  |_=>none
def Ap(E:Ev)(e:Nat)(x y:CC)(s:HS):Option (CV × HS):=
 bt (kD (aq E.TY e).bytes) (bt (Nat.ble 1 (E.sz e)) (bt (vO (E.z e) (E.sz e)) (bo (PU s (E.sz e) y) λ q=>nS E e x q s)))
def Tw:List Nat->List CC
 |[]=>[]|b::l=>.int .u8 b::Tw l
def LO(d:GJ):Bool:=match d with|.str=>true|_=>false
def GN(E:Ev)(e:Nat)(x:CC)(l:List Nat)(s:HS):Option (CV × HS):=
 bt (kD (aq E.TY e).bytes) (bt (Nat.beq (E.sz e) 1) (bt (vO (E.z e) (E.sz e)) (nS E e x (ic l 0,Tw l) s)))
def bytesOf:List CC->Option (List Nat)
 |[]=>some []|x::l=>match x with|.int k n=>(match k with|.u8=>bo (H4 n) λ b=>bo (bytesOf l) λ m=>some (b::m)|_=>none)|_=>none
def Q5(s:HS)(x:Option CC):Option (CV × HS):=bo x λ a=>some (.c a,s)
def okW(s:HS)(x:Option CW):Option (CV × HS):=bo x λ a=>some (U9 a,s)
def LP(T:cQ)(c a b:Operand)(s:HS):Option (CV × HS):=bo (Wl (cJ T c)) λ t=>match t with|true=>some (cJ T a,s)|false=>some (cJ T b,s)
def Tx(d:GJ)(a b:CW):Option Bool:=
 match a with
 |.c x=>(match b with
  |.c y=>(match d with
   |.int _=>(match x with|.int k n=>(match y with|.int k' m=>bt (kq k k') (some (n==m))|_=>none)|_=>none)
   |.bool=>(match x with|.bool n=>(match y with|.bool m=>some (n==m)|_=>none)|_=>none)
   |.str=>(match x with|.str n=>(match y with|.str m=>some (GK n m)|_=>none)|_=>none)
   |_=>none)
  |_=>none)
 |_=>none
def Zo(E:Ev):List (Nat × Nat)->List CC->List CC->Option Bool
 |[],_,_=>some true
 |p::fs,l,m=>bo (oG E p.2 l p.1) λ a=>bo (oG E p.2 m p.1) λ b=>bo (Tx (E.d p.2) a b) λ e=>match e with|true=>Zo E fs l m|false=>some false
def Ty(E:Ev)(T:cQ)(op:BinOp)(t:Nat)(l:List CC)(y:Operand)(s:HS):Option (CV × HS):=
 bt (vM t E.eqs) (bo (Tu (cJ T y)) λ m=>match E.d t with|.struct fs=>bo (Zo E fs l m) λ e=>Q5 s (xF op e)|_=>none)
def LQ(E:Ev)(T:cQ)(op:BinOp)(t:Nat)(x y:Operand)(s:HS):Option (CV × HS):=
 match Tu (cJ T x)with
 |some l=>Ty E T op t l y s
 |none=>bo (xE (cJ T x)) λ a=>bo (xE (cJ T y)) λ b=>Q5 s (Zk E op t a b)
def Wq(T:cQ)(op:UnOp)(x:Operand)(s:HS):Option (CV × HS):=
 match op with|.not=>bo (Wl (cJ T x)) λ b=>some (.c (.bool (Aj b)),s)|.neg=>bo (NU (cJ T x)) λ p=>some (.c (vP p.1 (0 - p.2)),s)|_=>none
def Tz(d:GJ):Bool:=match d with|.int k=>(match k with|.u8=>true|_=>false)|_=>false
def E1(E:Ev)(T:cQ)(a b:Nat)(x:Operand)(s:HS):Option (CV × HS):=
 match E.d b with
 |.int k=>(match E.d a with|.int _=>bo (NU (cJ T x)) λ p=>some (.c (vP k p.2),s)|_=>none)
 |.str=>(match E.d a with
  |.slice e=>bt (Tz (E.d e)) (bo (xE (cJ T x)) λ v=>match v with
   |.ao=>some (.c (.str []),s)
   |.sl k off len _=>bo (Am s k off len) λ l=>bo (bytesOf l) λ m=>some (.c (.str m),s)
   |_=>none)
  |_=>none)
 |_=>none
def Aq(E:Ev)(t:Nat)(s:HS):Option (CV × HS):=match E.z t with|[]=>none|a::l=>some (.c (.ptr s.nx 0),s.new (.cells (a::l) (some (0,t))))
def Rz(E:Ev)(T:cQ)(t:Nat)(x:Operand)(s:HS):Option (CV × HS):=bo (pa E t (cJ T x)) λ l=>some (.c (.ptr s.nx 0),s.new (.cells l none))
def Ar(E:Ev)(T:cQ)(t:Nat)(ps:List (Nat × Operand))(s:HS):Option (CV × HS):=
 match E.z t with
 |[]=>none
 |z::zs=>(match E.d t with
  |.struct fs=>bo (LM E T fs ps (z::zs)) λ l=>some (.a l,s)
  |.arr _ e=>bt (Nat.ble 1 (E.sz e)) (bo (GL E T e ps (z::zs)) λ l=>some (.a l,s))
  |_=>none)
def CE(E:Ev)(T:cQ)(t n:Nat)(ps:List (Nat × Operand))(s:HS):Option (CV × HS):=
 bo (na E t) λ e=>bt (vO (E.z e) (E.sz e)) (bt (Nat.ble 1 (E.sz e)) (bt (Nat.ble (n*E.sz e) 1000000) (bo (GL E T e ps (CB (E.z e) n [])) λ l=>some (.c (.sl s.nx 0 n (.n n)),s.new (.cells l none)))))
def LR(E:Ev)(T:cQ)(t:Nat)(l c:Operand)(s:HS):Option (CV × HS):=
 bo (na E t) λ e=>bo (Va (cJ T l)) λ l=>bo (Va (cJ T c)) λ c=>
  bt (vO (E.z e) (E.sz e)) (bt (Nat.ble 1 (E.sz e)) (bt (Nat.ble l c) (bt (kD c) (bt (kD (aq E.TY e).bytes) (some (.c (.sl s.nx 0 l (.n c)),s.new (.cells (CB (E.z e) c []) none)))))))
def LS(E:Ev)(T:cQ)(t:Nat)(x:Operand)(s:HS):Option (CV × HS):=bo (SF (cJ T x)) λ p=>bo (jb s p.1) λ q=>okW s (oG E t q.1 p.2)
def GO(E:Ev)(T:cQ)(t:Nat)(x y:Operand)(s:HS):Option (CV × HS):=
 bo (SF (cJ T x)) λ p=>bo (pa E t (cJ T y)) λ m=>bo (jb s p.1) λ q=>bo (iA q.1 p.2 m) λ l=>some (.t [],s.put p.1 (.cells l q.2))
def LU(T:cQ)(x:Operand)(s:HS):Option (CV × HS):=
 match cJ T x with|.c c=>(match c with|.ptr k o=>some (.c (.ptr k o),s)|.fn f=>some (.c (.fn f),s)|_=>none)|.Rx f l=>some (.Rx f l,s)|_=>none
def LV(T:cQ)(fn:Fn)(first cap:List Operand)(s:HS):Option (CV × HS):=
 match fn with
 |.func f=>(match first with|[]=>bo (Tv T cap) λ l=>(match l with|[]=>some (.c (.fn f),s)|a::l=>some (.Rx f (a::l),s))|_=>none)
 |_=>none
def LW(E:Ev)(T:cQ)(t:Nat)(x k:Operand)(ok:Bool)(s:HS):Option (CV × HS):=
 bo (sM E t) λ q=>bo (xE (cJ T x)) λ m=>bo (U8 (cJ T k)) λ kv=>bt (yx E q.1 kv) (bo (LL E q.2) λ z=>
  bo (match m with|.bK=>some []|.mp k=>PT s k|_=>none) λ es=>bo (yw es kv 0) λ r=>match ok with
   |true=>(match r with|some p=>some (.t [p.2,.c (.bool true)],s)|none=>some (.t [z,.c (.bool false)],s))
   |false=>(match r with|some p=>some (U9 p.2,s)|none=>some (U9 z,s)))
def LX(E:Ev)(T:cQ)(t:Nat)(x k y:Operand)(s:HS):Option (CV × HS):=
 bo (sM E t) λ q=>bo (xE (cJ T x)) λ m=>bo (U8 (cJ T k)) λ kv=>bo (U8 (cJ T y)) λ v=>bt (yx E q.1 kv) (match m with
  |.mp j=>bo (PT s j) λ es=>bo (yw es kv 0) λ r=>(match r with
   |some p=>bt (Wn kv) (some (.t [],s.put j (.map (kI es p.1 kv v))))
   |none=>some (.t [],s.put j (.map (es++[(kv,v)]))))
  |_=>none)
def GP(E:Ev)(T:cQ)(t:Nat)(x:Operand)(lo hi mx:Option Operand)(s:HS):Option (CV × HS):=
 bo (XQ (cJ T x)) λ v=>bo (IM T lo) λ l=>bo (IM T hi) λ h=>bo (IM T mx) λ m=>bo (na E t) λ e=>bt (Nat.ble 1 (E.sz e)) (Q5 s (Zn (E.sz e) v (kW 0 l) h m))
def CF(E:Ev)(T:cQ)(t:Nat)(x:Operand)(f:Nat)(s:HS):Option (CV × HS):=
 bo (SF (cJ T x)) λ p=>match E.d t with|.struct fs=>bo (cZ fs f) λ q=>bt (Nat.ble 1 (E.sz q.2)) (some (.c (.ptr p.1 (p.2+q.1)),s))|_=>none
def GQ(E:Ev)(T:cQ)(t:Nat)(x:Operand)(f:Nat)(s:HS):Option (CV × HS):=
 bo (Tu (cJ T x)) λ l=>match E.d t with|.struct fs=>bo (cZ fs f) λ q=>okW s (oG E q.2 l q.1)|_=>none
def CG(E:Ev)(T:cQ)(t:Nat)(x i:Operand)(s:HS):Option (CV × HS):=
 bo (Va (cJ T i)) λ i=>match E.d t with
  |.slice e=>bo (XQ (cJ T x)) λ v=>bt (Nat.ble 1 (E.sz e)) (bt (Nat.ble (i+1) v.len) (some (.c (.ptr v.k (v.off+i*E.sz e)),s)))
  |.arr n e=>bo (SF (cJ T x)) λ p=>bt (Nat.ble 1 (E.sz e)) (bt (Nat.ble (i+1) n) (some (.c (.ptr p.1 (p.2+i*E.sz e)),s)))
  |_=>none
def GR(E:Ev)(T:cQ)(t:Nat)(x i:Operand)(s:HS):Option (CV × HS):=
 bo (Va (cJ T i)) λ i=>match E.d t with
  |.arr n e=>bo (Tu (cJ T x)) λ l=>bt (Nat.ble 1 (E.sz e)) (bt (Nat.ble (i+1) n) (okW s (oG E e l (i*E.sz e))))
  |.str=>bo (xE (cJ T x)) λ c=>(match c with|.str l=>bo (l[i]?) λ b=>some (.c (.int .u8 b),s)|_=>none)
  |_=>none
def yy(T:cQ)(x:Operand)(i:Nat)(s:HS):Option (CV × HS):=bo (Zi (cJ T x)) λ l=>okW s (l[i]?)
def RA(s:HS)(n:Nat):Option (CV × HS):=bt (Nat.ble n 9223372036854775807) (some (.c (.int .i64 n),s))
def LY(E:Ev)(t:Nat)(v:CC)(s:HS):Option (CV × HS):=
 match E.d t with
 |.slice _=>(match v with|.sl _ _ n _=>RA s n|.ao=>RA s 0|_=>none)
 |.str=>(match v with|.str l=>RA s (ic l 0)|_=>none)
 |.map _ _=>(match v with|.bK=>RA s 0|.mp k=>bo (PT s k) λ es=>RA s (IQ es 0)|_=>none)
 |_=>none
def LZ(E:Ev)(t:Nat)(v:N4)(y:CC)(s:HS):Option (CV × HS):=
 bo (na E t) λ e=>bt (Nat.ble 1 (E.sz e)) (bo (PU s (E.sz e) y) λ q=>bo (jb s v.k) λ p=>bo (m9 q.2 (tD q.1 v.len*E.sz e)) λ m=>bo (iA p.1 v.off m) λ l=>
  RA (s.put v.k (.cells l p.2)) (tD q.1 v.len))
def As(t:Nat)(tys:List Nat):Bool:=match tys with|[]=>false|u::l=>(match l with|[]=>Nat.beq t u|_::_=>false)
def GS(E:Ev)(t:Nat)(v:CC)(s:HS):Option (CV × HS):=
 bo (na E t) λ e=>match v with
  |.ao=>some (.t [],s)
  |.sl k off len _=>(match len with
   |0=>some (.t [],s)
   |n+1=>bt (Nat.ble 1 (E.sz e)) (bt (vO (E.z e) (E.sz e)) (bo (jb s k) λ p=>bo (iA p.1 off (CB (E.z e) (n+1) [])) λ l=>some (.t [],s.put k (.cells l p.2)))))
  |_=>none
def GU(v:CC)(s:HS):Option (CV × HS):=
 match v with
 |.ao=>some (.c .dG,s)
 |.sl k off len _=>bt (Nat.ble 1 len) (some (.c (.ptr k off),s))
 |_=>none
def L1(E:Ev)(t:Nat)(v:CC)(n:Nat)(s:HS):Option (CV × HS):=
 match n with
 |0=>(match v with|.dG=>some (.c (.str []),s)|.ptr _ _=>some (.c (.str []),s)|_=>none)
 |n+1=>(match v with
  |.ptr k off=>bt (Nat.beq off 0) (bo (jb s k) λ p=>match p.2 with
   |none=>none
   |some g=>bt (F8 (t,g.2) E.EY) (bt (kD n) (bo (yu p.1 0 (n+1)) λ l=>bo (bytesOf l) λ m=>some (.c (.str m),⟨s.H.put k none,s.nx,s.wb,wrote s.wb k s.wr⟩))))
  |_=>none)
def yz(E:Ev)(T:cQ)(b:Builtin)(args:List Operand)(tys:List Nat)(s:HS):Option (CV × HS):=
 match args with
 |[]=>none
 |x::args=>(match args with
  |[]=>(match b with|.len=>(match tys with|[]=>none|t::_=>bo (xE (cJ T x)) λ v=>LY E t v s)|.clear=>(match tys with|[]=>none|t::_=>bo (xE (cJ T x)) λ v=>GS E t v s)|.unsafeSliceData=>bo (xE (cJ T x)) λ v=>GU v s|_=>none)
  |y::args=>(match args with
   |_::_=>none
   |[]=>(match b with
    |.unsafeString=>(match tys with|[]=>none|t::r=>match r with|[]=>none|_::r'=>match r' with|_::_=>none|[]=>bo (NU (cJ T y)) λ n=>bt (kq n.1 .i64) (bo (H4 n.2) λ n=>bo (xE (cJ T x)) λ v=>L1 E t v n s))
    |.append=>(match tys with|[]=>none|t::tys=>bo (na E t) λ e=>bo (xE (cJ T x)) λ a=>bo (xE (cJ T y)) λ b=>(match b with
     |.str l=>(match tys with|[]=>none|u::r=>(match r with|[]=>bt (LO (E.d u)) (GN E e a l s)|_::_=>none))
     |b=>bt (As t tys) (Ap E e a b s)))
    |.copy=>(match tys with|[]=>none|t::tys=>bt (As t tys) (bo (XQ (cJ T x)) λ v=>bo (xE (cJ T y)) λ b=>LZ E t v b s))
    |.max=>bo (NU (cJ T x)) λ p=>bo (NU (cJ T y)) λ q=>bt (kq p.1 q.1) (some (.c (.int p.1 (match decide (p.2<=q.2)with|true=>q.2|false=>p.2)),s))
    |.min=>bo (NU (cJ T x)) λ p=>bo (NU (cJ T y)) λ q=>bt (kq p.1 q.1) (some (.c (.int p.1 (match decide (p.2<=q.2)with|true=>p.2|false=>q.2)),s))
    |_=>none)))
def E2:List CC->List CV
 |[]=>[]|a::l=>.c a::E2 l
def TA:List CV->List CV->List CV
 |[],m=>m|a::l,m=>a::TA l m
def E3(E:Ev)(T:cQ)(c:Call)(s:HS):Option (CV × HS):=
 match c.callee with
 |.value x=>(match cJ T x with
  |.c a=>(match a with|.fn f=>E.call f (PR T c.args.toList) s|_=>none)
  |.Rx f l=>E.call f (TA (PR T c.args.toList) (E2 l)) s
  |_=>none)
 |.builtin b=>yz E T b c.args.toList c.argTypes.toList s
 |_=>none
def Wr(o:Op):Ev->cQ->HS->Option (CV × HS):=
 Op.rec (motive:=λ _=>Ev->cQ->HS->Option (CV × HS))
   (λ x=>λ _ T s=>some (cJ T x,s))
   (λ x=>λ _ T s=>some (cJ T x,s))
   (λ c a b=>λ _ T s=>LP T c a b s)
   (λ t=>λ E _ s=>Aq E t s)
   (λ t x=>λ E T s=>Rz E T t x s)
   (λ t ps=>λ E T s=>Ar E T t ps.toList s)
   (λ t n ps=>λ E T s=>CE E T t n ps.toList s)
   (λ t x k y=>λ E T s=>LX E T t x k y s)
   (λ t x=>λ E T s=>LS E T t x s)
   (λ t x y=>λ E T s=>GO E T t x y s)
   (λ _=>λ _ _ _=>none)
   (λ _=>λ _ _ _=>none)
   (λ x=>λ _ T s=>LU T x s)
   (λ op t x y _=>λ E T s=>LQ E T op t x y s)
   (λ op _ x=>λ _ T s=>Wq T op x s)
   (λ a b x=>λ E T s=>E1 E T a b x s)
   (λ _ _=>λ _ _ _=>none)
   (λ _ _=>λ _ _ _=>none)
   (λ fn first cap=>λ _ T s=>LV T fn first.toList cap.toList s)
   (λ t r=>λ E T s=>bo (sM E t) λ _=>bo (IM T r) λ _=>some (.c (.mp s.nx),s.new (.map [])))
   (λ _ _=>λ _ _ _=>none)
   (λ t l c=>λ E T s=>LR E T t l c s)
   (λ t x lo hi mx=>λ E T s=>GP E T t x lo hi mx s)
   (λ t x f=>λ E T s=>CF E T t x f s)
   (λ t x f=>λ E T s=>GQ E T t x f s)
   (λ t x i=>λ E T s=>CG E T t x i s)
   (λ t x i=>λ E T s=>GR E T t x i s)
   (λ t x k ok=>λ E T s=>LW E T t x k ok s)
   (λ t x k y=>λ E T s=>LX E T t x k y s)
   (λ _ _ _=>λ _ _ _=>none)
   (λ _ _ _ _=>λ _ _ _=>none)
   (λ _ _=>λ _ _ _=>none)
   (λ _ _=>λ _ _ _=>none)
   (λ _=>λ _ _ _=>none)
   (λ _ _ _ _=>λ _ _ _=>none)
   (λ x i=>λ _ T s=>yy T x i s)
   (λ c=>λ E T s=>E3 E T c s)
   (λ _=>λ _ _ _=>none)
   (λ _=>λ _ _ _=>none)
   (λ _=>λ _ _ _=>none)
   (λ _ _=>λ _ _ _=>none)
   (λ _ _ _=>λ _ _ _=>none)
   (λ _ _=>λ _ _ _=>none)
   o
def E4(E:Ev)(o:Op)(T:cQ)(s:HS):Option (CV × HS):=Wr o E T s
def TB(ops:Array Oper)(g:Option (Nat × Bool))(T:cQ):Option Bool:=
 match g with
 |none=>some true
 |some p=>bo (bG ops p.1) λ d=>match lQ T d with
  |.c x=>(match x with|.bool b=>some (match p.2 with|true=>b|false=>Aj b)|_=>none)
  |.t l=>(match l with|[]=>some false|_=>none)
  |_=>none
def GV(E:Ev)(A:Array Oper):List Oper->cQ->HS->Option (cQ × HS)
 |[],T,s=>some (T,s)
 |o::rest,T,s=>bo (TB A o.guard T) λ g=>match g with
  |true=>bo (E4 E o.op T s) λ p=>bo (og o.dst T p.1) λ T'=>GV E A rest T' p.2
  |false=>bo (og o.dst T (.t [])) λ T'=>GV E A rest T' s
structure Hint where
 ws:List Nat
 lo:Nat
 hi:Nat
def Hint.idle(h:Hint):Bool:=match h.ws with|[]=>Nat.ble h.hi h.lo|_=>false
def Hint.has(h:Hint)(k:Nat):Bool:=match vM k h.ws with|true=>true|false=>Nat.ble h.lo k&&Nat.ble (k+1) h.hi
def Zp(k:Nat):List Hint->Bool
 |[]=>false|h::l=>match h.has k with|true=>true|false=>Zp k l
def yA(s:HS)(p:HS)(h:Hint):HS:=match h.idle with|true=>s|false=>⟨p.H,p.nx,s.wb,o9 s.wb p.wr s.wr⟩
def qx(E:Ev)(A:Array Oper):List Oper->List Hint->cQ->HS->Option (cQ × HS × List Hint)
 |[],acc,T,s=>some (T,s,acc.reverse)
 |o::rest,acc,T,s=>bo (TB A o.guard T) λ g=>match g with
  |true=>bo (E4 E o.op T ⟨s.H,s.nx,s.nx,[]⟩) λ p=>bt (Nat.ble s.nx p.2.nx) (bo (og o.dst T p.1) λ T'=>qx E A rest (⟨p.2.wr,s.nx,p.2.nx⟩::acc) T' (yA s p.2 ⟨p.2.wr,s.nx,p.2.nx⟩))
  |false=>bo (og o.dst T (.t [])) λ T'=>qx E A rest (⟨[],s.nx,s.nx⟩::acc) T' s
def om(m j:Nat):Bool:=Nat.beq (Nat.land (Nat.shiftRight m j) 1) 1
def RB(C:List Nat):List Edge->Nat->Nat
 |[],acc=>acc
 |e::l,acc=>match eS e with|true=>RB C l (Nat.lor (Nat.lor acc (Nat.shiftLeft 1 e.on)) (C.getD e.on 0))|false=>RB C l acc
def dB:List Oper->List Nat->List Nat
 |[],C=>C|o::l,C=>dB l (C++[RB C o.after.toList 0])
def qy(C:List Nat)(i j:Nat):Bool:=match Nat.beq j i with|true=>true|false=>match om (C.getD i 0) j with|true=>true|false=>om (C.getD j 0) i
def others(C:List Nat)(i:Nat):List Hint->Nat->List Hint
 |[],_=>[]
 |h::l,j=>match h.idle with|true=>others C i l (j+1)|false=>match qy C i j with|true=>others C i l (j+1)|false=>h::others C i l (j+1)
def pd:Nat->Nat->List Nat
 |_,0=>[]|lo,n+1=>lo::pd (lo+1) n
def jq:List Hint->List Nat
 |[]=>[]|h::l=>h.ws++pd h.lo (h.hi - h.lo)++jq l
def Hint.keys(h:Hint):List Nat:=h.ws++pd h.lo (h.hi - h.lo)
def sN:List Nat->Tr CO->Tr CO
 |[],H=>H|k::l,H=>sN l (H.put k none)
def sP(G:Tr CO):List Nat->Tr CO->Tr CO
 |[],H=>H|k::l,H=>sP G l (H.put k (G.get k))
def IU:List Nat->List Nat->Bool
 |[],_=>true|a::l,m=>match vM a m with|true=>false|false=>IU l m
def vQ:List Nat->List Nat->Bool
 |[],_=>true|a::l,m=>match vM a m with|true=>vQ l m|false=>false
def uc:List Hint->Bool
 |[]=>true|h::l=>match h.idle with|true=>uc l|false=>false
def Au(C:List Nat)(hs:List Hint):Nat->Bool
 |0=>true|n+1=>match others C n hs 0 with|[]=>Au C hs n|_::_=>false
def Av(C:List Nat)(hs:List Hint)(n:Nat):Bool:=match uc hs with|true=>true|false=>Au C hs n
def vR(E:Ev)(A:Array Oper)(C:List Nat)(hs:List Hint):List Oper->Nat->cQ->HS->Option (cQ × HS)
 |[],_,T,s=>some (T,s)
 |o::rest,i,T,s=>bo (hs[i]?) λ h=>bt (Nat.beq h.lo s.nx) (bt (Nat.ble h.lo h.hi) (bt (IU h.keys (jq (others C i hs 0))) (bo (TB A o.guard T) λ g=>match g with
  |true=>bo (E4 E o.op T ⟨sN (jq (others C i hs 0)) s.H,s.nx,s.nx,[]⟩) λ p=>bt (Nat.beq h.hi p.2.nx) (bt (vQ p.2.wr h.ws) (bo (og o.dst T p.1) λ T'=>
    vR E A C hs rest (i+1) T' ⟨sP p.2.H h.keys s.H,p.2.nx,s.wb,o9 s.wb p.2.wr s.wr⟩))
  |false=>bt h.idle (bo (og o.dst T (.t [])) λ T'=>vR E A C hs rest (i+1) T' s))))
def sQ:List Oper->Nat->List (Nat × Nat)
 |[],_=>[]|o::l,i=>match o.dst with|some d=>(d,i)::sQ l (i+1)|none=>sQ l (i+1)
def yB(i:Nat):List Edge->Bool
 |[]=>true|e::l=>match eS e with|true=>(match Nat.ble (e.on+1) i with|true=>yB i l|false=>false)|false=>yB i l
def yC(C:List Nat)(i t:Nat):List (Nat × Nat)->Bool
 |[]=>true|p::l=>match Nat.beq p.1 t with|false=>yC C i t l|true=>match qy C i p.2 with|true=>yC C i t l|false=>false
def CH(C:List Nat)(i:Nat)(D:List (Nat × Nat)):List Nat->Bool
 |[]=>true|t::l=>match yC C i t D with|true=>CH C i D l|false=>false
def GW(d:Nat):List (Nat × Nat)->Bool
 |[]=>true|p::l=>match Nat.beq p.1 d with|true=>false|false=>GW d l
def Aw:List (Nat × Nat)->Bool
 |[]=>true|p::l=>match GW p.1 l with|true=>Aw l|false=>false
def Ax(A:Array Oper)(C:List Nat)(D:List (Nat × Nat)):List Oper->Nat->Bool
 |[],_=>true|o::l,i=>match yB i o.after.toList with|false=>false|true=>match CH C i D (o.looksAt A)with|false=>false|true=>Ax A C D l (i+1)
def E6(A:Array Oper):Bool:=match Aw (sQ A.toList 0)with|false=>false|true=>Ax A (dB A.toList []) (sQ A.toList 0) A.toList 0
def RC(E:Ev)(A:Array Oper)(T:cQ)(s:HS):Option (cQ × HS):=
 bt (E6 A) (bo (qx E A A.toList [] T s) λ r=>match Av (dB A.toList []) r.2.2 A.size with
  |true=>some (r.1,r.2.1)
  |false=>vR E A (dB A.toList []) r.2.2 A.toList 0 T s)
def vS(E:Ev)(A:Array Oper)(d:Bool)(T:cQ)(s:HS):Option (cQ × HS):=
 match d with
 |false=>GV E A A.toList T s
 |true=>RC E A T s
structure Out where
 e:EX
 T:cQ
 s:HS
def Ay(body:cQ->HS->Option Out):Nat->cQ->HS->Option Out
 |0,_,_=>none
 |n+1,T,s=>bo (body T s) λ r=>match r.e with|.normal=>Ay body n r.T r.s|.exit i=>some ⟨.exit i,r.T,r.s⟩|.ret=>some ⟨.ret,r.T,r.s⟩
def Wt(r:Out)(k:cQ->HS->Option Out):Option Out:=EX.rec (motive:=λ _=>Option Out) (k r.T r.s) (λ i=>some ⟨.exit i,r.T,r.s⟩) (some ⟨.ret,r.T,r.s⟩) r.e
def Wu(id:Nat)(r:Out):Option Out:=EX.rec (motive:=λ _=>Option Out) (some ⟨.normal,r.T,r.s⟩) (λ j=>Bool.rec (motive:=λ _=>Option Out) (some ⟨.exit j,r.T,r.s⟩) (some ⟨.normal,r.T,r.s⟩) (Nat.beq j id)) (some ⟨.ret,r.T,r.s⟩) r.e
def xG(c:Code):Ev->Nat->cQ->HS->Option Out:=
 Code.rec (motive:=λ _=>Ev->Nat->cQ->HS->Option Out)
  (λ _ _ T s=>some ⟨.normal,T,s⟩)
  (λ _ ops d E _ T s=>bo (vS E ops d T s) λ p=>some ⟨.normal,p.1,p.2⟩)
  (λ _ _ a b E n T s=>bo (a E n T s) λ r=>Wt r (b E n))
  (λ c _ _ a b E n T s=>bo (Wl (cJ T c)) λ t=>Bool.rec (motive:=λ _=>Option Out) (b E n T s) (a E n T s) t)
  (λ id _ b E n T s=>bo (b E n T s) λ r=>Wu id r)
  (λ _ b E n T s=>Ay (b E n) n T s)
  (λ _ _ _ _ _ _ _ _ _ _=>none)
  (λ id _ _ T s=>some ⟨.exit id,T,s⟩)
  (λ _ b E n T s=>b E n T s)
  (λ _ _ _ _ _=>none)
  (λ _ _ _ _ _=>none)
  (λ _ _ T s=>some ⟨.ret,T,s⟩)
  (λ _ _ _ _ _=>none)
  c
def evC(E:Ev)(rounds:Nat)(c:Code)(T:cQ)(s:HS):Option Out:=xG c E rounds T s
def vy(E:Ev)(T:cQ)(s:HS):List ResultVar->Option (List CW)
 |[]=>some []
 |r::l=>match r with
  |.tmp t=>bo (U8 (lQ T t)) λ w=>bo (vy E T s l) λ m=>some (w::m)
  |.cell t ty=>bo (SF (lQ T t)) λ p=>bo (jb s p.1) λ q=>bo (oG E ty q.1 p.2) λ w=>bo (vy E T s l) λ m=>some (w::m)
def TC(l:List CW):CV:=match l with|[]=>.t []|w::l=>match l with|[]=>U9 w|_=>.t (w::l)
def yD:List CV->Nat->Tr CV->Tr CV
 |[],_,t=>t|a::l,i,t=>yD l (i+1) (t.put i (some a))
def rX:Nat->Nat->Tr CV->Tr CV
 |0,_,t=>t|n+1,i,t=>rX n (i+1) (t.put i (some (.t [])))
def L3(args:List CV)(n:Nat):cQ:=⟨n,rX (n - args.length) args.length (yD args 0 .lf)⟩
structure Kn where
 eqs:List Nat
 EY:List (Nat × Nat)
 TD:VI
def NV(P:Program)(TY:List cP)(TZ:Zs)(K:Kn)(rounds:Nat):Nat->VI
 |0,_,_,_=>none
 |n+1,f,args,s=>match K.TD f args s with
  |some r=>some r
  |none=>bo (P.funcs[f]?) λ fn=>bo fn.body λ c=>bt (Nat.ble args.length fn.ntmps)
   (bo (evC ⟨TY,TZ,NV P TY TZ K rounds n,K.eqs,K.EY⟩ rounds c (L3 args fn.ntmps) s) λ r=>match r.e with
    |.exit _=>none
    |_=>bo (vy ⟨TY,TZ,NV P TY TZ K rounds n,K.eqs,K.EY⟩ r.T r.s fn.results.toList) λ l=>some (TC l,r.s))
end
end Go.CM
end
section
namespace Go.CM
open Go Go.AM
theorem au{α β:Type}{x:Option α}{f:α->Option β}{y:β}(h:bo x f=some y):∃a,x=some a/\f a=some y:=by
 cases x with
 |none=>cases h
 |some a=>exact⟨a,rfl,h⟩
theorem aC{β:Type}{b:Bool}{x:Option β}{y:β}(h:bt b x=some y):b=true/\x=some y:=by
 cases b with
 |false=>cases h
 |true=>exact⟨rfl,h⟩
namespace Tr
variable{α:Type}
theorem kX(l r:Tr α)(x:Option α):(nd l x r).get 0=x:=rfl
theorem fS(l r:Tr α)(x:Option α)(n:Nat):(nd l x r).get (n+1)=if n % 2=0 then l.get (n / 2) else r.get (n / 2):=by
 show Nat.rec (motive:=λ _=>Option α) (l.get (n / 2)) (λ _ _=>r.get (n / 2)) (n % 2)=_;cases h:n % 2 with
 |zero=>rfl
 |succ m=>rfl
theorem TE(n:Nat)(v:Option α):(lf:Tr α).put n v=Tr.one (n+1) n v:=rfl
theorem L4(l r:Tr α)(x v:Option α):(nd l x r).put 0 v=nd l v r:=rfl
theorem L5(l r:Tr α)(x v:Option α)(n:Nat):(nd l x r).put (n+1) v=if n % 2=0 then nd (l.put (n / 2) v) x r else nd l x (r.put (n / 2) v):=by
 show Nat.rec (motive:=λ _=>Tr α) (nd (l.put (n / 2) v) x r) (λ _ _=>nd l x (r.put (n / 2) v)) (n % 2)=_;cases h:n % 2 with
 |zero=>rfl
 |succ m=>rfl
theorem GX:∀(f n:Nat) (v:Option α) (j:Nat),n<f->(Tr.one f n v).get j=if j=n then v else none
 |0,n,v,j,h=>absurd h (Nat.not_lt_zero _)
 |f+1,0,v,j,h=>by
  show(nd lf v lf).get j=_;cases j with
  |zero=>rfl
  |succ j=>rw [fS,if_neg (Nat.succ_ne_zero j)];split<;>rfl
 |f+1,n+1,v,j,h=>by
  have e:Tr.one (f+1) (n+1) v=if n % 2=0 then nd (Tr.one f (n / 2) v) none lf else nd lf none (Tr.one f (n / 2) v):=by
   show(match n % 2 with|0=>nd (Tr.one f (n / 2) v) none lf|_=>nd lf none (Tr.one f (n / 2) v))=_;cases n % 2 with
   |zero=>rfl
   |succ m=>rfl
  rw [e];have ih:=λ j=>GX f (n / 2) v j aa
  by_cases h2:n % 2=0
  ·rw [if_pos h2]
   cases j with
   |zero=>rw [kX,if_neg aa]
   |succ j=>
    rw [fS,ih]
    by_cases h3:j % 2=0
    ·rw [if_pos h3]
     by_cases h4:j / 2=n / 2
     ·rw [if_pos h4,if_pos aa]
     ·rw [if_neg h4,if_neg aa]
    ·rw [if_neg h3,if_neg aa];rfl
  ·rw [if_neg h2]
   cases j with
   |zero=>rw [kX,if_neg aa]
   |succ j=>
    rw [fS,ih]
    by_cases h3:j % 2=0
    ·rw [if_pos h3,if_neg aa];rfl
    ·rw [if_neg h3]
     by_cases h4:j / 2=n / 2
     ·rw [if_pos h4,if_pos aa]
     ·rw [if_neg h4,if_neg aa]
theorem fi:∀(t:Tr α) (n:Nat) (v:Option α) (j:Nat),(t.put n v).get j=if j=n then v else t.get j
 |lf,n,v,j=>by rw [TE,GX _ _ _ _ (Nat.lt_succ_self n)];rfl
 |nd l x r,0,v,j=>by
  rw [L4];cases j with
  |zero=>rfl
  |succ j=>rw [fS,fS,if_neg (Nat.succ_ne_zero j)]
 |nd l x r,n+1,v,j=>by
  rw [L5];have il:=λ j=>fi l (n / 2) v j;have ir:=λ j=>fi r (n / 2) v j
  by_cases h2:n % 2=0
  ·rw [if_pos h2]
   cases j with
   |zero=>rw [kX,kX,if_neg aa]
   |succ j=>
    rw [fS,fS,il]
    by_cases h3:j % 2=0
    ·rw [if_pos h3,if_pos h3]
     by_cases h4:j / 2=n / 2
     ·rw [if_pos h4,if_pos aa]
     ·rw [if_neg h4,if_neg aa]
    ·rw [if_neg h3,if_neg h3,if_neg aa]
  ·rw [if_neg h2]
   cases j with
   |zero=>rw [kX,kX,if_neg aa]
   |succ j=>
    rw [fS,fS,ir]
    by_cases h3:j % 2=0
    ·rw [if_pos h3,if_pos h3,if_neg aa]
    ·rw [if_neg h3,if_neg h3]
     by_cases h4:j / 2=n / 2
     ·rw [if_pos h4,if_pos aa]
     ·rw [if_neg h4,if_neg aa]
end Tr
theorem qz{n:Nat}:∀{l:List Nat},vM n l=true↔n∈l
 |[]=>by simp [vM]
 |m::l=>by
  simp only [vM,List.mem_cons];cases h:Nat.beq n m with
  |true=>simp [ay.1 h]
  |false=>simp only [qz (l:=l)];exact⟨.inr,λ h'=>h'.resolve_left (beq_false h)⟩
theorem gJ{wb k j:Nat}{wr:List Nat}:j∈wrote wb k wr↔j∈wr\/(j=k/\k<wb):=by
 unfold wrote;cases h:Nat.ble wb k with
 |true=>rw [Nat.ble_eq]at h;exact⟨.inl,λ h'=>h'.resolve_right λ h2=>by omega⟩
 |false=>
  have aS:k<wb:=Nat.lt_of_not_le λ h'=>by rw [<-Nat.ble_eq]at h';rw [h']at h;cases h
  cases hm:vM k wr with
  |true=>exact⟨.inl,λ h'=>h'.elim id λ h2=>by rw [h2.1];exact qz.1 hm⟩
  |false=>simp only [List.mem_cons];exact⟨λ h'=>h'.elim (λ e=>.inr ⟨e,aS⟩) .inl,λ h'=>h'.elim .inr λ e=>.inl e.1⟩
theorem jr{wb j:Nat}:∀{l wr:List Nat},j∈o9 wb l wr↔j∈wr\/(j∈l/\j<wb)
 |[],wr=>by simp [o9]
 |k::l,wr=>by
  simp only [o9,jr (l:=l),gJ,List.mem_cons]
  constructor
  ·rintro ((h|⟨rfl,h⟩)|⟨h1,h2⟩)
   ·exact .inl h
   ·exact .inr ⟨.inl rfl,h⟩
   ·exact .inr ⟨.inr h1,h2⟩
  ·rintro (h|⟨rfl|h1,h2⟩)
   ·exact .inl (.inl h)
   ·exact .inl (.inr ⟨rfl,h2⟩)
   ·exact .inr ⟨h1,h2⟩
abbrev Rn:=Nat->Option (Nat × Nat)
def bE(l:List Nat):ByteArray:=⟨(l.map UInt8.ofNat).toArray⟩
def Zq(c x:Nat):Cp->Prop
 |.n n=>x=n|.g=>x=c|.u=>True
def jI(ρ:Rn):CC->Value->Prop
 |.int k n,v=>v= .int k n/\eD k n
 |.bool b,v=>v= .bool b
 |.str s,v=>v= .string (bE s)/\∀x∈s,x<256
 |.ptr k off,v=>∃b c,ρ k=some (b,c)/\v= .pointer (some ⟨b,off,none⟩)
 |.dG,v=>v= .pointer none
 |.sl k off len cap,v=>∃b c x,ρ k=some (b,c)/\len<=x/\v= .slice (some ⟨b,off,none⟩) len x/\Zq c x cap
 |.ao,v=>v= .slice none 0 0
 |.mp k,v=>∃b c,ρ k=some (b,c)/\v= .map (some b)
 |.bK,v=>v= .map none
 |.fn f,v=>v= .func (.func f) #[] #[]
 |.aG,v=>v= .nilFunc
 |.Wk,v=>v= .nilIface
def cF(ρ:Rn):List CC->List Value->Prop
 |[],[]=>True|a::l,v::m=>jI ρ a v/\cF ρ l m|_,_=>False
def pe(ρ:Rn):CW->Value->Prop
 |.c x,v=>jI ρ x v|.a l,v=>∃cs,v= .agg cs/\cF ρ l cs.toList
def tF(ρ:Rn):List CW->List Value->Prop
 |[],[]=>True|a::l,v::m=>pe ρ a v/\tF ρ l m|_,_=>False
def dU(ρ:Rn):CV->Value->Prop
 |.c x,v=>jI ρ x v
 |.a l,v=>∃cs,v= .agg cs/\cF ρ l cs.toList
 |.t l,v=>∃cs,v= .tuple cs/\tF ρ l cs.toList
 |.Rx f l,v=>∃cs,v= .func (.func f) #[] cs/\cF ρ l cs.toList
 |.Tt,_=>True
def nc(ρ:Rn):List CV->List Value->Prop
 |[],[]=>True|a::l,v::m=>dU ρ a v/\nc ρ l m|_,_=>False
def Ext(ρ ρ':Rn):Prop:=∀k x,ρ k=some x->ρ' k=some x
theorem Ext.refl(ρ:Rn):Ext ρ ρ:=λ _ _ h=>h
theorem Ext.trans{ρ ρ' ρ'':Rn}(h:Ext ρ ρ')(h':Ext ρ' ρ''):Ext ρ ρ'':=λ k x e=>h' k x (h k x e)
section
variable{ρ ρ':Rn}
theorem jI.ext(h:Ext ρ ρ'){a:CC}{v:Value}(hv:jI ρ a v):jI ρ' a v:=by
 cases a with
 |ptr k off=>obtain⟨b,c,h1,h2⟩:=hv;exact⟨b,c,h _ _ h1,h2⟩
 |sl k off len cap=>obtain⟨b,c,x,h1,h2⟩:=hv;exact⟨b,c,x,h _ _ h1,h2⟩
 |mp k=>obtain⟨b,c,h1,h2⟩:=hv;exact⟨b,c,h _ _ h1,h2⟩
 |_=>exact hv
theorem cF.ext(h:Ext ρ ρ'):∀{l:List CC} {m:List Value},cF ρ l m->cF ρ' l m
 |[],[],_=>trivial|_::_,_::_,hv=>⟨hv.1.ext h,cF.ext h hv.2⟩|[],_::_,hv=>hv.elim|_::_,[],hv=>hv.elim
theorem pe.ext(h:Ext ρ ρ'){a:CW}{v:Value}(hv:pe ρ a v):pe ρ' a v:=by
 cases a with
 |c x=>exact jI.ext h hv
 |a l=>obtain⟨cs,h1,h2⟩:=hv;exact⟨cs,h1,h2.ext h⟩
theorem tF.ext(h:Ext ρ ρ'):∀{l:List CW} {m:List Value},tF ρ l m->tF ρ' l m
 |[],[],_=>trivial|_::_,_::_,hv=>⟨hv.1.ext h,tF.ext h hv.2⟩|[],_::_,hv=>hv.elim|_::_,[],hv=>hv.elim
theorem dU.ext(h:Ext ρ ρ'){a:CV}{v:Value}(hv:dU ρ a v):dU ρ' a v:=by
 cases a with
 |c x=>exact jI.ext h hv
 |a l=>obtain⟨cs,h1,h2⟩:=hv;exact⟨cs,h1,h2.ext h⟩
 |t l=>obtain⟨cs,h1,h2⟩:=hv;exact⟨cs,h1,h2.ext h⟩
 |Rx f l=>obtain⟨cs,h1,h2⟩:=hv;exact⟨cs,h1,h2.ext h⟩
 |Tt=>trivial
theorem jI.aM{a:CC}{v:Value}(hv:jI ρ a v):aM v:=by
 cases a with
 |int k n=>obtain⟨rfl,_⟩:=hv;trivial
 |str s=>obtain⟨rfl,_⟩:=hv;trivial
 |ptr k off=>obtain⟨b,c,_,rfl⟩:=hv;trivial
 |sl k off len cap=>obtain⟨b,c,x,_,_,rfl,_⟩:=hv;trivial
 |mp k=>obtain⟨b,c,_,rfl⟩:=hv;trivial
 |_=>(have hv:v=_:=hv;subst hv;trivial)
theorem rY{v:Value}(h:aM v):v.cells= #[v]:=by cases v<;>first|rfl|exact h.elim
theorem cF.len:∀{l:List CC} {m:List Value},cF ρ l m->m.length=l.length
 |[],[],_=>rfl|_::_,_::_,hv=>by simp [cF.len hv.2]|[],_::_,hv=>hv.elim|_::_,[],hv=>hv.elim
theorem cF.cell:∀{l:List CC} {m:List Value},cF ρ l m->∀v∈m,aM v
 |[],[],_,_,h=>by cases h
 |_::_,_::_,hv,v,h=>by
  rcases List.mem_cons.1 h with rfl|h
  ·exact hv.1.aM
  ·exact cF.cell hv.2 v h
 |[],_::_,hv,_,_=>hv.elim|_::_,[],hv,_,_=>hv.elim
theorem cF.app:∀{l l':List CC} {m m':List Value},cF ρ l m->cF ρ l' m'->cF ρ (l++l') (m++m')
 |[],_,[],_,_,h=>h|_::_,_,_::_,_,h,h'=>⟨h.1,cF.app h.2 h'⟩|[],_,_::_,_,h,_=>h.elim|_::_,_,[],_,h,_=>h.elim
theorem vT(l:List CC):vN l 0=l:=by cases l<;>rfl
theorem cF.drop:∀{l:List CC} {m:List Value} (n:Nat),cF ρ l m->cF ρ (vN l n) (m.drop n)
 |l,m,0,h=>by rw [vT];simpa using h
 |[],[],_+1,_=>trivial|_::_,_::_,n+1,h=>by simpa [vN]using cF.drop n h.2|[],_::_,_+1,h=>h.elim|_::_,[],_+1,h=>h.elim
theorem pf(l:List CC):m9 l 0=some []:=by cases l<;>rfl
theorem vU(a:CC)(l:List CC)(n:Nat):m9 (a::l) (n+1)=bo (m9 l n) λ m=>some (a::m):=rfl
theorem cF.take:∀{l:List CC} {m:List Value} (n:Nat) {r:List CC},cF ρ l m->m9 l n=some r->cF ρ r (m.take n)/\n<=m.length
 |l,m,0,r,h,e=>by rw [pf]at e;cases e;exact⟨by simp;trivial,Nat.zero_le _⟩
 |[],[],_+1,_,_,e=>by cases e
 |a::l,v::m,n+1,r,h,e=>by
  rw [vU]at e;obtain⟨r',he,e⟩:=au e;cases e;obtain⟨h1,h2⟩:=cF.take n h.2 he;exact⟨⟨h.1,h1⟩,by simp;omega⟩
 |[],_::_,_+1,_,h,_=>h.elim|_::_,[],_+1,_,h,_=>h.elim
theorem cF.part{l:List CC}{m:List Value}{off n:Nat}{r:List CC}(h:cF ρ l m)(e:yu l off n=some r):cF ρ r ((m.drop off).take n)/\n<=(m.drop off).length:=cF.take n (h.drop off) e
theorem yE:∀{l:List CC} {n:Nat} {r:List CC},m9 l n=some r->r.length=n/\n<=l.length
 |l,0,r,e=>by rw [pf]at e;cases e;exact⟨rfl,Nat.zero_le _⟩
 |[],_+1,_,e=>by cases e
 |a::l,n+1,r,e=>by
  rw [vU]at e;obtain⟨r',he,e⟩:=au e;cases e;obtain⟨h1,h2⟩:=yE he;exact⟨by simp [h1],by simp;omega⟩
theorem IV(l:List CC):yv l []=some l:=by cases l<;>rfl
theorem CI:∀{l m r:List CC} {lv mv:List Value},yv l m=some r->cF ρ l lv->cF ρ m mv->cF ρ r (mv++lv.drop mv.length)/\mv.length<=lv.length/\r.length=l.length
 |l,[],r,lv,mv,e,h1,h2=>by
  cases mv with
  |nil=>rw [IV]at e;cases e;exact⟨by simpa using h1,Nat.zero_le _,rfl⟩
  |cons=>exact h2.elim
 |[],_::_,_,_,_,e,_,_=>by cases e
 |a::l,b::m,r,v::lv,u::mv,e,h1,h2=>by
  have e:(bo (yv l m) λ r=>some (b::r))=some r:=e;obtain⟨r',he,e⟩:=au e;cases e;obtain⟨h3,h4,h5⟩:=CI he h1.2 h2.2;exact⟨⟨h2.1,by simpa using h3⟩,by simp;omega,by simp [h5]⟩
 |_::_,_::_,_,[],_,_,h1,_=>h1.elim
 |_::_,_::_,_,_::_,[],_,_,h2=>h2.elim
theorem CJ(l m:List CC):iA l 0 m=yv l m:=by cases l<;>rfl
theorem rZ:∀{l:List CC} {n:Nat} {m r:List CC} {lv mv:List Value},iA l n m=some r->cF ρ l lv->cF ρ m mv->cF ρ r (lv.take n++(mv++lv.drop (n+mv.length)))/\n+mv.length<=lv.length/\r.length=l.length
 |l,0,m,r,lv,mv,e,h1,h2=>by
  rw [CJ]at e;obtain⟨h3,h4,h5⟩:=CI e h1 h2;exact⟨by simpa using h3,aa,h5⟩
 |[],_+1,_,_,_,_,e,_,_=>by cases e
 |a::l,n+1,m,r,v::lv,mv,e,h1,h2=>by
  have e:(bo (iA l n m) λ r=>some (a::r))=some r:=e;obtain⟨r',he,e⟩:=au e;cases e;obtain⟨h3,h4,h5⟩:=rZ he h1.2 h2;refine⟨⟨h1.1,?_⟩,by simp;omega,by simp [h5]⟩;rw [show n+1+mv.length=(n+mv.length)+1 by omega]
  simpa using h3
 |_::_,_+1,_,_,[],_,_,h1,_=>h1.elim
theorem ud:∀{l:List CC} {n:Nat},vO l n=true->l.length=n
 |[],0,_=>rfl|_::l,n+1,h=>by simp [ud (l:=l) h]|[],_+1,h=>by cases h|_::_,0,h=>by cases h
theorem yF:∀{l:List CC} {m:List Value} {x:CC},cF ρ l m->Ry l=some x->∃v,m[0]? =some v/\jI ρ x v
 |a::l,v::m,x,h,e=>by cases e;exact⟨v,rfl,h.1⟩
 |[],_,_,_,e=>by cases e
 |_::_,[],_,h,_=>h.elim
end
def sR(ρ:Rn):List (CW × CW)->List MapEntry->Prop
 |[],[]=>True|p::m,e::es=>(pe ρ p.1 e.key/\pe ρ p.2 e.val)/\sR ρ m es|_,_=>False
theorem sR.ext{ρ ρ':Rn}(h:Ext ρ ρ'):∀{l:List (CW × CW)} {m:List MapEntry},sR ρ l m->sR ρ' l m
 |[],[],_=>trivial|_::_,_::_,hv=>⟨⟨hv.1.1.ext h,hv.1.2.ext h⟩,sR.ext h hv.2⟩|[],_::_,hv=>hv.elim|_::_,[],hv=>hv.elim
def L6(c n l:Nat)(ty:TypeId):Option (Nat × Nat)->Prop|none=>n=l|some p=>ty=p.2/\(p.1=0->n=l)/\(p.1≠0->n=c*p.1)
def Bi(ρ:Rn)(c:Nat):CO->Obj->Prop
 |.cells l g,o=>∃cs ty,o= .cells cs ty (0,0)/\l.length<=cs.size/\L6 c cs.size l.length ty g/\cF ρ l (cs.toList.take l.length)
 |.map es,o=>∃en n,o= .map en n/\sR ρ es en.toList
theorem Bi.ext{ρ ρ':Rn}(h:Ext ρ ρ'){c:Nat}{x:CO}{o:Obj}(hv:Bi ρ c x o):Bi ρ' c x o:=by
 cases x with
 |cells l g=>obtain⟨cs,ty,h1,h2,h3,h4⟩:=hv;exact⟨cs,ty,h1,h2,h3,h4.ext h⟩
 |map es=>obtain⟨en,n,h1,h2⟩:=hv;exact⟨en,n,h1,h2.ext h⟩
structure Hd(ρ:Rn)(h:Nat->Option CO)(nx:Nat)(w:World):Prop where
 obj:∀k o,h k=some o->∃b c x,ρ k=some (b,c)/\w.heap[b]? =some x/\Bi ρ c o x
 inj:∀k k' o o' b c c',h k=some o->h k'=some o'->ρ k=some (b,c)->ρ k'=some (b,c')->k=k'
 new:∀k,nx<=k->ρ k=none
 lw:z8 w
 nz:∀k o b c,h k=some o->ρ k=some (b,c)->b≠0
theorem qA{w w':World}(h:z8 w)(e:w'.heap[0]? =w.heap[0]?):z8 w':=λ j hj=>by
 rw [<-h j hj];simp only [World.cell?,e]
theorem nf{w:World}(h:z8 w):0<w.heap.size:=by
 have:=h 0 (by decide);cases e:w.heap[0]? with
 |none=>simp [World.cell?,e]at this
 |some x=>exact(Array.getElem?_eq_some_iff.1 e).1
structure bI(ρ ρ':Rn)(s s':HS)(w w':World):Prop where
 ext:Ext ρ ρ'
 hd:Hd ρ' s'.H.get s'.nx w'
 frame:∀b,b<w.heap.size->(∀k o c,s.H.get k=some o->ρ k≠some (b,c))->w'.heap[b]? =w.heap[b]?
 fresh:∀k o b c,s'.H.get k=some o->ρ' k=some (b,c)->w.heap.size<=b\/∃k0 o0 c0,s.H.get k0=some o0/\ρ k0=some (b,c0)
 size:w.heap.size<=w'.heap.size
 io:jT w w'
 nx:s.nx<=s'.nx
 same:∀k,k<s.nx->ρ' k=ρ k
 wb:s'.wb=s.wb
 sub:∀k,k∈s.wr->k∈s'.wr
 keep:∀k,k<s.wb->k<s.nx->k∉s'.wr->s'.H.get k=s.H.get k
theorem Hd.lt{ρ:Rn}{H:Nat->Option CO}{nx:Nat}{w:World}(h:Hd ρ H nx w){k:Nat}{o:CO}(hk:H k=some o):k<nx:=by
 rcases Nat.lt_or_ge k nx with h'|h'
 ·exact h'
 ·obtain⟨b,c,x,h1,_⟩:=h.obj k o hk
  rw [h.new k h']at h1;cases h1
theorem Hd.blt{ρ:Rn}{H:Nat->Option CO}{nx:Nat}{w:World}(h:Hd ρ H nx w){k:Nat}{o:CO}(hk:H k=some o){b c:Nat}(hb:ρ k=some (b,c)):b<w.heap.size:=by
 obtain⟨b',c',x,h1,h2,_⟩:=h.obj k o hk;rw [hb]at h1;cases h1;exact(Array.getElem?_eq_some_iff.1 h2).1
theorem bI.refl{ρ:Rn}{s:HS}{w:World}(h:Hd ρ s.H.get s.nx w):bI ρ ρ s s w w:=
 ⟨Ext.refl ρ,h,λ _ _ _=>rfl,λ k o _b c hk hb=>.inr ⟨k,o,c,hk,hb⟩,Nat.le_refl _,jT.refl _,Nat.le_refl _,λ _ _=>rfl,rfl,λ _ h=>h,λ _ _ _ _=>rfl⟩
theorem bI.trans{ρ ρ' ρ'':Rn}{s s' s'':HS}{w w' w'':World}(h:bI ρ ρ' s s' w w')(h':bI ρ' ρ'' s' s'' w' w''):bI ρ ρ'' s s'' w w'' where
 ext:=h.ext.trans h'.ext
 hd:=h'.hd
 frame b hb hn:=by
  rw [<-h.frame b hb hn];refine h'.frame b (Nat.lt_of_lt_of_le hb h.size) λ k o c hk hr=>?_;rcases h.fresh k o b c hk hr with h1|⟨k0,o0,c0,h1,h2⟩
  ·omega
  ·exact hn k0 o0 c0 h1 h2
 fresh k o b c hk hr:=by
  rcases h'.fresh k o b c hk hr with h1|⟨k0,o0,c0,h1,h2⟩
  ·exact .inl (Nat.le_trans h.size h1)
  ·exact h.fresh k0 o0 b c0 h1 h2
 size:=Nat.le_trans h.size h'.size
 io:=h.io.trans h'.io
 nx:=Nat.le_trans h.nx h'.nx
 same k hk:=(h'.same k (Nat.lt_of_lt_of_le hk h.nx)).trans (h.same k hk)
 wb:=h'.wb.trans h.wb
 sub k hk:=h'.sub k (h.sub k hk)
 keep k h1 h2 h3:=(h'.keep k (by rw [h.wb];exact h1) (Nat.lt_of_lt_of_le h2 h.nx) h3).trans (h.keep k h1 h2 λ h4=>h3 (h'.sub k h4))
theorem bI.make{ρ:Rn}{s:HS}{w w':World}{o:CO}{x:Obj}(c:Nat)(h:Hd ρ s.H.get s.nx w)(hw:w'.heap=w.heap.push x)(oq:jT w w')(ho:∀ρ',Ext ρ ρ'->Bi ρ' c o x):
  ∃ρ',bI ρ ρ' s (s.new o) w w'/\ρ' s.nx=some (w.heap.size,c):=by
 let ρ':Rn:=λ k=>if k=s.nx then some (w.heap.size,c) else ρ k
 have fa:Ext ρ ρ':=λ k x hk=>by
  show(if k=s.nx then _ else _)=_;rw [if_neg λ e=>by subst e;rw [h.new _ (Nat.le_refl _)]at hk;cases hk];exact hk
 have p8:ρ' s.nx=some (w.heap.size,c):=if_pos rfl;have hold:∀{k},k<s.nx->ρ' k=ρ k:=λ{k} hk=>if_neg (Nat.ne_of_lt hk);have hg:∀k,(s.new o).H.get k=if k=s.nx then some o else s.H.get k:=λ k=>Tr.fi _ _ _ _
 have xc:z8 w':=qA h.lw (by rw [hw,Array.getElem?_push_lt (nf h.lw),Array.getElem?_eq_getElem (nf h.lw)])
 have Zr:∀k y b c1,(s.new o).H.get k=some y->ρ' k=some (b,c1)->b≠0:=λ k y b c1 hk hb=>by
  rw [hg]at hk
  by_cases e:k=s.nx
  ·subst e;rw [p8]at hb;cases hb;exact Nat.ne_of_gt (nf h.lw)
  ·rw [if_neg e]at hk;exact h.nz k y b c1 hk (by rw [<-hold (h.lt hk)];exact hb)
 refine⟨ρ',⟨fa,⟨λ k y hk=>?_,λ k k' y y' b c1 c2 hk n6 hb cr=>?_,λ k hk=>?_,xc,Zr⟩,λ b hb _=>?_,λ k y b c1 hk hb=>?_,?_,oq,Nat.le_succ _,λ k hk=>hold hk,rfl,λ _ h=>h,λ k _ hk _=>?_⟩,p8⟩
 ·rw [hg]at hk
  by_cases e:k=s.nx
  ·subst e
   rw [if_pos rfl]at hk;cases hk;exact⟨w.heap.size,c,x,p8,by rw [hw];simp,ho ρ' fa⟩
  ·rw [if_neg e]at hk
   obtain⟨b,c1,y',h1,h2,h3⟩:=h.obj k y hk;exact⟨b,c1,y',fa _ _ h1,by rw [hw,Array.getElem?_push_lt (Array.getElem?_eq_some_iff.1 h2).1,<-Array.getElem?_eq_getElem,h2],h3.ext fa⟩
 ·rw [hg]at hk n6
  have lt:∀{k y b c},s.H.get k=some y->ρ' k=some (b,c)->b<w.heap.size:=λ hk hb=>h.blt hk (by rw [<-hold (h.lt hk)];exact hb)
  by_cases e:k=s.nx<;>by_cases e':k'=s.nx
  ·omega
  ·subst e
   rw [if_neg e']at n6;rw [p8]at hb;cases hb;have:=lt n6 cr;omega
  ·subst e'
   rw [if_neg e]at hk;rw [p8]at cr;cases cr;have:=lt hk hb;omega
  ·rw [if_neg e]at hk;rw [if_neg e']at n6
   exact h.inj k k' _ _ b c1 c2 hk n6 (by rw [<-hold (h.lt hk)];exact hb) (by rw [<-hold (h.lt n6)];exact cr)
 ·have hk:s.nx+1<=k:=hk
  show(if k=s.nx then _ else _)=_;rw [if_neg aa];exact h.new k aa
 ·rw [hw,Array.getElem?_push_lt hb,Array.getElem?_eq_getElem hb]
 ·rw [hg]at hk
  by_cases e:k=s.nx
  ·subst e;rw [p8]at hb;cases hb;exact .inl (Nat.le_refl _)
  ·rw [if_neg e]at hk
   exact .inr ⟨k,y,c1,hk,by rw [<-hold (h.lt hk)];exact hb⟩
 ·rw [hw];simp
 ·rw [hg,if_neg aa]
theorem bI.write{ρ:Rn}{s:HS}{w w':World}{k b c:Nat}{o o':CO}{x:Obj}(h:Hd ρ s.H.get s.nx w)(hk:s.H.get k=some o)(hb:ρ k=some (b,c))(hw:w'.heap=w.heap.setIfInBounds b x)(oq:jT w w')(ho:Bi ρ c o' x):
  bI ρ ρ s (s.put k o') w w':=by
 have aS:=h.blt hk hb;have hg:∀j,(s.put k o').H.get j=if j=k then some o' else s.H.get j:=λ j=>Tr.fi _ _ _ _
 have PW:∀{j y},(s.put k o').H.get j=some y->∃y',s.H.get j=some y':=λ{j y} hj=>by
  rw [hg]at hj
  by_cases e:j=k
  ·subst e;exact⟨o,hk⟩
  ·rw [if_neg e]at hj;exact⟨y,hj⟩
 have xc:z8 w':=qA h.lw (by rw [hw,Array.getElem?_setIfInBounds_ne (h.nz k o b c hk hb)]);refine⟨Ext.refl ρ,⟨λ j y hj=>?_,λ j j' y y' b1 c1 c2 hj mb lz RD=>?_,h.new,xc,λ j y b1 c1 hj lz=>by obtain⟨z,hz⟩:=PW hj;exact h.nz j z b1 c1 hz lz⟩,λ b1 lz hn=>?_,λ j y b1 c1 hj lz=>?_,?_,oq,Nat.le_refl _,λ _ _=>rfl,rfl,λ j hj=>gJ.2 (.inl hj),λ j hj jK hn=>?_⟩
 ·rw [hg]at hj
  by_cases e:j=k
  ·subst e
   rw [if_pos rfl]at hj;cases hj;exact⟨b,c,x,hb,by rw [hw];simp [aS],ho⟩
  ·rw [if_neg e]at hj
   obtain⟨b1,c1,y',h1,h2,h3⟩:=h.obj j y hj;have bm:b≠b1:=λ e'=>by subst e';exact e (h.inj j k _ _ b c1 c hj hk h1 hb)
   exact⟨b1,c1,y',h1,by rw [hw,Array.getElem?_setIfInBounds_ne bm];exact h2,h3⟩
 ·obtain⟨z,hz⟩:=PW hj
  obtain⟨z',x5⟩:=PW mb;exact h.inj j j' _ _ b1 c1 c2 hz x5 lz RD
 ·have bm:b≠b1:=λ e'=>by subst e';exact hn k o c hk hb
  rw [hw,Array.getElem?_setIfInBounds_ne bm]
 ·obtain⟨z,hz⟩:=PW hj
  exact .inr ⟨j,z,c1,hz,lz⟩
 ·rw [hw];simp
 ·rw [hg,if_neg λ e=>hn (gJ.2 (.inr ⟨e,aa⟩))]
theorem bI.drop{ρ:Rn}{s:HS}{w w':World}{k b c:Nat}{o:CO}(h:Hd ρ s.H.get s.nx w)(hk:s.H.get k=some o)(hb:ρ k=some (b,c))(hw:∀i,i<w.heap.size->i≠b->w'.heap[i]? =w.heap[i]?)(bk:w.heap.size<=w'.heap.size)(oq:jT w w'):
  bI ρ ρ s ⟨s.H.put k none,s.nx,s.wb,wrote s.wb k s.wr⟩ w w':=by
 have hg:∀j,(s.H.put k none).get j=if j=k then none else s.H.get j:=λ j=>Tr.fi _ _ _ _
 have hold:∀{j y},(s.H.put k none).get j=some y->s.H.get j=some y/\j≠k:=λ{j y} hj=>by
  rw [hg]at hj
  by_cases e:j=k
  ·rw [if_pos e]at hj;cases hj
  ·rw [if_neg e]at hj;exact⟨hj,e⟩
 refine⟨Ext.refl ρ,⟨λ j y hj=>?_,λ j j' y y' b1 c1 c2 hj mb lz RD=>h.inj j j' _ _ b1 c1 c2 (hold hj).1 (hold mb).1 lz RD,h.new,qA h.lw (hw 0 (nf h.lw) (Ne.symm (h.nz k o b c hk hb))),λ j y b1 c1 hj lz=>h.nz j y b1 c1 (hold hj).1 lz⟩,λ b1 lz hn=>hw b1 lz λ e=>hn k o c hk (by rw [e];exact hb),λ j y b1 c1 hj lz=>.inr ⟨j,y,c1,(hold hj).1,lz⟩,bk,oq,Nat.le_refl _,λ _ _=>rfl,rfl,λ j hj=>gJ.2 (.inl hj),λ j hj jK hn=>?_⟩
 ·obtain⟨h1,h2⟩:=hold hj
  obtain⟨b1,c1,y',h3,h4,h5⟩:=h.obj j y h1;have bm:b1≠b:=λ e=>h2 (h.inj j k _ _ b1 c1 c h1 hk h3 (by rw [e];exact hb));exact⟨b1,c1,y',h3,by rw [hw b1 (Array.getElem?_eq_some_iff.1 h4).1 bm];exact h4,h5⟩
 ·show(s.H.put k none).get j=_
  rw [hg,if_neg λ e=>hn (gJ.2 (.inr ⟨e,aa⟩))]
theorem bI.RE{ρ:Rn}{s s':HS}{w w':World}{k b c c' b':Nat}{o o':CO}{x:Obj}(h:Hd ρ s.H.get s.nx w)(hk:s.H.get k=some o)(hb:ρ k=some (b,c))(hs:s'=⟨(s.H.put k none).put s.nx (some o'),s.nx+1,s.wb,wrote s.wb k s.wr⟩)
  (cr:b'=b\/w.heap.size<=b') (hw:∀i,i<w.heap.size->i≠b->w'.heap[i]? =w.heap[i]?) (Zt:w'.heap[b']? =some x) (bk:w.heap.size<=w'.heap.size) (oq:jT w w') (ho:∀ρ',Ext ρ ρ'->Bi ρ' c' o' x):
  ∃ρ',bI ρ ρ' s s' w w'/\ρ' s.nx=some (b',c'):=by
 subst hs
 let ρ':Rn:=λ j=>if j=s.nx then some (b',c') else ρ j
 have fa:Ext ρ ρ':=λ j x hj=>by
  show(if j=s.nx then _ else _)=_;rw [if_neg λ e=>by subst e;rw [h.new _ (Nat.le_refl _)]at hj;cases hj];exact hj
 have p8:ρ' s.nx=some (b',c'):=if_pos rfl;have hold:∀{j},j<s.nx->ρ' j=ρ j:=λ{j} hj=>if_neg (Nat.ne_of_lt hj);have XR:=h.lt hk;have OT:=h.blt hk hb;have hg:∀j,((s.H.put k none).put s.nx (some o')).get j=if j=s.nx then some o' else if j=k then none else s.H.get j:=λ j=>by rw [Tr.fi,Tr.fi]
 have other:∀{j y},j≠s.nx->((s.H.put k none).put s.nx (some o')).get j=some y->s.H.get j=some y/\j≠k:=λ{j y} hj hy=>by
  rw [hg,if_neg hj]at hy
  by_cases e:j=k
  ·rw [if_pos e]at hy;cases hy
  ·rw [if_neg e]at hy;exact⟨hy,e⟩
 have apart:∀{j y b1 c1},j≠s.nx->((s.H.put k none).put s.nx (some o')).get j=some y->ρ' j=some (b1,c1)->b1≠b'/\b1≠b/\b1<w.heap.size:=λ{j y b1 c1} hj hy lz=>by
  obtain⟨h1,h2⟩:=other hj hy;rw [hold (h.lt h1)]at lz;have h3:=h.blt h1 lz;have h4:b1≠b:=λ e=>by subst e;exact h2 (h.inj j k _ _ b1 c1 c h1 hk lz hb)
  refine⟨λ e=>?_,h4,h3⟩;rcases cr with h5|h5
  ·exact h4 (e.trans h5)
  ·omega
 have xc:z8 w':=qA h.lw (hw 0 (nf h.lw) (Ne.symm (h.nz k o b c hk hb)))
 have Zr:∀j y b1 c1,((s.H.put k none).put s.nx (some o')).get j=some y->ρ' j=some (b1,c1)->b1≠0:=λ j y b1 c1 hj lz=>by
  by_cases e:j=s.nx
  ·subst e
   rw [p8]at lz;cases lz;rcases cr with h5|h5
   ·rw [h5];exact h.nz k o b c hk hb
   ·have:=nf h.lw;omega
  ·obtain⟨h1,_⟩:=other e hj
   exact h.nz j y b1 c1 h1 (by rw [<-hold (h.lt h1)];exact lz)
 refine⟨ρ',⟨fa,⟨λ j y hj=>?_,λ j j' y y' b1 c1 c2 hj mb lz RD=>?_,λ j hj=>?_,xc,Zr⟩,λ i hi hn=>?_,λ j y b1 c1 hj lz=>?_,bk,oq,Nat.le_succ _,λ j hj=>hold hj,rfl,λ j hj=>gJ.2 (.inl hj),λ j h1 h2 h3=>?_⟩,p8⟩
 ·by_cases e:j=s.nx
  ·subst e
   rw [hg,if_pos rfl]at hj;cases hj;exact⟨b',c',x,p8,Zt,ho ρ' fa⟩
  ·obtain⟨h1,_⟩:=other e hj
   obtain⟨b1,c1,y',h3,h4,h5⟩:=h.obj j y h1;have h6:=apart e hj (fa _ _ h3);exact⟨b1,c1,y',fa _ _ h3,by rw [hw b1 h6.2.2 h6.2.1];exact h4,h5.ext fa⟩
 ·by_cases e:j=s.nx<;>by_cases e':j'=s.nx
  ·omega
  ·subst e
   rw [p8]at lz;cases lz;exact absurd rfl (apart e' mb RD).1
  ·subst e'
   rw [p8]at RD;cases RD;exact absurd rfl (apart e hj lz).1
  ·obtain⟨h1,_⟩:=other e hj
   obtain⟨h2,_⟩:=other e' mb;exact h.inj j j' _ _ b1 c1 c2 h1 h2 (by rw [<-hold (h.lt h1)];exact lz) (by rw [<-hold (h.lt h2)];exact RD)
 ·have hj:s.nx+1<=j:=hj
  show(if j=s.nx then _ else _)=_;rw [if_neg aa];exact h.new j aa
 ·exact hw i hi λ e=>hn k o c hk (by rw [e];exact hb)
 ·by_cases e:j=s.nx
  ·subst e
   rw [p8]at lz;cases lz;rcases cr with h5|h5
   ·exact .inr ⟨k,o,c,hk,by rw [h5];exact hb⟩
   ·exact .inl h5
  ·obtain⟨h1,_⟩:=other e hj
   exact .inr ⟨j,y,c1,h1,by rw [<-hold (h.lt h1)];exact lz⟩
 ·show((s.H.put k none).put s.nx (some o')).get j=_
  rw [hg,if_neg aa,if_neg λ e=>h3 (gJ.2 (.inr ⟨e,aa⟩))]
end Go.CM
end
section
namespace Go.CM
open Go Go.AM
def Zu(x:CC)(v:Value):Bool:=
 match x,v with
 |.int k n,.int k' n'=>kq k k'&&decide (n=n')&&xD k n
 |.bool b,.bool b'=>b==b'
 |.str [],.string s=>Nat.beq s.size 0
 |.dG,.pointer none=>true|.ao,.slice none 0 0=>true|.bK,.map none=>true|.aG,.nilFunc=>true
 |_,_=>false
def PX:List CC->List Value->Bool
 |[],[]=>true|a::l,v::m=>Zu a v&&PX l m|_,_=>false
def L7(P:Program)(TY:List cP)(t:Nat)(l:List CC):Bool:=
 match l with
 |[]=>true
 |a::l=>match P.info? t with|some i=>(match i.zero with|some z=>PX (a::l) z.cells.toList&&CK (bJ (aq TY t).d) z|none=>false)|none=>false
def vV(P:Program)(TY:List cP):Nat->List (List CC)->Bool
 |_,[]=>true|t,l::m=>L7 P TY t l&&vV P TY (t+1) m
theorem IW{s:ByteArray}(h:s.size=0):s=bE []:=by
 cases s with
 |mk d=>
  have h:d.size=0:=h;have:d= #[]:=Array.eq_empty_of_size_eq_zero h;subst this;rfl
theorem TF{x:CC}{v:Value}(h:Zu x v=true)(ρ:Rn):jI ρ x v:=by
 unfold Zu at h;split at h
 ·simp only [Bool.and_eq_true,decide_eq_true_eq]at h
  obtain⟨⟨h1,rfl⟩,h3⟩:=h;obtain rfl:=bZ h1;exact⟨rfl,vW h3⟩
 ·rename_i b b'
  have h:b=b':=by simpa using h
  subst h;rfl
 ·exact⟨by rw [IW (ay.1 h)],by simp⟩
 ·rfl
 ·rfl
 ·rfl
 ·rfl
 ·cases h
theorem GY:∀{l:List CC} {m:List Value},PX l m=true->∀ρ,cF ρ l m
 |[],[],_,_=>trivial
 |a::l,v::m,h,ρ=>by simp only [PX,Bool.and_eq_true]at h;exact⟨TF h.1 ρ,GY h.2 ρ⟩
 |[],_::_,h,_=>by cases h
 |_::_,[],h,_=>by cases h
structure xg(P:Program)(TY:List cP)(TZ:Zs):Prop where
 row:∀t,tE TZ t≠[]->∃i z,P.info? t=some i/\i.zero=some z/\(∀ρ,cF ρ (tE TZ t) z.cells.toList)/\CK (bJ (aq TY t).d) z=true
theorem L8(t:Nat):tE [] t=[]:=by cases t<;>rfl
theorem CL{P:Program}{TY:List cP}:∀{m:Zs} {t:Nat},vV P TY t m=true->∀i,L7 P TY (t+i) (tE m i)=true
 |[],t,_,i=>by rw [L8];rfl
 |l::m,t,h,0=>by simp only [vV,Bool.and_eq_true]at h;exact h.1
 |l::m,t,h,i+1=>by
  simp only [vV,Bool.and_eq_true]at h;have:=CL h.2 i;rw [show t+1+i=t+(i+1) by omega]at this;exact this
theorem SJ{P:Program}{TY:List cP}{TZ:Zs}(h:vV P TY 0 TZ=true):xg P TY TZ:=⟨λ t ht=>by
 have h1:=CL h t;rw [Nat.zero_add]at h1;generalize tE TZ t=l at h1 ht;cases l with
 |nil=>exact absurd rfl ht
 |cons a l=>
  simp only [L7]at h1;split at h1
  ·rename_i i hi
   split at h1
   ·rename_i z hz
    rw [Bool.and_eq_true]at h1;exact⟨i,z,hi,hz,GY h1.1,h1.2⟩
   ·cases h1
  ·cases h1⟩
section
variable{ρ:Rn}{v:CV}{u:Value}
theorem b8{x:CC}(h:xE v=some x)(hv:dU ρ v u):jI ρ x u:=by cases v<;>simp [xE]at h;subst h;exact hv
theorem qB{l:List CC}(h:Tu v=some l)(hv:dU ρ v u):∃cs,u= .agg cs/\cF ρ l cs.toList:=by cases v<;>simp [Tu]at h;subst h;exact hv
theorem PY{l:List CW}(h:Zi v=some l)(hv:dU ρ v u):∃cs,u= .tuple cs/\tF ρ l cs.toList:=by cases v<;>simp [Zi]at h;subst h;exact hv
theorem uf{x:CW}(h:U8 v=some x)(hv:dU ρ v u):pe ρ x u:=by cases v<;>simp [U8]at h<;>(subst h;exact hv)
theorem lR{x:CW}(h:pe ρ x u):dU ρ (U9 x) u:=by cases x<;>exact h
theorem Az{b:Bool}(h:Wl v=some b)(hv:dU ρ v u):u= .bool b:=by
 obtain⟨x,h1,h2⟩:=au h;have:=b8 h1 hv;cases x<;>simp at h2
 subst h2;exact this
theorem iM{p:IntKind × Int}(h:NU v=some p)(hv:dU ρ v u):u= .int p.1 p.2/\eD p.1 p.2:=by
 obtain⟨x,h1,h2⟩:=au h;have:=b8 h1 hv;cases x<;>simp at h2
 subst h2;exact this
theorem GZ{i:Int}{n:Nat}(h:H4 i=some n):i=n:=by cases i<;>simp [H4]at h;subst h;rfl
theorem qC{n:Nat}(h:Va v=some n)(hv:dU ρ v u):∃k,u= .int k n/\eD k n:=by
 obtain⟨p,h1,h2⟩:=au h;have:=iM h1 hv;rw [GZ h2]at this;exact⟨_,this⟩
theorem qD{p:Nat × Nat}(h:SF v=some p)(hv:dU ρ v u):∃b c,ρ p.1=some (b,c)/\u= .pointer (some ⟨b,p.2,none⟩):=by
 obtain⟨x,h1,h2⟩:=au h;have:=b8 h1 hv;cases x<;>simp at h2
 subst h2;exact this
theorem AA{s:N4}(h:XQ v=some s)(hv:dU ρ v u):jI ρ (.sl s.k s.off s.len s.cap) u:=by
 obtain⟨x,h1,h2⟩:=au h;have:=b8 h1 hv;cases x<;>simp at h2
 subst h2;exact this
end
theorem ofNat_toNat(b:UInt8):UInt8.ofNat b.toNat=b:=by simp
theorem yG:∀(l:List UInt8),(rW l).map UInt8.ofNat=l
 |[]=>rfl
 |b::l=>by simp only [rW,List.map_cons,yG l,ofNat_toNat]
theorem yH:∀(l:List UInt8),∀x∈rW l,x<256
 |[],x,h=>by cases h
 |b::l,x,h=>by
  simp only [rW,List.mem_cons]at h;rcases h with rfl|h
  ·exact b.toNat_lt
  ·exact yH l x h
theorem vX{v:Value}{x:CC}(h:m8 v=some x)(ρ:Rn):jI ρ x v:=by
 cases v with
 |int k n=>obtain⟨h1,h2⟩:=aC h;cases h2;exact⟨rfl,vW h1⟩
 |bool b=>cases h;rfl
 |string s=>
  cases h;refine⟨?_,yH _⟩;cases s with
  |mk d=>simp [bE,yG]
 |slice a n c=>simp only [m8]at h;split at h<;>cases h;rfl
 |pointer a=>simp only [m8]at h;split at h<;>cases h;rfl
 |map a=>simp only [m8]at h;split at h<;>cases h;rfl
 |nilFunc=>cases h;rfl
 |nilIface=>cases h;rfl
 |_=>cases h
theorem vY{ρ:Rn}:∀{l:List Value} {m:List CC},consts l=some m->cF ρ m l
 |[],_,h=>by cases h;trivial
 |v::l,m,h=>by
  obtain⟨x,h1,h⟩:=au h;obtain⟨r,h2,h⟩:=au h;cases h;exact⟨vX h1 ρ,vY h2⟩
theorem vZ(ρ:Rn)(v:Value):dU ρ (LK v) v:=by
 have plain:∀v:Value,dU ρ (GI (bo (m8 v) λ x=>some (.c x))) v:=λ v=>by
  cases hc:m8 v with
  |none=>trivial
  |some x=>exact vX hc ρ
 cases v with
 |agg cs=>
  show dU ρ (GI (bo (consts cs.toList) λ l=>some (.a l))) _;cases hc:consts cs.toList with
  |none=>trivial
  |some l=>exact⟨cs,rfl,vY hc⟩
 |bool b=>exact plain (.bool b)
 |int k n=>exact plain (.int k n)
 |float k b=>exact plain (.float k b)
 |complex k a b=>exact plain (.complex k a b)
 |string b=>exact plain (.string b)
 |pointer a=>exact plain (.pointer a)
 |slice a n c=>exact plain (.slice a n c)
 |map r=>exact plain (.map r)
 |chan r=>exact plain (.chan r)
 |func f a b=>exact plain (.func f a b)
 |nilFunc=>exact plain .nilFunc
 |iface t v=>exact plain (.iface t v)
 |nilIface=>exact plain .nilIface
 |tuple vs=>exact plain (.tuple vs)
structure yI(ρ:Rn)(T:cQ)(a:Act):Prop where
 defers:a.defers=[]
 size:a.tmps.size=T.n
 tmp:∀i,dU ρ (lQ T i) (a.tmps.getD i undef)
theorem yI.ext{ρ ρ':Rn}{T:cQ}{a:Act}(h:yI ρ T a)(he:Ext ρ ρ'):yI ρ' T a:=⟨h.defers,h.size,λ i=>(h.tmp i).ext he⟩
theorem G0{ρ:Rn}{T:cQ}{a:Act}(h:yI ρ T a)(x:Operand):dU ρ (cJ T x) (a.eval x):=by
 cases x with
 |tmp t=>exact h.tmp t
 |const v=>exact vZ ρ v
 |global g=>trivial
 |func f=>exact rfl
theorem qE{T T':cQ}{d:Nat}{v:CV}(h:IL T d v=some T')(i:Nat):lQ T' i=if i=d then v else lQ T i:=by
 obtain⟨_,h2⟩:=aC h;cases h2;show(match (T.t.put d (some v)).get i with|some v=>v|none=>.Tt)=_;rw [Tr.fi]
 by_cases e:i=d
 ·rw [if_pos e,if_pos e]
 ·rw [if_neg e,if_neg e];rfl
theorem yI.put{ρ:Rn}{T T':cQ}{a:Act}{d:Option Nat}{v:CV}{u:Value}(h:yI ρ T a)(hd:og d T v=some T')(hv:dU ρ v u):yI ρ T' (a.put d u):=by
 cases d with
 |none=>cases hd;exact h
 |some d=>
  have hp:IL T d v=some T':=hd;obtain⟨h1,h2⟩:=aC hp;have hn:T'.n=T.n:=by cases h2;rfl
  have aS:d<a.tmps.size:=by rw [h.size];exact ah h1
  refine⟨h.defers,by simp [Act.put,h.size,hn],λ i=>?_⟩;rw [qE hp i]
  by_cases e:i=d
  ·subst e
   rw [if_pos rfl];have:(a.put (some i) u).tmps.getD i undef=u:=by simp [Act.put,aS]
   rw [this];exact hv
  ·rw [if_neg e]
   have:(a.put (some d) u).tmps.getD i undef=a.tmps.getD i undef:=by simp [Act.put,Array.getD_eq_getD_getElem?,Array.getElem?_setIfInBounds_ne (Ne.symm e)]
   rw [this];exact h.tmp i
theorem kY(ρ:Rn):dU ρ (.t []) undef:=⟨#[],rfl,ag⟩
section
variable{P:Program}{E:Ev}{ρ:Rn}{s s':HS}{w:World}
theorem bz{k:Nat}{p:List CC × Option (Nat × Nat)}(h:jb s k=some p):s.H.get k=some (.cells p.1 p.2):=by
 obtain⟨o,h1,h2⟩:=au h;cases o<;>simp at h2
 subst h2;exact h1
theorem ug{k:Nat}{es:List (CW × CW)}(h:PT s k=some es):s.H.get k=some (.map es):=by
 obtain⟨o,h1,h2⟩:=au h;cases o<;>simp at h2
 subst h2;exact h1
theorem dI(hd:Hd ρ s.H.get s.nx w){k b c:Nat}{l:List CC}{g:Option (Nat × Nat)}(hk:s.H.get k=some (.cells l g))(hb:ρ k=some (b,c)):
  ∃cs ty,w.heap[b]? =some (.cells cs ty (0,0))/\l.length<=cs.size/\L6 c cs.size l.length ty g/\cF ρ l (cs.toList.take l.length):=by
 obtain⟨b',c',x,h1,h2,h3⟩:=hd.obj k _ hk;rw [hb]at h1;cases h1;obtain⟨cs,ty,rfl,h4,h5,h6⟩:=h3;exact⟨cs,ty,h2,h4,h5,h6⟩
theorem js{l m:List CC}{cs:Array Value}{ty:TypeId}{b off n:Nat}(hl:cF ρ l (cs.toList.take l.length))(hb:w.heap[b]? =some (.cells cs ty (0,0)))(h:yu l off n=some m):
  ∃mv:List Value,cF ρ m mv/\mv.length=n/\∀j x,mv[j]? =some x->w.cell? ⟨b,off+j,none⟩=some x:=by
 obtain⟨h1,h2⟩:=hl.part h;refine⟨_,h1,by rw [List.length_take];omega,λ j x hj=>?_⟩;rw [cell_of_heap hb];rw [List.getElem?_take]at hj;split at hj
 ·rw [List.getElem?_drop,List.getElem?_take]at hj
  split at hj
  ·rw [<-Array.getElem?_toList];exact hj
  ·cases hj
 ·cases hj
variable(aw:aO P E.TY)
include aw
theorem G1{t off b:Nat}{l:List CC}{x:CW}{cs:Array Value}{ty:TypeId}(hl:cF ρ l (cs.toList.take l.length))(hb:w.heap[b]? =some (.cells cs ty (0,0)))(h:oG E t l off=some x):
  ∃u,(Instr.loadAt t (.pointer (some ⟨b,off,none⟩))).run P w= .ok u w/\pe ρ x u:=by
 unfold oG at h;split at h
 ·rename_i ha
  obtain⟨m,h1,h2⟩:=au h;cases h2;have aI:=aw.at (t:=t) (.inr λ e=>by unfold Ev.agg at ha;rw [e]at ha;cases ha);obtain⟨mv,h3,h4,h5⟩:=js hl hb h1;exact⟨_,gE aI ha (by rw [h4];rfl) h5,mv.toArray,rfl,by simpa using h3⟩
 ·rename_i ha
  obtain⟨h1,h2⟩:=aC h;obtain⟨y,h3,h4⟩:=au h2;cases h4;have aI:=aw.at (t:=t) (.inl (by have:(aq E.TY t).sz=1:=ay.1 h1;omega));obtain⟨v,h5,h6⟩:=yF (hl.drop off) h3;refine⟨v,fv aI ha ?_,h6⟩;rw [cell_of_heap hb];rw [List.getElem?_drop,List.getElem?_take]at h5;split at h5
  ·rw [<-Array.getElem?_toList];simpa using h5
  ·cases h5
theorem uh{t off:Nat}{l:List CC}{x:CW}{cs:Array Value}(hl:cF ρ l cs.toList)(h:oG E t l off=some x):∃u,(part t cs off).run P w= .ok u w/\pe ρ x u:=by
 unfold oG at h;split at h
 ·rename_i ha
  obtain⟨m,h1,h2⟩:=au h;cases h2;have aI:=aw.at (t:=t) (.inr λ e=>by unfold Ev.agg at ha;rw [e]at ha;cases ha);obtain⟨h3,h4⟩:=hl.part h1;have Zv:bJ (aq E.TY t).d=true:=ha;refine⟨.agg (cs.extract off (off+(aq E.TY t).sz)),by simp [part,aI.agg,Zv,aI.size],_,rfl,?_⟩
  have e:(cs.extract off (off+(aq E.TY t).sz)).toList=(cs.toList.drop off).take (E.sz t):=by
   rw [Array.toList_extract,List.extract_eq_take_drop];congr 1;show off+(aq E.TY t).sz - off=_;unfold Ev.sz;omega
  rw [e];exact h3
 ·rename_i ha
  obtain⟨h1,h2⟩:=aC h;obtain⟨y,h3,h4⟩:=au h2;cases h4;have aI:=aw.at (t:=t) (.inl (by have:(aq E.TY t).sz=1:=ay.1 h1;omega));obtain⟨v,h5,h6⟩:=yF (hl.drop off) h3;have Zv:bJ (aq E.TY t).d=false:=ha;have hv:cs[off]? =some v:=by rw [<-Array.getElem?_toList];simpa using h5
  exact⟨v,by simp [part,aI.agg,Zv,hv],h6⟩
omit aw in
theorem nT{t:Nat}{v:CV}{m:List CC}{u:Value}(h:pa E t v=some m)(hv:dU ρ v u):cF ρ m u.cells.toList/\u.cells.size=E.sz t/\m.length=E.sz t/\(∀x∈u.cells.toList,aM x):=by
 unfold pa at h;split at h
 ·obtain⟨l,h1,h2⟩:=au h
  obtain⟨h3,h4⟩:=aC h2;cases h4;obtain⟨cs,rfl,h5⟩:=qB h1 hv;have:=h5.len;have h6:=ud h3;exact⟨h5,by show cs.size=_;rw [<-Array.length_toList,this,h6],h6,h5.cell⟩
 ·obtain⟨x,h1,h2⟩:=au h
  obtain⟨h3,h4⟩:=aC h2;cases h4;have h5:=b8 h1 hv;rw [rY h5.aM];exact⟨⟨h5,ag⟩,(ay.1 h3).symm,(ay.1 h3).symm,λ y hy=>by simp at hy;subst hy;exact h5.aM⟩
omit aw in
theorem jU{l m r:List CC}{g:Option (Nat × Nat)}{cs:Array Value}{c off:Nat}{mv:List Value}(h1:l.length<=cs.size){ty:TypeId}(h2:L6 c cs.size l.length ty g)(h3:cF ρ l (cs.toList.take l.length))(hm:cF ρ m mv)
  (hp:iA l off m=some r):Bi ρ c (.cells r g) (.cells (cs.toList.take off++mv++cs.toList.drop (off+mv.length)).toArray ty (0,0))/\off+mv.length<=l.length:=by
 obtain⟨h4,h5,h6⟩:=rZ hp h3 hm
 have hL:(cs.toList.take l.length).length=l.length:=by
  have e:cs.toList.length=cs.size:=Array.length_toList;rw [List.length_take];omega
 rw [hL]at h5
 have bk:(cs.toList.take off++mv++cs.toList.drop (off+mv.length)).toArray.size=cs.size:=by
  have e:cs.toList.length=cs.size:=Array.length_toList;simp only [List.size_toArray,List.length_append,List.length_take,List.length_drop];omega
 refine⟨⟨_,ty,rfl,by rw [bk,h6];exact h1,by rw [bk,h6];exact h2,?_⟩,h5⟩
 have e:((cs.toList.take off++mv++cs.toList.drop (off+mv.length)).toArray.toList).take r.length=(cs.toList.take l.length).take off++(mv++(cs.toList.take l.length).drop (off+mv.length)):=by
  rw [h6];apply List.ext_getElem?;intro q;simp only [List.getElem?_take,List.getElem?_append,List.length_append,List.length_take,List.getElem?_drop,Array.length_toList]
  by_cases hq:q<l.length
  ·by_cases h7:q<off
   ·rw [if_pos hq,if_pos aa,if_pos aa,if_pos h7,if_pos aa,if_pos h7,if_pos hq]
   ·by_cases h8:q<off+mv.length
    ·rw [if_pos hq,if_pos aa,if_neg aa,if_neg aa,if_pos aa]
     congr 1;omega
    ·rw [if_pos hq,if_neg aa,if_neg aa,if_neg aa,if_pos aa]
     congr 1;omega
  ·rw [if_neg hq]
   by_cases h7:q<off
   ·omega
   ·rw [if_neg aa]
    by_cases h8:q<off+mv.length
    ·omega
    ·rw [if_neg aa,if_neg aa]
 rw [e];exact h4
end
theorem ui{w:World}{b:Nat}{cs cs':Array Value}{ty:TypeId}(hb:w.heap[b]? =some (.cells cs ty (0,0))):(w.setRow b cs').heap=w.heap.setIfInBounds b (.cells cs' ty (0,0)):=by
 apply Array.ext_getElem?;intro i
 by_cases e:i=b
 ·subst e
  rw [setRow_heap w i cs cs' ty (0,0) hb];have:=(Array.getElem?_eq_some_iff.1 hb).1;simp [this]
 ·rw [setRow_other w b i cs' e,Array.getElem?_setIfInBounds_ne (Ne.symm e)]
end Go.CM
end
section
namespace Go.CM
open Go Go.AM
def u7(P:Program)(call:VI):Prop:=∀f args s v s',call f args s=some (v,s')->eC P f/\∀(ρ:Rn) (w:World) (vs:List Value),Hd ρ s.H.get s.nx w->nc ρ args vs->
 Calls P f vs.toArray w λ e w'=>∃u,e= .returned u/\∃ρ',bI ρ ρ' s s' w w'/\dU ρ' v u
def PZ(P:Program)(eqs:List Nat):Prop:=∀t,vM t eqs=true->P.stoodInHeld t=false/\P.eqGuardType P.depth t=false/\∀f∈(P.fieldsOf t).toList,f.name≠ "_"
def G2(P:Program)(EY:List (Nat × Nat)):Prop:=∀p,F8 p EY=true->P.underlying p.1=some (.pointer p.2)/\P.cellsOf p.2=1
structure CN(P:Program)(E:Ev):Prop where
 cal:u7 P E.call
 eqs:PZ P E.eqs
 EY:G2 P E.EY
abbrev jF(P:Program)(e:Operand->Value)(oo:Oper)(ρ:Rn)(s s':HS)(w:World)(v:CV):Prop:=e9 P (execOp e oo) w λ u w'=>∃ρ',bI ρ ρ' s s' w w'/\dU ρ' v u
section
variable{P:Program}{E:Ev}{ρ:Rn}{s s':HS}{w:World}{T:cQ}{e:Operand->Value}{oo:Oper}{v:CV}
theorem aF{u:Value}(hd:Hd ρ s.H.get s.nx w)(h:(execOp e oo).run P w= .ok (.value u) w)(hv:dU ρ v u):jF P e oo ρ s s w v:=.inl ⟨u,w,h,ρ,bI.refl hd,hv⟩
theorem AB{x:Option CW}(h:okW s x=some (v,s')):∃y,x=some y/\v=U9 y/\s=s':=by
 obtain⟨y,h1,h2⟩:=au h;cases h2;exact⟨y,h1,rfl,rfl⟩
theorem E7{x:Option CC}(h:Q5 s x=some (v,s')):∃y,x=some y/\v= .c y/\s=s':=by
 obtain⟨y,h1,h2⟩:=au h;cases h2;exact⟨y,h1,rfl,rfl⟩
theorem P1{c a b:Operand}(h:LP T c a b s=some (v,s'))(ho:oo.op= .pick c a b)(hd:Hd ρ s.H.get s.nx w)(he:∀x∈oo.op.operands,dU ρ (cJ T x) (e x)):jF P e oo ρ s s' w v:=by
 rw [ho]at he;obtain⟨t,h1,h2⟩:=au h;have hc:=Az h1 (he c (by simp [Op.operands]));cases t with
 |true=>cases h2;exact aF hd (u:=e a) (by simp [execOp,ho,hc,asBool]) (he a (by simp [Op.operands]))
 |false=>cases h2;exact aF hd (u:=e b) (by simp [execOp,ho,hc,asBool]) (he b (by simp [Op.operands]))
theorem fT(ρ:Rn)(k:IntKind)(n:Int):jI ρ (vP k n) (.int k (k.wrap n)):=by
 unfold vP;cases hf:xD k n with
 |true=>
  have:=vW hf;simp only;exact⟨by rw [qG this],this⟩
 |false=>exact⟨rfl,lS k n⟩
theorem AD(b:Bool):Aj b= !b:=by cases b<;>rfl
theorem emod_le{a b:Int}(h:0<=a)(hb:b≠0):a % b<=a:=by
 have key:∀c:Int,0<c->a % c<=a:=λ c hc=>by
  have e:=Int.mul_ediv_add_emod a c;have e2:=Int.mul_nonneg (show 0<=c by omega) (Int.ediv_nonneg h (show 0<=c by omega));omega
 rcases Int.lt_or_lt_of_ne hb with h1|h1
 ·rw [<-Int.emod_neg];exact key (-b) aa
 ·exact key b h1
theorem P2{k:IntKind}{a b:Int}(ha:eD k a)(cr:eD k b)(hb:b≠0):eD k (a.tmod b):=by
 have ON:0<=k.max:=by cases k<;>simp [IntKind.max,IntKind.bits,IntKind.signed]
 have xm:k.min<=0:=by cases k<;>simp [IntKind.min,IntKind.bits,IntKind.signed]
 obtain⟨a1,a2⟩:=ha;rcases Int.le_total 0 a with h0|h0
 ·have h1:0<=a.tmod b:=Int.tmod_nonneg _ h0
  have h2:a.tmod b<=a:=by
   rw [Int.tmod_eq_emod_of_nonneg h0];exact emod_le h0 hb
  exact⟨aa,aa⟩
 ·have h1:0<=(-a).tmod b:=Int.tmod_nonneg _ aa
  have h2:(-a).tmod b<= -a:=by
   rw [Int.tmod_eq_emod_of_nonneg aa];exact emod_le aa hb
  rw [Int.neg_tmod]at h1 h2;exact⟨aa,aa⟩
theorem P3{op:BinOp}{t:Nat}{k:IntKind}{a b:Int}{r:CC}(h:PS op k a b=some r)(ha:eD k a)(hb:eD k b):∃u,(binOp op t (.int k a) (.int k b)).run P w= .ok u w/\jI ρ r u:=by
 cases op<;>simp only [PS]at h<;>first
  |(cases h;done)
  |skip
 case lss=>cases h;exact⟨.bool (decide (a<b)),by simp [binOp,Op.intCmp],rfl⟩
 case leq=>cases h;exact⟨.bool (decide (a<=b)),by simp [binOp,Op.intCmp],rfl⟩
 case gtr=>cases h;exact⟨.bool (decide (b<a)),by simp [binOp,Op.intCmp],rfl⟩
 case geq=>cases h;exact⟨.bool (decide (b<=a)),by simp [binOp,Op.intCmp],rfl⟩
 case eql=>cases h;exact⟨.bool (a==b),by simp [binOp,Op.intCmp],rfl⟩
 case neq=>cases h;exact⟨.bool (a !=b),by simp [binOp,Op.intCmp],by show Value.bool _= .bool (Aj _);rw [AD];rfl⟩
 case add=>cases h;exact⟨.int k (k.wrap (a+b)),by simp [binOp,Op.intArith],fT _ _ _⟩
 case sub=>cases h;exact⟨.int k (k.wrap (a - b)),by simp [binOp,Op.intArith],fT _ _ _⟩
 case mul=>cases h;exact⟨.int k (k.wrap (a*b)),by simp [binOp,Op.intArith],fT _ _ _⟩
 case quo=>
  obtain⟨h1,h2⟩:=aC h;cases h2;have GD:b≠0:=λ e=>by subst e;cases h1
  exact⟨.int k (k.wrap (a.tdiv b)),by simp [binOp,Op.intDiv,GD],fT _ _ _⟩
 case rem=>
  obtain⟨h1,h2⟩:=aC h;cases h2;have GD:b≠0:=λ e=>by subst e;cases h1
  have j9:=P2 ha hb GD;have hr:=fT ρ k (a.tmod b);rw [qG j9]at hr;exact⟨.int k (a.tmod b),by simp [binOp,Op.intDiv,GD],hr⟩
 case and=>cases h;exact⟨.int k (IP k a b),by simp [binOp,Op.intBits,IP],rfl,lS _ _⟩
 case or=>cases h;exact⟨.int k (Vb k a b),by simp [binOp,Op.intBits,Vb],rfl,lS _ _⟩
theorem P4{op:BinOp}{t:Nat}{k k':IntKind}{a b:Int}{r:CC}(h:Wm op k a k' b=some r)(ha:eD k a)(hb:eD k' b):∃u,(binOp op t (.int k a) (.int k' b)).run P w= .ok u w/\jI ρ r u:=by
 have rest:bt (kq k k') (PS op k a b)=some r->∃u,(binOp op t (.int k a) (.int k' b)).run P w= .ok u w/\jI ρ r u:=λ h=>by
  obtain⟨h1,h2⟩:=aC h;obtain rfl:=bZ h1;exact P3 h2 ha hb
 cases op<;>first|exact rest h|skip
 case shl=>
  obtain⟨h1,h2⟩:=aC h;cases h2;have h1:0<=b:=of_decide_eq_true h1;have hw:eD k (Cz k a b):=lS _ _;have hr:=fT ρ k (Cz k a b);rw [qG hw]at hr;exact⟨.int k (Cz k a b),by simp [binOp,Op.shift,Cz,Int.not_lt.2 h1],hr⟩
 case shr=>
  obtain⟨h1,h2⟩:=aC h;cases h2;have h1:0<=b:=of_decide_eq_true h1;have hr:=fT ρ k (CA k a b);have j9:eD k (CA k a b):=G3 ha _;rw [qG j9]at hr;exact⟨.int k (CA k a b),by simp [binOp,Op.shift,CA,Int.not_lt.2 h1],hr⟩
theorem ng{op:BinOp}{t:Nat}(x y:Operand){u1 u2:Value}(h:op≠.eql/\op≠.neq\/(∃k n k' m,u1= .int k n/\u2= .int k' m)\/(∃a b,u1= .bool a/\u2= .bool b)\/(∃a b,u1= .string a/\u2= .string b)):(eqGuard op t x y u1 u2).run P w= .ok () w:=by
 rcases h with ⟨h1,h2⟩|⟨k,n,k',m,rfl,rfl⟩|⟨a,b,rfl,rfl⟩|⟨a,b,rfl,rfl⟩
 ·cases op<;>first|rfl|exact absurd rfl h1|exact absurd rfl h2
 ·cases op<;>rfl
 ·cases op<;>rfl
 ·cases op<;>rfl
theorem G4:∀{a b:List Nat},GK a b=true↔a=b
 |[],[]=>by simp [GK]
 |[],_::_=>by simp [GK]
 |_::_,[]=>by simp [GK]
 |a::l,b::m=>by
  simp only [GK];cases h:Nat.beq a b with
  |true=>obtain rfl:=ay.1 h;simp [G4 (a:=l)]
  |false=>have:=beq_false h;simp [this]
theorem ofNat_inj{a b:Nat}(ha:a<256)(hb:b<256)(h:UInt8.ofNat a=UInt8.ofNat b):a=b:=by
 have:=congrArg UInt8.toNat h;simp only [UInt8.toNat_ofNat']at this;omega
theorem v7:∀{a b:List Nat},(∀x∈a,x<256)->(∀x∈b,x<256)->a.map UInt8.ofNat=b.map UInt8.ofNat->a=b
 |[],[],_,_,_=>rfl
 |[],_::_,_,_,h=>by simp at h
 |_::_,[],_,_,h=>by simp at h
 |a::l,b::m,ha,hb,h=>by
  simp only [List.map_cons,List.cons.injEq]at h;rw [ofNat_inj (ha a (by simp)) (hb b (by simp)) h.1,v7 (λ x hx=>ha x (List.mem_cons_of_mem _ hx)) (λ x hx=>hb x (List.mem_cons_of_mem _ hx)) h.2]
theorem qH{a b:List Nat}(ha:∀x∈a,x<256)(hb:∀x∈b,x<256):((bE a).toList==(bE b).toList)=GK a b:=by
 rw [ByteArray.toList_eq,ByteArray.toList_eq,Bool.eq_iff_iff,G4,beq_iff_eq]
 constructor
 ·intro h
  exact v7 ha hb (by simpa [bE]using h)
 ·rintro rfl;rfl
theorem jt{op:BinOp}{b:Bool}{r:CC}(h:xF op b=some r):(op= .eql/\r= .bool b)\/(op= .neq/\r= .bool (!b)):=by
 cases op<;>simp [xF]at h
 ·exact .inl ⟨rfl,h.symm⟩
 ·exact .inr ⟨rfl,by rw [<-h,AD]⟩
theorem L9(aw:aO P E.TY){t:Nat}(h:qw E.TY t=true):P.underlying t=some .bool:=by
 unfold qw at h;split at h
 ·rename_i hd
  obtain⟨u,h1,h2,_⟩:=(aw.at (t:=t) (.inr (by rw [hd];simp))).under;rw [hd]at h2;cases u<;>first|exact h1|exact h2.elim
 ·cases h
theorem v8(aw:aO P E.TY){t:Nat}(h:iB E.TY t=true):∃e,P.underlying t=some (.slice e):=by
 unfold iB at h;split at h
 ·rename_i e hd;exact⟨e,bV aw hd⟩
 ·cases h
theorem CP(aw:aO P E.TY){t:Nat}(h:EZ (E.d t)=true):∃k e,P.underlying t=some (.map k e):=by
 cases hd:E.d t with
 |map k e=>
  have hd:(aq E.TY t).d= .map k e:=hd;obtain⟨_,u,_,h1,_,_,h2,_⟩:=(aw.at (t:=t) (.inr (by rw [hd];simp))).row;rw [hd]at h2;cases u<;>first|exact⟨_,_,h1⟩|exact h2.elim
 |_=>rw [hd]at h;cases h
theorem P5(aw:aO P E.TY){t d:Nat}{a b:CW}{u u':Value}{r:Bool}(h:Tx (E.d t) a b=some r)(ha:pe ρ a u)(hb:pe ρ b u'):(Op.equalIn (d+1) t u u').run P w= .ok r w:=by
 cases a with
 |a l=>cases h
 |c x=>
  cases b with
  |a l=>cases h
  |c y=>
   have und:E.d t≠.other->∃u,P.underlying t=some u/\lT (aq E.TY t).d u:=λ bm=>by
    obtain⟨_,u,_,h1,_,_,h2,_⟩:=(aw.at (t:=t) (.inr bm)).row;exact⟨u,h1,h2⟩
   simp only [Tx]at h;split at h
   ·rename_i k fU
    obtain⟨v,h1,h2⟩:=und (by rw [fU];simp);have fU:(aq E.TY t).d= .int k:=fU;rw [fU]at h2;cases v<;>try exact h2.elim
    cases x<;>simp only [reduceCtorEq]at h
    cases y<;>simp only [reduceCtorEq]at h
    rename_i k1 n k2 m;obtain⟨h3,h4⟩:=aC h;obtain rfl:=bZ h3;obtain rfl:(n==m)=r:=Option.some.inj h4;obtain⟨rfl,_⟩:=ha;obtain⟨rfl,_⟩:=hb;exact run_equalIn_int w d t _ _ _ _ h1
   ·rename_i fU
    obtain⟨v,h1,h2⟩:=und (by rw [fU];simp);have fU:(aq E.TY t).d= .bool:=fU;rw [fU]at h2;cases v<;>try exact h2.elim
    cases x<;>simp only [reduceCtorEq]at h
    cases y<;>simp only [reduceCtorEq]at h
    cases h;have ha:u= .bool _:=ha;have hb:u'= .bool _:=hb;subst ha;subst hb;exact run_equalIn_bool' w d t _ _ h1
   ·rename_i fU
    obtain⟨v,h1,h2⟩:=und (by rw [fU];simp);have fU:(aq E.TY t).d= .str:=fU;rw [fU]at h2;cases v<;>try exact h2.elim
    cases x<;>simp only [reduceCtorEq]at h
    cases y<;>simp only [reduceCtorEq]at h
    cases h;obtain⟨rfl,g1⟩:=ha;obtain⟨rfl,g2⟩:=hb;rw [run_equalIn_string w d t _ _ h1,qH g1 g2]
   ·cases h
theorem Mb(aw:aO P E.TY){xs ys:Array Value}{d:Nat}:∀{fl:List Field} {l m:List CC} {r:Bool},Zo E (fl.map λ f=>(f.offset,f.type)) l m=some r->(∀f∈fl,f.name≠ "_")->cF ρ l xs.toList->cF ρ m ys.toList->(Op.eqFields (d+1) xs ys fl).run P w= .ok r w
 |[],l,m,r,h,_,_,_=>by cases h;simp [Op.eqFields]
 |f::fl,l,m,r,h,hn,hl,hm=>by
  obtain⟨a,h1,h⟩:=au h;obtain⟨b,h2,h⟩:=au h;obtain⟨e,h3,h⟩:=au h;obtain⟨u,g1,g2⟩:=uh (w:=w) aw hl h1;obtain⟨u',g3,g4⟩:=uh (w:=w) aw hm h2;have g5:=P5 (w:=w) (d:=d) aw h3 g2 g4;have hf:=hn f (by simp);cases e with
  |false=>
   cases h;simp [Op.eqFields,hf,g1,g3,g5]
  |true=>
   have ih:=Mb (d:=d) aw h (λ g hg=>hn g (List.mem_cons_of_mem _ hg)) hl hm;simp [Op.eqFields,hf,g1,g3,g5,ih]
theorem TG(aw:aO P E.TY)(Zw:PZ P E.eqs){op:BinOp}{t ty:Nat}{x y:Operand}(h:LQ E T op t x y s=some (v,s'))(ho:oo.op= .binOp op t x y ty)(hd:Hd ρ s.H.get s.nx w)(he:∀x∈oo.op.operands,dU ρ (cJ T x) (e x)):jF P e oo ρ s s' w v:=by
 rw [ho]at he;unfold LQ at h;split at h
 ·rename_i l hl
  obtain⟨h1,h⟩:=aC h;obtain⟨m,h2,h⟩:=au h;obtain⟨hs,hg,OQ⟩:=Zw t h1;split at h
  ·rename_i fs fU
   obtain⟨r,h3,h⟩:=au h;obtain⟨c,h4,rfl,rfl⟩:=E7 h;obtain⟨F,hu,tq⟩:=de aw fU;have hF:P.fieldsOf t=F:=by simp [Program.fieldsOf,hu]
   obtain⟨xs,e1,g1⟩:=qB hl (he x (by simp [Op.operands]));obtain⟨ys,e2,g2⟩:=qB h2 (he y (by simp [Op.operands]));rw [hF]at OQ;rw [tq]at h3;have g3:=Mb (w:=w) (d:=9998) aw h3 OQ g1 g2
   have g4:(Op.equalIn 10000 t (.agg xs) (.agg ys)).run P w= .ok r w:=by
    rw [run_equalIn_struct w 9999 t xs ys (by rw [hF];exact hu) hs,hF];exact g3
   have fin:∀u,(binOp op t (.agg xs) (.agg ys)).run P w= .ok u w->jI ρ c u->jF P e oo ρ s s w (.c c):=λ u k1 k2=>by
    refine aF hd (u:=u) ?_ k2;simp only [execOp,ho];rw [Sem.run_bind,Sem.run_bind,e1,e2,run_eqGuard_agg w op t x y xs ys hg];show Result.andThen ((binOp op t (.agg xs) (.agg ys)).run P w) _=_;rw [k1];rfl
   rcases jt h4 with ⟨rfl,rfl⟩|⟨rfl,rfl⟩
   ·exact fin (.bool r) (by rw [run_eql_struct,g4];rfl) rfl
   ·exact fin (.bool (!r)) (by rw [run_neq_struct,g4];rfl) rfl
  ·cases h
 obtain⟨a,h1,h⟩:=au h;obtain⟨b,h2,h⟩:=au h;obtain⟨r,h3,rfl,rfl⟩:=E7 h;have ha:=b8 h1 (he x (by simp [Op.operands]));have hb:=b8 h2 (he y (by simp [Op.operands]))
 have fin:∀u,(eqGuard op t x y (e x) (e y)).run P w= .ok () w->(binOp op t (e x) (e y)).run P w= .ok u w->jI ρ r u->jF P e oo ρ s s w (.c r):=λ u g1 g2 g3=>by
  refine aF hd (u:=u) ?_ g3;simp only [execOp,ho];rw [Sem.run_bind,Sem.run_bind,g1];show Result.andThen ((binOp op t (e x) (e y)).run P w) _=_;rw [g2];rfl
 cases a with
 |int k a=>
  cases b with
  |int k' b=>
   obtain⟨e1,XS⟩:=ha;obtain⟨e2,Be⟩:=hb;obtain⟨u,g1,g2⟩:=P4 (P:=P) (w:=w) (ρ:=ρ) (t:=t) h3 XS Be;rw [e1,e2]at fin;exact fin u (ng x y (.inr (.inl ⟨_,_,_,_,rfl,rfl⟩))) g1 g2
  |_=>cases h3
 |bool a=>
  cases b with
  |bool b=>
   obtain⟨g1,g2⟩:=aC h3;have hu:=L9 aw g1;have e1:e x= .bool a:=ha;have e2:e y= .bool b:=hb;rw [e1,e2]at fin;rcases jt g2 with ⟨rfl,rfl⟩|⟨rfl,rfl⟩
   ·exact fin (.bool (a==b)) (ng x y (.inr (.inr (.inl ⟨_,_,rfl,rfl⟩)))) (by simp [binOp,Go.AM.run_equal_bool hu]) rfl
   ·exact fin (.bool (!(a==b))) (ng x y (.inr (.inr (.inl ⟨_,_,rfl,rfl⟩)))) (by simp [binOp,Go.AM.run_equal_bool hu]) rfl
  |_=>cases h3
 |str a=>
  cases b with
  |str b=>
   have h3:xF op (GK a b)=some r:=h3;obtain⟨e1,XS⟩:=ha;obtain⟨e2,Be⟩:=hb;rw [e1,e2]at fin;rcases jt h3 with ⟨rfl,rfl⟩|⟨rfl,rfl⟩
   ·exact fin (.bool (GK a b)) (ng x y (.inr (.inr (.inr ⟨_,_,rfl,rfl⟩)))) (by simp [binOp,Op.stringOp,qH XS Be]) rfl
   ·exact fin (.bool (!(GK a b))) (ng x y (.inr (.inr (.inr ⟨_,_,rfl,rfl⟩)))) (by simp [binOp,Op.stringOp,qH XS Be]) rfl
  |_=>cases h3
 |sl k off len cap=>
  obtain⟨g0,h3⟩:=aC h3;obtain⟨g1,g2⟩:=aC h3;cases b<;>simp [Al]at g0
  obtain⟨el,hu⟩:=v8 aw g1;obtain⟨bb,c,n,_,_,e1,_⟩:=ha;have e2:e y= .slice none 0 0:=hb;rw [e1,e2]at fin
  have heq:(Op.equal t (.slice (some ⟨bb,off,none⟩) len n) (.slice none 0 0)).run P w= .ok false w:=by
   have h:∀n',(Op.equalIn (n'+1) t (.slice (some ⟨bb,off,none⟩) len n) (.slice none 0 0)).run P w= .ok false w:=λ n'=>by simp [Op.equalIn,underlying,hu]
   exact h 9999
  rcases jt g2 with ⟨rfl,rfl⟩|⟨rfl,rfl⟩
  ·exact fin (.bool false) (by rfl) (by simp [binOp,heq]) rfl
  ·exact fin (.bool true) (by rfl) (by simp [binOp,heq]) rfl
 |ao=>
  obtain⟨g0,h3⟩:=aC h3;obtain⟨g1,g2⟩:=aC h3;cases b<;>simp [Al]at g0
  obtain⟨el,hu⟩:=v8 aw g1;have e1:e x= .slice none 0 0:=ha;have e2:e y= .slice none 0 0:=hb;rw [e1,e2]at fin
  have heq:(Op.equal t (.slice none 0 0) (.slice none 0 0)).run P w= .ok true w:=by
   have h:∀n',(Op.equalIn (n'+1) t (.slice none 0 0) (.slice none 0 0)).run P w= .ok true w:=λ n'=>by simp [Op.equalIn,underlying,hu]
   exact h 9999
  rcases jt g2 with ⟨rfl,rfl⟩|⟨rfl,rfl⟩
  ·exact fin (.bool true) (by rfl) (by simp [binOp,heq]) rfl
  ·exact fin (.bool false) (by rfl) (by simp [binOp,heq]) rfl
 |mp k=>
  obtain⟨g0,h3⟩:=aC h3;obtain⟨g1,g2⟩:=aC h3;cases b<;>simp [Ak]at g0
  obtain⟨ke,el,hu⟩:=CP aw g1;obtain⟨bb,c,_,e1⟩:=ha;have e2:e y= .map none:=hb;rw [e1,e2]at fin
  have heq:(Op.equal t (.map (some bb)) (.map none)).run P w= .ok false w:=by
   have h:∀n',(Op.equalIn (n'+1) t (.map (some bb)) (.map none)).run P w= .ok false w:=λ n'=>by simp [Op.equalIn,underlying,hu]
   exact h 9999
  rcases jt g2 with ⟨rfl,rfl⟩|⟨rfl,rfl⟩
  ·exact fin (.bool false) (by rfl) (by simp [binOp,heq]) rfl
  ·exact fin (.bool true) (by rfl) (by simp [binOp,heq]) rfl
 |bK=>
  obtain⟨g0,h3⟩:=aC h3;obtain⟨g1,g2⟩:=aC h3;cases b<;>simp [Ak]at g0
  obtain⟨ke,el,hu⟩:=CP aw g1;have e1:e x= .map none:=ha;have e2:e y= .map none:=hb;rw [e1,e2]at fin
  have heq:(Op.equal t (.map none) (.map none)).run P w= .ok true w:=by
   have h:∀n',(Op.equalIn (n'+1) t (.map none) (.map none)).run P w= .ok true w:=λ n'=>by simp [Op.equalIn,underlying,hu]
   exact h 9999
  rcases jt g2 with ⟨rfl,rfl⟩|⟨rfl,rfl⟩
  ·exact fin (.bool true) (by rfl) (by simp [binOp,heq]) rfl
  ·exact fin (.bool false) (by rfl) (by simp [binOp,heq]) rfl
 |_=>cases h3
theorem Wv{op:UnOp}{t:Nat}{x:Operand}(h:Wq T op x s=some (v,s'))(ho:oo.op= .unOp op t x)(hd:Hd ρ s.H.get s.nx w)(he:∀x∈oo.op.operands,dU ρ (cJ T x) (e x)):jF P e oo ρ s s' w v:=by
 rw [ho]at he;cases op with
 |not=>
  obtain⟨b,h1,h2⟩:=au h;cases h2;have hx:=Az h1 (he x (by simp [Op.operands]));exact aF hd (u:=.bool (!b)) (by simp [execOp,ho,hx,Op.unary]) (by show Value.bool _= .bool (Aj b);rw [AD])
 |neg=>
  obtain⟨p,h1,h2⟩:=au h;cases h2;have hx:=(iM h1 (he x (by simp [Op.operands]))).1;exact aF hd (u:=.int p.1 (p.1.wrap (0 - p.2))) (by simp [execOp,ho,hx,Op.unary,Op.intArith]) (fT _ _ _)
 |_=>cases h
theorem G5{x:Operand}(ho:oo.op= .move x\/oo.op= .assign x)(hd:Hd ρ s.H.get s.nx w)(he:∀x∈oo.op.operands,dU ρ (cJ T x) (e x)):jF P e oo ρ s s w (cJ T x):=by
 rcases ho with ho|ho
 ·rw [ho]at he;exact aF hd (u:=e x) (by simp [execOp,ho]) (he x (by simp [Op.operands]))
 ·rw [ho]at he;exact aF hd (u:=e x) (by simp [execOp,ho]) (he x (by simp [Op.operands]))
theorem TH{x:Operand}(h:LU T x s=some (v,s'))(ho:oo.op= .nilCheck x)(hd:Hd ρ s.H.get s.nx w)(he:∀x∈oo.op.operands,dU ρ (cJ T x) (e x)):jF P e oo ρ s s' w v:=by
 rw [ho]at he;have hx:=he x (by simp [Op.operands]);unfold LU at h;generalize hv:cJ T x=y at h hx;cases y with
 |c c=>
  cases c<;>simp at h
  ·obtain⟨rfl,rfl⟩:=h
   have h2:=hx;obtain⟨b,c,_,h1⟩:=hx;exact aF hd (u:=e x) (by simp [execOp,ho,h1]) h2
  ·obtain⟨rfl,rfl⟩:=h
   have h2:e x= .func (.func _) #[] #[]:=hx;exact aF hd (u:=e x) (by simp [execOp,ho,h2]) hx
 |Rx f l=>
  simp at h;obtain⟨rfl,rfl⟩:=h;have h2:=hx;obtain⟨cs,h1,_⟩:=hx;exact aF hd (u:=e x) (by simp [execOp,ho,h1]) h2
 |_=>cases h
theorem tF.get:∀{l:List CW} {m:List Value} {i:Nat} {x:CW},tF ρ l m->l[i]? =some x->∃u,m[i]? =some u/\pe ρ x u
 |a::l,v::m,0,x,h,e=>by cases e;exact⟨v,rfl,h.1⟩
 |a::l,v::m,i+1,x,h,e=>by obtain⟨u,h1,h2⟩:=tF.get (i:=i) h.2 (by simpa using e);exact⟨u,by simpa using h1,h2⟩
 |[],_,_,_,_,e=>by simp at e
 |_::_,[],_,_,h,_=>h.elim
theorem E8{x:Operand}{i:Nat}(h:yy T x i s=some (v,s'))(ho:oo.op= .extract x i)(hd:Hd ρ s.H.get s.nx w)(he:∀x∈oo.op.operands,dU ρ (cJ T x) (e x)):jF P e oo ρ s s' w v:=by
 rw [ho]at he;obtain⟨l,h1,h⟩:=au h;obtain⟨y,h2,rfl,rfl⟩:=AB h;obtain⟨cs,h3,h4⟩:=PY h1 (he x (by simp [Op.operands]));obtain⟨u,h5,h6⟩:=h4.get h2;rw [Array.getElem?_toList]at h5;exact aF hd (u:=u) (by simp [execOp,ho,h3,Instr.extract,h5]) (lR h6)
theorem CQ:∀{l:List Operand} {m:List CC},Tv T l=some m->(∀x∈l,dU ρ (cJ T x) (e x))->cF ρ m (l.map e)
 |[],m,h,_=>by cases h;trivial
 |x::l,m,h,he=>by
  obtain⟨a,h1,h⟩:=au h;obtain⟨r,h2,h⟩:=au h;cases h;exact⟨b8 h1 (he x (by simp)),CQ h2 λ y hy=>he y (List.mem_cons_of_mem _ hy)⟩
theorem TI{fn:Fn}{first cap:Array Operand}(h:LV T fn first.toList cap.toList s=some (v,s'))(ho:oo.op= .makeFunc fn first cap)(hd:Hd ρ s.H.get s.nx w)(he:∀x∈oo.op.operands,dU ρ (cJ T x) (e x)):jF P e oo ρ s s' w v:=by
 rw [ho]at he;cases fn with
 |func f=>
  simp only [LV]at h;split at h
  case h_2=>cases h
  rename_i hf;have OK:first= #[]:=by simpa using congrArg List.toArray hf
  subst OK;obtain⟨l,h1,h⟩:=au h;have hl:=CQ (e:=e) h1 λ x hx=>he x (by simp [Op.operands];exact Array.mem_toList_iff.1 hx);have aK:(execOp e oo).run P w= .ok (.value (.func (.func f) #[] (cap.map e))) w:=by simp [execOp,ho,Instr.makeFunc]
  cases l with
  |nil=>
   cases h
   have:cap.map e= #[]:=by
    have:=hl.len;simp at this;simp [this]
   rw [this]at aK;exact aF hd aK rfl
  |cons a l=>
   cases h;exact aF hd aK ⟨_,rfl,by rw [Array.toList_map];exact hl⟩
 |_=>cases h
theorem P6(aw:aO P E.TY){t:Nat}{x:Operand}(h:LS E T t x s=some (v,s'))(ho:oo.op= .load t x)(hd:Hd ρ s.H.get s.nx w)(he:∀x∈oo.op.operands,dU ρ (cJ T x) (e x)):jF P e oo ρ s s' w v:=by
 rw [ho]at he;obtain⟨p,h1,h⟩:=au h;obtain⟨q,h2,h⟩:=au h;obtain⟨y,h3,rfl,rfl⟩:=AB h;obtain⟨b,c,h4,h5⟩:=qD h1 (he x (by simp [Op.operands]));obtain⟨cs,ty,h6,_,_,h7⟩:=dI hd (bz h2) h4;obtain⟨u,h8,h9⟩:=G1 aw h7 h6 h3;exact aF hd (u:=u) (by simp [execOp,ho,h5,h8]) (lR h9)
theorem Mc(aw:aO P E.TY){t:Nat}{x y:Operand}(h:GO E T t x y s=some (v,s'))(ho:oo.op= .store t x y)(hd:Hd ρ s.H.get s.nx w)(he:∀x∈oo.op.operands,dU ρ (cJ T x) (e x)):jF P e oo ρ s s' w v:=by
 rw [ho]at he;obtain⟨p,h1,h⟩:=au h;obtain⟨m,h2,h⟩:=au h;obtain⟨q,h3,h⟩:=au h;obtain⟨l,h4,h⟩:=au h;cases h;obtain⟨b,c,h5,h6⟩:=qD h1 (he x (by simp [Op.operands]));obtain⟨g1,g2,g3,g4⟩:=nT h2 (he y (by simp [Op.operands]));obtain⟨cs,ty,h7,h8,h9,cu⟩:=dI hd (bz h3) h5;obtain⟨lB,ou⟩:=jU h8 h9 cu g1 h4
 have aI:=aw.at (t:=t) (by
  unfold pa at h2;split at h2
  ·rename_i ha;exact .inr λ e=>by unfold Ev.agg at ha;rw [e]at ha;cases ha
  ·obtain⟨_,_,h2⟩:=au h2
   obtain⟨h2,_⟩:=aC h2;exact .inl (by have:(aq E.TY t).sz=1:=ay.1 h2;omega))
 have aK:=ie (P:=P) (TY:=E.TY) (w:=w) (o:=p.2) aI g2 h7 (by rw [<-Array.length_toList];omega) (λ j z hz=>g4 z (List.mem_of_getElem? (by rw [Array.getElem?_toList];exact hz)));rw [<-Array.length_toList]at aK
 have bQ:(execOp e oo).run P w= .ok .skip (w.setRow b (cs.toList.take p.2++(e y).cells.toList++cs.toList.drop (p.2+(e y).cells.toList.length)).toArray):=by
  simp only [execOp,ho,h6];rw [Sem.run_bind,aK];rfl
 exact .inr (.inl ⟨_,bQ,ρ,bI.write hd (bz h3) h5 (ui h7) ⟨⟨rfl,rfl⟩,rfl,Nat.le_refl _⟩ lB,kY ρ⟩)
end
end Go.CM
end
section
namespace Go.CM
open Go Go.AM
section
variable{P:Program}{E:Ev}{ρ:Rn}{s s':HS}{w:World}{T:cQ}{e:Operand->Value}{oo:Oper}{v:CV}
theorem IX{l:List CC}{cs:Array Value}(h:cF ρ l cs.toList)(c:Nat)(ty:TypeId):Bi ρ c (.cells l none) (.cells cs ty (0,0)):=by
 have:=h.len;rw [Array.length_toList]at this;exact⟨cs,ty,rfl,aa,this,by rw [List.take_of_length_le (by rw [Array.length_toList];omega)];exact h⟩
theorem wa{u:Value}{l:List CC}{cs:Array Value}{ty:TypeId}{w':World}(hd:Hd ρ s.H.get s.nx w)(aK:(execOp e oo).run P w= .ok (.value u) w')(hw:w'.heap=w.heap.push (.cells cs ty (0,0)))(oq:jT w w')(hl:cF ρ l cs.toList)
  (hu:∀ρ',ρ' s.nx=some (w.heap.size,0)->dU ρ' v u):jF P e oo ρ s (s.new (.cells l none)) w v:=by
 obtain⟨ρ',h1,h2⟩:=bI.make (o:=.cells l none) 0 hd hw oq λ ρ' hx=>IX (hl.ext hx) 0 ty;exact .inl ⟨u,w',aK,ρ',h1,hu ρ' h2⟩
theorem E9{l:List CC}{cs:Array Value}(h:cF ρ l cs.toList)(c:Nat)(ty:TypeId):Bi ρ c (.cells l (some (0,ty))) (.cells cs ty (0,0)):=by
 have:=h.len;rw [Array.length_toList]at this;exact⟨cs,ty,rfl,aa,⟨rfl,λ _=>this,λ h=>absurd rfl h⟩,by rw [List.take_of_length_le (by rw [Array.length_toList];omega)];exact h⟩
theorem IY{u:Value}{l:List CC}{cs:Array Value}{ty:TypeId}{w':World}(hd:Hd ρ s.H.get s.nx w)(aK:(execOp e oo).run P w= .ok (.value u) w')(hw:w'.heap=w.heap.push (.cells cs ty (0,0)))(oq:jT w w')(hl:cF ρ l cs.toList)
  (hu:∀ρ',ρ' s.nx=some (w.heap.size,0)->dU ρ' v u):jF P e oo ρ s (s.new (.cells l (some (0,ty)))) w v:=by
 obtain⟨ρ',h1,h2⟩:=bI.make (o:=.cells l (some (0,ty))) 0 hd hw oq λ ρ' hx=>E9 (hl.ext hx) 0 ty;exact .inl ⟨u,w',aK,ρ',h1,hu ρ' h2⟩
theorem Md(hz:xg P E.TY E.TZ){t:Nat}(h:Aq E t s=some (v,s'))(ho:oo.op= .alloc t)(hd:Hd ρ s.H.get s.nx w):jF P e oo ρ s s' w v:=by
 unfold Aq at h;generalize hl:E.z t=l at h;cases l with
 |nil=>cases h
 |cons a l=>
  cases h;obtain⟨i,z,hi,gg,hr,_⟩:=hz.row t (by show E.z t≠[];rw [hl];simp);have mr:(zeroValue t).run P w= .ok z w:=by simp [zeroValue,typeInfo,hi,gg]
  have hr:=hr ρ;have nI:tE E.TZ t=a::l:=hl;rw [nI]at hr;refine IY hd (cs:=z.cells) (ty:=t) (w':={ w with heap:=w.heap.push (.cells z.cells t) }) ?_ rfl ⟨⟨rfl,rfl⟩,rfl,Nat.le_refl _⟩ hr λ ρ' h=>⟨_,_,h,rfl⟩;simp [execOp,ho,Instr.alloc,mr,newVar,newRow]
theorem TJ{t:Nat}{x:Operand}(h:Rz E T t x s=some (v,s'))(ho:oo.op= .box t x)(hd:Hd ρ s.H.get s.nx w)(he:∀x∈oo.op.operands,dU ρ (cJ T x) (e x)):jF P e oo ρ s s' w v:=by
 rw [ho]at he;obtain⟨l,h1,h⟩:=au h;cases h;obtain⟨g1,_⟩:=nT h1 (he x (by simp [Op.operands]));refine wa hd (cs:=(e x).cells) (ty:=t) (w':={ w with heap:=w.heap.push (.cells (e x).cells t) }) ?_ rfl ⟨⟨rfl,rfl⟩,rfl,Nat.le_refl _⟩ g1 λ ρ' h=>⟨_,_,h,rfl⟩;simp [execOp,ho,Instr.box,newVar,newRow]
theorem wc{cells:Array Value}{u:Value}{off:Nat}{l m r:List CC}(hl:cF ρ l cells.toList)(hm:cF ρ m u.cells.toList)(hp:iA l off m=some r):
  cF ρ r (u.cells.zipIdx.foldl (λ cs (c,j)=>cs.setIfInBounds (off+j) c) cells).toList/\off+u.cells.size<=cells.size:=by
 obtain⟨h1,h2,_⟩:=rZ hp hl hm;rw [Array.length_toList,Array.length_toList]at h2;have BG:=pT off u.cells.toList 0 cells (by simp;omega)
 have jS:((u.cells.zipIdx.foldl (λ cs (c,j)=>cs.setIfInBounds (off+j) c) cells).toList)=cells.toList.take off++(u.cells.toList++cells.toList.drop (off+u.cells.toList.length)):=by
  rw [<-Array.foldl_toList,Array.toList_zipIdx]
  simpa [<-Array.length_toList]using BG
 rw [jS];exact⟨h1,h2⟩
theorem we{t:Nat}{place:Nat->Option (Nat × Nat)}(hp:∀i,place i=some (i*E.sz t,E.sz t)):∀{ps:List (Nat × Operand)} {l m:List CC} {cells:Array Value},GL E T t ps l=some m->(∀i x,(i,x)∈ps->dU ρ (cJ T x) (e x))->cF ρ l cells.toList->
  ∃cells',Instr.fill place cells (ps.map λ(i,x)=>(i,e x))=some cells'/\cF ρ m cells'.toList
 |[],l,m,cells,h,_,hl=>by cases h;exact⟨cells,rfl,hl⟩
 |(i,x)::ps,l,m,cells,h,he,hl=>by
  obtain⟨a,h1,h⟩:=au h;obtain⟨l',h2,h⟩:=au h;obtain⟨g1,g2,g3,_⟩:=nT h1 (he i x (by simp));obtain⟨h3,h4⟩:=wc hl g1 h2;obtain⟨c',h5,h6⟩:=we hp h (λ j y hy=>he j y (List.mem_cons_of_mem _ hy)) h3;refine⟨c',?_,h6⟩;have h4:i*E.sz t+(e x).cells.size<=cells.size:=h4;simp only [List.map_cons,Instr.fill,hp i];rw [if_neg]
  ·exact h5
  ·simp only [Bool.or_eq_true,decide_eq_true_eq,not_or,ne_eq,Decidable.not_not]
   exact⟨g2,aa⟩
theorem CR{fs:List (Nat × Nat)}{place:Nat->Option (Nat × Nat)}(hp:∀i o t,cZ fs i=some (o,t)->place i=some (o,E.sz t)):∀{ps:List (Nat × Operand)} {l m:List CC} {cells:Array Value},LM E T fs ps l=some m->(∀i x,(i,x)∈ps->dU ρ (cJ T x) (e x))->cF ρ l cells.toList->
  ∃cells',Instr.fill place cells (ps.map λ(i,x)=>(i,e x))=some cells'/\cF ρ m cells'.toList
 |[],l,m,cells,h,_,hl=>by cases h;exact⟨cells,rfl,hl⟩
 |(i,x)::ps,l,m,cells,h,he,hl=>by
  obtain⟨⟨o,t⟩,h0,h⟩:=au h;obtain⟨a,h1,h⟩:=au h;obtain⟨l',h2,h⟩:=au h;obtain⟨g1,g2,g3,_⟩:=nT h1 (he i x (by simp));obtain⟨h3,h4⟩:=wc hl g1 h2;obtain⟨c',h5,h6⟩:=CR hp h (λ j y hy=>he j y (List.mem_cons_of_mem _ hy)) h3;refine⟨c',?_,h6⟩;simp only [List.map_cons,Instr.fill,hp i o t h0];rw [if_neg]
  ·exact h5
  ·simp only [Bool.or_eq_true,decide_eq_true_eq,not_or,ne_eq,Decidable.not_not]
   exact⟨g2,Nat.not_lt.2 h4⟩
theorem CS(zc:Array Value):(List.range zc.size).map (λ i=>zc[i]!)=zc.toList:=by
 apply List.ext_getElem?;intro i
 by_cases h:i<zc.size
 ·simp [h]
 ·rw [List.getElem?_eq_none (by simp;omega),List.getElem?_eq_none (by simp;omega)]
theorem CT{z:List CC}{zc:Array Value}(hz:cF ρ z zc.toList)(h0:0<zc.size):∀(n:Nat) {acc:List CC} {accv:List Value},cF ρ acc accv->cF ρ (CB z n acc) ((List.range (n*zc.size)).map (λ i=>zc[i % zc.size]!)++accv)
 |0,acc,accv,h=>by simpa [CB]using h
 |n+1,acc,accv,h=>by
  have ih:=CT hz h0 n (hz.app h)
  have e:(List.range ((n+1)*zc.size)).map (λ i=>zc[i % zc.size]!)=(List.range (n*zc.size)).map (λ i=>zc[i % zc.size]!)++zc.toList:=by
   rw [Nat.add_mul,Nat.one_mul,List.range_add,List.map_append,List.map_map]
   congr 1
   rw [<-CS zc];apply List.map_congr_left;intro i hi;rw [List.mem_range]at hi;show zc[(n*zc.size+i) % zc.size]! =zc[i]!;rw [Nat.mul_comm,Nat.mul_add_mod,Nat.mod_eq_of_lt hi]
  rw [e,List.append_assoc];exact ih
theorem AE{z:List CC}{zc:Array Value}(hz:cF ρ z zc.toList)(h0:0<zc.size)(n:Nat):cF ρ (CB z n []) ((Array.range (n*zc.size)).map λ i=>zc[i % zc.size]!).toList:=by
 have:=CT hz h0 n (acc:=[]) (accv:=[]) trivial
 simpa using this
theorem ju{t el:Nat}(h:na E t=some el):(aq E.TY t).d= .slice el:=by
 unfold na Ev.d at h;split at h
 ·rename_i hd;cases h;exact hd
 ·cases h
theorem lU{t:Nat}(h:Nat.ble 1 (E.sz t)=true):(aq E.TY t).sz≠0:=by
 have:=ah h;unfold Ev.sz at this;omega
theorem Me(aw:aO P E.TY)(hz:xg P E.TY E.TZ){t:Nat}{ps:Array (Nat × Operand)}(h:Ar E T t ps.toList s=some (v,s'))(ho:oo.op= .build t ps)(hd:Hd ρ s.H.get s.nx w)(he:∀x∈oo.op.operands,dU ρ (cJ T x) (e x)):jF P e oo ρ s s' w v:=by
 rw [ho]at he;have eZ:∀i x,(i,x)∈ps.toList->dU ρ (cJ T x) (e x):=λ i x hx=>he x (by simp only [Op.operands,List.mem_toArray,List.mem_map];exact⟨_,hx,rfl⟩);unfold Ar at h;generalize hl:E.z t=l at h;cases l with
 |nil=>cases h
 |cons a l=>
  obtain⟨i,z,hi,gg,hr,_⟩:=hz.row t (by show E.z t≠[];rw [hl];simp);have mr:(zeroValue t).run P w= .ok z w:=by simp [zeroValue,typeInfo,hi,gg]
  have hr:=hr ρ;have nI:tE E.TZ t=a::l:=hl;rw [nI]at hr;simp only at h;split at h
  ·rename_i fs fU
   obtain⟨m,h1,h⟩:=au h;cases h;have fU:(aq E.TY t).d= .struct fs:=fU;obtain⟨F',hu,tq⟩:=de aw fU
   have key:∀(l:List Field),(∀f∈l,f.type<E.TY.length)->∀w,(l.mapM λ f=>Prod.mk f.offset<$>sizeOf f.type:Sem (List (Nat × Nat))).run P w= .ok (l.map λ f=>(f.offset,(aq E.TY f.type).sz)) w:=by
    intro l
    induction l with
    |nil=>intro _ w;simp
    |cons f l ih=>
     intro hl w;have hn:=(aw.row f.type (hl f (by simp))).size w;simp [List.mapM_cons,hn,ih (λ g hg=>hl g (List.mem_cons_of_mem _ hg))]
   have gb:∀w,(F'.mapM λ f=>Prod.mk f.offset<$>sizeOf f.type:Sem (Array (Nat × Nat))).run P w= .ok (F'.toList.map λ f=>(f.offset,(aq E.TY f.type).sz)).toArray w:=by
    intro w;have:=key F'.toList (λ f hf=>aw.closed t fs fU (f.offset,f.type) (by rw [tq];exact List.mem_map.2 ⟨f,hf,rfl⟩)) w;have he:F'=F'.toList.toArray:=by simp
    rw [he,List.mapM_toArray];simp [this]
   have Fa:∀j o u,cZ fs j=some (o,u)->(F'.toList.map λ f=>(f.offset,(aq E.TY f.type).sz)).toArray[j]? =some (o,E.sz u):=by
    intro j o u ho;have:=b9 ho;rw [tq,List.getElem?_map]at this;cases hg:F'.toList[j]? with
    |none=>rw [hg]at this;cases this
    |some f=>rw [hg]at this;cases this;simp only [List.getElem?_toArray,List.getElem?_map,hg];rfl
   obtain⟨cells',h4,h5⟩:=CR (e:=e) (place:=λ j=>(F'.toList.map λ f=>(f.offset,(aq E.TY f.type).sz)).toArray[j]?) Fa h1 eZ hr;refine aF hd (u:=.agg cells') ?_ ⟨cells',rfl,h5⟩;have b7:(underlying t).run P w= .ok (.struct F') w:=by simp [underlying,hu]
   simp only [List.getElem?_toArray,List.getElem?_map,Array.getElem?_toList]at h4;simp [execOp,ho,Instr.build,mr,b7,gb];rw [h4]
   rfl
  ·rename_i n el fU
   obtain⟨h0,h⟩:=aC h;obtain⟨m,h1,h⟩:=au h;cases h;have fU:(aq E.TY t).d= .arr n el:=fU;have hu:=gO aw fU;have Mf:=aw.at (t:=el) (.inl (lU h0));obtain⟨cells',h4,h5⟩:=we (e:=e) (place:=λ i=>some (i*E.sz el,E.sz el)) (λ i=>rfl) h1 eZ hr;refine aF hd (u:=.agg cells') ?_ ⟨cells',rfl,h5⟩;have b7:(underlying t).run P w= .ok (.array n el) w:=by simp [underlying,hu]
   have h4:Instr.fill (λ i=>some (i*(aq E.TY el).sz,(aq E.TY el).sz)) z.cells (ps.toList.map λ(i,x)=>(i,e x))=some cells':=h4;simp [execOp,ho,Instr.build,mr,b7,Mf.size,h4]
  ·cases h
theorem ni(hz:xg P E.TY E.TZ)(aw:aO P E.TY){el:Nat}(h1:vO (E.z el) (E.sz el)=true)(h2:Nat.ble 1 (E.sz el)=true):∃i z,P.info? el=some i/\i.zero=some z/\i.size=E.sz el/\i.bytes=(aq E.TY el).bytes/\z.cells.size=E.sz el/\(∀ρ,cF ρ (E.z el) z.cells.toList):=by
 have h3:=ud h1;have h4:=ah h2;obtain⟨i,z,hi,gg,hr,_⟩:=hz.row el (by show E.z el≠[];intro e;rw [e]at h3;simp at h3;omega);obtain⟨i',u,zm,_,h5,h6,_⟩:=(aw.at (t:=el) (.inl (lU h2))).row;rw [hi]at zm;cases zm;refine⟨i,z,hi,gg,h5,h6,?_,hr⟩;have:=(hr (λ _=>none)).len;rw [Array.length_toList]at this;rw [this];exact h3
theorem IZ(aw:aO P E.TY)(hz:xg P E.TY E.TZ){t n:Nat}{ps:Array (Nat × Operand)}(h:CE E T t n ps.toList s=some (v,s'))(ho:oo.op= .buildSlice t n ps)(hd:Hd ρ s.H.get s.nx w)(he:∀x∈oo.op.operands,dU ρ (cJ T x) (e x)):jF P e oo ρ s s' w v:=by
 rw [ho]at he;have eZ:∀i x,(i,x)∈ps.toList->dU ρ (cJ T x) (e x):=λ i x hx=>he x (by simp only [Op.operands,List.mem_toArray,List.mem_map];exact⟨_,hx,rfl⟩);obtain⟨el,h1,h⟩:=au h;obtain⟨h2,h⟩:=aC h;obtain⟨h3,h⟩:=aC h;obtain⟨h4,h⟩:=aC h;obtain⟨l,h5,h⟩:=au h;cases h;obtain⟨i,z,hi,gg,bk,_,xq,hr⟩:=ni hz aw h2 h3;have hu:=bV aw (ju h1);have aI:=aw.at (t:=el) (.inl (lU h3));have h30:=ah h3;have h40:=ah h4;have hm:=AE (hr ρ) aa n;rw [xq]at hm;obtain⟨cells',h6,h7⟩:=we (e:=e) (place:=λ i=>some (i*E.sz el,E.sz el)) (λ i=>rfl) h5 eZ hm;have b7:(underlying t).run P w= .ok (.slice el) w:=by simp [underlying,hu]
 have tk:(sizeOf el).run P w= .ok (E.sz el) w:=aI.size w;have mr:(zeroValue el).run P w= .ok z w:=by simp [zeroValue,typeInfo,hi,gg]
 have Ww:¬(2 ^ 24<n*E.sz el):=aa
 have wg:((Array.range (n*E.sz el)).map λ j=>((if n*E.sz el=0 then #[] else z.cells):Array Value)[j % ((if n*E.sz el=0 then #[] else z.cells):Array Value).size]!)=(Array.range (n*E.sz el)).map λ j=>z.cells[j % E.sz el]! :=by
  by_cases h0:n*E.sz el=0
  ·rw [h0];simp
  ·rw [if_neg h0,xq]
 refine wa hd (l:=l) (u:=.slice (some ⟨w.heap.size,0,none⟩) n n) (cs:=cells') (ty:=el) (w':={ w with heap:=w.heap.push (.cells cells' el) }) ?_ rfl ⟨⟨rfl,rfl⟩,rfl,Nat.le_refl _⟩ h7 λ ρ' h=>⟨_,_,_,h,Nat.le_refl _,rfl,rfl⟩;have h6:Instr.fill (λ i=>some (i*E.sz el,E.sz el)) ((Array.range (n*E.sz el)).map λ j=>((if n*E.sz el=0 then #[] else z.cells):Array Value)[j % ((if n*E.sz el=0 then #[] else z.cells):Array Value).size]!) (ps.toList.map λ(i,x)=>(i,e x))=some cells':=by rw [wg];exact h6
 by_cases h0:n*E.sz el=0
 ·rw [if_pos h0]at h6
  simp [execOp,ho,Instr.buildSlice,b7,tk,h0]at h6 ⊢;simp [h6,newRow]
 ·rw [if_neg h0]at h6
  have JP:¬(n=0\/E.sz el=0):=by rw [<-Nat.mul_eq_zero];exact h0
  simp [execOp,ho,Instr.buildSlice,b7,tk,Ww,h0,mr,h6,newRow]
theorem P7(aw:aO P E.TY)(hz:xg P E.TY E.TZ){t:Nat}{l c:Operand}(h:LR E T t l c s=some (v,s'))(ho:oo.op= .makeSlice t l c)(hd:Hd ρ s.H.get s.nx w)(he:∀x∈oo.op.operands,dU ρ (cJ T x) (e x)):jF P e oo ρ s s' w v:=by
 rw [ho]at he;obtain⟨el,h1,h⟩:=au h;obtain⟨ln,h2,h⟩:=au h;obtain⟨cn,h3,h⟩:=au h;obtain⟨h4,h⟩:=aC h;obtain⟨h5,h⟩:=aC h;obtain⟨h6,h⟩:=aC h;obtain⟨h7,h⟩:=aC h;obtain⟨h8,h⟩:=aC h;cases h;obtain⟨kl,e1,_⟩:=qC h2 (he l (by simp [Op.operands]));obtain⟨kc,e2,_⟩:=qC h3 (he c (by simp [Op.operands]));obtain⟨i,z,hi,gg,bk,tt,xq,hr⟩:=ni hz aw h4 h5;have hu:=bV aw (ju h1);have h50:=ah h5;have h60:=ah h6;have h70:=ah h7;have h80:=ah h8;have hmul:i.bytes*cn<=1000000*1000000:=Nat.mul_le_mul (by rw [tt];exact h80) h70;have aK:=run_make (P:=P) w t el i z hu hi gg kl kc (ln:Int) (cn:Int) aa aa (by have:((i.bytes*cn:Nat):Int)<=((1000000*1000000:Nat):Int):=Int.ofNat_le.2 hmul;rw [Int.natCast_mul]at this;omega) aa;simp only [Int.toNat_natCast]at aK;have hm:=AE (hr ρ) aa cn;rw [xq]at hm;refine wa hd (l:=CB (E.z el) cn []) (u:=.slice (some ⟨w.heap.size,0,none⟩) ln cn) (cs:=madeCells z.cells (cn*i.size)) (ty:=el) (w':=w.alloc (.cells (madeCells z.cells (cn*i.size)) el)) ?_ rfl ⟨⟨rfl,rfl⟩,rfl,Nat.le_refl _⟩ ?_ λ ρ' h=>⟨_,_,_,h,h60,rfl,rfl⟩
 ·simp [execOp,ho,e1,e2,aK]
 ·rw [bk]
  unfold madeCells;rw [xq];exact hm
theorem uj{x:Option Operand}{r:Option Nat}(h:IM T x=some r)(he:∀y,x=some y->dU ρ (cJ T y) (e y)):(x=none/\r=none)\/∃y n k,x=some y/\r=some n/\e y= .int k n/\eD k n:=by
 cases x with
 |none=>cases h;exact .inl ⟨rfl,rfl⟩
 |some y=>
  obtain⟨n,h1,h2⟩:=au h;cases h2;obtain⟨k,h3,h4⟩:=qC h1 (he y rfl);exact .inr ⟨y,n,k,rfl,rfl,h3,h4⟩
theorem fV{k:IntKind}{n y:Nat}(code:BoundsCode)(h:n<=y):(Instr.sliceBound (.int k (n:Int)) y code).run P w= .ok n w:=by
 simp [Instr.sliceBound,asIntOf,h]
theorem I0(b off n:Nat):(⟨b,off,none⟩:Addr).add n=⟨b,off+n,none⟩:=aQ b off n
theorem Mg(aw:aO P E.TY){t:Nat}{x:Operand}{lo hi mx:Option Operand}(h:GP E T t x lo hi mx s=some (v,s'))(ho:oo.op= .slice t x lo hi mx)(hd:Hd ρ s.H.get s.nx w)(he:∀x∈oo.op.operands,dU ρ (cJ T x) (e x)):jF P e oo ρ s s' w v:=by
 rw [ho]at he;obtain⟨sv,h1,h⟩:=au h;obtain⟨l,h2,h⟩:=au h;obtain⟨hh,h3,h⟩:=au h;obtain⟨m,h4,h⟩:=au h;obtain⟨el,h5,h⟩:=au h;obtain⟨h6,h⟩:=aC h;obtain⟨r,h7,rfl,rfl⟩:=E7 h;have hx:=AA h1 (he x (by simp [Op.operands]));have JB:=uj (e:=e) h2 λ y hy=>he y (by simp [Op.operands,hy]);have hhi:=uj (e:=e) h3 λ y hy=>he y (by simp [Op.operands,hy]);have Xr:=uj (e:=e) h4 λ y hy=>he y (by simp [Op.operands,hy]);obtain⟨b,c,cap,g1,g2,g3,g4⟩:=hx;have hu:=bV aw (ju h5);have b7:(underlying t).run P w= .ok (.slice el) w:=by simp [underlying,hu]
 have tk:(sizeOf el).run P w= .ok (E.sz el) w:=(aw.at (t:=el) (.inl (lU h6))).size w
 have fin:∀(l' h' m':Nat),kW 0 l=l'->kW sv.len hh=h'->kW cap m=m'->(m≠none->hh≠none)->l'<=h'->h'<=m'->m'<=cap->
   (execOp e oo).run P w= .ok (.value (.slice (some (if m'=l' then ⟨b,sv.off,none⟩ else ⟨b,sv.off+l'*E.sz el,none⟩)) (h' - l') (m' - l'))) w:=by
  intro l' h' m' e1 e2 e3 e4 b1 b2 b3
  have hb:(Instr.sliceBounds true sv.len cap (lo.map e) (hi.map e) (mx.map e)).run P w= .ok (l',h',m') w:=by
   rcases Xr with ⟨rfl,rfl⟩|⟨ym,nm,km,rfl,rfl,em,_⟩
   ·simp only [kW]at e3;subst e3
    rcases hhi with ⟨rfl,rfl⟩|⟨yh,nh,kh,rfl,rfl,eh,_⟩
    ·simp only [kW]at e2;subst e2
     rcases JB with ⟨rfl,rfl⟩|⟨yl,nl,kl,rfl,rfl,el',_⟩
     ·simp only [kW]at e1;subst e1;simp [Instr.sliceBounds]
     ·simp only [kW]at e1;subst e1;simp [Instr.sliceBounds,el',fV _ b1]
    ·simp only [kW]at e2;subst e2
     rcases JB with ⟨rfl,rfl⟩|⟨yl,nl,kl,rfl,rfl,el',_⟩
     ·simp only [kW]at e1;subst e1;simp [Instr.sliceBounds,eh,fV _ b2]
     ·simp only [kW]at e1;subst e1;simp [Instr.sliceBounds,eh,el',fV _ b1,fV _ b2]
   ·simp only [kW]at e3;subst e3
    rcases hhi with ⟨rfl,rfl⟩|⟨yh,nh,kh,rfl,rfl,eh,_⟩
    ·exact absurd rfl (e4 (by simp))
    ·simp only [kW]at e2;subst e2
     rcases JB with ⟨rfl,rfl⟩|⟨yl,nl,kl,rfl,rfl,el',_⟩
     ·simp only [kW]at e1;subst e1;simp [Instr.sliceBounds,em,eh,fV _ b2,fV _ b3]
     ·simp only [kW]at e1;subst e1;simp [Instr.sliceBounds,em,eh,el',fV _ b1,fV _ b2,fV _ b3]
  have Wx:∀w,(Instr.sliceAt t (e x) (lo.map e) (hi.map e) (mx.map e)).run P w=(Instr.slice t (e x) (lo.map e) (hi.map e) (mx.map e)).run P w:=λ w=>by
   have:(underlying t).run P w= .ok (.slice el) w:=by simp [underlying,hu]
   simp [Instr.sliceAt,this]
  have:(Instr.slice t (e x) (lo.map e) (hi.map e) (mx.map e)).run P w= .ok (.slice (some (if m'=l' then ⟨b,sv.off,none⟩ else ⟨b,sv.off+l'*E.sz el,none⟩)) (h' - l') (m' - l')) w:=by
   rw [g3];simp [Instr.slice,b7,hb,tk];split<;>simp [I0]
  simp [execOp,ho,Wx,this]
 have done:∀{l' h' m':Nat} {r:CC},(execOp e oo).run P w= .ok (.value (.slice (some (if m'=l' then ⟨b,sv.off,none⟩ else ⟨b,sv.off+l'*E.sz el,none⟩)) (h' - l') (m' - l'))) w->h'<=m'->(r=An sv.k sv.off (E.sz el) l' h' m')->jF P e oo ρ s s w (.c r):=by
  intro l' h' m' r aK hle hr;refine aF hd aK ?_;subst hr;unfold An;cases hb:Nat.beq m' l' with
  |true=>
   have:=ay.1 hb;rw [if_pos this];exact⟨b,c,_,g1,aa,rfl,rfl⟩
  |false=>
   rw [if_neg (beq_false hb)];exact⟨b,c,_,g1,aa,rfl,rfl⟩
 cases m with
 |some m=>
  cases hh with
  |none=>cases h7
  |some hh=>
   obtain⟨b1,h7⟩:=aC h7;obtain⟨b2,h7⟩:=aC h7;obtain⟨b3,h7⟩:=aC h7;cases h7;have b1:=ah b1;have b2:=ah b2;have b3:=ah b3
   have b4:m<=cap:=by
    unfold LN at b3;cases hc:sv.cap with
    |n n=>rw [hc]at b3 g4;have g4:cap=n:=g4;simp only at b3;omega
    |g=>rw [hc]at b3;simp only at b3;omega
    |u=>rw [hc]at b3;simp only at b3;omega
   exact done (fin _ hh m rfl rfl rfl (λ _=>by simp) b1 b2 b4) b2 rfl
 |none=>
  have h7:CD (E.sz el) sv (kW 0 l) (kW sv.len hh)=some r:=h7;generalize hH:kW sv.len hh=H at h7;generalize hL:kW 0 l=L at h7;obtain⟨b1,h7⟩:=aC h7;have b1:=ah b1
  have open_:GM (E.sz el) sv L H=some r->jF P e oo ρ s s w (.c r):=by
   intro h7;obtain⟨b2,h7⟩:=aC h7;have b2:=ah b2;cases L with
   |zero=>
    obtain⟨b3,h7⟩:=aC h7;have b3:=ah b3;cases h7;have aK:=fin 0 H cap hL hH rfl (λ h=>absurd rfl h) (Nat.zero_le _) aa (Nat.le_refl _);rw [if_neg aa,Nat.sub_zero,Nat.sub_zero]at aK;exact aF hd aK ⟨b,c,cap,g1,aa,by simp,g4⟩
   |succ L=>
    obtain⟨b3,h7⟩:=aC h7;have b3:=ah b3;cases h7;have aK:=fin (L+1) H cap hL hH rfl (λ h=>absurd rfl h) b1 aa (Nat.le_refl _);rw [if_neg aa]at aK;exact aF hd aK ⟨b,c,_,g1,aa,rfl,ag⟩
  cases hc:sv.cap with
  |n n=>
   rw [hc]at h7 g4;have g4:cap=n:=g4;obtain⟨b2,h7⟩:=aC h7;have b2:=ah b2;cases h7;subst g4;exact done (fin L H cap hL hH rfl (λ h=>absurd rfl h) b1 b2 (Nat.le_refl _)) b2 rfl
  |g=>rw [hc]at h7;exact open_ h7
  |u=>rw [hc]at h7;exact open_ h7
end
end Go.CM
end
