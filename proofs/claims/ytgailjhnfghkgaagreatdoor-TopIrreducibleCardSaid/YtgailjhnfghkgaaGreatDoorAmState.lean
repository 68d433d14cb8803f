import Derived.Calls
import Derived.Orders
import Derived.Still
import Derived.Lib.TrailingZeros
universe u
theorem aa{a:Prop}(h:a:=by omega):a:=h
theorem ae{a b:Prop}(x:a)(y:b):a/\b:=⟨x,y⟩
theorem af{a:Sort u}{p:a->Prop}(w:a)(h:p w):∃x,p x:=⟨w,h⟩
theorem ag:True:=True.intro
theorem ah{n m:Nat}(h:Nat.ble n m=true):n<=m:=Nat.le_of_ble_eq_true h
section
namespace Go.AM
open Go
inductive BE where
 |lit (b:Bool)|v (b:Bool)|lt (x y:Int)|le (x y:Int)|eq (x y:Int)|ne (x y:Int)
def BE.val:BE->Bool
 |.lit b=>b|.v b=>b|.lt x y=>decide (x<y)|.le x y=>decide (x<=y)|.eq x y=>decide (x=y)|.ne x y=>decide (x≠y)
inductive RO where
 |ints (k:IntKind) (l:List Int)|aL (l:List Bool)|rows (k:IntKind) (l:List (List Int))|bw (l:List (List Bool))
 |bC (l:List (List (List Int)))|aT (l:List (Int × Int))|eY (n:Nat) (k:IntKind) (l:List (List Int))|cR (k:IntKind) (l:List (List Int))
 |cH (l:List (List (Int × Int)))
 |strs (l:List (List Int))|dK (l:List (List Int × List Int))|dP (l:List (Int × List Bool × Int))
inductive AV where
 |int (k:IntKind) (n:Int)|bool (e:BE)|ro (r:RO)|vec (k:Nat)|ptr (k off:Nat)|eH (r:RO) (i:Int)|dS (k:Nat) (i:Int)|gd (k:Nat) (i:Int) (j:Nat)|gf (k:Nat) (i:Int)
 |agg (l:List AV)|cC (l:List AV)|ao|bK|any|fn (f:FuncId) (cap:List AV)|new (r:RO)|may (b:Bool) (n:Nat)|full (r:RO)|str (l:List Int)|tP (f:FuncId) (r:RO) (i:Int)
inductive iC where
 |int (k:IntKind)|arr (n:Nat) (k:IntKind)|str
inductive dH where
 |vec (wm:Nat) (r:RO) (ov:List (Int × Nat))
 |box (l:List AV)
 |map (kd:iC) (vk:Option IntKind) (m:List (List Int × Int))
 |deep (r:RO) (hole:Option Int)
 |dE (n:Nat) (r:RO)
 |ma (n sz:Nat)
abbrev ai:=List (Nat × dH)
def loc(k:Nat):Bool:=match Nat.ble 1000 k with|true=>false|false=>true
def kq:IntKind->IntKind->Bool
 |.i8,.i8=>true|.i16,.i16=>true|.i32,.i32=>true|.i64,.i64=>true|.u8,.u8=>true|.u16,.u16=>true|.u32,.u32=>true|.u64,.u64=>true|_,_=>false
def bH(b:Bool)(p:Prop):Prop:=match b with|true=>p|false=>False
inductive GJ where
 |int (k:IntKind)|bool|str|slice (e:Nat)|arr (n e:Nat)|struct (fs:List (Nat × Nat))|map (k e:Nat)|other
structure cP where
 d:GJ
 sz:Nat
 bytes:Nat
 zero:List AV
def aq:List cP->Nat->cP
 |[],_=>⟨.other,0,0,[]⟩|a::_,0=>a|_::l,n+1=>aq l n
def RO.sz:RO->Nat
 |.aT _=>2|.dK _=>2|.dP _=>3|.eY n _ _=>n+2|_=>1
def RO.len:RO->Nat
 |.ints _ l=>l.length|.aL l=>l.length|.rows _ l=>l.length|.bw l=>l.length|.bC l=>l.length|.aT l=>l.length|.eY _ _ l=>l.length|.cR _ l=>l.length|.cH l=>l.length|.strs l=>l.length|.dK l=>l.length|.dP l=>l.length
def jD(r:RO)(K:Nat->Prop):Prop:=
 match r with
 |.ints _ l=>K l.length|.aL l=>K l.length|.rows _ l=>K l.length|.bw l=>K l.length|.bC l=>K l.length|.aT l=>K l.length|.eY _ _ l=>K l.length|.cR _ l=>K l.length|.cH l=>K l.length|.strs l=>K l.length|.dK l=>K l.length|.dP l=>K l.length
def Qy:Nat->IntKind->List Int->Nat->List AV
 |0,_,_,_=>[]|n+1,k,m,j=>.int k (m.getD j 0)::Qy n k m (j+1)
def Uc:Nat->IntKind->List Int->Nat->(List AV->Prop)->Prop
 |0,_,_,_,K=>K []|n+1,k,m,j,K=>Uc n k m (j+1) λ r=>K (.int k (m.getD j 0)::r)
def RO.get:RO->Nat->AV
 |.ints k l,i=>.int k (l.getD i 0)|.aL l,i=>.bool (.v (l.getD i false))|.rows k l,i=>.ro (.ints k (l.getD i []))
 |.bw l,i=>.ro (.aL (l.getD i []))|.bC l,i=>.ro (.rows .i64 (l.getD i []))|.aT l,i=>.agg [.int .i64 (l.getD i (0,0)).1,.int .i64 (l.getD i (0,0)).2]
 |.eY n k l,i=>.agg (Qy (n+2) k (l.getD i []) 0)
 |.cR k l,i=>if l.getD i []=[] then .ao else .ro (.ints k (l.getD i []))
 |.cH l,i=>.ro (.aT (l.getD i []))
 |.strs l,i=>.str (l.getD i [])|.dK l,i=>.agg [.str (l.getD i ([],[])).1,.str (l.getD i ([],[])).2]
 |.dP l,i=>.agg [.int .i64 (l.getD i (0,[],0)).1,.ro (.aL (l.getD i (0,[],0)).2.1),.int .i64 (l.getD i (0,[],0)).2.2]
def Jp(r:RO)(i:Int)(K:AV->Prop):Prop:=
 match r with
 |.ints k l=>K (.int k (l.getD i.toNat 0))|.aL l=>K (.bool (.v (l.getD i.toNat false)))|.rows k l=>K (.ro (.ints k (l.getD i.toNat [])))
 |.bw l=>K (.ro (.aL (l.getD i.toNat [])))|.bC l=>K (.ro (.rows .i64 (l.getD i.toNat [])))
 |.aT l=>K (.agg [.int .i64 (l.getD i.toNat (0,0)).1,.int .i64 (l.getD i.toNat (0,0)).2])
 |.eY n k l=>Uc (n+2) k (l.getD i.toNat []) 0 λ m=>K (.agg m)
 |.cR k l=>(l.getD i.toNat []=[]->K .ao)/\(l.getD i.toNat []≠[]->K (.ro (.ints k (l.getD i.toNat []))))
 |.cH l=>K (.ro (.aT (l.getD i.toNat [])))
 |.strs l=>K (.str (l.getD i.toNat []))|.dK l=>K (.agg [.str (l.getD i.toNat ([],[])).1,.str (l.getD i.toNat ([],[])).2])
 |.dP l=>K (.agg [.int .i64 (l.getD i.toNat (0,[],0)).1,.ro (.aL (l.getD i.toNat (0,[],0)).2.1),.int .i64 (l.getD i.toNat (0,[],0)).2.2])
def adV(e:BE)(K:Bool->Prop):Prop:=match e with|.lit b=>K b|.v b=>K b|e=>K e.val
def Qz(r:RO)(i:Int)(v:AV)(K:RO->Prop):Prop:=
 match r,v with
 |.ints k l,.int k' n=>bH (kq k k')<|K (.ints k (l.set i.toNat n))
 |.aL l,.bool e=>(match e with|.lit b=>K (.aL (l.set i.toNat b))|.v b=>K (.aL (l.set i.toNat b))|e=>K (.aL (l.set i.toNat e.val)))
 |.rows k l,.ro (.ints k' m)=>bH (kq k k')<|K (.rows k (l.set i.toNat m))
 |.rows k l,.ao=>K (.rows k (l.set i.toNat []))
 |.bw l,.ro (.aL m)=>K (.bw (l.set i.toNat m))
 |.bw l,.ao=>K (.bw (l.set i.toNat []))
 |.bC l,.ro (.rows .i64 m)=>K (.bC (l.set i.toNat m))
 |.bC l,.ao=>K (.bC (l.set i.toNat []))
 |.aT l,.agg [.int .i64 a,.int .i64 b]=>K (.aT (l.set i.toNat (a,b)))
 |.cR k l,.ao=>K (.cR k (l.set i.toNat []))
 |.strs l,.str m=>K (.strs (l.set i.toNat m))
 |_,_=>False
def Du(r s:RO)(K:RO->Prop):Prop:=
 match r,s with
 |.ints k l,.ints k' m=>bH (kq k k')<|K (.ints k (l++m))
 |.aL l,.aL m=>K (.aL (l++m))
 |.rows k l,.rows k' m=>bH (kq k k')<|K (.rows k (l++m))
 |.bw l,.bw m=>K (.bw (l++m))
 |.bC l,.bC m=>K (.bC (l++m))
 |.aT l,.aT m=>K (.aT (l++m))
 |.cH l,.cH m=>K (.cH (l++m))
 |.eY n k l,.eY n' k' m=>bH (Nat.beq n n')<|bH (kq k k')<|K (.eY n k (l++m))
 |.strs l,.strs m=>K (.strs (l++m))
 |.dK l,.dK m=>K (.dK (l++m))
 |.dP l,.dP m=>K (.dP (l++m))
 |_,_=>False
def BH(r:RO)(a b:Nat)(K:RO->Prop):Prop:=
 match r with
 |.ints k l=>K (.ints k ((l.take b).drop a))|.aL l=>K (.aL ((l.take b).drop a))|.rows k l=>K (.rows k ((l.take b).drop a))
 |.bw l=>K (.bw ((l.take b).drop a))|.bC l=>K (.bC ((l.take b).drop a))|.aT l=>K (.aT ((l.take b).drop a))
 |.eY n k l=>K (.eY n k ((l.take b).drop a))|.cR k l=>K (.cR k ((l.take b).drop a))
 |.cH l=>K (.cH ((l.take b).drop a))
 |.strs l=>K (.strs ((l.take b).drop a))
 |.dK l=>K (.dK ((l.take b).drop a))
 |.dP _=>False
def wI:List AV->Bool
 |[.int .i64 (.ofNat 0),.int .i64 (.ofNat 0)]=>true|_=>false
def ld(k:IntKind):Nat->List AV->Bool
 |0,[]=>true|n+1,.int k' (.ofNat 0)::l=>(match kq k k' with|true=>ld k n l|false=>false)|_,_=>false
def qJ:List AV->Bool
 |[.str [],.str []]=>true|_=>false
def Hs:List AV->Bool
 |[.int .i64 (.ofNat 0),.ao,.int .i64 (.ofNat 0)]=>true|_=>false
def Ht:List AV->Bool
 |[.str []]=>true|_=>false
def rI(TY:List cP)(e:Nat)(fr:(α:Type)->α->List α)(K:RO->Prop):Prop:=
 match (aq TY e).d with
 |.int k=>K (.ints k (fr _ 0))
 |.bool=>K (.aL (fr _ false))
 |.str=>bH (Ht (aq TY e).zero)<|K (.strs (fr _ []))
 |.slice f=>(match (aq TY f).d with
  |.int k=>K (.rows k (fr _ []))
  |.bool=>K (.bw (fr _ []))
  |.slice g=>(match (aq TY g).d with|.int .i64=>K (.bC (fr _ []))|_=>False)
  |.arr 2 g=>(match (aq TY g).d with|.int .i64=>K (.cH (fr _ []))|_=>False)
  |_=>False)
 |.arr 2 f=>(match (aq TY f).d with|.int .i64=>bH (wI (aq TY e).zero)<|K (.aT (fr _ (0,0)))|_=>False)
 |.arr (n+2) f=>(match (aq TY f).d with|.int k=>bH (ld k (n+2) (aq TY e).zero)<|K (.eY n k (fr _ (List.replicate (n+2) 0)))|_=>False)
 |.struct _=>(match qJ (aq TY e).zero with
  |true=>K (.dK (fr _ ([],[])))
  |false=>match Hs (aq TY e).zero with
  |true=>K (.dP (fr _ (0,[],0)))
  |false=>bH (wI (aq TY e).zero)<|K (.aT (fr _ (0,0))))
 |_=>False
def pw(TY:List cP)(e:Nat)(n:Nat)(K:RO->Prop):Prop:=rI TY e (λ _ a=>List.replicate n a) K
def uX(TY:List cP)(e:Nat)(K:RO->Prop):Prop:=rI TY e (λ _ _=>[]) K
def FD(b:Nat)(n:Int)(K:Prop):Prop:=
 match Nat.ble b 8 with
 |true=>n<=17592186044416/\K
 |false=>bH (Nat.ble b 64) (n<=2199023255552/\K)
def iq{α:Type}:List α->α->(List α->Prop)->Prop
 |[],x,K=>K [x]|a::l,x,K=>iq l x λ m=>K (a::m)
def dN(d:Option Nat)(K:Nat->Prop):Prop:=match d with|some d=>K d|none=>K 999
def nth:List AV->Nat->AV
 |[],_=>.any|a::_,0=>a|_::l,n+1=>nth l n
def kF(a:AV)(K:AV->Prop):Prop:=
 match a with
 |.int k n=>K (.int k n)|.bool e=>(match e with|.lit b=>K (.bool (.lit b))|.v b=>K (.bool (.v b))|.lt x y=>K (.bool (.lt x y))|.le x y=>K (.bool (.le x y))|.eq x y=>K (.bool (.eq x y))|.ne x y=>K (.bool (.ne x y)))
 |.ro r=>K (.ro r)|.vec k=>K (.vec k)|.ptr k o=>K (.ptr k o)|.eH r i=>K (.eH r i)|.dS k i=>K (.dS k i)|.gd k i j=>K (.gd k i j)|.gf k i=>K (.gf k i)
 |.agg l=>K (.agg l)|.cC l=>K (.cC l)|.ao=>K .ao|.bK=>K .bK|.any=>K .any|.fn f c=>K (.fn f c)|.new r=>K (.new r)|.may b n=>K (.may b n)|.full r=>K (.full r)|.str l=>K (.str l)|.tP f r i=>K (.tP f r i)
def wR:List AV->Nat->AV->(List AV->Prop)->Prop
 |[],_,_,k=>k []
 |_::l,0,v,k=>k (v::l)
 |a::l,n+1,v,k=>wR l n v λ l'=>k (a::l')
def iL(d:Option Nat)(T:List AV)(v:AV)(K:List AV->Prop):Prop:=
 match d with|none=>K T|some d=>wR T d v K
def xD(k:IntKind)(n:Int):Bool:=
 match n with
 |.ofNat m=>(match k with
  |.i64=>Nat.ble m 9223372036854775807|.u64=>Nat.ble m 18446744073709551615|.i32=>Nat.ble m 2147483647|.u8=>Nat.ble m 255|_=>Nat.ble m 127)
 |.negSucc m=>(match k with
  |.i64=>Nat.ble m 9223372036854775807|.i32=>Nat.ble m 2147483647|.i16=>Nat.ble m 127|.i8=>Nat.ble m 127|_=>false)
def AQ:Value->AV
 |.int k n=>(match xD k n with|true=>.int k n|false=>.any)|.bool b=>.bool (.lit b)|.slice none 0 0=>.ao|.map none=>.bK|.string s=>(match Nat.beq s.size 0 with|true=>.str []|false=>.any)|_=>.any
def bf(T:List AV)(x:Operand)(K:AV->Prop):Prop:=
 match x with
 |.tmp t=>kF (nth T t) K
 |.const v=>kF (AQ v) K
 |.func f=>K (.fn f [])
 |.global _=>K .any
def gK(T:List AV):List Operand->(List AV->Prop)->Prop
 |[],K=>K []
 |x::l,K=>bf T x λ a=>gK T l λ m=>K (a::m)
def aj:ai->Nat->Option dH
 |[],_=>none
 |(j,b)::S,k=>match Nat.beq j k with|true=>some b|false=>aj S k
def ku:ai->Nat->dH->(ai->Prop)->Prop
 |[],_,_,K=>K []
 |(j,b)::S,k,c,K=>match Nat.beq j k with|true=>K ((j,c)::S)|false=>ku S k c λ S'=>K ((j,b)::S')
def kL:ai->Nat->(ai->Prop)->Prop
 |[],_,K=>K []
 |(j,b)::S,k,K=>match Nat.beq j k with|true=>kL S k K|false=>kL S k λ S'=>K ((j,b)::S')
def ft(k:Nat)(to:AV)(a:AV)(K:AV->Prop):Prop:=
 match a with
 |.vec j=>(match Nat.beq j k with|true=>K to|false=>K (.vec j))
 |.ptr j o=>(match Nat.beq j k with|true=>K .any|false=>K (.ptr j o))
 |.dS j o=>(match Nat.beq j k with|true=>K .any|false=>K (.dS j o))
 |.gd j o c=>(match Nat.beq j k with|true=>K .any|false=>K (.gd j o c))
 |.gf j o=>(match Nat.beq j k with|true=>K .any|false=>K (.gf j o))
 |.int k n=>K (.int k n)|.bool e=>K (.bool e)|.ro r=>K (.ro r)|.eH r i=>K (.eH r i)|.ao=>K .ao|.bK=>K .bK|.full r=>K (.full r)|.str l=>K (.str l)|.tP f r i=>K (.tP f r i)
 |.fn f []=>K (.fn f [])
 |_=>K .any
def sn(k:Nat)(to:AV):List AV->(List AV->Prop)->Prop
 |[],K=>K []
 |a::l,K=>ft k to a λ a'=>sn k to l λ l'=>K (a'::l')
def so(k:Nat)(to:AV):List AV->(List AV->Prop)->Prop
 |[],K=>K []
 |a::l,K=>
  match a with
  |.agg m=>sn k to m λ m'=>so k to l λ l'=>K (.agg m'::l')
  |a=>ft k to a λ a'=>so k to l λ l'=>K (a'::l')
def cU(k:Nat)(to:AV):List AV->(List AV->Prop)->Prop
 |[],K=>K []
 |a::l,K=>
  match a with
  |.agg m=>sn k to m λ m'=>cU k to l λ l'=>K (.agg m'::l')
  |.cC m=>so k to m λ m'=>cU k to l λ l'=>K (.cC m'::l')
  |.fn f m=>sn k to m λ m'=>cU k to l λ l'=>K (.fn f m'::l')
  |a=>ft k to a λ a'=>cU k to l λ l'=>K (a'::l')
def setRow(r:RO)(i:Int)(s:RO)(K:RO->Prop):Prop:=
 match r,s with
 |.rows k l,.ints k' m=>bH (kq k k')<|K (.rows k (l.set i.toNat m))
 |.bw l,.aL m=>K (.bw (l.set i.toNat m))
 |.bC l,.rows .i64 m=>K (.bC (l.set i.toNat m))
 |.cR k l,.ints k' m=>bH (kq k k')<|m≠[]/\K (.cR k (l.set i.toNat m))
 |_,_=>False
def b5(k:Nat)(to:AV):ai->(ai->Prop)->Prop
 |[],K=>K []
 |(j,b)::S,K=>
  match b with
  |.box m=>sn k to m λ m'=>b5 k to S λ S'=>K ((j,.box m')::S')
  |.vec wm r []=>b5 k to S λ S'=>K ((j,.vec wm r [])::S')
  |.vec wm r [(i,h)]=>(match Nat.beq h k with
   |false=>b5 k to S λ S'=>K ((j,.vec wm r [(i,h)])::S')
   |true=>(match to with
    |.ro s=>setRow r i s λ r'=>b5 k to S λ S'=>K ((j,.vec wm r' [])::S')
    |_=>False))
  |.map kd vk m=>b5 k to S λ S'=>K ((j,.map kd vk m)::S')
  |.deep r h=>b5 k to S λ S'=>K ((j,.deep r h)::S')
  |.dE n r=>b5 k to S λ S'=>K ((j,.dE n r)::S')
  |.ma n z=>b5 k to S λ S'=>K ((j,.ma n z)::S')
  |_=>False
def iH(k:Nat)(T:List AV)(S:ai)(K:List AV->ai->Prop):Prop:=
 bH (loc k)<|kL S k λ S=>cU k .any T λ T=>b5 k .any S λ S=>K T S
def uw(k:Nat)(T:List AV)(S:ai)(K:List AV->ai->Prop):Prop:=
 match aj S k with
 |some (.vec _ r [])=>kL S k λ S=>cU k (.ro r) T λ T=>b5 k (.ro r) S λ S=>K T S
 |some (.deep r none)=>kL S k λ S=>cU k (.ro r) T λ T=>b5 k (.ro r) S λ S=>K T S
 |_=>False
def n7:dH->Option RO
 |.vec _ r []=>some r|.deep r none=>some r|_=>none
def lZ:BE->(Bool->Prop)->Prop
 |.lit true,K=>K true|.lit false,K=>K false
 |.v b,K=>(b=true->K true)/\(b=false->K false)
 |.lt x y,K=>(x<y->K true)/\(y<=x->K false)
 |.le x y,K=>(x<=y->K true)/\(y<x->K false)
 |.eq x y,K=>(x=y->K true)/\(x≠y->K false)
 |.ne x y,K=>(x≠y->K true)/\(x=y->K false)
def W7(e:BE)(K:BE->Prop):Prop:=
 match e with
 |.lit true=>K (.lit false)|.lit false=>K (.lit true)|.v b=>K (.v (!b))|.lt x y=>K (.le y x)|.le x y=>K (.lt y x)|.eq x y=>K (.ne x y)|.ne x y=>K (.eq x y)
def eD(k:IntKind)(n:Int):Prop:=k.min<=n/\n<=k.max
def fP(k:IntKind)(n:Int):Prop:=
 match k with
 |.i64=> -9223372036854775808<=n/\n<=9223372036854775807
 |k=>k.min<=n/\n<=k.max
def sq(k:IntKind)(n:Int)(K:Prop):Prop:=
 match k with
 |.i64=>(-9223372036854775808<=n/\n<=9223372036854775807)/\K
 |.u64=>(0<=n/\n<=18446744073709551615)/\K
 |k=>(k.min<=n/\n<=k.max)/\K
def IP(k:IntKind)(a b:Int):Int:=k.wrap (BitVec.ofInt k.bits a &&& BitVec.ofInt k.bits b).toNat
def Vb(k:IntKind)(a b:Int):Int:=k.wrap (BitVec.ofInt k.bits a ||| BitVec.ofInt k.bits b).toNat
def Cz(k:IntKind)(a b:Int):Int:=k.wrap (a*2 ^ (min b.toNat k.bits))
def CA(k:IntKind)(a b:Int):Int:=a.fdiv (2 ^ (min b.toNat k.bits))
def Ud(TY:List cP)(t:Nat):Bool:=match (aq TY t).d with|.str=>true|_=>false
def iB(TY:List cP)(t:Nat):Bool:=match (aq TY t).d with|.slice _=>true|_=>false
def X1(TY:List cP)(t:Nat):Bool:=match (aq TY t).d with|.map _ _=>true|_=>false
def qw(TY:List cP)(t:Nat):Bool:=match (aq TY t).d with|.bool=>true|_=>false
def TS(TY:List cP)(t:Nat):Bool:=
 match (aq TY t).d with
 |.struct [(0,a),(1,b)]=>(match qJ (aq TY t).zero,(aq TY a).d,(aq TY b).d with|true,.str,.str=>true|_,_,_=>false)
 |_=>false
def MX(TY:List cP)(op:BinOp)(t:Nat)(l m:List AV)(K:AV->Prop):Prop:=
 match l,m with
 |[.str a,.str b],[.str c,.str d]=>bH (TS TY t) (match op with
  |.eql=>K (.bool (.v (a==c&&b==d)))
  |.neq=>K (.bool (.v (!(a==c&&b==d))))
  |_=>False)
 |_,_=>False
def AU(TY:List cP)(op:BinOp)(t:Nat)(x y:AV)(K:AV->Prop):Prop:=
 match x,y with
 |.int k a,.int k' b=>
  match op with
  |.shl=>0<=b/\K (.int k (Cz k a b))
  |.shr=>0<=b/\K (.int k (CA k a b))
  |_=>bH (kq k k')<|
   match op with
   |.lss=>K (.bool (.lt a b))|.gtr=>K (.bool (.lt b a))|.leq=>K (.bool (.le a b))|.geq=>K (.bool (.le b a))
   |.eql=>K (.bool (.eq a b))|.neq=>K (.bool (.ne a b))
   |.add=>sq k (a+b) (K (.int k (a+b)))
   |.sub=>sq k (a - b) (K (.int k (a - b)))
   |.mul=>sq k (a*b) (K (.int k (a*b)))
   |.quo=>(0<=a/\0<b)/\K (.int k (a / b))
   |.rem=>((0<=a/\0<b)/\K (.int k (a % b)))\/(0<b/\K (.int k (a.tmod b)))
   |.and=>K (.int k (IP k a b))
   |.or=>K (.int k (Vb k a b))
   |_=>False
 |.bool a,.bool b=>
  match op with
  |.eql=>bH (qw TY t)<|K (.bool (.v (a.val==b.val)))
  |.neq=>bH (qw TY t)<|K (.bool (.v (!(a.val==b.val))))
  |_=>False
 |.ro r,.ao=>bH (iB TY t) (match op with
  |.eql=>jD r λ n=>K (.may true n)
  |.neq=>jD r λ n=>K (.may false n)
  |_=>False)
 |.ao,.ao=>bH (iB TY t) (match op with
  |.eql=>K (.bool (.lit true))
  |.neq=>K (.bool (.lit false))
  |_=>False)
 |.agg l,.agg m=>MX TY op t l m K
 |.bK,.bK=>bH (X1 TY t) (match op with
  |.eql=>K (.bool (.lit true))
  |.neq=>K (.bool (.lit false))
  |_=>False)
 |.str a,.str b=>(match op with
  |.add=>a.length+b.length<=17592186044416/\K (.str (a++b))
  |.eql=>K (.bool (.v (a==b)))
  |.neq=>K (.bool (.v (!(a==b))))
  |_=>False)
 |_,_=>False
def iS:List AV->Bool
 |[]=>true|.bool (.lit false)::l=>iS l|_::_=>false
def Hr(TY:List cP)(t:Nat):Bool:=
 match (aq TY t).d with
 |.arr n e=>(match qw TY e,Nat.ble 8 n,iS (aq TY t).zero,Nat.ble (aq TY t).sz 1000000 with|true,true,true,true=>true|_,_,_,_=>false)
 |_=>false
def cZ:List (Nat × Nat)->Nat->Option (Nat × Nat)
 |[],_=>none|a::_,0=>some a|_::l,n+1=>cZ l n
def Dm:List AV->Nat->(List AV->Prop)->Prop
 |_,0,K=>K []
 |[],_+1,_=>False
 |a::l,n+1,K=>Dm l n λ m=>K (a::m)
def sU:List AV->Nat->(List AV->Prop)->Prop
 |l,0,K=>K l
 |[],_+1,_=>False
 |_::l,n+1,K=>sU l n K
def yd(TY:List cP)(t:Nat)(l:List AV)(off:Nat)(K:AV->Prop):Prop:=
 match (aq TY t).d with
 |.struct _=>sU l off λ l=>Dm l (aq TY t).sz λ m=>K (.agg m)
 |.arr _ _=>sU l off λ l=>Dm l (aq TY t).sz λ m=>K (.agg m)
 |_=>bH (Nat.beq (aq TY t).sz 1) (sU l off λ l=>match l with|a::_=>kF a K|[]=>False)
def Nj:List AV->List AV->(List AV->Prop)->Prop
 |l,[],K=>K l
 |[],_::_,_=>False
 |_::l,b::m,K=>Nj l m λ l'=>K (b::l')
def lY:List AV->Nat->List AV->(List AV->Prop)->Prop
 |l,0,m,K=>Nj l m K
 |[],_+1,_,_=>False
 |a::l,n+1,m,K=>lY l n m λ l'=>K (a::l')
def qW:List Operand->Nat->Bool
 |[],0=>true|_::l,n+1=>qW l n|_,_=>false
def c5:List AV->Nat->Bool
 |[],0=>true|_::l,n+1=>c5 l n|_,_=>false
def kG:AV->Bool
 |.agg _=>false|.cC _=>false|.new _=>false|.any=>false|.fn _ (_::_)=>false|.eH _ _=>false|.dS _ _=>false|.gd _ _ _=>false|.gf _ _=>false|.may _ _=>false|.full _=>false|_=>true
def qQ:List AV->Bool
 |[]=>true|a::l=>match kG a with|true=>qQ l|false=>false
def ik(TY:List cP)(t:Nat)(v:AV)(K:List AV->Prop):Prop:=
 match (aq TY t).d with
 |.struct _=>(match v with|.agg m=>(match c5 m (aq TY t).sz with|true=>K m|false=>False)|_=>False)
 |.arr _ _=>(match v with|.agg m=>(match c5 m (aq TY t).sz with|true=>K m|false=>False)|_=>False)
 |_=>match kG v with|true=>(match c5 [v] (aq TY t).sz with|true=>K [v]|false=>False)|false=>False
def wS(k:IntKind):List AV->(List Int->Prop)->Prop
 |[],K=>K []|.int k' n::l,K=>bH (kq k k')<|wS k l λ m=>K (n::m)|_::_,_=>False
def bu(r:RO):List AV->(RO->Prop)->Prop
 |[],K=>K r
 |a::l,K=>
  match r,a with
  |.ints k m,.int k' n=>bH (kq k k')<|iq m n λ m=>bu (.ints k m) l K
  |.aL m,.bool e=>iq m (e.val) λ m=>bu (.aL m) l K
  |.rows k m,.ro (.ints k' x)=>bH (kq k k')<|iq m x λ m=>bu (.rows k m) l K
  |.rows k m,.ao=>iq m [] λ m=>bu (.rows k m) l K
  |.bw m,.ro (.aL x)=>iq m x λ m=>bu (.bw m) l K
  |.bw m,.ao=>iq m [] λ m=>bu (.bw m) l K
  |.bC m,.ro (.rows .i64 x)=>iq m x λ m=>bu (.bC m) l K
  |.bC m,.ao=>iq m [] λ m=>bu (.bC m) l K
  |.aT m,.agg [.int .i64 x,.int .i64 y]=>iq m (x,y) λ m=>bu (.aT m) l K
  |.cH m,.ro (.aT x)=>iq m x λ m=>bu (.cH m) l K
  |.cH m,.ao=>iq m [] λ m=>bu (.cH m) l K
  |.eY n k m,.agg x=>bH (c5 x (n+2))<|wS k x λ y=>iq m y λ m=>bu (.eY n k m) l K
  |.strs m,.str x=>iq m x λ m=>bu (.strs m) l K
  |.dK m,.agg [.str x,.str y]=>iq m (x,y) λ m=>bu (.dK m) l K
  |.dP m,.agg [.int .i64 x,.ro (.aL y),.int .i64 z]=>iq m (x,y,z) λ m=>bu (.dP m) l K
  |_,_=>False
def x4:List AV->Bool
 |[]=>true|.int _ _::l=>x4 l|.bool _::l=>x4 l|.ro _::l=>x4 l|.str _::l=>x4 l|_::_=>false
def oS:AV->Bool
 |.int _ _=>true|.bool _=>true|.ro _=>true|.ao=>true|.str _=>true|.agg l=>x4 l|_=>false
def Hy:List AV->Bool
 |[]=>true|a::l=>match oS a with|true=>Hy l|false=>false
def uV:List AV->List AV->ai->(List AV->List AV->ai->Prop)->Prop
 |[],T,S,K=>K [] T S
 |a::l,T,S,K=>
  match a with
  |.vec k=>(match aj S k with
   |some (.vec _ r [])=>uw k T S λ T S=>uV l T S λ m T S=>K (.ro r::m) T S
   |_=>False)
  |a=>bH (oS a)<|uV l T S λ m T S=>K (a::m) T S
def oV:Nat->List (Nat × Operand)->(List Operand->Prop)->Prop
 |_,[],K=>K []
 |n,(i,x)::l,K=>match Nat.beq i n with|true=>oV (n+1) l λ m=>K (x::m)|false=>False
def sV(T:List AV)(place:Nat->Option (Nat × Nat)):List (Nat × Operand)->List AV->(List AV->Prop)->Prop
 |[],l,K=>K l
 |(i,x)::ps,l,K=>bf T x λ a=>
  match place i with
  |some (off,sz)=>(match a with
   |.agg m=>(match c5 m sz with|true=>lY l off m λ l'=>sV T place ps l' K|false=>False)
   |a=>match kG a with|true=>(match c5 [a] sz with|true=>lY l off [a] λ l'=>sV T place ps l' K|false=>False)|false=>False)
  |none=>False
def sx(S:ai)(k:Nat):Prop:=match aj S k with|some _=>True|none=>False
def FX(S:ai)(k:Nat):Prop:=match aj S k with|some _=>False|none=>True
def NN(S S':ai)(a b:AV):Prop:=
 match b with
 |.any=>True
 |.int k' n'=>(match a with|.int k n=>bH (kq k k') (n=n')|_=>False)
 |.bool e'=>(match a with|.bool e=>e.val=e'.val|_=>False)
 |.ro r'=>(match a with
  |.ro r=>r=r'
  |.ao=>r'.len=0
  |.vec k=>(match aj S k with
   |some (.vec _ r [])=>(match aj S' k with
    |none=>True/\r=r'
    |some (.vec wm' s [])=>bH (Nat.beq r.sz s.sz)<|(jD r λ n=>n<=wm')/\r=r'
    |_=>False)
   |some (.deep r none)=>FX S' k/\r=r'
   |_=>False)
  |_=>False)
 |.vec k'=>(match a with
  |.vec k=>k=k'/\sx S' k'/\sx S k'
  |.ao=>(match aj S k',aj S' k' with|none,some (.vec _ _ _)=>True|_,_=>False)
  |_=>False)
 |.ptr k' o'=>(match a with|.ptr k o=>k=k'/\o=o'/\sx S' k'/\sx S k'|_=>False)
 |.ao=>(match a with|.ao=>True|_=>False)
 |.bK=>(match a with|.bK=>True|_=>False)
 |.str l'=>(match a with|.str l=>l=l'|_=>False)
 |.eH r' i'=>(match a with|.eH r i=>r=r'/\i=i'|_=>False)
 |.tP f' r' i'=>(match a with|.tP f r i=>f=f'/\r=r'/\i=i'|_=>False)
 |.fn f' []=>(match a with|.fn f []=>f=f'|_=>False)
 |_=>False
def Ss(S S':ai):List AV->List AV->Prop
 |[],[]=>True
 |a::l,b::m=>NN S S' a b/\Ss S S' l m
 |_,_=>False
def Q2(S S':ai):List AV->List AV->Prop
 |[],[]=>True
 |a::l,b::m=>(match b with
  |.agg y=>(match a with|.agg x=>Ss S S' x y|_=>False)
  |b=>NN S S' a b)/\Q2 S S' l m
 |_,_=>False
def FY(S S':ai)(a b:AV):Prop:=
 match b with
 |.agg m=>(match a with|.agg l=>Ss S S' l m|_=>False)
 |.cC m=>(match a with|.cC l=>Q2 S S' l m|_=>False)
 |.fn f m=>(match a with|.fn g l=>g=f/\Ss S S' l m|_=>False)
 |b=>NN S S' a b
def A2:List Nat->List Nat->List Nat
 |[],m=>m|a::l,m=>a::A2 l m
def Dv(S:ai)(a:AV)(K:AV->List Nat->Prop):Prop:=
 match a with
 |.vec k=>(match aj S k with
  |some (.vec _ r [])=>K (.ro r) [k]
  |some (.deep r none)=>K (.ro r) [k]
  |_=>False)
 |.gf k i=>(match aj S k with
  |some (.vec _ r [])=>jD r λ n=>i.toNat<=n/\BH r i.toNat n λ r'=>K (.ro r') [k]
  |_=>False)
 |.int k n=>K (.int k n) []|.bool e=>K (.bool e) []|.ro r=>K (.ro r) []|.ao=>K .ao []|.bK=>K .bK []|.any=>K .any []|.fn f []=>K (.fn f []) []|.str l=>K (.str l) []|.eH r i=>K (.eH r i) []|.tP f r i=>K (.tP f r i) []
 |_=>False
def Nk(S:ai):List AV->(List AV->List Nat->Prop)->Prop
 |[],K=>K [] []
 |a::l,K=>Dv S a λ a' ks=>Nk S l λ l' ks'=>K (a'::l') (A2 ks ks')
def sX(S:ai):List AV->(List AV->List Nat->Prop)->Prop
 |[],K=>K [] []
 |a::l,K=>match a with
  |.agg m=>Nk S m λ m' ks=>sX S l λ l' ks'=>K (.agg m'::l') (A2 ks ks')
  |a=>Dv S a λ a' ks=>sX S l λ l' ks'=>K (a'::l') (A2 ks ks')
def Dk:List AV->List AV->Prop
 |[],[]=>True
 |a::l,b::m=>FY [] [] a b/\Dk l m
 |_,_=>False
def iu:List Nat->List AV->ai->(List AV->ai->Prop)->Prop
 |[],T,S,K=>K T S
 |k::ks,T,S,K=>match aj S k with
  |none=>iu ks T S K
  |some _=>uw k T S λ T S=>iu ks T S K
def Dw:AV->Bool
 |.int _ _=>true|.bool _=>true|.ao=>true|.bK=>true|.any=>true|.str _=>true|.new (.ints _ _)=>true|.new (.aL _)=>true|.new (.aT _)=>true|.new (.eY _ _ _)=>true|.new (.strs _)=>true|.new (.dK _)=>true|_=>false
def sY:List AV->Bool
 |[]=>true|a::l=>match Dw a with|true=>sY l|false=>false
def safe:AV->Bool
 |.cC l=>sY l|.agg l=>sY l|a=>Dw a
def xx:AV->Nat
 |.new _=>1|_=>0
def oX:List AV->Nat
 |[]=>0|a::l=>match xx a with|0=>oX l|_=>oX l+1
def news:AV->Nat
 |.cC l=>oX l|a=>xx a
def Rh(a:AV):Bool:=Nat.beq (news a) 0
def Hz(d:Nat):List AV->List AV->ai->(List AV->List AV->ai->Prop)->Prop
 |[],T,S,K=>K [] T S
 |a::l,T,S,K=>
  match a with
  |.new r=>iH d T S λ T S=>K (.vec d::l) T ((d,.vec 0 r [])::S)
  |a=>Hz d l T S λ m T S=>K (a::m) T S
def oH(d:Nat)(v:AV)(T:List AV)(S:ai)(K:AV->List AV->ai->Prop):Prop:=
 match v with
 |.new r=>iH d T S λ T S=>K (.vec d) T ((d,.vec 0 r [])::S)
 |.cC l=>Hz d l T S λ m T S=>K (.cC m) T S
 |a=>kF a λ a=>K a T S
structure Spec where
 q:FuncId->List AV->AV->Prop
 m:FuncId->List AV->ai->AV->ai->Prop
 e:FuncId->List AV->(X:Type)->(X->AV)->(X->Prop)->Prop
 n:FuncId->List AV->ai->(X:Type)->(X->AV)->(X->ai)->(X->Prop)->Prop
def Nl(d:Nat)(ks:List Nat)(ret:AV)(T:List AV)(S:ai)(K:AV->List AV->ai->Prop):Prop:=
 bH (Nat.ble (news ret) 1) (match ks,safe ret with
  |_,true=>oH d ret T S K
  |[],_=>oH d ret T S K
  |ks,false=>iu ks T S λ T S=>oH d ret T S K)
def FE(F:Spec)(d:Nat)(f:FuncId)(args:List AV)(T:List AV)(S:ai)(K:AV->List AV->ai->Prop):Prop:=
 sX S args λ args' ks=>∃(X:Type) (args2:List AV) (out:X->AV) (ok:X->Prop),F.e f args2 X out ok/\Dk args' args2/\∀x,ok x->Nl d ks (out x) T S K
def u3(F:Spec)(d:Nat)(f:FuncId)(args:List AV)(T:List AV)(S:ai)(K:AV->List AV->ai->Prop):Prop:=
 sX S args λ args' ks=>∃args2 ret,F.q f args2 ret/\Dk args' args2/\
  bH (Nat.ble (news ret) 1) (match ks,safe ret with
  |_,true=>oH d ret T S K
  |[],_=>oH d ret T S K
  |ks,false=>iu ks T S λ T S=>oH d ret T S K)
def kg:List AV->List AV->List AV
 |[],m=>m|a::l,m=>a::kg l m
def mP:ai->ai->(ai->Prop)->Prop
 |[],S,K=>K S
 |(k,b)::u,S,K=>match aj S k with
  |some _=>ku S k b λ S'=>mP u S' K
  |none=>mP u ((k,b)::S) K
def Yq(S S':ai)(b b':dH):Prop:=
 match b,b' with
 |.box l,.box m=>Ss S S' l m
 |.vec wm r [],.vec wm' r' []=>(wm<=wm'/\wm'<=r'.len)/\r=r'
 |.vec _wm r [(i,j)],.vec wm' r' []=>(match aj S j with
  |some (.vec _ s [])=>FX S' j/\wm'<=r.len/\setRow r i s λ r=>r=r'
  |_=>False)
 |.vec _wm r [(i,j)],.vec wm' r' [(i',j')]=>wm'=0/\r=r'/\i=i'/\j=j'/\sx S' j/\sx S j
 |.map kd vk m,.map kd' vk' m'=>(kd=kd'/\vk=vk')/\m=m'
 |.deep r none,.deep r' none=>r=r'
 |.dE n r,.dE n' r'=>n=n'/\r=r'
 |.ma n z,.ma n' z'=>n=n'/\z=z'
 |.vec wm r [],.ma n' z'=>wm=0/\r.len=n'/\r.sz=z'
 |_,_=>False
def JF(S S':ai):ai->Prop
 |[]=>True
 |(k,b')::R=>(match aj S k with
  |some b=>Yq S S' b b'
  |none=>match b' with|.vec wm r []=>bH (loc k) (wm=0/\r.len=0)|_=>False)/\JF S S' R
def uJ(S:ai)(a:AV):Bool:=
 match a with
 |.vec k=>(match aj S k with|some _=>true|none=>false)
 |.ptr k _=>(match aj S k with|some _=>true|none=>false)
 |.dS k _=>(match aj S k with|some _=>true|none=>false)
 |.gd k _ _=>(match aj S k with|some _=>true|none=>false)
 |.gf k _=>(match aj S k with|some _=>true|none=>false)
 |_=>true
def mK(S:ai):List AV->Bool
 |[]=>true|a::l=>match uJ S a with|true=>mK S l|false=>false
def oP(S:ai):List AV->Bool
 |[]=>true
 |a::l=>match a with
  |.agg m=>(match mK S m with|true=>oP S l|false=>false)
  |a=>(match uJ S a with|true=>oP S l|false=>false)
def gm(S:ai):List AV->Bool
 |[]=>true
 |a::l=>match a with
  |.agg m=>(match mK S m with|true=>gm S l|false=>false)
  |.fn _ m=>(match mK S m with|true=>gm S l|false=>false)
  |.cC m=>(match oP S m with|true=>gm S l|false=>false)
  |a=>(match uJ S a with|true=>gm S l|false=>false)
def ba:List (Nat × Nat)->Nat->Option Nat
 |[],_=>none|(i,j)::σ,k=>match Nat.beq i k with|true=>some j|false=>ba σ k
def kf(σ:List (Nat × Nat))(a:AV):AV:=
 match a with
 |.vec k=>(match ba σ k with|some j=>.vec j|none=>.any)
 |.ptr k o=>(match ba σ k with|some j=>.ptr j o|none=>.any)
 |.dS k i=>(match ba σ k with|some j=>.dS j i|none=>.any)
 |.gd k i c=>(match ba σ k with|some j=>.gd j i c|none=>.any)
 |.gf k i=>(match ba σ k with|some j=>.gf j i|none=>.any)
 |.int k n=>.int k n|.bool e=>.bool e|.ro r=>.ro r|.eH r i=>.eH r i|.ao=>.ao|.bK=>.bK|.may b n=>.may b n|.full r=>.full r|.str l=>.str l|.tP f r i=>.tP f r i
 |.fn f []=>.fn f []|_=>.any
def Ef(σ:List (Nat × Nat)):List AV->List AV
 |[]=>[]|a::l=>kf σ a::Ef σ l
def Sv(σ:List (Nat × Nat)):List AV->List AV
 |[]=>[]|a::l=>(match a with|.agg m=>.agg (Ef σ m)|a=>kf σ a)::Sv σ l
def Kk(σ:List (Nat × Nat))(a:AV):AV:=
 match a with
 |.agg m=>.agg (Ef σ m)|.cC m=>.cC (Sv σ m)|.fn f m=>.fn f (Ef σ m)|a=>kf σ a
def xZ(σ:List (Nat × Nat)):List AV->List AV
 |[]=>[]|a::l=>Kk σ a::xZ σ l
def uP(σ:List (Nat × Nat))(b:dH):dH:=
 match b with|.box l=>.box (Ef σ l)|.vec wm r _=>.vec wm r []|.map kd vk m=>.map kd vk m|.deep r h=>.deep r h|.dE n r=>.dE n r|.ma n z=>.ma n z
def tp(σ:List (Nat × Nat)):ai->ai
 |[]=>[]|(k,b)::S=>match ba σ k with|some j=>(j,uP σ b)::tp σ S|none=>tp σ S
def Ee(σ:List (Nat × Nat))(a:AV):Bool:=
 match a with
 |.vec k=>(match ba σ k with|some _=>true|none=>false)
 |.ptr k _=>(match ba σ k with|some _=>true|none=>false)
 |.dS k _=>(match ba σ k with|some _=>true|none=>false)
 |.gd k _ _=>(match ba σ k with|some _=>true|none=>false)
 |.gf k _=>(match ba σ k with|some _=>true|none=>false)
 |.fn _ (_::_)=>false|.agg _=>false|.cC _=>false|.new _=>false|_=>true
def UI(σ:List (Nat × Nat)):List AV->Bool
 |[]=>true|a::l=>match Ee σ a with|true=>UI σ l|false=>false
def JG(σ:List (Nat × Nat)):List AV->Bool
 |[]=>true
 |a::l=>match a with
  |.agg m=>(match UI σ m with|true=>JG σ l|false=>false)
  |.fn _ m=>(match UI σ m with|true=>JG σ l|false=>false)
  |a=>(match Ee σ a with|true=>JG σ l|false=>false)
def okB(σ:List (Nat × Nat))(b:dH):Bool:=
 match b with|.box l=>UI σ l|.vec _ _ []=>true|.map .. =>true|_=>false
def Q4(σ:List (Nat × Nat)):ai->Bool
 |[]=>true
 |(k,b)::S=>match ba σ k,okB σ b with|some _,true=>Q4 σ S|_,_=>false
def dq:ai->Bool
 |[]=>true
 |(_,b)::S=>match b with|.box _=>dq S|.vec _ _ []=>dq S|.map .. =>dq S|.ma .. =>dq S|.deep _ none=>dq S|_=>false
def OH(n:Nat):List Nat->Bool
 |[]=>false|m::l=>match Nat.beq n m with|true=>true|false=>OH n l
def lE:List Nat->Bool
 |[]=>true|n::l=>match OH n l with|true=>false|false=>lE l
def dg{α:Type}:List (Nat × α)->List Nat
 |[]=>[]|(i,_)::l=>i::dg l
def jH:List (Nat × Nat)->List Nat
 |[]=>[]|(_,j)::l=>j::jH l
def BB:List Nat->Bool
 |[]=>true|n::l=>match loc n with|true=>BB l|false=>false
def gone(S1 S2:ai):List (Nat × Nat)->List Nat
 |[]=>[]
 |(i,j)::σ=>match aj S1 i,aj S2 i,loc i with
  |some _,some _,false=>gone S1 S2 σ
  |_,_,_=>j::gone S1 S2 σ
def cG(S1:ai):List (Nat × Nat)->List (Nat × Nat)
 |[]=>[]
 |(i,j)::σ=>match aj S1 i with|some _=>(i,j)::cG S1 σ|none=>cG S1 σ
def okM(σ:List (Nat × Nat))(as:List AV)(S1 S2:ai):Bool:=
 match lE (dg σ),lE (jH σ),lE (dg S1),lE (dg S2)with
 |true,true,true,true=>(match JG (cG S1 σ) as,Q4 (cG S1 σ) S1,dq S2,BB (gone S1 S2 σ)with|true,true,true,true=>true|_,_,_,_=>false)
 |_,_,_,_=>false
def OI(S S':ai):List AV->List AV->Prop
 |[],[]=>True
 |a::l,b::m=>FY S S' a b/\OI S S' l m
 |_,_=>False
def mN:List Nat->List AV->ai->(List AV->ai->Prop)->Prop
 |[],T,S,K=>K T S
 |k::ks,T,S,K=>kL S k λ S=>cU k .any T λ T=>b5 k .any S λ S=>mN ks T S K
def BC(σ:List (Nat × Nat)):ai->ai->(ai->Prop)->Prop
 |[],S,K=>K S
 |(i,b)::R,S,K=>match ba σ i with
  |none=>BC σ R S K
  |some j=>(match aj S j with
   |some _=>ku S j (uP σ b) λ S=>BC σ R S K
   |none=>BC σ R ((j,uP σ b)::S) K)
def OJ(T:List AV)(x:Operand)(f:FuncId)(K:List AV->Prop):Prop:=
 bf T x λ a=>match a with|.fn g cap=>bH (Nat.beq g f) (K cap)|_=>False
def okN(σ:List (Nat × Nat))(as:List AV)(S1:ai):Bool:=
 match lE (dg σ),lE (jH σ),lE (dg S1)with
 |true,true,true=>(match JG (cG S1 σ) as,Q4 (cG S1 σ) S1 with|true,true=>true|_,_=>false)
 |_,_,_=>false
def VA(σ:List (Nat × Nat))(S1 S2:ai):Bool:=
 match lE (dg S2),dq S2,BB (gone S1 S2 σ)with|true,true,true=>true|_,_,_=>false
def Kq(F:Spec)(f:FuncId)(xs:List Operand)(x:Operand)(T:List AV)(S:ai)(K:AV->List AV->ai->Prop):Prop:=
 ∃(fz:List Nat) (σ:List (Nat × Nat)) (S1:ai) (as2:List AV) (X:Type) (ret:X->AV) (S2:X->ai) (ok:X->Prop),F.n f as2 S1 X ret S2 ok/\bH (okN σ as2 S1)
  (iu fz T S λ T S=>gK T xs λ as=>OJ T x f λ cs=>mP (tp (cG S1 σ) S1) S λ S'=>bH (gm S' T)
   ((JF S S' S'/\OI S S' (kg as cs) (xZ (cG S1 σ) as2))/\∀z,ok z->bH (VA σ S1 (S2 z)) (mN (gone S1 (S2 z) σ) T S' λ T S=>BC σ (S2 z) S λ S=>K (Kk σ (ret z)) T S)))
def uT(F:Spec)(f:FuncId)(xs:List Operand)(x:Operand)(T:List AV)(S:ai)(K:AV->List AV->ai->Prop):Prop:=(
 ∃(fz:List Nat) (σ:List (Nat × Nat)) (S1:ai) (as2:List AV) (ret:AV) (S2:ai),F.m f as2 S1 ret S2/\bH (okM σ as2 S1 S2)
  (iu fz T S λ T S=>gK T xs λ as=>OJ T x f λ cs=>mP (tp (cG S1 σ) S1) S λ S'=>bH (gm S' T)
   ((JF S S' S'/\OI S S' (kg as cs) (xZ (cG S1 σ) as2))/\mN (gone S1 S2 σ) T S' λ T S=>BC σ S2 S λ S=>K (Kk σ ret) T S)))\/Kq F f xs x T S K
def Ue:List AV->Int->Int->(AV->Prop)->Prop
 |[],_,_,_=>True
 |a::l,j,i,K=>(i=j->kF a K)/\Ue l (j+1) i K
def QA:Nat->Nat->Int->(Nat->Prop)->Prop
 |0,_,_,_=>True
 |n+1,j,i,K=>(i=(j:Int)->K j)/\QA n (j+1) i K
def kn(n:AV)(K:Int->Prop):Prop:=match n with|.int _ n=>K n|_=>False
abbrev X5:RO->RO
 |.cR k l=>.rows k l|r=>r
def X6:RO->Bool
 |.rows _ _=>true|.bw _=>true|.bC _=>true|.cR _ _=>true|_=>false
def nr:RO->Bool
 |.rows _ _=>true|.bw _=>true|.bC _=>true|_=>false
def jW:List AV->Bool
 |[]=>false|_::_=>true
def bJ:GJ->Bool
 |.struct _=>true|.arr _ _=>true|_=>false
def Jl(TY:List cP)(t:Nat):Bool:=match bJ (aq TY t).d with|true=>false|false=>Nat.beq (aq TY t).sz 1
def cw(j:Nat)(p:Int × Int):Int:=match j with|0=>p.1|_=>p.2
def sL(j:Nat)(p:Int × Int)(n:Int):Int × Int:=match j with|0=>(n,p.2)|_=>(p.1,n)
def xI(TY:List cP)(t:Nat)(r:RO):Bool:=
 match r with
 |.aT _=>(match bJ (aq TY t).d with|true=>Nat.beq (aq TY t).sz 2|false=>false)
 |.dK _=>(match bJ (aq TY t).d with|true=>Nat.beq (aq TY t).sz 2|false=>false)
 |.dP _=>(match bJ (aq TY t).d with|true=>Nat.beq (aq TY t).sz 3|false=>false)
 |.eY n _ _=>(match bJ (aq TY t).d with|true=>Nat.beq (aq TY t).sz (n+2)|false=>false)
 |_=>(match bJ (aq TY t).d with|true=>false|false=>Nat.beq (aq TY t).sz 1)
def eo(TY:List cP)(t:Nat)(r:RO):Bool:=
 match (aq TY t).d with
 |.slice e=>(match r with|.aT _=>Nat.beq (aq TY e).sz 2|.dK _=>Nat.beq (aq TY e).sz 2|.dP _=>Nat.beq (aq TY e).sz 3|.eY n _ _=>Nat.beq (aq TY e).sz (n+2)|_=>Nat.beq (aq TY e).sz 1)
 |_=>false
def getM:List (List Int × Int)->List Int->Option Int
 |[],_=>none|p::m,k=>if p.1=k then some p.2 else getM m k
def kI:List (List Int × Int)->List Int->Int->List (List Int × Int)
 |[],k,v=>[(k,v)]|p::m,k,v=>if p.1=k then (k,v)::m else p::kI m k v
def OP(TY:List cP)(t:Nat)(K:IntKind->Prop):Prop:=match (aq TY t).d with|.int k=>K k|_=>False
def W8(TY:List cP)(t:Nat)(K:iC->Prop):Prop:=
 match (aq TY t).d with|.int k=>K (.int k)|.arr n e=>bH (Nat.beq (aq TY t).sz n)<|bH (Nat.beq (aq TY e).sz 1)<|OP TY e λ k=>K (.arr n k)|.str=>K .str|_=>False
def Uf(TY:List cP)(t:Nat)(K:Option IntKind->Prop):Prop:=
 match (aq TY t).d with|.int k=>K (some k)|.bool=>K none|_=>False
def FF(TY:List cP)(t:Nat)(K:iC->Option IntKind->Prop):Prop:=
 match (aq TY t).d with|.map k e=>W8 TY k λ kd=>Uf TY e λ vk=>bH (jW (aq TY e).zero) (K kd vk)|_=>False
def X7:iC->iC->Bool
 |.int k,.int k'=>kq k k'|.arr n k,.arr n' k'=>(match Nat.beq n n' with|true=>kq k k'|false=>false)|.str,.str=>true|_,_=>false
def ZZ:Option IntKind->Option IntKind->Bool
 |some k,some k'=>kq k k'|none,none=>true|_,_=>false
def Jq(kd:iC)(a:AV)(K:List Int->Prop):Prop:=
 match kd,a with
 |.int k,.int k' n=>bH (kq k k') (K [n])
 |.arr n k,.agg l=>bH (c5 l n) (wS k l K)
 |.str,.str l=>K l
 |_,_=>False
def Ug(vk:Option IntKind)(a:AV)(K:Int->Prop):Prop:=
 match vk,a with
 |some k,.int k' n=>bH (kq k k') (K n)
 |none,.bool e=>(match e with|.lit true=>K 1|.lit false=>K 0|e=>K (if e.val then 1 else 0))
 |_,_=>False
def QB(vk:Option IntKind)(n:Int):AV:=match vk with|some k=>.int k n|none=>.bool (.ne n 0)
def WV(d:Nat)(r:RO)(K:AV->Option dH->Prop):Prop:=
 match nr r with
 |false=>K (.vec d) (some (.vec 0 r []))
 |true=>K (.vec d) (some (.vec 0 r []))\/K (.vec d) (some (.deep r none))\/(match r with|.rows k l=>K (.vec d) (some (.vec 0 (.cR k l) []))|_=>False)
def Jr(S:ai)(b:AV)(K:Option RO->Prop):Prop:=
 match b with
 |.ro r=>K (some r)
 |.ao=>K none
 |.vec j=>(match aj S j with|some (.vec _ r [])=>K (some r)|_=>False)
 |_=>False
def BX(d:Nat)(ret:AV)(K:AV->Option dH->Prop):Prop:=
 match ret with
 |.new r=>K (.vec d) (some (.vec 0 r []))
 |ret=>bH (Rh ret) (kF ret λ v=>K v none)
def MZ(f:FuncId)(l:List AV)(K:AV->Option dH->Prop):Prop:=
 match l with
 |[.eH r i]=>K (.tP f r i) none
 |l=>bH (qQ l)<|K (.fn f l) none
def WS(TY:List cP)(t d:Nat)(a:AV)(K:AV->Option dH->Prop):Prop:=
 match a with
 |.ro (.rows .i64 l)=>(ik TY t (.ro (.rows .i64 l)) λ m=>K (.ptr d 0) (some (.box m)))\/(ik TY t (.ro (.rows .i64 l)) λ _=>K (.eH (.bC [l]) 0) none)
 |a=>ik TY t a λ m=>K (.ptr d 0) (some (.box m))
def Hq(S:ai)(a b:AV):Bool:=
 match b with
 |.bK=>(match a with|.ptr k _=>(match aj S k with|some (.map _ _ _)=>true|_=>false)|_=>false)
 |_=>false
def qK(TY:List cP)(F:Spec)(d:Nat)(o:Op)(T:List AV)(S:ai)(K:AV->Option dH->Prop):Prop:=
 match o with
 |.move x=>bf T x λ a=>K a none
 |.assign x=>bf T x λ a=>K a none
 |.binOp op t x y _=>bf T x λ a=>bf T y λ b=>match Hq S a b with
  |true=>bH (X1 TY t) (match op with
   |.eql=>K (.bool (.lit false)) none
   |.neq=>K (.bool (.lit true)) none
   |_=>False)
  |false=>AU TY op t a b λ v=>K v none
 |.unOp op _ x=>bf T x λ a=>(match op,a with
  |.not,.bool e=>W7 e λ e=>K (.bool e) none
  |.neg,.int k n=>sq k (0 - n) (K (.int k (0 - n)) none)
  |_,_=>False)
 |.convert s t x=>bf T x λ a=>(match (aq TY s).d,(aq TY t).d,a with
  |.int k,.int k',.int k'' n=>bH (kq k k'')<|sq k' n (K (.int k' n) none)
  |.int k,.str,.int k'' n=>bH (kq k k'')<|(0<=n/\n<128)/\K (.str [n]) none
  |.slice e,.str,a=>(match (aq TY e).d with|.int .u8=>Jr S a λ r=>(match r with|some (.ints .u8 l)=>K (.str l) none|_=>False)|_=>False)
  |_,_,_=>False)
 |.pick c a b=>bf T c λ c=>(match c with
  |.bool e=>lZ e λ t=>match t with|true=>bf T a λ v=>K v none|false=>bf T b λ v=>K v none
  |_=>False)
 |.alloc t=>bH (c5 (aq TY t).zero (aq TY t).sz)<|bH (jW (aq TY t).zero)<|(match Hr TY t with
  |true=>K (.dS d 0) (some (.vec 0 (.aL (List.replicate (aq TY t).sz false)) []))
  |false=>K (.ptr d 0) (some (.box (aq TY t).zero)))
 |.box t x=>bf T x λ a=>WS TY t d a K
 |.build t ps=>(match (aq TY t).d with
  |.struct fs=>bH (jW (aq TY t).zero)<|sV T (fieldPlace TY fs) ps.toList (aq TY t).zero λ m=>K (.agg m) none
  |.arr _ e=>bH (jW (aq TY t).zero)<|bH (Nat.ble 1 (aq TY e).sz)<|sV T (λ i=>some (i*(aq TY e).sz,(aq TY e).sz)) ps.toList (aq TY t).zero λ m=>K (.agg m) none
  |_=>False)
 |.load t x=>bf T x λ a=>(match a with
  |.eH r i=>bH (xI TY t r) (Jp r i λ v=>K v none)
  |.dS k i=>(match aj S k with
   |some (.vec _ r [])=>bH (xI TY t r) (Jp r i λ v=>K v none)
   |some (.vec _ r [(j,k')])=>bH (xI TY t r) ((i=j->K (.vec k') none)/\(i≠j->Jp r i λ v=>K v none))
   |some (.dE _ r)=>bH (xI TY t r) (Jp r i λ v=>K v none)
   |_=>False)
  |.ptr k off=>(match aj S k with
   |some (.box l)=>yd TY t l off λ v=>K v none
   |_=>False)
  |.gd k i j=>(match aj S k with
   |some (.vec _ (.aT l) [])=>bH (Jl TY t)<|bH (Nat.ble j 1)<|K (.int .i64 (cw j (l.getD i.toNat (0,0)))) none
   |some (.dE _ (.aT l))=>bH (Jl TY t)<|bH (Nat.ble j 1)<|K (.int .i64 (cw j (l.getD i.toNat (0,0)))) none
   |_=>False)
  |_=>False)
 |.makeMap t none=>FF TY t λ kd vk=>K (.ptr d 0) (some (.map kd vk []))
 |.makeMap t (some x)=>FF TY t λ kd vk=>bf T x λ a=>(match a with|.int _ _=>K (.ptr d 0) (some (.map kd vk []))|_=>False)
 |.buildSlice t n ps=>(match (aq TY t).d with
  |.slice e=>bH (jW (aq TY e).zero)<|bH (Nat.ble (n*(aq TY e).sz) 16000000)<|oV 0 ps.toList λ xs=>match qW xs n with
   |true=>gK T xs λ vs=>bH (Hy vs)<|uX TY e λ r=>bu r vs λ r=>bH (eo TY t r) (K (.vec d) (some (.vec 0 r [])))
   |false=>False
  |_=>False)
 |.lookup t x k ok=>FF TY t λ kd vk=>bf T x λ a=>bf T k λ kv=>(match a with
  |.ptr j _=>(match aj S j with
   |some (.map kd' vk' m)=>bH (X7 kd kd')<|bH (ZZ vk vk')<|Jq kd kv λ key=>(match ok with
    |true=>K (.cC [QB vk ((getM m key).getD 0),.bool (.v (getM m key).isSome)]) none
    |false=>K (QB vk ((getM m key).getD 0)) none)
   |_=>False)
  |.bK=>Jq kd kv λ _=>(match ok with
   |true=>K (.cC [QB vk 0,.bool (.lit false)]) none
   |false=>False)
  |_=>False)
 |.nilCheck x=>bf T x λ a=>(match a with|.ptr k o=>K (.ptr k o) none|.fn f c=>K (.fn f c) none|.dS k i=>K (.dS k i) none|.eH r i=>K (.eH r i) none|_=>False)
 |.makeSlice t l c=>(match (aq TY t).d with
  |.slice e=>bf T l λ l=>bf T c λ c=>kn l λ l=>kn c λ c=>
   And (0<=l/\l<=c)<|FD (aq TY e).bytes c<|pw TY e l.toNat λ r=>bH (Nat.ble 1 (aq TY e).bytes)<|bH (jW (aq TY e).zero)<|bH (eo TY t r) (WV d r K)
  |_=>False)
 |.slice t x lo hi none=>bf T x λ a=>(match a with
  |.ro r=>bH (eo TY t r)<|jD r λ n=>Z0 T lo λ lo=>HW T hi n λ hi=>((0<=lo/\lo<=hi)/\hi<=(n:Int))/\BH r lo.toNat hi.toNat λ r=>K (.ro r) none
  |_=>False)
 |.slice t x none (some y) (some z)=>bf T x λ a=>(match a with
  |.ro r=>bH (eo TY t r)<|jD r λ n=>HW T (some y) n λ hi=>HW T (some z) n λ mx=>((0<=hi/\hi=mx)/\mx<=(n:Int))/\BH r 0 hi.toNat λ r=>K (.full r) none
  |_=>False)
 |.fieldAddr t x f=>bf T x λ a=>(match a,(aq TY t).d with
  |.ptr k off,.struct fs=>(match aj S k with
   |some (.box _)=>(match cZ fs f with|some (o,u)=>(match Nat.beq (aq TY u).sz 0 with|false=>K (.ptr k (off+o)) none|true=>False)|none=>False)
   |_=>False)
  |.dS k i,.struct fs=>(match cZ fs f with|some (o,u)=>(match Nat.beq (aq TY u).sz 0 with|false=>K (.gd k i o) none|true=>False)|none=>False)
  |_,_=>False)
 |.field t x f=>bf T x λ a=>(match a,(aq TY t).d with
  |.agg l,.struct fs=>(match cZ fs f with|some (o,u)=>yd TY u l o λ v=>K v none|none=>False)
  |_,_=>False)
 |.indexAddr t x i=>bf T x λ a=>bf T i λ i=>kn i λ i=>(match a with
  |.ro r=>bH (eo TY t r) (jD r λ n=>(0<=i/\i<(n:Int))/\K (.eH r i) none)
  |.vec k=>(match aj S k with
   |some (.vec _ r _)=>bH (eo TY t r) (jD r λ n=>(0<=i/\i<(n:Int))/\K (.dS k i) none)
   |some (.deep r _)=>bH (eo TY t r) (jD r λ n=>(0<=i/\i<(n:Int))/\K (.dS k i) none)
   |some (.dE _ r)=>bH (eo TY t r) (jD r λ n=>(0<=i/\i<(n:Int))/\K (.dS k i) none)
   |_=>False)
  |.ptr k off=>(match (aq TY t).d,aj S k with
   |.arr n e,some (.box _)=>bH (Nat.beq (aq TY e).sz 1)<|(0<=i/\i<(n:Int))/\QA n 0 i λ j=>K (.ptr k (off+j)) none
   |_,_=>False)
  |.dS k off=>(match (aq TY t).d with
   |.arr n e=>(match qw TY e with
    |true=>(match aj S k with
     |some (.vec _ (.aL l) [])=>bH (Nat.beq (aq TY e).sz 1)<|(off=0/\(0<=i/\i<(n:Int))/\i<(l.length:Int))/\K (.dS k i) none
     |_=>False)
    |false=>bH (Nat.beq (aq TY e).sz 1)<|(0<=i/\i<(n:Int))/\QA n 0 i λ j=>K (.gd k off j) none)
   |_=>False)
  |_=>False)
 |.index t x i=>bf T x λ a=>bf T i λ i=>kn i λ i=>(match a,(aq TY t).d with
  |.agg l,.arr n e=>(match c5 l n,Nat.beq (aq TY e).sz 1,bJ (aq TY e).d with
   |true,true,false=>(0<=i/\i<(n:Int))/\Ue l 0 i λ v=>K v none
   |_,_,_=>False)
  |.str l,.str=>(0<=i/\i<(l.length:Int))/\K (.int .u8 (l.getD i.toNat 0)) none
  |_,_=>False)
 |.extract x i=>bf T x λ a=>(match a with
  |.cC l=>sU l i λ l=>match l with|a::_=>kF a λ a=>K a none|[]=>False
  |_=>False)
 |.makeFunc (.func f) first cap=>(match first.toList with
  |[]=>gK T cap.toList λ l=>MZ f l K
  |_=>False)
 |.call c=>(match c.callee with
  |.builtin .len=>(match c.args.toList,c.argTypes.toList with
   |[x],[t]=>(match iB TY t with
    |true=>bf T x λ a=>(match a with
     |.ro r=>jD r λ n=>K (.int .i64 n) none
     |.ao=>K (.int .i64 0) none
     |.vec k=>(match aj S k with|some (.vec _ r _)=>jD r λ n=>K (.int .i64 n) none|some (.deep r _)=>jD r λ n=>K (.int .i64 n) none|some (.dE _ r)=>jD r λ n=>K (.int .i64 n) none|_=>False)
     |_=>False)
    |false=>(match Ud TY t with
     |true=>bf T x λ a=>(match a with|.str l=>(l.length:Int)<=9223372036854775807/\K (.int .i64 l.length) none|_=>False)
     |false=>FF TY t λ _ _=>bf T x λ a=>(match a with
      |.ptr k _=>(match aj S k with|some (.map _ _ m)=>(m.length:Int)<=9223372036854775807/\K (.int .i64 m.length) none|_=>False)
      |_=>False)))
   |_,_=>False)
  |.builtin .max=>(match c.args.toList with
   |[x,y]=>bf T x λ a=>bf T y λ b=>(match a,b with|.int k a,.int k' b=>bH (kq k k')<|K (.int k (max a b)) none|_,_=>False)
   |_=>False)
  |.builtin .min=>(match c.args.toList with
   |[x,y]=>bf T x λ a=>bf T y λ b=>(match a,b with|.int k a,.int k' b=>bH (kq k k')<|K (.int k (min a b)) none|_,_=>False)
   |_=>False)
  |.value (.func f)=>gK T c.args.toList λ as=>sX S as λ as ks=>∃as2 ret,F.q f as2 ret/\Dk as as2/\(match ks,safe ret with
   |_,true=>BX d ret K
   |[],_=>BX d ret K
   |_,_=>False)
  |_=>False)
 |_=>False
where
 fieldPlace (TY:List cP) (fs:List (Nat × Nat)) (i:Nat):Option (Nat × Nat):=
  match cZ fs i with|some (o,t)=>some (o,(aq TY t).sz)|none=>none
 Z0 (T:List AV) (lo:Option Operand) (K:Int->Prop):Prop:=
  match lo with|none=>K 0|some x=>bf T x λ a=>kn a K
 HW (T:List AV) (hi:Option Operand) (n:Nat) (K:Int->Prop):Prop:=
  match hi with|none=>K n|some x=>bf T x λ a=>kn a K
def nb(a b:Nat):Bool:=match Nat.beq a b with|true=>false|false=>true
def Nn(r:RO)(i:Int)(K:RO->Prop):Prop:=
 match r with
 |.rows k l=>K (.ints k (l.getD i.toNat []))|.bw l=>K (.aL (l.getD i.toNat []))|.bC l=>K (.rows .i64 (l.getD i.toNat []))|_=>False
def bP:Op->Bool
 |.store .. =>false|.buildSlice .. =>false|.slice .. =>false|.mapUpdate .. =>false|.insert .. =>false
 |.call c=>(match c.callee with|.builtin .append=>false|.builtin .copy=>false|.builtin .clear=>false|.builtin _=>true|_=>false)
 |_=>true
def lI:Op->Bool
 |.alloc _=>true|.box .. =>true|.makeSlice .. =>true|.makeMap .. =>true|.buildSlice .. =>true|_=>false
def F7(TY:List cP)(t:Nat)(x k y:Operand)(T:List AV)(S:ai)(K:AV->List AV->ai->Prop):Prop:=
 FF TY t λ kd vk=>bf T x λ a=>bf T k λ kv=>bf T y λ v=>(match a with
  |.ptr j _=>(match aj S j with
   |some (.map kd' vk' m)=>bH (X7 kd kd')<|bH (ZZ vk vk')<|Jq kd kv λ key=>Ug vk v λ n=>ku S j (.map kd vk (kI m key n)) λ S=>K .any T S
   |_=>False)
  |_=>False)
def sB(k:Nat)(b:dH)(T:List AV)(S:ai)(K:AV->List AV->ai->Prop):Prop:=
 kL S k λ S=>cU k .any T λ T=>b5 k .any S λ S=>K (.vec k) T ((k,b)::S)
def SA(k wm n:Nat)(r:RO)(hi:Int)(T:List AV)(S:ai)(K:AV->List AV->ai->Prop):Prop:=
 bH (Nat.beq wm 0)<|BH r 0 hi.toNat λ r'=>match loc k with
  |true=>sB k (.vec 0 r' []) T S K
  |false=>sB k (.dE n r') T S K
def Np(k:Nat)(i:Int)(wm:Nat)(r:RO)(ov:List (Int × Nat))(v:AV)(T:List AV)(S:ai)(K:AV->List AV->ai->Prop):Prop:=
 match v,ov with
 |.vec k',[]=>(match aj S k' with
  |some (.vec _ _ [])=>bH (X6 r)<|bH (Nat.beq wm 0)<|ku S k (.vec 0 r [(i,k')]) λ S=>K .any T S
  |_=>False)
 |v,[]=>Qz r i v λ r=>ku S k (.vec wm r []) λ S=>K .any T S
 |_,_=>False
def Nq(k:Nat)(i:Int)(j wm:Nat)(l:List (Int × Int))(v:AV)(T:List AV)(S:ai)(K:AV->List AV->ai->Prop):Prop:=
 match v with
 |.int k' n=>bH (kq .i64 k')<|ku S k (.vec wm (.aT (l.set i.toNat (sL j (l.getD i.toNat (0,0)) n))) []) λ S=>K .any T S
 |_=>False
def xp(TY:List cP)(F:Spec)(d:Nat)(o:Op)(T:List AV)(S:ai)(K:AV->List AV->ai->Prop):Prop:=
 match bP o with
 |true=>(match lI o with
  |true=>iH d T S λ T S=>qK TY F d o T S λ v b=>match b with|some b=>K v T ((d,b)::S)|none=>K v T S
  |false=>qK TY F d o T S λ v b=>match b with|none=>K v T S|some _=>False)
 |false=>match o with
  |.buildSlice t n ps=>(match (aq TY t).d with
   |.slice e=>bH (jW (aq TY e).zero)<|bH (Nat.ble (n*(aq TY e).sz) 16000000)<|oV 0 ps.toList λ xs=>match qW xs n with
    |true=>gK T xs λ vs=>uV vs T S λ vs T S=>uX TY e λ r=>bu r vs λ r=>bH (eo TY t r)<|iH d T S λ T S=>K (.vec d) T ((d,.vec 0 r [])::S)
    |false=>False
   |_=>False)
  |.mapUpdate t x k y=>F7 TY t x k y T S K
  |.insert t x k y=>F7 TY t x k y T S K
  |.store t x y=>bf T x λ a=>bf T y λ v=>(match a with
   |.dS k i=>(match aj S k with
    |some (.vec wm r ov)=>bH (xI TY t r)<|(wm:Int)<=i/\Np k i wm r ov v T S K
    |some (.deep r (some j))=>bH (xI TY t r)<|bH (loc k)<|i=j/\(match v with
     |.vec h=>(match aj S h with
      |some (.vec wm s [])=>bH (Nat.beq wm 0)<|bH (nb k h)<|setRow r i s λ r'=>mN [h] T S λ T S=>ku S k (.deep r' none) λ S=>K .any T S
      |_=>False)
     |_=>False)
    |_=>False)
   |.ptr k off=>(match aj S k with
    |some (.box l)=>ik TY t v λ m=>lY l off m λ l'=>ku S k (.box l') λ S=>K .any T S
    |_=>False)
   |.gd k i j=>(match aj S k with
    |some (.vec wm (.aT l) [])=>bH (Jl TY t)<|bH (Nat.ble j 1)<|(wm:Int)<=i/\Nq k i j wm l v T S K
    |_=>False)
   |_=>False)
  |.slice t x lo hi none=>bf T x λ a=>(match a with
   |.vec k=>(match aj S k,lo with
    |some (.vec wm r []),none=>bH (eo TY t r)<|jD r λ n=>qK.HW T hi n λ hi=>(0<=hi/\hi<=(n:Int))/\
      ((BH r 0 hi.toNat λ r'=>ku S k (.vec (max wm hi.toNat) r []) λ S=>K (.ro r') T S)\/SA k wm n r hi T S K)
    |some (.dE n0 r),none=>bH (eo TY t r)<|jD r λ n=>qK.HW T hi n λ hi=>(0<=hi/\hi<=(n:Int))/\BH r 0 hi.toNat λ r'=>sB k (.dE n0 r') T S K
    |some (.vec _ r []),some x=>(match hi with
     |none=>bH (eo TY t r)<|bf T x λ b=>kn b λ i=>jD r λ n=>(0<=i/\i<=(n:Int))/\K (.gf k i) T S
     |some _=>False)
    |some (.ma n z),none=>(match (aq TY t).d with
     |.slice e=>qK.HW T hi n λ hi=>hi=0/\(uX TY e λ r=>bH (loc k)<|bH (eo TY t r)<|bH (Nat.beq r.sz z)<|sB k (.vec 0 r []) T S K)
     |_=>False)
    |_,_=>False)
   |.ao=>(match lo,hi with
    |none,some y=>bf T y λ b=>kn b λ b=>b=0/\(match (aq TY t).d with|.slice e=>bH (Nat.ble 1 (aq TY e).sz) (K .ao T S)|_=>False)
    |_,_=>False)
   |_=>qK TY F d (.slice t x lo hi none) T S λ v b=>match b with|none=>K v T S|some _=>False)
  |.slice t x lo hi (some z)=>qK TY F d (.slice t x lo hi (some z)) T S λ v b=>match b with|none=>K v T S|some _=>False
  |.call c=>(match c.callee with
   |.value (.func f)=>(gK T c.args.toList λ as=>u3 F d f as T S K)\/uT F f c.args.toList (.func f) T S K\/(gK T c.args.toList λ as=>FE F d f as T S K)
   |.value x=>bf T x λ a=>(match a with
    |.fn f cap=>(gK T c.args.toList λ as=>u3 F d f (kg as cap) T S K)\/uT F f c.args.toList x T S K
    |.tP f r i=>gK T c.args.toList λ as=>u3 F d f (kg as [.eH r i]) T S K
    |_=>False)
   |.builtin .append=>(match c.args.toList,c.argTypes.toList with
    |[x,y],[t,t']=>(match Nat.beq t t',(aq TY t).d with
     |true,.slice e=>bH (jW (aq TY e).zero)<|bf T x λ a=>bf T y λ b=>Jr S b λ src=>(match a,src with
      |.ao,some r=>bH (eo TY t r)<|jD r λ n=>FD (aq TY e).bytes n<|iH d T S λ T S=>K (.vec d) T ((d,.vec 0 r [])::S)
      |.vec k,some r'=>(match aj S k with
       |some (.vec wm r [])=>bH (eo TY t r)<|Du r r' λ r''=>jD r'' λ n=>FD (aq TY e).bytes n<|
         (iH k T S λ T S=>K (.vec k) T ((k,.vec wm r'' [])::S))
       |some (.dE n0 r)=>bH (eo TY t r)<|Du r r' λ r''=>jD r'' λ n=>FD (aq TY e).bytes n<|sB k (.dE n0 r'') T S K
       |_=>False)
      |.full r,some r'=>bH (eo TY t r)<|Du r r' λ r''=>jD r' λ n'=>jD r'' λ n=>FD (aq TY e).bytes n<|
        (n'=0->K (.ro r) T S)/\(n'≠0->iH d T S λ T S=>K (.vec d) T ((d,.vec 0 r'' [])::S))
      |.full r,none=>K (.ro r) T S
      |.vec k,none=>K (.vec k) T S
      |.ao,none=>K .ao T S
      |_,_=>False)
     |_,_=>False)
    |_,_=>False)
   |.builtin .clear=>(match c.args.toList,c.argTypes.toList with
    |[x],[t]=>bf T x λ a=>(match a with
     |.gf k i=>(match aj S k with
      |some (.vec wm (.ints kk l) [])=>bH (eo TY t (.ints kk l))<|(match (aq TY t).d with
       |.slice e=>OP TY e λ k'=>bH (kq kk k')<|bH (jW (aq TY e).zero)<|((wm:Int)<=i/\i<=(l.length:Int))/\ku S k (.vec wm (.ints kk (l.take i.toNat++List.replicate (l.length - i.toNat) 0)) []) λ S=>K .any T S
       |_=>False)
      |_=>False)
     |_=>False)
    |_,_=>False)
   |.builtin .copy=>(match c.args.toList,c.argTypes.toList with
    |[x,y],[t,t']=>(match Nat.beq t t' with
     |true=>bf T x λ a=>bf T y λ b=>Jr S b λ src=>(match a,src with
      |.vec k,some r'=>(match aj S k with
       |some (.vec wm r [])=>bH (Nat.beq wm 0)<|bH (eo TY t r)<|bH (eo TY t r')<|bH (Nat.beq r.sz 1)<|r.len=r'.len/\ku S k (.vec 0 r' []) λ S=>K .any T S
       |_=>False)
      |_,_=>False)
     |false=>False)
    |_,_=>False)
   |_=>False)
  |_=>False
def Uh(o:Op)(T:List AV)(S:ai):Bool:=
 match o with
 |.load _ (.tmp t)=>(match nth T t with|.dS k _=>(match aj S k with|some (.deep _ _)=>true|_=>false)|_=>false)
 |_=>false
def Kz(TY:List cP)(d:Nat)(o:Op)(T:List AV)(S:ai)(K:AV->List AV->ai->Prop):Prop:=
 match o with
 |.load t x=>iH d T S λ T S=>bf T x λ a=>(match a with
  |.dS k i=>(match aj S k with
   |some (.deep r none)=>bH (xI TY t r)<|bH (loc k)<|Nn r i λ s=>ku S k (.deep r (some i)) λ S=>K (.vec d) T ((d,.vec 0 s [])::S)
   |_=>False)
  |_=>False)
 |_=>False
def NT(TY:List cP)(F:Spec)(d:Nat)(o:Op)(T:List AV)(S:ai)(K:AV->List AV->ai->Prop):Prop:=
 match Uh o T S with
 |true=>Kz TY d o T S K
 |false=>xp TY F d o T S K
def fM(ops:List Oper)(g:Option (Nat × Bool))(T:List AV)(yes no:List AV->Prop):Prop:=
 match g with
 |none=>yes T
 |some (j,want)=>
  match (ops.getD j default).dst with
  |some d=>(match nth T d with
   |.bool e=>lZ e λ t=>wR T d (.bool (.lit t)) λ T'=>match t,want with|true,true=>yes T'|false,false=>yes T'|_,_=>no T'
   |.cC []=>no T
   |_=>False)
  |none=>False
noncomputable def H2(TY:List cP)(F:Spec)(ops:List Oper)(l:List Oper):List AV->ai->(List AV->ai->Prop)->Prop:=
 List.rec (motive:=λ _=>List AV->ai->(List AV->ai->Prop)->Prop) (λ T S K=>K T S)
  (λ o _ ih T S K=>fM ops o.guard T
   (λ T=>dN o.dst λ d=>NT TY F d o.op T S λ v T S=>iL o.dst T v λ T=>ih T S K)
   (λ T=>iL o.dst T (.cC []) λ T=>ih T S K)) l
theorem H3{TY:List cP}{F:Spec}{ops rest:List Oper}{o:Oper}{T:List AV}{S:ai}{K:List AV->ai->Prop}:H2 TY F ops (o::rest) T S K=fM ops o.guard T
   (λ T=>dN o.dst λ d=>NT TY F d o.op T S λ v T S=>iL o.dst T v λ T=>H2 TY F ops rest T S K)
   (λ T=>iL o.dst T (.cC []) λ T=>H2 TY F ops rest T S K):=rfl
def eS(e:Edge):Bool:=match e.ground with|.textOnly _=>false|.gcOnly _=>false|_=>true
def Nr(C:List (List Nat)):List Edge->List Nat->List Nat
 |[],acc=>acc
 |e::l,acc=>if eS e&& !(acc.contains e.on) then Nr C l (((C.getD e.on []).filter λ j=>!(acc.contains j))++(e.on::acc)) else Nr C l acc
def tU:List Oper->List (List Nat)->List (List Nat)
 |[],C=>C
 |o::l,C=>tU l (C++[Nr C o.after.toList []])
def bG(ops:Array Oper)(i:Nat):Option Nat:=(ops[i]?).bind (·.dst)
def zU(o:Oper):Bool:=
 (match o.guard with|none=>true|_=>false)&&(match o.op with|.move _=>true|.assign _=>true|.pick _ _ _=>true|.extract _ _=>true|_=>false)
def tT(ops:Array Oper)(j:Nat):Bool:=
 (match ops[j]? with|some o=>zU o|none=>false)&&Region.noSelect ops&&Region.free .any ops (List.replicate j true++List.replicate (ops.size - j) false).toArray j
def Ex(ops:Array Oper)(g:List Bool)(C:List (List Nat))(i:Nat):Bool:=
 match ops[i]? with
 |none=>true
 |some o=>
  (o.after.toList.all λ e=>!eS e||decide (e.on<i))&&
  ((C.getD i []).all λ j=>o.after.toList.any λ e=>eS e&&(e.on==j||(C.getD e.on []).contains j))&&
  ((o.looksAt ops).all λ t=>(List.range ops.size).all λ j=>!(bG ops j==some t)||(decide (j<i)&&(C.getD i []).contains j)||(g.getD j false&&decide (i<j)))&&
  (!(g.getD i false)||(List.range ops.size).all λ j=>(decide (j<i)&&(C.getD i []).contains j)||j==i||(decide (i<j)&&(C.getD j []).contains i)||(decide (j<i)&&tT ops j))&&
  ((List.range ops.size).all λ j=>i==j||bG ops i==none|| !(bG ops i==bG ops j))
def Ew(ops:Array Oper)(g:List Bool):Bool:=(List.range ops.size).all (Ex ops g (tU ops.toList []))
def Et(S:ai)(d:Nat)(K:Prop):Prop:=match aj S d with|none=>bH (loc d) K|some _=>False
noncomputable def je(TY:List cP)(F:Spec)(ops:List Oper)(gl:List Bool)(l:List Oper):List AV->ai->(List AV->ai->Prop)->Prop:=
 List.rec (motive:=λ _=>List Bool->List AV->ai->(List AV->ai->Prop)->Prop) (λ _ T S K=>K T S)
  (λ o _ ih gl T S K=>match gl with
 |[]=>False
 |g::gs=>
  match g with
  |true=>fM ops o.guard T
   (λ T=>dN o.dst λ d=>NT TY F d o.op T S λ v T S=>iL o.dst T v λ T=>ih gs T S K)
   (λ T=>iL o.dst T (.cC []) λ T=>ih gs T S K)
  |false=>fM ops o.guard T
   (λ T=>match o.dst with
    |some d=>qK TY F d o.op T S λ v b=>(match b with
     |none=>wR T d v λ T=>ih gs T S K
     |some b=>Et S d (wR T d v λ T=>ih gs T ((d,b)::S) K))
    |none=>qK TY F 999 o.op T S λ _v b=>(match b with
     |none=>ih gs T S K
     |some _=>False))
   (λ T=>iL o.dst T (.cC []) λ T=>ih gs T S K)) l gl
theorem Ic{TY:List cP}{F:Spec}{ops:List Oper}{gl:List Bool}{T:List AV}{S:ai}{K:List AV->ai->Prop}:je TY F ops gl [] T S K=K T S:=rfl
theorem vh{TY:List cP}{F:Spec}{ops rest:List Oper}{o:Oper}{g:Bool}{gs:List Bool}{T:List AV}{S:ai}{K:List AV->ai->Prop}:je TY F ops (g::gs) (o::rest) T S K=(match g with
  |true=>fM ops o.guard T
   (λ T=>dN o.dst λ d=>NT TY F d o.op T S λ v T S=>iL o.dst T v λ T=>je TY F ops gs rest T S K)
   (λ T=>iL o.dst T (.cC []) λ T=>je TY F ops gs rest T S K)
  |false=>fM ops o.guard T
   (λ T=>match o.dst with
    |some d=>qK TY F d o.op T S λ v b=>(match b with
     |none=>wR T d v λ T=>je TY F ops gs rest T S K
     |some b=>Et S d (wR T d v λ T=>je TY F ops gs rest T ((d,b)::S) K))
    |none=>qK TY F 999 o.op T S λ _v b=>(match b with
     |none=>je TY F ops gs rest T S K
     |some _=>False))
   (λ T=>iL o.dst T (.cC []) λ T=>je TY F ops gs rest T S K)):=rfl
inductive Gf where
 |done|fst (i:Nat) (s:Gf)|br (i:Nat) (s:Gf) (r:Gf)|no|SY|Xy (N:List (Nat × List (Nat × Nat)))
def B8(o:Oper):Bool:=
 (match o.guard with|none=>true|_=>false)&&(match o.op with|.move _=>true|.assign _=>true|.slice _ _ _ _ none=>true|.fieldAddr _ _ _=>true|.nilCheck _=>true|_=>false)
def Gf.Gj:Gf->List Nat|.br i _ r=>i::r.Gj|_=>[]
def jf(n m:Nat):Array Bool:=((List.range n).map (Nat.testBit m)).toArray
def dX:List (Nat × List (Nat × Nat))->Nat->Nat × List (Nat × Nat)
 |[],_=>(0,[])|a::_,0=>a|_::l,n+1=>dX l n
def Gi(ops:Array Oper)(N:List (Nat × List (Nat × Nat)))(l:Array Bool):Bool:=
 decide (0<N.length)&&(jf ops.size (dX N 0).1==l)&&(List.range N.length).all λ n=>
  ((Region.ready .any ops (jf ops.size (dX N n).1)).all λ i=>(dX N n).2.any λ e=>e.1==i)&&(dX N n).2.all λ e=>
    (Region.ready .any ops (jf ops.size (dX N n).1)).contains e.1&&decide (e.2<N.length)&&(jf ops.size (dX N e.2).1==(jf ops.size (dX N n).1).setIfInBounds e.1 true)
def p9(ops:Array Oper):Gf->Array Bool->Bool->Bool
 |.done,l,c=>!c&&(Region.ready .any ops l).isEmpty
 |.no,_,c=>c
 |.SY,_,_=>false
 |.Xy N,l,c=>!c&&Gi ops N l
 |.fst i s,l,c=>!c&&(match ops[i]? with|some o=>B8 o|none=>false)&&(Region.ready .any ops l).contains i&&Region.free .any ops l i&&p9 ops s (l.setIfInBounds i true) false
 |.br i s r,l,c=>(c||(!(Region.ready .any ops l).isEmpty&&(Region.ready .any ops l).all λ j=>(i::r.Gj).contains j))&&(Region.ready .any ops l).contains i&&p9 ops s (l.setIfInBounds i true) false&&p9 ops r l true
def Rl(ops:Array Oper):Bool:=Region.lexB .any ops&&ops.toList.all λ o=>o.guard.isNone&&bP o.op&& !lI o.op
def EC(ops:Array Oper)(t:Gf):Bool:=(match t with|.SY=>true|_=>false)&&Rl ops||Region.noSelect ops&&p9 ops t (Array.replicate ops.size false) false
noncomputable def Pa(TY:List cP)(F:Spec)(l:List Oper):List AV->ai->(List AV->ai->Prop)->Prop:=
 List.rec (motive:=λ _=>List AV->ai->(List AV->ai->Prop)->Prop) (λ T S K=>K T S)
  (λ o _ ih T S K=>dN o.dst λ d=>qK TY F d o.op T S λ v b=>match b with|none=>iL o.dst T v λ T=>ih T S K|some _=>False) l
theorem Io{TY:List cP}{F:Spec}{o:Oper}{l:List Oper}{T:List AV}{S:ai}{K:List AV->ai->Prop}:Pa TY F (o::l) T S K=dN o.dst λ d=>qK TY F d o.op T S λ v b=>match b with|none=>iL o.dst T v λ T=>Pa TY F l T S K|some _=>False:=rfl
def V1:List (List AV × ai)->Nat->(List AV->ai->Prop)->Prop
 |[],_,_=>False
 |(T,S)::_,0,K=>K T S
 |_::l,n+1,K=>V1 l n K
def Ik(st:List (List AV × ai))(n:Nat)(T:List AV)(S:ai):Prop:=V1 st n λ T' S'=>T=T'/\S=S'
noncomputable def K8(TY:List cP)(F:Spec)(ops:List Oper)(st:List (List AV × ai))(T:List AV)(S:ai):List (Nat × Nat)->Prop
 |[]=>True
 |(i,m)::l=>(match ops.getD i default with
  |o=>fM ops o.guard T
   (λ T=>dN o.dst λ d=>NT TY F d o.op T S λ v T S=>iL o.dst T v λ T=>Ik st m T S)
   (λ T=>iL o.dst T (.cC []) λ T=>Ik st m T S))/\K8 TY F ops st T S l
noncomputable def O9(TY:List cP)(F:Spec)(ops:List Oper)(st:List (List AV × ai))(K:List AV->ai->Prop):List (Nat × List (Nat × Nat))->Nat->Prop
 |[],_=>True
 |(_,nx)::N,n=>V1 st n (λ T S=>match nx with|[]=>K T S|nx=>K8 TY F ops st T S nx)/\O9 TY F ops st K N (n+1)
noncomputable def p5(TY:List cP)(F:Spec)(ops:List Oper):Gf->List AV->ai->(List AV->ai->Prop)->Prop
 |.done,T,S,K=>K T S
 |.no,_,_,_=>True
 |.SY,T,S,K=>Pa TY F ops T S K
 |.Xy N,T,S,K=>∃st,Ik st 0 T S/\O9 TY F ops st K N 0
 |.fst i s,T,S,K=>(match ops.getD i default with
  |o=>fM ops o.guard T
   (λ T=>dN o.dst λ d=>qK TY F d o.op T S λ v b=>match b with|none=>iL o.dst T v λ T=>p5 TY F ops s T S K|some _=>False)
   (λ _=>False))
 |.br i s r,T,S,K=>(match ops.getD i default with
  |o=>fM ops o.guard T
   (λ T=>dN o.dst λ d=>NT TY F d o.op T S λ v T S=>iL o.dst T v λ T=>p5 TY F ops s T S K)
   (λ T=>iL o.dst T (.cC []) λ T=>p5 TY F ops s T S K))/\p5 TY F ops r T S K
def rN:List Nat->List AV->ai->(List AV->ai->Prop)->Prop
 |[],T,S,K=>K T S
 |d::l,T,S,K=>match aj S d with
  |none=>rN l T S K
  |some _=>iH d T S λ T S=>rN l T S K
def makes:List Bool->List Oper->List Nat
 |g::gs,o::l=>(match g,lI o.op||(match o.op with|.call _=>true|_=>false),o.dst with|false,true,some d=>d::makes gs l|_,_,_=>makes gs l)
 |_,_=>[]
def SZ(n:Nat):List Nat->Bool
 |[]=>false|m::l=>match Nat.beq n m with|true=>true|false=>SZ n l
def Ui:List Oper->List Nat->List Nat
 |[],acc=>acc
 |o::l,acc=>match o.dst with|some d=>Ui l (d::acc)|none=>Ui l acc
def writes:Code->List Nat->List Nat
 |.region _ ops _,acc=>Ui ops.toList acc
 |.seq a b,acc=>writes a (writes b acc)|.cond _ a b,acc=>writes a (writes b acc)
 |.block _ b,acc=>writes b acc|.loop b,acc=>writes b acc|.scope b,acc=>writes b acc|_,acc=>acc
def tV(W:List Nat):Nat->List AV->(List AV->Prop)->Prop
 |_,[],k=>k []
 |i,a::l,k=>tV W (i+1) l λ l'=>match SZ i W with|true=>k (.any::l')|false=>k (a::l')
def Cc:List Nat->ai->(ai->Prop)->Prop
 |[],S,K=>K S
 |w::W,S,K=>match Nat.ble 10000 w with|true=>kL S (w - 10000) λ S=>Cc W S K|false=>Cc W S K
def oc:List (Nat × AV)->List AV->(List AV->Prop)->Prop
 |[],T,k=>k T
 |(i,v)::u,T,k=>wR T i v λ T'=>oc u T' k
def US(S S':ai)(T:List AV):List (Nat × AV)->Prop
 |[]=>True
 |(i,v)::u=>FY S S' (nth T i) v/\US S S' T u
inductive EX where
 |normal|exit (id:Nat)|ret
def W9(W:List Nat):Bool:=match W with|[]=>false|w::_=>Nat.beq w 7777
def Gm(ex:List AV->ai->(EX->List AV->ai->Prop)->Prop)(wr:List Nat)(W:List Nat)(T:List AV)(St:ai)(Q:EX->List AV->ai->Prop):Prop:=
 Cc W St λ S=>tV (A2 W wr) 0 T λ T0=>
   ∃(X:Type) (U:X->List (Nat × AV)) (V:X->ai) (ok:X->Prop) (μ:X->Nat) (x0:X),
    (ok x0/\(mP (V x0) S λ S0=>bH (gm S0 T0) (US St S0 T (U x0)/\JF St S0 S0)))/\
    ∀x,ok x->oc (U x) T0 λ T1=>mP (V x) S λ S1=>ex T1 S1 λ e T2 S2=>match e with
     |.normal=>tV (A2 W wr) 0 T2 λ T3=>∃x',(ok x'/\μ x'<μ x)/\T3=T0/\mP (V x') S λ S3=>bH (gm S3 T0) (US S2 S3 T2 (U x')/\JF S2 S3 S3)
     |.exit i=>Q (.exit i) T2 S2
     |.ret=>Q .ret T2 S2
def yc(TY:List cP)(F:Spec):Code->List AV->ai->(EX->List AV->ai->Prop)->Prop
 |.skip,T,S,Q=>Q .normal T S
 |.region _ ops false,T,S,Q=>H2 TY F ops.toList ops.toList T S (Q .normal)
 |.region _ ops true,T,S,Q=>(∃g:List Bool,Ew ops g=true/\rN (makes g ops.toList) T S λ T S=>je TY F ops.toList g ops.toList T S (Q .normal))\/
   ∃t:Gf,EC ops t=true/\p5 TY F ops.toList t T S (Q .normal)
 |.seq a b,T,S,Q=>yc TY F a T S λ e T S=>match e with|.normal=>yc TY F b T S Q|.exit i=>Q (.exit i) T S|.ret=>Q .ret T S
 |.cond c a b,T,S,Q=>bf T c λ c=>match c with
  |.bool e=>lZ e λ t=>match t with|true=>yc TY F a T S Q|false=>yc TY F b T S Q
  |.may t n=>(match t with|true=>(n=0->yc TY F a T S Q)/\yc TY F b T S Q|false=>yc TY F a T S Q/\(n=0->yc TY F b T S Q))
  |_=>False
 |.block id b,T,S,Q=>yc TY F b T S λ e T S=>match e with
  |.exit j=>(match Nat.beq j id with|true=>Q .normal T S|false=>Q (.exit j) T S)
  |.normal=>Q .normal T S|.ret=>Q .ret T S
 |.loop b,T,St,Q=>∃W:List Nat,match W9 W with
  |true=>yc TY F b T St λ e T2 S2=>match e with
    |.normal=>∃W:List Nat,Gm (yc TY F b) (writes b []) W T2 S2 Q
    |.exit i=>Q (.exit i) T2 S2
    |.ret=>Q .ret T2 S2
  |false=>Gm (yc TY F b) (writes b []) W T St Q
 |.exit id,T,S,Q=>Q (.exit id) T S
 |.scope b,T,S,Q=>yc TY F b T S Q
 |.ret,T,S,Q=>Q .ret T S
 |_,_,_,_=>False
def fO:List AV->List AV->ai
 |.vec k::l,.new _::m=>match fO l m with|[]=>[(k,.box [])]|S=>(k,.box [])::S
 |_::l,_::m=>fO l m
 |_,_=>[]
def XA(S S':ai)(a b:AV):Prop:=
 match b with
 |.new r'=>(match a with
  |.vec k=>(match aj S k with|some (.vec wm r [])=>wm=0/\X5 r=r'|_=>False)
  |.ao=>r'.len=0
  |_=>False)
 |b=>FY S S' a b
def K9(S S':ai):List AV->List AV->Prop
 |[],[]=>True
 |a::l,b::m=>XA S S' a b/\K9 S S' l m
 |_,_=>False
def rQ:AV->Bool
 |.vec _=>false|.ptr _ _=>false|.dS _ _=>false|.gd _ _ _=>false|.gf _ _=>false|.full _=>false|.cC _=>false|.fn _ (_::_)=>false|_=>true
def vr:List AV->Bool
 |[]=>true|a::l=>match rQ a with|true=>vr l|false=>false
def jg:List AV->Bool
 |[]=>true
 |a::l=>match a with
  |.agg m=>(match vr m with|true=>jg l|false=>false)
  |a=>(match rQ a with|true=>jg l|false=>false)
def mf(S:ai)(as rs:List AV):Prop:=
 match fO as rs with
 |[]=>bH (jg rs) (K9 S [] as rs)
 |[x]=>bH (jg rs) (K9 S [x] as rs)
 |_=>False
def tA(TY:List cP)(T:List AV)(S:ai):List ResultVar->(List AV->Prop)->Prop
 |[],K=>K []
 |.tmp t::l,K=>kF (nth T t) λ a=>tA TY T S l λ m=>K (a::m)
 |.cell t ty::l,K=>(match nth T t with
  |.ptr k off=>(match aj S k with
   |some (.box b)=>yd TY ty b off λ a=>tA TY T S l λ m=>K (a::m)
   |_=>False)
  |_=>False)
def Ce:Nat->List AV
 |0=>[]|n+1=>.any::Ce n
def qd:Nat->List AV->Nat
 |n,[]=>n|0,_::_=>0|n+1,_::l=>qd n l
def La:RO->Prop
 |.ints k l=>l.length<=140737488355328/\∀x∈l,fP k x
 |.aL l=>l.length<=140737488355328
 |.rows k l=>l.length<=140737488355328/\∀m∈l,m.length<=140737488355328/\∀x∈m,fP k x
 |.bw l=>l.length<=140737488355328/\∀m∈l,m.length<=140737488355328
 |.bC l=>l.length<=140737488355328/\∀n∈l,n.length<=140737488355328/\∀m∈n,m.length<=140737488355328/\∀x∈m,fP .i64 x
 |.aT l=>l.length<=140737488355328/\∀p∈l,fP .i64 p.1/\fP .i64 p.2
 |.eY _ _ l=>l.length<=140737488355328
 |.strs l=>l.length<=140737488355328
 |.dK l=>l.length<=140737488355328
 |.dP l=>l.length<=140737488355328
 |.cR k l=>l.length<=140737488355328/\∀m∈l,m.length<=140737488355328/\∀x∈m,fP k x
 |.cH l=>l.length<=140737488355328/\∀m∈l,m.length<=140737488355328/\∀p∈m,fP .i64 p.1/\fP .i64 p.2
def Ns(a:AV):Prop:=match a with|.int k n=>fP k n|.ro r=>La r|_=>True
def EG:List AV->Prop
 |[]=>True|a::l=>Ns a/\EG l
def kB:List AV->Prop
 |[]=>True|a::l=>(match a with|.agg m=>EG m|a=>Ns a)/\kB l
def SS(TY:List cP)(F:Spec)(fn:Func)(args:List AV)(ret:AV):Prop:=
 match fn.body with
 |some c=>yc TY F c (kg args (Ce (qd fn.ntmps args))) [] λ e T S=>match e with
  |.exit _=>False
  |_=>tA TY T S fn.results.toList λ as=>match as,ret with
   |[a],r=>mf S [a] [r]
   |as,.cC rs=>mf S as rs
   |_,_=>False
 |none=>False
def KW(TY:List cP)(F:Spec)(fn:Func)(args:List AV){X:Type}(out:X->AV)(ok:X->Prop):Prop:=
 match fn.body with
 |some c=>yc TY F c (kg args (Ce (qd fn.ntmps args))) [] λ e T S=>match e with
  |.exit _=>False
  |_=>tA TY T S fn.results.toList λ as=>∃x,ok x/\match as,out x with
   |[a],r=>mf S [a] [r]
   |as,.cC rs=>mf S as rs
   |_,_=>False
 |none=>False
def lO:ai->List AV->ai->(List AV->ai->Prop)->Prop
 |[],T,S,K=>K T S
 |(k,b)::R,T,S,K=>match b with
  |.ma _ _=>(match aj S k with
   |some (.dE n r)=>kL S k λ S=>cU k .any T λ T=>b5 k .any S λ S=>lO R T ((k,.ma n r.sz)::S) K
   |_=>lO R T S K)
  |_=>lO R T S K
def Iu(TY:List cP)(F:Spec)(fn:Func)(args:List AV)(S1:ai)(ret:AV)(S2:ai):Prop:=
 match fn.body with
 |some c=>yc TY F c (kg args (Ce (qd fn.ntmps args))) S1 λ e T S=>match e with
  |.exit _=>False
  |_=>lO S2 T S λ T S=>tA TY T S fn.results.toList λ as=>JF S S2 S2/\match as,ret with
   |[a],r=>FY S S2 a r
   |as,.cC rs=>Q2 S S2 as rs
   |_,_=>False
 |none=>False
def Pe(TY:List cP)(F:Spec)(fn:Func)(args:List AV)(S1:ai)(X:Type)(ret:X->AV)(S2:X->ai)(ok:X->Prop):Prop:=
 match fn.body with
 |some c=>yc TY F c (kg args (Ce (qd fn.ntmps args))) S1 λ e T S=>match e with
  |.exit _=>False
  |_=>∃z,ok z/\lO (S2 z) T S λ T S=>tA TY T S fn.results.toList λ as=>JF S (S2 z) (S2 z)/\match as,ret z with
   |[a],r=>FY S (S2 z) a r
   |as,.cC rs=>Q2 S (S2 z) as rs
   |_,_=>False
 |none=>False
end Go.AM
end
section
namespace Go.AM
open Go
abbrev LB:Nat:=140737488355328
structure Sl where
 aW:Option Nat
 len:Nat
 cap:Nat
 sz:Nat
inductive bY where
 |sl (o:Sl)|bx (b:Nat)|mp (b:Nat)|dp (o:Sl) (rows:List Sl)|st (o cur:Sl)
def Sl.val(o:Sl):Value:=.slice (o.aW.map λ b=>⟨b,0,none⟩) o.len o.cap
def Sl.SB(o:Sl)(i:Nat):Value:=.slice (if o.cap=i then (o.aW.map λ b=>⟨b,0,none⟩) else (o.aW.map λ b=>(⟨b,0,none⟩:Addr)).map (·.add (i*o.sz))) (o.len - i) (o.cap - i)
def bY.ref:bY->Nat->Option Value
 |.bx b,off=>some (.pointer (some ⟨b,off,none⟩))|.mp b,_=>some (.map (some b))|_,_=>none
def bY.x9:bY->Option Sl
 |.sl o=>some o|.dp o _=>some o|.st _ o=>some o|_=>none
def bY.base:bY->bY
 |.st o _=>.sl o|o=>o
abbrev Env:=Nat->Option bY
abbrev aX:=Nat->Nat->Prop
def aM:Value->Prop
 |.agg _=>False|.tuple _=>False|_=>True
def kA(w:World)(M:aX)(n:Nat)(C:Nat->Value->Prop)(m:Nat)(v:Value):Prop:=
 ∃a cap,v= .slice a m cap/\m<=cap/\(n=0\/∃b off,a=some ⟨b,off,none⟩/\∀q,q<n->∃c,w.cell? ⟨b,off+q,none⟩=some c/\¬M b (off+q)/\C q c)
def RO.cells(r:RO):Nat:=r.len*r.sz
def H7(w:World)(M:aX)(k:IntKind)(l:List Int)(v:Value):Prop:=
 l.length<=LB/\kA w M l.length (λ q c=>c= .int k (l.getD q 0)/\eD k (l.getD q 0)) l.length v
def N7(w:World)(M:aX)(l:List Bool)(v:Value):Prop:=
 l.length<=LB/\kA w M l.length (λ q c=>c= .bool (l.getD q false)) l.length v
def NY(w:World)(M:aX)(k:IntKind)(l:List (List Int))(v:Value):Prop:=
 l.length<=LB/\kA w M l.length (λ q c=>H7 w M k (l.getD q []) c) l.length v
def S5(w:World)(M:aX)(l:List (Int × Int))(v:Value):Prop:=
 l.length<=LB/\kA w M (l.length*2) (λ q c=>if q % 2=0 then c= .int .i64 (l.getD (q / 2) (0,0)).1/\eD .i64 (l.getD (q / 2) (0,0)).1 else c= .int .i64 (l.getD (q / 2) (0,0)).2/\eD .i64 (l.getD (q / 2) (0,0)).2) l.length v
def ca(l:List Int):ByteArray:=⟨(l.map λ x=>UInt8.ofNat x.toNat).toArray⟩
def c6(x:Int):Prop:=0<=x/\x<=255
def Uj(l:List Int)(v:Value):Prop:=v= .string (ca l)/\∀x∈l,c6 x
def av(w:World)(M:aX):RO->Nat->Value->Prop
 |.ints k l,q,c=>c= .int k (l.getD q 0)/\eD k (l.getD q 0)
 |.aL l,q,c=>c= .bool (l.getD q false)
 |.rows k l,q,c=>H7 w M k (l.getD q []) c
 |.bw l,q,c=>N7 w M (l.getD q []) c
 |.bC l,q,c=>NY w M .i64 (l.getD q []) c
 |.aT l,q,c=>if q % 2=0 then c= .int .i64 (l.getD (q / 2) (0,0)).1/\eD .i64 (l.getD (q / 2) (0,0)).1 else c= .int .i64 (l.getD (q / 2) (0,0)).2/\eD .i64 (l.getD (q / 2) (0,0)).2
 |.eY n k l,q,c=>c= .int k ((l.getD (q / (n+2)) []).getD (q % (n+2)) 0)/\eD k ((l.getD (q / (n+2)) []).getD (q % (n+2)) 0)
 |.cR k l,q,c=>H7 w M k (l.getD q []) c/\(l.getD q []=[]->c= .slice none 0 0)
 |.cH l,q,c=>S5 w M (l.getD q []) c
 |.strs l,q,c=>Uj (l.getD q []) c
 |.dK l,q,c=>if q % 2=0 then Uj (l.getD (q / 2) ([],[])).1 c else Uj (l.getD (q / 2) ([],[])).2 c
 |.dP l,q,c=>if q % 3=0 then c= .int .i64 (l.getD (q / 3) (0,[],0)).1/\eD .i64 (l.getD (q / 3) (0,[],0)).1 else if q % 3=1 then N7 w M (l.getD (q / 3) (0,[],0)).2.1 c else c= .int .i64 (l.getD (q / 3) (0,[],0)).2.2/\eD .i64 (l.getD (q / 3) (0,[],0)).2.2
def a8(w:World)(M:aX)(r:RO)(v:Value):Prop:=r.len<=LB/\kA w M r.cells (av w M r) r.len v
theorem jY{α β:Type}{x:Option α}{f:α->Option β}{b:β}(h:x.bind f=some b):x.isSome=true:=by cases x with|none=>cases h|some a=>rfl
theorem vm{ρ:Env}{k off:Nat}{v:Value}(h:(ρ k).bind (bY.ref · off)=some v):∃b,(ρ k=some (.bx b)/\v= .pointer (some ⟨b,off,none⟩))\/(ρ k=some (.mp b)/\v= .map (some b)):=by
 cases ho:ρ k with
 |none=>rw [ho]at h;cases h
 |some o=>
  rw [ho]at h;cases o with
  |bx b=>cases h;exact⟨b,.inl ⟨rfl,rfl⟩⟩
  |mp b=>cases h;exact⟨b,.inr ⟨rfl,rfl⟩⟩
  |_=>cases h
theorem rO{ρ:Env}{k off b:Nat}{v:Value}(hk:ρ k=some (.bx b))(h:(ρ k).bind (bY.ref · off)=some v):v= .pointer (some ⟨b,off,none⟩):=by rw [hk]at h;cases h;rfl
theorem zI{ρ:Env}{k off b:Nat}{v:Value}(hk:ρ k=some (.mp b))(h:(ρ k).bind (bY.ref · off)=some v):v= .map (some b):=by rw [hk]at h;cases h;rfl
theorem B9{ρ:Env}{k b:Nat}(off:Nat)(hk:ρ k=some (.bx b)):(ρ k).bind (bY.ref · off)=some (.pointer (some ⟨b,off,none⟩)):=by rw [hk];rfl
theorem RW{ρ:Env}{k b:Nat}(off:Nat)(hk:ρ k=some (.mp b)):(ρ k).bind (bY.ref · off)=some (.map (some b)):=by rw [hk];rfl
theorem cx{ρ:Env}{k:Nat}{o o':Sl}(hk:ρ k=some (.sl o))(h:(ρ k).bind bY.x9=some o'):o'=o:=by rw [hk]at h;cases h;rfl
theorem iD{ρ:Env}{k:Nat}{o:Sl}(hk:ρ k=some (.sl o)):(ρ k).bind bY.x9=some o:=by rw [hk];rfl
theorem mc{ρ:Env}{k:Nat}{o cur:Sl}(hk:ρ k=some (.st o cur)):(ρ k).bind bY.x9=some cur:=by rw [hk];rfl
theorem oB{ρ:Env}{k:Nat}{o:Sl}{rows:List Sl}(hk:ρ k=some (.dp o rows)):(ρ k).bind bY.x9=some o:=by rw [hk];rfl
def aH(ρ:Env)(w:World)(M:aX):AV->Value->Prop
 |.int k n,v=>v= .int k n/\eD k n
 |.bool e,v=>v= .bool e.val
 |.ro r,v=>a8 w M r v
 |.vec k,v=>∃o,(ρ k).bind bY.x9=some o/\v=o.val
 |.ptr k off,v=>(ρ k).bind (bY.ref · off)=some v
 |.ao,v=>v= .slice none 0 0
 |.bK,v=>v= .map none
 |.may b n,v=>∃x,v= .bool x/\(x=b->n=0)
 |.any,v=>aM v
 |.fn f [],v=>v= .func (.func f) #[] #[]
 |.eH r i,v=>∃b off cap,a8 w M r (.slice (some ⟨b,off,none⟩) r.len cap)/\0<=i/\i<r.len/\v= .pointer (some ⟨b,off+i.toNat*r.sz,none⟩)
 |.dS k i,v=>∃o b,(ρ k).bind bY.x9=some o/\o.aW=some b/\0<=i/\i<o.len/\v= .pointer (some ⟨b,i.toNat*o.sz,none⟩)
 |.gd k i j,v=>∃o b,(ρ k).bind bY.x9=some o/\o.aW=some b/\0<=i/\i<o.len/\v= .pointer (some ⟨b,i.toNat*o.sz+j,none⟩)
 |.gf k i,v=>∃o,(ρ k).bind bY.x9=some o/\0<=i/\i<=o.len/\v=o.SB i.toNat
 |.full r,v=>a8 w M r v/\∃a,v= .slice a r.len r.len
 |.str l,v=>v= .string (ca l)/\∀x∈l,c6 x
 |.tP f r i,v=>∃b off cap,a8 w M r (.slice (some ⟨b,off,none⟩) r.len cap)/\0<=i/\i<r.len/\v= .func (.func f) #[] #[.pointer (some ⟨b,off+i.toNat*r.sz,none⟩)]
 |_,_=>False
def aJ(R:AV->Value->Prop):List AV->List Value->Prop
 |[],[]=>True
 |a::l,v::m=>R a v/\aJ R l m
 |_,_=>False
def ck(ρ:Env)(w:World)(M:aX):AV->Value->Prop
 |.agg l,v=>∃cs,v= .agg cs/\aJ (aH ρ w M) l cs.toList
 |.any,_=>True
 |a,v=>aH ρ w M a v
def az(ρ:Env)(w:World)(M:aX):AV->Value->Prop
 |.agg l,v=>∃cs,v= .agg cs/\aJ (aH ρ w M) l cs.toList
 |.cC l,v=>∃cs,v= .tuple cs/\aJ (ck ρ w M) l cs.toList
 |.fn f l,v=>∃cs,v= .func (.func f) #[] cs/\aJ (aH ρ w M) l cs.toList
 |.any,_=>True
 |a,v=>aH ρ w M a v
def fb(ρ:Env)(w:World)(M:aX)(o:Sl)(wm:Nat)(r:RO)(ov:List (Int × Nat)):Prop:=
 o.len=r.len/\o.sz=r.sz/\r.len<=LB/\wm<=r.len/\
 match o.aW with
 |none=>r.len=0/\o.cap=0
 |some b=>o.len<=o.cap/\∃cs ty,w.heap[b]? =some (.cells cs ty (0,0))/\cs.size=o.cap*o.sz/\
   (∀off,M b off↔wm*o.sz<=off/\off<cs.size)/\
   ∀q,q<r.cells->∃c,cs[q]? =some c/\match ov with
    |[]=>av w M r q c
    |(i,j)::_=>if (q:Int)=i then aH ρ w M (.vec j) c else av w M r q c
def iv:iC->List Int->Value->Prop
 |.int k,l,v=>∃n,l=[n]/\v= .int k n/\eD k n
 |.arr n k,l,v=>l.length=n/\v= .agg (l.map λ x=>Value.int k x).toArray/\∀x∈l,eD k x
 |.str,l,v=>v= .string (ca l)/\∀x∈l,c6 x
def px:Option IntKind->Int->Value->Prop
 |some k,n,v=>v= .int k n/\eD k n
 |none,n,v=>v= .bool (decide (n≠0))/\(n=0\/n=1)
def lj(kd:iC)(vk:Option IntKind):List (List Int × Int)->List MapEntry->Prop
 |[],[]=>True
 |p::m,e::es=>(iv kd p.1 e.key/\px vk p.2 e.val)/\lj kd vk m es
 |_,_=>False
def RO.row:RO->Nat->RO
 |.rows k l,q=>.ints k (l.getD q [])|.bw l,q=>.aL (l.getD q [])|.bC l,q=>.rows .i64 (l.getD q [])|r,_=>r
def cz:Sl:=⟨none,0,0,1⟩
structure oI(w:World)(M:aX)(o:Sl)(rows:List Sl)(r:RO)(hole:Option Int):Prop where
 rq:nr r=true
 len:o.len=r.len
 NS:o.sz=1
 lb:r.len<=LB
 Fz:rows.length=r.len
 outer:match o.aW with
  |none=>r.len=0/\o.cap=0
  |some b=>o.len<=o.cap/\∃cs ty,w.heap[b]? =some (.cells cs ty (0,0))/\cs.size=o.cap/\(∀off,M b off↔off<cs.size)/\∀q,q<r.len->∃c,cs[q]? =some c/\(hole=some (q:Int)\/c=(rows.getD q cz).val)
 row:∀q,q<r.len->hole≠some (q:Int)->fb (λ _=>none) w M (rows.getD q cz) 0 (r.row q) []
 Lx:∀i,hole=some i->(0<=i/\i<r.len)/\(rows.getD i.toNat cz).aW=none
 out:∀q b,(rows.getD q cz).aW=some b->o.aW≠some b
 apart:∀q q' b,(rows.getD q cz).aW=some b->(rows.getD q' cz).aW=some b->q=q'
def wT(w:World)(M:aX)(o:Sl)(n z:Nat):Prop:=
 o.len=n/\o.sz=z/\n<=LB/\
 match o.aW with
 |none=>n=0/\o.cap=0
 |some b=>o.len<=o.cap/\∃cs ty,w.heap[b]? =some (.cells cs ty (0,0))/\cs.size=o.cap*o.sz/\∀off,M b off↔off<cs.size
def eA(ρ:Env)(w:World)(M:aX)(k:Nat):dH->Prop
 |.map kd vk m=>∃b,ρ k=some (.mp b)/\∃es n,w.heap[b]? =some (.map es n)/\(∀off,M b off↔off=0)/\lj kd vk m es.toList
 |.deep r hole=>∃o rows,ρ k=some (.dp o rows)/\oI w M o rows r hole
 |.vec wm r ov=>(∃o,ρ k=some (.sl o)/\fb ρ w M o wm r ov)/\(ov=[]\/∃i j,ov=[(i,j)]/\X6 r=true/\wm=0/\0<=i/\i<r.len)
 |.dE n r=>∃o cur,ρ k=some (.st o cur)/\fb ρ w M cur 0 r []/\wT w M o n r.sz
 |.ma n z=>∃o,ρ k=some (.sl o)/\wT w M o n z
 |.box l=>∃b,ρ k=some (.bx b)/\∃cs ty,w.heap[b]? =some (.cells cs ty (0,0))/\(∀off,M b off↔off<cs.size)/\aJ (aH ρ w M) l cs.toList
def bY.has:bY->Nat->Prop
 |.sl o,b=>o.aW=some b|.bx b',b=>b'=b|.mp b',b=>b'=b
 |.dp o rows,b=>o.aW=some b\/∃q,(rows.getD q cz).aW=some b
 |.st o cur,b=>o.aW=some b\/cur.aW=some b
def hasB(ρ:Env)(k b:Nat):Prop:=match ρ k with|some o=>o.has b|none=>False
def jT(w w':World):Prop:=(w'.os=w.os/\w'.output=w.output)/\w'.tape=w.tape/\w.drawn<=w'.drawn
theorem jT.refl(w:World):jT w w:=⟨⟨rfl,rfl⟩,rfl,Nat.le_refl _⟩
theorem jT.trans{w w' w'':World}(h:jT w w')(h':jT w' w''):jT w w'':=⟨⟨h'.1.1.trans h.1.1,h'.1.2.trans h.1.2⟩,h'.2.1.trans h.2.1,Nat.le_trans h.2.2 h'.2.2⟩
structure gk(M:aX)(w w':World):Prop where
 size:w.heap.size<=w'.heap.size
 blocks:∀b,b<w.heap.size->w'.heap[b]? =w.heap[b]?\/
  (∃cs cs' ty,w.heap[b]? =some (.cells cs ty (0,0))/\w'.heap[b]? =some (.cells cs' ty (0,0))/\cs'.size=cs.size/\∀off,¬M b off->cs'[off]? =cs[off]?)\/
  ∃es es' n n',w.heap[b]? =some (.map es n)/\w'.heap[b]? =some (.map es' n')/\M b 0
 io:jT w w'
def z8(w:World):Prop:=∀j,j<Lib.deBruijn64tab.length->w.cell? ⟨0,j,none⟩=some (.int .u8 (Lib.deBruijn64tab.getD j 0))
structure ef(w0:World) where
 mask:aX
 oR:Nat->Prop
 env:Env
 hw:∀w',gk (λ b off=>oR b/\mask b off) w0 w'->z8 w'
structure St{w0:World}(M0:ef w0)(ρ:Env)(M:aX)(S:ai)(w:World):Prop where
 ga:∀k,(ρ k).isSome=(aj S k).isSome
 aW:∀k B,aj S k=some B->eA ρ w M k B
 inj:∀k k' b,hasB ρ k b->hasB ρ k' b->k=k'
 mlt:∀b off,M b off->b<w.heap.size
 lD:gk (λ b off=>M0.oR b/\M0.mask b off) w0 w
 sub:∀b off,b<w0.heap.size->M b off->M0.mask b off
 eu:∀b off,b<w0.heap.size->¬M0.oR b->M0.mask b off->M b off
 fresh:∀k b,hasB ρ k b->w0.heap.size<=b\/M0.oR b
 tn:∀k o,loc k=false->ρ k=some o->M0.env k=some o.base
theorem St.gU{w0 w:World}{M0:ef w0}{ρ:Env}{M:aX}{S:ai}(st:St M0 ρ M S w){k b:Nat}(hb:b<w0.heap.size)(hl:¬M0.oR b):¬hasB ρ k b:=
 λ h=>(st.fresh k b h).elim (λ h=>absurd hb (Nat.not_lt_of_le h)) hl
structure Tm(ρ:Env)(w:World)(M:aX)(T:List AV)(a:Act):Prop where
 defers:a.defers=[]
 size:a.tmps.size=T.length
 tmp:∀i,az ρ w M (nth T i) (a.tmps.getD i undef)
def bB(w:World)(M:aX)(w':World)(M':aX):Prop:=
 ∀b off c,w.cell? ⟨b,off,none⟩=some c->¬M b off->w'.cell? ⟨b,off,none⟩=some c/\¬M' b off
section
variable{w w':World}{M M':aX}
theorem bB.refl(w:World)(M:aX):bB w M w M:=λ _ _ _ h h'=>⟨h,h'⟩
theorem kA.keep{n m:Nat}{C C':Nat->Value->Prop}{v:Value}(hk:bB w M w' M')(hC:∀q c,C q c->C' q c)
  (h:kA w M n C m v):kA w' M' n C' m v:=by
 obtain⟨a,cap,rfl,dT,h⟩:=h;refine⟨a,cap,rfl,dT,?_⟩;rcases h with h|⟨b,off,rfl,h⟩
 ·exact .inl h
 ·refine .inr ⟨b,off,rfl,λ q hq=>?_⟩
  obtain⟨c,h1,h2,h3⟩:=h q hq;obtain⟨h4,h5⟩:=hk _ _ _ h1 h2;exact⟨c,h4,h5,hC _ _ h3⟩
theorem H7.keep{k:IntKind}{l:List Int}{v:Value}(hk:bB w M w' M')(h:H7 w M k l v):H7 w' M' k l v:=⟨h.1,h.2.keep hk λ _ _ h=>h⟩
theorem N7.keep{l:List Bool}{v:Value}(hk:bB w M w' M')(h:N7 w M l v):N7 w' M' l v:=⟨h.1,h.2.keep hk λ _ _ h=>h⟩
theorem S5.keep{l:List (Int × Int)}{v:Value}(hk:bB w M w' M')(h:S5 w M l v):S5 w' M' l v:=⟨h.1,h.2.keep hk λ _ _ h=>h⟩
theorem NY.keep{k:IntKind}{l:List (List Int)}{v:Value}(hk:bB w M w' M')(h:NY w M k l v):NY w' M' k l v:=⟨h.1,h.2.keep hk λ _ _ h=>h.keep hk⟩
theorem av.keep{r:RO}{q:Nat}{c:Value}(hk:bB w M w' M')(h:av w M r q c):av w' M' r q c:=by
 cases r<;>first|exact h|exact H7.keep hk h|exact N7.keep hk h|exact NY.keep hk h|exact S5.keep hk h|exact⟨H7.keep hk h.1,h.2⟩|skip
 ·simp only [av]at h ⊢
  split at h
  ·rename_i h0;rw [if_pos h0];exact h
  ·rename_i h0
   rw [if_neg h0];split at h
   ·rename_i h1;rw [if_pos h1];exact N7.keep hk h
   ·rename_i h1;rw [if_neg h1];exact h
theorem a8.keep{r:RO}{v:Value}(hk:bB w M w' M')(h:a8 w M r v):a8 w' M' r v:=⟨h.1,h.2.keep hk λ _ _ h=>h.keep hk⟩
theorem a6{α β:Type}{x y:Option α}{f:α->Option β}{b:β}(h:∀o,x=some o->y=some o)(hx:x.bind f=some b):y.bind f=some b:=by
 cases x with
 |none=>cases hx
 |some a=>rw [h a rfl];exact hx
theorem aH.keep{ρ ρ':Env}{a:AV}{v:Value}(hk:bB w M w' M')(hρ:∀k o,ρ k=some o->ρ' k=some o)(h:aH ρ w M a v):aH ρ' w' M' a v:=by
 cases a with
 |ro r=>exact a8.keep hk h
 |vec k=>obtain⟨o,h1,h2⟩:=h;exact⟨o,a6 (hρ k) h1,h2⟩
 |ptr k off=>exact a6 (hρ k) h
 |eH r i=>obtain⟨b,off,cap,h1,h2⟩:=h;exact⟨b,off,cap,h1.keep hk,h2⟩
 |dS k i=>obtain⟨o,b,h1,h2⟩:=h;exact⟨o,b,a6 (hρ k) h1,h2⟩
 |gd k i j=>obtain⟨o,b,h1,h2⟩:=h;exact⟨o,b,a6 (hρ k) h1,h2⟩
 |gf k i=>obtain⟨o,h1,h2⟩:=h;exact⟨o,a6 (hρ k) h1,h2⟩
 |full r=>exact⟨a8.keep hk h.1,h.2⟩
 |tP f r i=>obtain⟨b,off,cap,h1,h2⟩:=h;exact⟨b,off,cap,h1.keep hk,h2⟩
 |fn f l=>cases l<;>exact h
 |_=>exact h
theorem aJ.imp{R R':AV->Value->Prop}(hR:∀a v,R a v->R' a v):∀{l:List AV} {m:List Value},aJ R l m->aJ R' l m
 |[],[],_=>trivial
 |_::_,_::_,h=>⟨hR _ _ h.1,aJ.imp hR h.2⟩
 |[],_::_,h=>h.elim
 |_::_,[],h=>h.elim
theorem aJ.length{R:AV->Value->Prop}:∀{l:List AV} {m:List Value},aJ R l m->l.length=m.length
 |[],[],_=>rfl
 |_::_,_::_,h=>by simp [aJ.length h.2]
 |[],_::_,h=>h.elim
 |_::_,[],h=>h.elim
theorem ck.keep{ρ ρ':Env}{a:AV}{v:Value}(hk:bB w M w' M')(hρ:∀k o,ρ k=some o->ρ' k=some o)(h:ck ρ w M a v):ck ρ' w' M' a v:=by
 cases a with
 |agg l=>obtain⟨cs,h1,h2⟩:=h;exact⟨cs,h1,h2.imp λ _ _=>aH.keep hk hρ⟩
 |any=>trivial
 |_=>simp only [ck]at h ⊢;exact aH.keep hk hρ h
theorem az.keep{ρ ρ':Env}{a:AV}{v:Value}(hk:bB w M w' M')(hρ:∀k o,ρ k=some o->ρ' k=some o)(h:az ρ w M a v):az ρ' w' M' a v:=by
 cases a with
 |agg l=>obtain⟨cs,h1,h2⟩:=h;exact⟨cs,h1,h2.imp λ _ _=>aH.keep hk hρ⟩
 |cC l=>obtain⟨cs,h1,h2⟩:=h;exact⟨cs,h1,h2.imp λ _ _=>ck.keep hk hρ⟩
 |fn f l=>obtain⟨cs,h1,h2⟩:=h;exact⟨cs,h1,h2.imp λ _ _=>aH.keep hk hρ⟩
 |any=>trivial
 |_=>simp only [az]at h ⊢;exact aH.keep hk hρ h
theorem cell_of_heap{b:Nat}{cs:Array Value}{ty:TypeId}{fz:Nat × Nat}(h:w.heap[b]? =some (.cells cs ty fz))(off:Nat):w.cell? ⟨b,off,none⟩=cs[off]? :=by
 simp [World.cell?,h]
theorem Js{b:Nat}(h:w.heap.size<=b)(off:Nat):w.cell? ⟨b,off,none⟩=none:=by
 simp [World.cell?,Array.getElem?_eq_none h]
theorem nH{b off:Nat}{c:Value}(h:w.cell? ⟨b,off,none⟩=some c):b<w.heap.size:=by
 rcases Nat.lt_or_ge b w.heap.size with h'|h'
 ·exact h'
 ·rw [Js h']at h;cases h
theorem gk.weaken{M1 M2:aX}(h:gk M1 w w')(hm:∀b off,M1 b off->M2 b off):gk M2 w w':=
 ⟨h.1,λ b hb=>(h.2 b hb).imp id λ hh=>hh.imp (λ⟨c1,c2,t,h1,h2,h3,h4⟩=>⟨c1,c2,t,h1,h2,h3,λ off hn=>h4 off λ hh=>hn (hm b off hh)⟩) (λ⟨e1,e2,n1,n2,h1,h2,h3⟩=>⟨e1,e2,n1,n2,h1,h2,hm b 0 h3⟩),h.3⟩
theorem gk.refl(M:aX)(w:World):gk M w w:=⟨Nat.le_refl _,λ _ _=>.inl rfl,jT.refl _⟩
theorem gk.cell(h:gk M w w'){b off:Nat}{c:Value}(hc:w.cell? ⟨b,off,none⟩=some c)(hm:¬M b off):w'.cell? ⟨b,off,none⟩=some c:=by
 rcases h.2 b (nH hc)with h1|⟨cs,cs',ty,h1,h2,_,h3⟩|⟨es,es',n,n',h1,h2,h3⟩
 ·simpa [World.cell?,h1]using hc
 ·rw [cell_of_heap h1]at hc;rw [cell_of_heap h2,h3 off hm,hc]
 ·simp [World.cell?,h1]at hc
theorem gk.keep(h:gk M w w')(hm:∀b off,b<w.heap.size->M' b off->M b off):bB w M w' M':=
 λ b off _ hc hn=>⟨h.cell hc hn,λ hM=>hn (hm b off (nH hc) hM)⟩
theorem gk.trans{w'':World}(h:gk M w w')(h':gk M' w' w'')(hm:∀b off,b<w.heap.size->M' b off->M b off):gk M w w'':=by
 refine⟨Nat.le_trans h.1 h'.1,λ b hb=>?_,h.3.trans h'.3⟩;have cr:b<w'.heap.size:=Nat.lt_of_lt_of_le hb h.1;rcases h.2 b hb with h1|⟨cs,cs',ty,h1,h2,h3,h4⟩|⟨es,es',n,n',h1,h2,h3⟩
 ·rcases h'.2 b cr with h5|⟨ds,ds',ty,h5,h6,h7,h8⟩|⟨ds,ds',m,m',h5,h6,h7⟩
  ·exact .inl (h5.trans h1)
  ·exact .inr (.inl ⟨ds,ds',ty,h1▸h5,h6,h7,λ off hn=>h8 off λ hM=>hn (hm b off hb hM)⟩)
  ·exact .inr (.inr ⟨ds,ds',m,m',h1▸h5,h6,hm b 0 hb h7⟩)
 ·rcases h'.2 b cr with h5|⟨ds,ds',ty',h5,h6,h7,h8⟩|⟨ds,ds',m,m',h5,h6,h7⟩
  ·exact .inr (.inl ⟨cs,cs',ty,h1,h5.trans h2,h3,h4⟩)
  ·rw [h2]at h5
   cases h5;exact .inr (.inl ⟨cs,ds',ty,h1,h6,h7.trans h3,λ off hn=>(h8 off λ hM=>hn (hm b off hb hM)).trans (h4 off hn)⟩)
  ·rw [h2]at h5;cases h5
 ·rcases h'.2 b cr with h5|⟨ds,ds',ty',h5,h6,h7,h8⟩|⟨ds,ds',m,m',h5,h6,h7⟩
  ·exact .inr (.inr ⟨es,es',n,n',h1,h5.trans h2,h3⟩)
  ·rw [h2]at h5;cases h5
  ·exact .inr (.inr ⟨es,ds',n,m',h1,h6,h3⟩)
theorem gk.heap(M:aX){w w':World}(h:w'.heap=w.heap)(oq:jT w w':=by exact jT.refl _):gk M w w':=⟨by rw [h];exact Nat.le_refl _,λ b _=>.inl (by rw [h]),oq⟩
theorem gk.alloc(M:aX)(w:World)(o:Obj):gk M w { w with heap:=w.heap.push o }:=
 ⟨by simp,λ b hb=>.inl (by simp [Array.getElem?_push,Nat.ne_of_lt hb]),jT.refl _⟩
theorem fb.HT{ρ ρ':Env}{o:Sl}{wm:Nat}{r:RO}(hk:bB w M w' M')(hb:∀b,o.aW=some b->w'.heap[b]? =w.heap[b]?/\∀off,M' b off↔M b off)(h:fb ρ w M o wm r []):fb ρ' w' M' o wm r []:=by
 obtain⟨h1,h2,h3,h4,h5⟩:=h;refine⟨h1,h2,h3,h4,?_⟩;cases ho:o.aW with
 |none=>simp only [ho]at h5 ⊢;exact h5
 |some b=>
  simp only [ho]at h5 ⊢;obtain⟨h6,cs,ty,h7,h8,h9,cu⟩:=h5;have:=hb b ho;refine⟨h6,cs,ty,by rw [this.1];exact h7,h8,λ off=>(this.2 off).trans (h9 off),λ q hq=>?_⟩;obtain⟨c,lB,ou⟩:=cu q hq;exact⟨c,lB,ou.keep hk⟩
theorem wT.ext{o:Sl}{n z:Nat}(hb:∀b,o.aW=some b->w'.heap[b]? =w.heap[b]?/\∀off,M' b off↔M b off)(h:wT w M o n z):wT w' M' o n z:=by
 obtain⟨h1,h2,h3,h5⟩:=h;refine⟨h1,h2,h3,?_⟩;cases ho:o.aW with
 |none=>simp only [ho]at h5 ⊢;exact h5
 |some b=>
  simp only [ho]at h5 ⊢;obtain⟨h6,cs,ty,h7,h8,h9⟩:=h5;have:=hb b ho;exact⟨h6,cs,ty,by rw [this.1];exact h7,h8,λ off=>(this.2 off).trans (h9 off)⟩
theorem wT.cells{o:Sl}{n z:Nat}(h:wT w M o n z){b:Nat}(hb:o.aW=some b):∃cs ty,w.heap[b]? =some (.cells cs ty (0,0)):=by
 obtain⟨_,_,_,h5⟩:=h;simp only [hb]at h5;obtain⟨_,cs,ty,h7,_⟩:=h5;exact⟨cs,ty,h7⟩
theorem fb.cells{ρ:Env}{o:Sl}{wm:Nat}{r:RO}{ov:List (Int × Nat)}(h:fb ρ w M o wm r ov){b:Nat}(hb:o.aW=some b):∃cs ty,w.heap[b]? =some (.cells cs ty (0,0)):=by
 obtain⟨_,_,_,_,h5⟩:=h;simp only [hb]at h5;obtain⟨_,cs,ty,h7,_⟩:=h5;exact⟨cs,ty,h7⟩
theorem fb.ma{ρ:Env}{o:Sl}{r:RO}(h:fb ρ w M o 0 r []):wT w M o r.len r.sz:=by
 obtain⟨h1,h2,h3,_,h5⟩:=h;refine⟨h1,h2,h3,?_⟩;cases ho:o.aW with
 |none=>simp only [ho]at h5 ⊢;exact h5
 |some b=>
  simp only [ho]at h5 ⊢;obtain⟨h6,cs,ty,h7,h8,h9,_⟩:=h5;exact⟨h6,cs,ty,h7,h8,λ off=>(h9 off).trans (by simp)⟩
theorem oI.ext{o:Sl}{rows:List Sl}{r:RO}{hole:Option Int}(hk:bB w M w' M')(hb:∀b,(bY.dp o rows).has b->w'.heap[b]? =w.heap[b]?/\∀off,M' b off↔M b off)(h:oI w M o rows r hole):oI w' M' o rows r hole:=by
 refine⟨h.rq,h.len,h.NS,h.lb,h.Fz,?_,λ q hq hh=>(h.row q hq hh).HT hk λ b cr=>hb b (.inr ⟨q,cr⟩),h.Lx,h.out,h.apart⟩;have h5:=h.outer;cases ho:o.aW with
 |none=>simp only [ho]at h5 ⊢;exact h5
 |some b=>
  simp only [ho]at h5 ⊢;obtain⟨h6,cs,ty,h7,h8,h9,cu⟩:=h5;have:=hb b (.inl ho);exact⟨h6,cs,ty,by rw [this.1];exact h7,h8,λ off=>(this.2 off).trans (h9 off),cu⟩
theorem oI.in{o:Sl}{rows:List Sl}{r:RO}{hole:Option Int}(h:oI w M o rows r hole){q b:Nat}(hb:(rows.getD q cz).aW=some b):q<r.len/\hole≠some (q:Int):=by
 have h1:q<r.len:=by
  rcases Nat.lt_or_ge q r.len with h'|h'
  ·exact h'
  ·have h2:rows[q]? =none:=List.getElem?_eq_none (by rw [h.Fz];exact h')
   rw [List.getD,h2]at hb;cases hb
 exact⟨h1,λ hh=>by have:=(h.Lx _ hh).2;rw [Int.toNat_natCast,hb]at this;cases this⟩
theorem oI.cells{o:Sl}{rows:List Sl}{r:RO}{hole:Option Int}(h:oI w M o rows r hole){b:Nat}(hb:(bY.dp o rows).has b):∃cs ty,w.heap[b]? =some (.cells cs ty (0,0)):=by
 rcases hb with hb|⟨q,hb⟩
 ·have h5:=h.outer
  simp only [hb]at h5;obtain⟨_,cs,ty,h7,_⟩:=h5;exact⟨cs,ty,h7⟩
 ·obtain⟨h1,h2⟩:=h.in hb
  obtain⟨_,_,_,_,h5⟩:=h.row q h1 h2;simp only [hb]at h5;obtain⟨_,cs,ty,h7,_⟩:=h5;exact⟨cs,ty,h7⟩
end
end Go.AM
end
section
namespace Go.AM
open Go
theorem al{b:Bool}{p:Prop}:bH b p↔b=true/\p:=by cases b<;>simp [bH]
theorem bZ{k k':IntKind}(h:kq k k'=true):k=k':=by cases k<;>cases k'<;>simp_all [kq]
theorem gA{a:AV}{K:AV->Prop}:kF a K↔K a:=by
 cases a<;>first|exact Iff.rfl|(rename_i e;cases e<;>exact Iff.rfl)
def aP(T:List AV):Operand->AV
 |.tmp t=>nth T t|.const v=>AQ v|.func f=>.fn f []|.global _=>.any
theorem aB{T:List AV}{x:Operand}{K:AV->Prop}:bf T x K↔K (aP T x):=by
 cases x<;>simp [bf,aP,gA]
theorem dr{T:List AV}:∀{l:List Operand} {K:List AV->Prop},gK T l K↔K (l.map (aP T))
 |[],_=>Iff.rfl
 |x::l,K=>by simp [gK,aB,dr]
theorem bS{r:RO}{K:Nat->Prop}:jD r K↔K r.len:=by cases r<;>exact Iff.rfl
theorem Dx:∀{n:Nat} {k:IntKind} {m:List Int} {j:Nat} {K:List AV->Prop},Uc n k m j K↔K (Qy n k m j)
 |0,_,_,_,_=>Iff.rfl
 |n+1,k,m,j,_=>Dx (n:=n) (k:=k) (m:=m) (j:=j+1)
theorem ur{r:RO}{i:Int}{K:AV->Prop}:Jp r i K↔K (r.get i.toNat):=by cases r<;>first|exact Iff.rfl|exact Dx|(simp only [Jp,RO.get];split<;>simp_all)
theorem A3:∀{n j:Nat} {i:Int} {K:Nat->Prop},QA n j i K->(j:Int)<=i->i<((j+n:Nat):Int)->K i.toNat
 |0,j,i,K,_,h1,h2=>by omega
 |n+1,j,i,K,h,h1,h2=>by
  by_cases e:i=(j:Int)
  ·have:=h.1 e
   rw [e];exact this
  ·exact A3 h.2 aa aa
theorem y4{k:IntKind}:∀{l:List AV} {K:List Int->Prop},wS k l K->∃m,K m/\l=m.map (AV.int k)
 |[],K,h=>⟨[],h,rfl⟩
 |a::l,K,h=>by
  cases a<;>try exact h.elim
  rename_i k' n;simp only [wS,al]at h;obtain⟨h1,h2⟩:=h;obtain rfl:=bZ h1;obtain⟨m,h3,rfl⟩:=y4 h2;exact⟨n::m,h3,rfl⟩
theorem rK{e:BE}{K:Bool->Prop}(h:lZ e K):K e.val:=by
 cases e with
 |lit b=>cases b<;>exact h
 |v b=>cases b<;>simp_all [lZ,BE.val]
 |lt x y=>simp only [lZ,BE.val]at*;by_cases hx:x<y<;>simp [hx];exact h.1 hx;exact h.2 aa
 |le x y=>simp only [lZ,BE.val]at*;by_cases hx:x<=y<;>simp [hx];exact h.1 hx;exact h.2 aa
 |eq x y=>simp only [lZ,BE.val]at*;by_cases hx:x=y<;>simp [hx];exact h.1 hx;exact h.2 hx
 |ne x y=>simp only [lZ,BE.val]at*;by_cases hx:x=y<;>simp [hx];exact h.2 hx;exact h.1 hx
theorem Qr{e:BE}{K:BE->Prop}(h:W7 e K):∃e',K e'/\e'.val= !e.val:=by
 cases e with
 |lit b=>cases b<;>exact⟨_,h,rfl⟩
 |v b=>exact⟨_,h,rfl⟩
 |lt x y=>exact⟨_,h,by simp [BE.val];rw [<-decide_not];congr 1;simp⟩
 |le x y=>exact⟨_,h,by simp [BE.val];rw [<-decide_not];congr 1;simp⟩
 |eq x y=>exact⟨_,h,by simp [BE.val]⟩
 |ne x y=>exact⟨_,h,by simp [BE.val]⟩
theorem dO{a:AV}{K:Int->Prop}(h:kn a K):∃k n,a= .int k n/\K n:=by
 cases a<;>first|exact⟨_,_,rfl,h⟩|exact h.elim
theorem jB{k:IntKind}{n:Int}{K:Prop}:sq k n K↔eD k n/\K:=by cases k<;>exact Iff.rfl
theorem qS{b:Nat}{n:Int}{K:Prop}(h:FD b n K)(h0:0<=n):n*(b:Int)<=140737488355328/\n<=17592186044416/\K:=by
 unfold FD at h;cases hb:Nat.ble b 8 with
 |true=>
  simp only [hb]at h;rw [Nat.ble_eq]at hb;have h1:n*(b:Int)<=n*8:=Int.mul_le_mul_of_nonneg_left aa h0;exact⟨aa,h.1,h.2⟩
 |false=>
  simp only [hb,al]at h;obtain⟨h2,h3,h4⟩:=h;rw [Nat.ble_eq]at h2;have h1:n*(b:Int)<=n*64:=Int.mul_le_mul_of_nonneg_left aa h0;exact⟨aa,aa,h4⟩
theorem cB{α:Type}:∀{l:List α} {x:α} {K:List α->Prop},iq l x K↔K (l++[x])
 |[],_,_=>Iff.rfl
 |_::l,_,_=>cB (l:=l)
theorem rL{d:Option Nat}{K:Nat->Prop}:dN d K↔K (d.getD 999):=by cases d<;>exact Iff.rfl
theorem qG{k:IntKind}{n:Int}(h:eD k n):k.wrap n=n:=by
 unfold eD at h;cases k<;>simp [IntKind.wrap,IntKind.min,IntKind.max,IntKind.bits,IntKind.signed]at* <;>omega
theorem lS(k:IntKind)(n:Int):eD k (k.wrap n):=by
 unfold eD;cases k<;>simp [IntKind.wrap,IntKind.min,IntKind.max,IntKind.bits,IntKind.signed]at* <;>(try split)<;>omega
theorem FG{n:Int}(h1: -9223372036854775808<=n)(h2:n<=9223372036854775807):eD .i64 n:=⟨h1,h2⟩
theorem jX(k:IntKind):eD k 0:=by cases k<;>simp [eD,IntKind.min,IntKind.max,IntKind.bits,IntKind.signed]
theorem Nt{k:IntKind}{n:Int}(h1:0<=n)(h2:n<=127):eD k n:=by
 cases k<;>simp [eD,IntKind.min,IntKind.max,IntKind.bits,IntKind.signed]<;>omega
theorem vW{k:IntKind}{n:Int}(h:xD k n=true):eD k n:=by
 cases n with
 |ofNat m=>
  have hm:(0:Int)<=Int.ofNat m:=Int.natCast_nonneg m
  cases k<;>simp only [xD,Nat.ble_eq]at h<;>
   first
    |exact Nt hm (by simp;omega)
    |(simp [eD,IntKind.min,IntKind.max,IntKind.bits,IntKind.signed];omega)
 |negSucc m=>
  cases k<;>simp only [xD,Nat.ble_eq]at h<;>
   first
    |(simp at h;done)
    |(simp [eD,IntKind.min,IntKind.max,IntKind.bits,IntKind.signed];omega)
theorem HA:∀(l:List AV) (i:Nat),i<l.length->l[i]? =some (nth l i)
 |[],_,h=>by simp at h
 |_::_,0,_=>rfl
 |_::l,i+1,h=>by simpa [nth]using HA l i (by simpa using h)
theorem zP:∀(l:List AV) (i:Nat),l.length<=i->nth l i= .any
 |[],_,_=>rfl
 |_::_,0,h=>by simp at h
 |_::l,i+1,h=>zP l i (by simpa using h)
theorem fN:∀{T:List AV} {d:Nat} {v:AV} {K:List AV->Prop},wR T d v K↔K (T.set d v)
 |[],_,_,_=>by simp [wR]
 |_::_,0,_,_=>Iff.rfl
 |_::l,d+1,v,K=>by simp [wR,fN (T:=l)]
theorem iK:∀(T:List AV) (d i:Nat) (v:AV),nth (T.set d v) i=if i=d/\d<T.length then v else nth T i
 |[],_,_,_=>by simp [nth]
 |_::_,0,0,_=>by simp [nth]
 |_::_,0,i+1,_=>by simp [nth]
 |_::_,d+1,0,_=>by simp [nth]
 |_::l,d+1,i+1,v=>by simp [nth,iK l d i v]
theorem dw:∀{l:List AV} {n:Nat},c5 l n=true->l.length=n
 |[],0,_=>rfl
 |_::l,n+1,h=>by simp [dw (l:=l) (n:=n) h]
 |[],_+1,h=>by cases h
 |_::_,0,h=>by cases h
theorem rF:∀{l:List Operand} {n:Nat},qW l n=true->l.length=n
 |[],0,_=>rfl
 |_::l,n+1,h=>by simp [rF (l:=l) (n:=n) h]
 |[],_+1,h=>by cases h
 |_::_,0,h=>by cases h
theorem Dp:∀{l:List AV} {n:Nat} {K:List AV->Prop},Dm l n K->n<=l.length/\K (l.take n)
 |[],0,_,h=>⟨Nat.le_refl _,h⟩
 |_::_,0,_,h=>⟨Nat.zero_le _,h⟩
 |[],_+1,_,h=>h.elim
 |_::l,n+1,_,h=>by have:=Dp (l:=l) (n:=n) h;exact⟨by simpa using this.1,this.2⟩
theorem qO:∀{l:List AV} {n:Nat} {K:List AV->Prop},sU l n K->n<=l.length/\K (l.drop n)
 |[],0,_,h=>⟨Nat.le_refl _,h⟩
 |_::_,0,_,h=>⟨Nat.zero_le _,h⟩
 |[],_+1,_,h=>h.elim
 |_::l,n+1,_,h=>by have:=qO (l:=l) (n:=n) h;exact⟨by simpa using this.1,this.2⟩
theorem Dy:∀{l m:List AV} {K:List AV->Prop},Nj l m K->m.length<=l.length/\K (m++l.drop m.length)
 |l,[],_,h=>⟨Nat.zero_le _,by simpa using (show _ from(by cases l<;>exact h))⟩
 |[],_::_,_,h=>h.elim
 |_::l,b::m,_,h=>by
  have:=Dy (l:=l) (m:=m) h;exact⟨by simpa using this.1,by simpa using this.2⟩
theorem pv:∀{l:List AV} {n:Nat} {m:List AV} {K:List AV->Prop},lY l n m K->n+m.length<=l.length/\K (l.take n++(m++l.drop (n+m.length)))
 |l,0,m,_,h=>by
  have:=Dy (l:=l) (m:=m) (by cases l<;>exact h);exact⟨by simpa using this.1,by simpa using this.2⟩
 |[],_+1,_,_,h=>h.elim
 |a::l,n+1,m,_,h=>by
  have:=pv (l:=l) (n:=n) (m:=m) h;refine⟨by simp;omega,?_⟩;have h2:=this.2;rw [show n+1+m.length=(n+m.length)+1 from by omega]
  simpa using h2
theorem ay {a b:Nat}:Nat.beq a b=true↔a=b:=⟨Nat.eq_of_beq_eq_true,λ h=>by subst h;exact Nat.beq_refl a⟩
theorem beq_false{a b:Nat}(h:Nat.beq a b=false):a≠b:=λ e=>by rw [ay.2 e]at h;cases h
theorem aD{j k:Nat}{b:dH}{S:ai}:aj ((j,b)::S) k=if j=k then some b else aj S k:=by
 simp only [aj];cases h:Nat.beq j k with
 |true=>simp [ay.1 h]
 |false=>simp [beq_false h]
theorem cI:∀{S:ai} {k:Nat} {c:dH} {K:ai->Prop},ku S k c K->∃S',K S'/\∀j,aj S' j=if j=k then (aj S k).map λ _=>c else aj S j
 |[],_,_,_,h=>⟨[],h,λ j=>by simp [aj]⟩
 |(i,b)::S,k,c,K,h=>by
  simp only [ku]at h;cases hb:Nat.beq i k with
  |true=>
   have x3:=ay.1 hb;subst x3;simp only [hb]at h;refine⟨_,h,λ j=>?_⟩
   by_cases hj:j=i
   ·subst hj;simp [aD]
   ·simp [aD,hj,Ne.symm hj]
  |false=>
   have x3:=beq_false hb;simp only [hb]at h;obtain⟨S',h1,h2⟩:=cI (K:=λ S'=>K ((i,b)::S')) h;refine⟨_,h1,λ j=>?_⟩
   by_cases hj:j=k
   ·subst hj;simp [aD,x3,h2]
   ·by_cases mo:i=j
    ·subst mo;simp [aD,hj]
    ·simp [aD,mo,hj,h2]
theorem gq:∀{S:ai} {k:Nat} {K:ai->Prop},kL S k K->∃S',K S'/\∀j,aj S' j=if j=k then none else aj S j
 |[],_,_,h=>⟨[],h,λ j=>by simp [aj]⟩
 |(i,b)::S,k,K,h=>by
  simp only [kL]at h;cases hb:Nat.beq i k with
  |true=>
   have x3:=ay.1 hb;subst x3;simp only [hb]at h;obtain⟨S',h1,h2⟩:=gq (K:=K) h;refine⟨_,h1,λ j=>?_⟩
   by_cases hj:j=i
   ·simp [hj,h2]
   ·simp [aD,hj,Ne.symm hj,h2]
  |false=>
   have x3:=beq_false hb;simp only [hb]at h;obtain⟨S',h1,h2⟩:=gq (K:=λ S'=>K ((i,b)::S')) h;refine⟨_,h1,λ j=>?_⟩
   by_cases hj:j=k
   ·subst hj;simp [aD,x3,h2]
   ·by_cases mo:i=j
    ·subst mo;simp [aD,hj]
    ·simp [aD,mo,hj,h2]
end Go.AM
end
section
namespace Go.AM
open Go
section
variable{w:World}{M:aX}{ρ:Env}
theorem kA.aM{n m:Nat}{C:Nat->Value->Prop}{v:Value}(h:kA w M n C m v):aM v:=by
 obtain⟨a,cap,rfl,_⟩:=h;trivial
theorem av.aM{r:RO}{q:Nat}{c:Value}(h:av w M r q c):aM c:=by
 cases r with
 |ints k l=>rw [h.1];trivial
 |aL l=>rw [show c=_ from h];trivial
 |rows k l=>exact kA.aM h.2
 |bw l=>exact kA.aM h.2
 |bC l=>exact kA.aM h.2
 |aT l=>simp only [av]at h;split at h<;>(rw [h.1];trivial)
 |eY n k l=>rw [h.1];trivial
 |cR k l=>exact kA.aM h.1.2
 |cH l=>exact kA.aM h.2
 |strs l=>rw [h.1];trivial
 |dP l=>
  simp only [av]at h;split at h
  ·rw [h.1];trivial
  ·split at h
   ·exact kA.aM h.2
   ·rw [h.1];trivial
 |dK l=>simp only [av]at h;split at h<;>(rw [h.1];trivial)
theorem aH.aM{a:AV}{v:Value}(h:aH ρ w M a v):aM v:=by
 cases a with
 |int k n=>rw [h.1];trivial
 |bool e=>rw [show v=_ from h];trivial
 |ro r=>exact kA.aM h.2
 |vec k=>obtain⟨o,_,rfl⟩:=h;trivial
 |ptr k off=>obtain⟨b,⟨_,rfl⟩|⟨_,rfl⟩⟩:=vm h<;>trivial
 |eH r i=>obtain⟨b,off,cap,_,_,_,rfl⟩:=h;trivial
 |tP f r i=>obtain⟨b,off,cap,_,_,_,rfl⟩:=h;trivial
 |dS k i=>obtain⟨o,b,_,_,_,_,rfl⟩:=h;trivial
 |gd k i j=>obtain⟨o,b,_,_,_,_,rfl⟩:=h;trivial
 |gf k i=>obtain⟨o,_,_,_,rfl⟩:=h;trivial
 |ao=>rw [show v=_ from h];trivial
 |bK=>rw [show v=_ from h];trivial
 |may b n=>obtain⟨x,rfl,_⟩:=h;trivial
 |full r=>exact kA.aM h.1.2
 |str l=>rw [h.1];trivial
 |any=>exact h
 |fn f l=>cases l with
  |nil=>rw [show v=_ from h];trivial
  |cons=>exact h.elim
 |_=>exact h.elim
theorem z7(r:RO):(X5 r).len=r.len:=by cases r<;>rfl
theorem Rm(r:RO):(X5 r).sz=r.sz:=by cases r<;>rfl
theorem Pd{r:RO}{q:Nat}{c:Value}(h:av w M r q c):av w M (X5 r) q c:=by cases r<;>first|exact h|exact h.1
theorem RO.eW(r:RO):0<r.sz:=by cases r<;>simp [RO.sz]
theorem gW{k:IntKind}{l:List Int}{v:Value}:a8 w M (.ints k l) v↔H7 w M k l v:=by
 unfold a8 H7;simp only [RO.cells,RO.len,RO.sz,Nat.mul_one];exact Iff.rfl
theorem gL{l:List Bool}{v:Value}:a8 w M (.aL l) v↔N7 w M l v:=by
 unfold a8 N7;simp only [RO.cells,RO.len,RO.sz,Nat.mul_one];exact Iff.rfl
theorem jj{k:IntKind}{l:List (List Int)}{v:Value}:a8 w M (.rows k l) v↔NY w M k l v:=by
 unfold a8 NY;simp only [RO.cells,RO.len,RO.sz,Nat.mul_one];exact Iff.rfl
theorem y5{l:List (Int × Int)}{v:Value}:a8 w M (.aT l) v↔S5 w M l v:=Iff.rfl
theorem Ho{r:RO}{i:Nat}{c:Value}(hs:r.sz=1)(h:av w M r i c)(hl:i<r.len):az ρ w M (r.get i) c:=by
 cases r with
 |ints k l=>exact h
 |aL l=>exact h
 |rows k l=>exact gW.2 h
 |bw l=>exact gL.2 h
 |bC l=>exact jj.2 h
 |aT l=>simp [RO.sz]at hs
 |dK l=>simp [RO.sz]at hs
 |dP l=>simp [RO.sz]at hs
 |strs l=>exact h
 |eY n k l=>simp [RO.sz]at hs
 |cH l=>exact y5.2 h
 |cR k l=>
  simp only [RO.get];split
  ·rename_i he;exact h.2 he
  ·exact gW.2 h.1
theorem Qm{l:List (Int × Int)}{i:Nat}{c d:Value}(h:av w M (.aT l) (i*2) c)(h':av w M (.aT l) (i*2+1) d):
  az ρ w M ((RO.aT l).get i) (.agg #[c,d]):=by
 simp only [av,Nat.mul_mod_left,if_true,Nat.mul_div_cancel _ (Nat.succ_pos 1),show(i*2+1) % 2=1 from by omega,show(i*2+1) / 2=i from by omega,Nat.one_ne_zero,if_false]at h h';exact⟨_,rfl,h,h',ag⟩
theorem Qo{l:List (List Int × List Int)}{i:Nat}{c d:Value}(h:av w M (.dK l) (i*2) c)(h':av w M (.dK l) (i*2+1) d):
  az ρ w M ((RO.dK l).get i) (.agg #[c,d]):=by
 simp only [av,Nat.mul_mod_left,if_true,Nat.mul_div_cancel _ (Nat.succ_pos 1),show(i*2+1) % 2=1 from by omega,show(i*2+1) / 2=i from by omega,Nat.one_ne_zero,if_false]at h h';exact⟨_,rfl,h,h',ag⟩
theorem Qn{l:List (Int × List Bool × Int)}{i:Nat}{c d e:Value}(h0:av w M (.dP l) (i*3) c)(h1:av w M (.dP l) (i*3+1) d)(h2:av w M (.dP l) (i*3+2) e):
  az ρ w M ((RO.dP l).get i) (.agg #[c,d,e]):=by
 simp only [av]at h0 h1 h2;rw [if_pos aa,show i*3 / 3=i from by omega]at h0;rw [if_neg aa,if_pos aa,show(i*3+1) / 3=i from by omega]at h1;rw [if_neg aa,if_neg aa,show(i*3+2) / 3=i from by omega]at h2;exact⟨_,rfl,h0,gL.2 h1,h2,ag⟩
theorem Dz{R:AV->Value->Prop}{k:IntKind}{m:List Int}:∀{n j:Nat} {cs:List Value},cs.length=n->(∀q c,cs[q]? =some c->R (.int k (m.getD (j+q) 0)) c)->aJ R (Qy n k m j) cs
 |0,_,[],_,_=>trivial
 |n+1,j,c::cs,hl,h=>⟨h 0 c rfl,Dz (by simpa using hl) λ q d hq=>by
   have:=h (q+1) d (by simpa using hq)
   rwa [show j+(q+1)=j+1+q from by omega]at this⟩
 |0,_,_::_,hl,_=>by simp at hl
 |_+1,_,[],hl,_=>by simp at hl
theorem Qp{n:Nat}{k:IntKind}{l:List (List Int)}{i:Nat}{cs:List Value}(hl:cs.length=n+2)(h:∀q c,cs[q]? =some c->av w M (.eY n k l) (i*(n+2)+q) c):
  az ρ w M ((RO.eY n k l).get i) (.agg cs.toArray):=by
 refine⟨_,rfl,Dz hl λ q c hq=>?_⟩
 have JS:q<n+2:=by
  rw [<-hl];rcases Nat.lt_or_ge q cs.length with h'|h'
  ·exact h'
  ·rw [List.getElem?_eq_none h']at hq;cases hq
 have:=h q c hq;simp only [av]at this;rw [show(i*(n+2)+q) / (n+2)=i from by rw [Nat.mul_comm,Nat.mul_add_div (Nat.succ_pos _),Nat.div_eq_of_lt JS,Nat.add_zero],show(i*(n+2)+q) % (n+2)=q from by rw [Nat.mul_comm,Nat.mul_add_mod,Nat.mod_eq_of_lt JS]]at this;rw [Nat.zero_add];exact this
theorem a7{α:Type}(l:List α)(i j:Nat)(a d:α)(h:i<l.length):(l.set i a).getD j d=if j=i then a else l.getD j d:=by
 by_cases hj:j=i
 ·subst hj;simp [List.getD,h]
 ·simp [List.getD,hj,List.getElem?_set_ne (Ne.symm hj)]
theorem Jt{r:RO}{i:Int}{v:AV}{K:RO->Prop}(h:Qz r i v K)(hi:i.toNat<r.len):
  ∃r',K r'/\r'.len=r.len/\r'.sz=r.sz/\∀(ρ:Env) (w:World) (M:aX) (u:Value),az ρ w M v u->u.cells.size=r.sz/\
   (∀j c,u.cells[j]? =some c->Go.AM.aM c/\av w M r' (i.toNat*r.sz+j) c)/\∀q c,q / r.sz≠i.toNat->av w M r q c->av w M r' q c:=by
 cases r with
 |ints k l=>
  cases v<;>try exact h.elim
  rename_i k' n;simp only [Qz,al]at h;obtain⟨hk,h⟩:=h;obtain rfl:=bZ hk;refine⟨_,h,by simp [RO.len],rfl,λ ρ w M u hu=>?_⟩;obtain⟨rfl,hr⟩:=hu;refine⟨rfl,λ j c hj=>?_,λ q c hq hc=>?_⟩
  ·have D0:j=0:=by rcases j with _|j;rfl;simp [Value.cells]at hj
   subst D0;simp [Value.cells]at hj;subst hj;simp only [RO.len]at hi;refine⟨ag,?_⟩;simp only [av,RO.sz,Nat.mul_one,Nat.add_zero,a7 _ _ _ _ _ hi,if_true];exact⟨ag,hr⟩
  ·simp only [RO.sz,Nat.div_one]at hq
   simp only [av,a7 _ _ _ _ _ hi,hq,if_false]at hc ⊢;exact hc
 |aL l=>
  cases v<;>try exact h.elim
  rename_i e;have h':K (.aL (l.set i.toNat e.val)):=by cases e<;>exact h
  refine⟨_,h',by simp [RO.len],rfl,λ ρ w M u hu=>?_⟩;have zX:u= .bool e.val:=hu;subst zX;refine⟨rfl,λ j c hj=>?_,λ q c hq hc=>?_⟩
  ·have D0:j=0:=by rcases j with _|j;rfl;simp [Value.cells]at hj
   subst D0;simp [Value.cells]at hj;subst hj;refine⟨ag,?_⟩;simp only [av,RO.sz,Nat.mul_one,Nat.add_zero,a7 _ _ _ _ _ hi,if_true]
  ·simp only [RO.sz,Nat.div_one]at hq
   simp only [av,a7 _ _ _ _ _ hi,hq,if_false]at hc ⊢;exact hc
 |rows k l=>
  have main:∀(m:List Int),K (.rows k (l.set i.toNat m))->(∀(ρ:Env) (w:World) (M:aX) (u:Value),az ρ w M v u->H7 w M k m u)->
    ∃r',K r'/\r'.len=(RO.rows k l).len/\r'.sz=(RO.rows k l).sz/\∀(ρ:Env) (w:World) (M:aX) (u:Value),az ρ w M v u->u.cells.size=(RO.rows k l).sz/\
     (∀j c,u.cells[j]? =some c->Go.AM.aM c/\av w M r' (i.toNat*(RO.rows k l).sz+j) c)/\∀q c,q / (RO.rows k l).sz≠i.toNat->av w M (.rows k l) q c->av w M r' q c:=by
   intro m hK hm;refine⟨_,hK,by simp [RO.len],rfl,λ ρ w M u hu=>?_⟩;have hs:=hm ρ w M u hu;have xo:=hs;obtain⟨_,a,cap,rfl,_⟩:=hs;refine⟨rfl,λ j c hj=>?_,λ q c hq hc=>?_⟩
   ·have D0:j=0:=by rcases j with _|j;rfl;simp [Value.cells]at hj
    subst D0;simp [Value.cells]at hj;subst hj;refine⟨ag,?_⟩;simp only [av,RO.sz,Nat.mul_one,Nat.add_zero,a7 _ _ _ _ _ hi,if_true];exact xo
   ·simp only [RO.sz,Nat.div_one]at hq
    simp only [av,a7 _ _ _ _ _ hi,hq,if_false]at hc ⊢;exact hc
  cases v<;>try exact h.elim
  ·rename_i s
   cases s<;>try exact h.elim
   rename_i k' m;simp only [Qz,al]at h;obtain⟨hk,h⟩:=h;obtain rfl:=bZ hk;exact main m h λ ρ w M u hu=>gW.1 hu
  ·exact main [] h λ ρ w M u hu=>⟨Nat.zero_le _,⟨none,0,hu,Nat.le_refl _,.inl rfl⟩⟩
 |bw l=>
  have main:∀(m:List Bool),K (.bw (l.set i.toNat m))->(∀(ρ:Env) (w:World) (M:aX) (u:Value),az ρ w M v u->N7 w M m u)->
    ∃r',K r'/\r'.len=(RO.bw l).len/\r'.sz=(RO.bw l).sz/\∀(ρ:Env) (w:World) (M:aX) (u:Value),az ρ w M v u->u.cells.size=(RO.bw l).sz/\
     (∀j c,u.cells[j]? =some c->Go.AM.aM c/\av w M r' (i.toNat*(RO.bw l).sz+j) c)/\∀q c,q / (RO.bw l).sz≠i.toNat->av w M (.bw l) q c->av w M r' q c:=by
   intro m hK hm;refine⟨_,hK,by simp [RO.len],rfl,λ ρ w M u hu=>?_⟩;have hs:=hm ρ w M u hu;have xo:=hs;obtain⟨_,a,cap,rfl,_⟩:=hs;refine⟨rfl,λ j c hj=>?_,λ q c hq hc=>?_⟩
   ·have D0:j=0:=by rcases j with _|j;rfl;simp [Value.cells]at hj
    subst D0;simp [Value.cells]at hj;subst hj;refine⟨ag,?_⟩;simp only [av,RO.sz,Nat.mul_one,Nat.add_zero,a7 _ _ _ _ _ hi,if_true];exact xo
   ·simp only [RO.sz,Nat.div_one]at hq
    simp only [av,a7 _ _ _ _ _ hi,hq,if_false]at hc ⊢;exact hc
  cases v<;>try exact h.elim
  ·rename_i s
   cases s<;>try exact h.elim
   rename_i m;exact main m h λ ρ w M u hu=>gL.1 hu
  ·exact main [] h λ ρ w M u hu=>⟨Nat.zero_le _,⟨none,0,hu,Nat.le_refl _,.inl rfl⟩⟩
 |bC l=>
  have main:∀(m:List (List Int)),K (.bC (l.set i.toNat m))->(∀(ρ:Env) (w:World) (M:aX) (u:Value),az ρ w M v u->NY w M .i64 m u)->
    ∃r',K r'/\r'.len=(RO.bC l).len/\r'.sz=(RO.bC l).sz/\∀(ρ:Env) (w:World) (M:aX) (u:Value),az ρ w M v u->u.cells.size=(RO.bC l).sz/\
     (∀j c,u.cells[j]? =some c->Go.AM.aM c/\av w M r' (i.toNat*(RO.bC l).sz+j) c)/\∀q c,q / (RO.bC l).sz≠i.toNat->av w M (.bC l) q c->av w M r' q c:=by
   intro m hK hm;refine⟨_,hK,by simp [RO.len],rfl,λ ρ w M u hu=>?_⟩;have hs:=hm ρ w M u hu;have xo:=hs;obtain⟨_,a,cap,rfl,_⟩:=hs;refine⟨rfl,λ j c hj=>?_,λ q c hq hc=>?_⟩
   ·have D0:j=0:=by rcases j with _|j;rfl;simp [Value.cells]at hj
    subst D0;simp [Value.cells]at hj;subst hj;refine⟨ag,?_⟩;simp only [av,RO.sz,Nat.mul_one,Nat.add_zero,a7 _ _ _ _ _ hi,if_true];exact xo
   ·simp only [RO.sz,Nat.div_one]at hq
    simp only [av,a7 _ _ _ _ _ hi,hq,if_false]at hc ⊢;exact hc
  cases v<;>try exact h.elim
  ·rename_i s
   cases s<;>try exact h.elim
   rename_i k' m;cases k'<;>try exact h.elim
   exact main m h λ ρ w M u hu=>jj.1 hu
  ·exact main [] h λ ρ w M u hu=>⟨Nat.zero_le _,⟨none,0,hu,Nat.le_refl _,.inl rfl⟩⟩
 |aT l=>
  cases v<;>try exact h.elim
  rename_i m
  match m,h with
  |[.int .i64 a,.int .i64 b],h=>
   refine⟨_,h,by simp [RO.len],rfl,λ ρ w M u hu=>?_⟩;obtain⟨cs,rfl,bR⟩:=hu
   match da:cs.toList,bR with
   |[c,d],bR=>
    obtain⟨⟨rfl,ha⟩,⟨rfl,hb⟩,_⟩:=bR
    have pU:cs= #[.int .i64 a,.int .i64 b]:=by
     have:=congrArg List.toArray da;simpa using this
    subst pU;refine⟨rfl,λ j c hj=>?_,λ q c hq hc=>?_⟩
    ·match j,hj with
     |0,hj=>
      simp [Value.cells]at hj;subst hj;refine⟨ag,?_⟩;simp only [av,RO.sz,Nat.add_zero,Nat.mul_mod_left,if_true,Nat.mul_div_cancel _ (Nat.succ_pos 1),a7 _ _ _ _ _ hi];exact⟨ag,ha⟩
     |1,hj=>
      simp [Value.cells]at hj;subst hj;refine⟨ag,?_⟩;simp only [av,RO.sz,show(i.toNat*2+1) % 2=1 from by omega,show(i.toNat*2+1) / 2=i.toNat from by omega,Nat.one_ne_zero,if_false,a7 _ _ _ _ _ hi,if_true];exact⟨ag,hb⟩
     |j+2,hj=>simp [Value.cells]at hj
    ·simp only [RO.sz]at hq
     simp only [av,a7 _ _ _ _ _ hi,hq,if_false]at hc ⊢;exact hc
 |eY n k l=>cases v<;>exact h.elim
 |dK l=>cases v<;>exact h.elim
 |dP l=>cases v<;>exact h.elim
 |strs l=>
  cases v<;>try exact h.elim
  rename_i m;refine⟨_,h,by simp [RO.len],rfl,λ ρ w M u hu=>?_⟩;obtain⟨rfl,hr⟩:=hu;refine⟨rfl,λ j c hj=>?_,λ q c hq hc=>?_⟩
  ·have D0:j=0:=by rcases j with _|j;rfl;simp [Value.cells]at hj
   subst D0;simp [Value.cells]at hj;subst hj;simp only [RO.len]at hi;refine⟨ag,?_⟩;simp only [av,RO.sz,Nat.mul_one,Nat.add_zero,a7 _ _ _ _ _ hi,if_true];exact⟨rfl,hr⟩
  ·simp only [RO.sz,Nat.div_one]at hq
   simp only [av,a7 _ _ _ _ _ hi,hq,if_false]at hc ⊢;exact hc
 |cH l=>cases v<;>exact h.elim
 |cR k l=>
  cases v<;>try exact h.elim
  refine⟨_,h,by simp [RO.len],rfl,λ ρ w M u hu=>?_⟩;have hu:u= .slice none 0 0:=hu;subst hu;refine⟨rfl,λ j c hj=>?_,λ q c hq hc=>?_⟩
  ·have D0:j=0:=by rcases j with _|j;rfl;simp [Value.cells]at hj
   subst D0;simp [Value.cells]at hj;subst hj;refine⟨ag,?_⟩;simp only [av,RO.sz,Nat.mul_one,Nat.add_zero,a7 _ _ _ _ _ hi,if_true];exact⟨⟨Nat.zero_le _,none,0,rfl,Nat.le_refl _,.inl rfl⟩,λ _=>by trivial⟩
  ·simp only [RO.sz,Nat.div_one]at hq
   simp only [av,a7 _ _ _ _ _ hi,hq,if_false]at hc ⊢;exact hc
theorem eF{α:Type}(l m:List α)(q:Nat)(d:α):(l++m).getD q d=if q<l.length then l.getD q d else m.getD (q - l.length) d:=by
 simp only [List.getD,List.getElem?_append];split<;>rfl
theorem nY{r s:RO}{K:RO->Prop}(h:Du r s K):∃t,K t/\t.len=r.len+s.len/\t.sz=r.sz/\s.sz=r.sz/\
  ∀(w:World) (M:aX) q c,(if q<r.cells then av w M r q c else av w M s (q - r.cells) c)->av w M t q c:=by
 cases r<;>cases s<;>try exact h.elim
 case ints.ints k l k' m=>
  simp only [Du,al]at h;obtain⟨hk,h⟩:=h;obtain rfl:=bZ hk;refine⟨_,h,by simp [RO.len],rfl,rfl,λ w M q c hc=>?_⟩;simp only [RO.cells,RO.len,RO.sz,Nat.mul_one,av,eF]at hc ⊢
  by_cases hq:q<l.length<;>simp only [hq,if_true,if_false]at hc ⊢<;>exact hc
 case aL.aL l m=>
  refine⟨_,h,by simp [RO.len],rfl,rfl,λ w M q c hc=>?_⟩;simp only [RO.cells,RO.len,RO.sz,Nat.mul_one,av,eF]at hc ⊢
  by_cases hq:q<l.length<;>simp only [hq,if_true,if_false]at hc ⊢<;>exact hc
 case rows.rows k l k' m=>
  simp only [Du,al]at h;obtain⟨hk,h⟩:=h;obtain rfl:=bZ hk;refine⟨_,h,by simp [RO.len],rfl,rfl,λ w M q c hc=>?_⟩;simp only [RO.cells,RO.len,RO.sz,Nat.mul_one,av,eF]at hc ⊢
  by_cases hq:q<l.length<;>simp only [hq,if_true,if_false]at hc ⊢<;>exact hc
 case bw.bw l m=>
  refine⟨_,h,by simp [RO.len],rfl,rfl,λ w M q c hc=>?_⟩;simp only [RO.cells,RO.len,RO.sz,Nat.mul_one,av,eF]at hc ⊢
  by_cases hq:q<l.length<;>simp only [hq,if_true,if_false]at hc ⊢<;>exact hc
 case bC.bC l m=>
  refine⟨_,h,by simp [RO.len],rfl,rfl,λ w M q c hc=>?_⟩;simp only [RO.cells,RO.len,RO.sz,Nat.mul_one,av,eF]at hc ⊢
  by_cases hq:q<l.length<;>simp only [hq,if_true,if_false]at hc ⊢<;>exact hc
 case strs.strs l m=>
  refine⟨_,h,by simp [RO.len],rfl,rfl,λ w M q c hc=>?_⟩;simp only [RO.cells,RO.len,RO.sz,Nat.mul_one,av,eF]at hc ⊢
  by_cases hq:q<l.length<;>simp only [hq,if_true,if_false]at hc ⊢<;>exact hc
 case dP.dP l m=>
  refine⟨_,h,by simp [RO.len],rfl,rfl,λ w M q c hc=>?_⟩;simp only [RO.cells,RO.len,RO.sz,av,eF]at hc ⊢
  by_cases hq:q<l.length*3
  ·have h2:q / 3<l.length:=aa
   simp only [hq,if_true,h2]at hc ⊢;exact hc
  ·have h2:¬q / 3<l.length:=aa
   have h3:(q - l.length*3) % 3=q % 3:=aa;have h4:(q - l.length*3) / 3=q / 3 - l.length:=aa;simp only [hq,if_false,h2,h3,h4]at hc ⊢;exact hc
 case dK.dK l m=>
  refine⟨_,h,by simp [RO.len],rfl,rfl,λ w M q c hc=>?_⟩;simp only [RO.cells,RO.len,RO.sz,av,eF]at hc ⊢
  by_cases hq:q<l.length*2
  ·have h2:q / 2<l.length:=aa
   simp only [hq,if_true,h2]at hc ⊢;exact hc
  ·have h2:¬q / 2<l.length:=aa
   have h3:(q - l.length*2) % 2=q % 2:=aa;have h4:(q - l.length*2) / 2=q / 2 - l.length:=aa;simp only [hq,if_false,h2,h3,h4]at hc ⊢;exact hc
 case cH.cH l m=>
  refine⟨_,h,by simp [RO.len],rfl,rfl,λ w M q c hc=>?_⟩;simp only [RO.cells,RO.len,RO.sz,Nat.mul_one,av,eF]at hc ⊢
  by_cases hq:q<l.length<;>simp only [hq,if_true,if_false]at hc ⊢<;>exact hc
 case aT.aT l m=>
  refine⟨_,h,by simp [RO.len],rfl,rfl,λ w M q c hc=>?_⟩;simp only [RO.cells,RO.len,RO.sz,av,eF]at hc ⊢
  by_cases hq:q<l.length*2
  ·have h2:q / 2<l.length:=aa
   simp only [hq,if_true,h2]at hc ⊢;exact hc
  ·have h2:¬q / 2<l.length:=aa
   have h3:(q - l.length*2) % 2=q % 2:=aa;have h4:(q - l.length*2) / 2=q / 2 - l.length:=aa;simp only [hq,if_false,h2,h3,h4]at hc ⊢;exact hc
 case eY.eY n k l n' k' m=>
  simp only [Du,al]at h;obtain⟨hn,hk,h⟩:=h;obtain rfl:=bZ hk;obtain rfl:=Nat.eq_of_beq_eq_true hn;refine⟨_,h,by simp [RO.len],rfl,rfl,λ w M q c hc=>?_⟩;simp only [RO.cells,RO.len,RO.sz,av,eF]at hc ⊢
  by_cases hq:q<l.length*(n+2)
  ·have h2:q / (n+2)<l.length:=(Nat.div_lt_iff_lt_mul (Nat.succ_pos _)).2 hq
   simp only [hq,if_true,h2]at hc ⊢;exact hc
  ·have h2:¬q / (n+2)<l.length:=λ h=>hq ((Nat.div_lt_iff_lt_mul (Nat.succ_pos _)).1 h)
   have h3:(q - l.length*(n+2)) % (n+2)=q % (n+2):=by
    rw [Nat.mul_comm];exact Nat.sub_mul_mod (by rw [Nat.mul_comm];omega)
   have h4:(q - l.length*(n+2)) / (n+2)=q / (n+2) - l.length:=by
    rw [Nat.mul_comm];exact Nat.sub_mul_div q (n+2) l.length
   simp only [hq,if_false,h2,h3,h4]at hc ⊢;exact hc
theorem ns{α:Type}(l:List α)(a b q:Nat)(d:α)(h:a+q<b):((l.take b).drop a).getD q d=l.getD (a+q) d:=by
 simp [List.getD,h]
theorem gv{r:RO}{a b:Nat}{K:RO->Prop}(h:BH r a b K)(mh:a<=b)(hb:b<=r.len):∃t,K t/\t.len=b - a/\t.sz=r.sz/\
  ∀(w:World) (M:aX) q c,q<t.cells->(av w M r (a*r.sz+q) c->av w M t q c):=by
 cases r with
 |dP l=>exact h.elim
 |dK l=>
  simp only [RO.len]at hb;refine⟨_,h,by simp [RO.len];omega,rfl,λ w M q c hq hc=>?_⟩;simp only [RO.cells,RO.len,RO.sz,List.length_drop,List.length_take]at hq;have h1:(a*2+q) / 2=a+q / 2:=aa;have h2:(a*2+q) % 2=q % 2:=aa;simp only [av,RO.sz,h1,h2,ns _ _ _ _ _ (show a+q / 2<b from by omega)]at hc ⊢;exact hc
 |aT l=>
  simp only [RO.len]at hb;refine⟨_,h,by simp [RO.len];omega,rfl,λ w M q c hq hc=>?_⟩;simp only [RO.cells,RO.len,RO.sz,List.length_drop,List.length_take]at hq;have h1:(a*2+q) / 2=a+q / 2:=aa;have h2:(a*2+q) % 2=q % 2:=aa;simp only [av,RO.sz,h1,h2,ns _ _ _ _ _ (show a+q / 2<b from by omega)]at hc ⊢;exact hc
 |eY n k l=>
  simp only [RO.len]at hb;refine⟨_,h,by simp [RO.len];omega,rfl,λ w M q c hq hc=>?_⟩;simp only [RO.cells,RO.len,RO.sz,List.length_drop,List.length_take]at hq;have h0:q / (n+2)<min b l.length - a:=(Nat.div_lt_iff_lt_mul (Nat.succ_pos _)).2 hq;have h1:(a*(n+2)+q) / (n+2)=a+q / (n+2):=by rw [Nat.mul_comm];exact Nat.mul_add_div (Nat.succ_pos _) _ _
  have h2:(a*(n+2)+q) % (n+2)=q % (n+2):=by rw [Nat.mul_comm];exact Nat.mul_add_mod _ _ _
  simp only [av,RO.sz,h1,h2,ns _ _ _ _ _ (show a+q / (n+2)<b from by omega)]at hc ⊢;exact hc
 |cR k l=>
  simp only [RO.len]at hb;refine⟨_,h,by simp [RO.len];omega,rfl,λ w M q c hq hc=>?_⟩;simp only [RO.cells,RO.len,RO.sz,Nat.mul_one,List.length_drop,List.length_take]at hq;simp only [av,RO.sz,Nat.mul_one,ns _ _ _ _ _ (show a+q<b from by omega)]at hc ⊢;exact hc
 |_ l=>
  simp only [RO.len]at hb;refine⟨_,h,by simp [RO.len];omega,rfl,λ w M q c hq hc=>?_⟩;simp only [RO.cells,RO.len,RO.sz,Nat.mul_one,List.length_drop,List.length_take]at hq;simp only [av,RO.sz,Nat.mul_one,ns _ _ _ _ _ (show a+q<b from by omega)]at hc ⊢;exact hc
theorem ja{w:World}{b off n:Nat}{C:Nat->Value->Prop}(h:∀q,q<n->∃c,w.cell? ⟨b,off+q,none⟩=some c/\C q c):
  ∃l:List Value,l.length=n/\(∀j v,l[j]? =some v->w.cell? ⟨b,off+j,none⟩=some v)/\∀q,q<n->∃c,l[q]? =some c/\C q c:=by
 induction n with
 |zero=>exact⟨[],rfl,by simp,by simp⟩
 |succ n ih=>
  obtain⟨l,h1,h2,h3⟩:=ih λ q hq=>h q aa;obtain⟨c,h4,h5⟩:=h n aa;refine⟨l++[c],by simp [h1],λ j v hj=>?_,λ q hq=>?_⟩
  ·by_cases XV:j<n
   ·rw [List.getElem?_append_left aa]at hj;exact h2 j v hj
   ·by_cases Z1:j=n
    ·subst Z1;rw [List.getElem?_append_right aa]at hj;simp [h1]at hj;subst hj;exact h4
    ·rw [List.getElem?_eq_none (by simp;omega)]at hj;cases hj
  ·by_cases JS:q<n
   ·obtain⟨c',h6,h7⟩:=h3 q JS
    exact⟨c',by rw [List.getElem?_append_left aa];exact h6,h7⟩
   ·have:q=n:=aa
    subst this;exact⟨c,by rw [List.getElem?_append_right aa];simp [h1],h5⟩
end
end Go.AM
end
section
namespace Go.AM
open Go
structure Conv(k:Nat)(to:AV)(ρ:Env)(w:World)(M:aX)(ρ':Env)(w':World)(M':aX):Prop where
 keep:bB w M w' M'
 other:∀j,j≠k->∀o,ρ j=some o->ρ' j=some o
 self:∀v,aH ρ w M (.vec k) v->aH ρ' w' M' to v
section
variable{k:Nat}{to:AV}
theorem A4{a:AV}{K:AV->Prop}(h:ft k to a K):
  ∃a',K a'/\∀ρ w M ρ' w' M',Conv k to ρ w M ρ' w' M'->∀v,aH ρ w M a v->aH ρ' w' M' a' v:=by
 cases a with
 |vec j=>
  simp only [ft]at h;cases hb:Nat.beq j k with
  |true=>simp only [hb]at h;obtain rfl:=ay.1 hb;exact⟨_,h,λ ρ w M ρ' w' M' hc v hv=>hc.self v hv⟩
  |false=>simp only [hb]at h;exact⟨_,h,λ ρ w M ρ' w' M' hc v ⟨o,h1,h2⟩=>⟨o,a6 (hc.other _ (beq_false hb)) h1,h2⟩⟩
 |ptr j off=>
  simp only [ft]at h;cases hb:Nat.beq j k with
  |true=>simp only [hb]at h;exact⟨_,h,λ ρ w M ρ' w' M' hc v hv=>aH.aM hv⟩
  |false=>simp only [hb]at h;exact⟨_,h,λ ρ w M ρ' w' M' hc v h1=>a6 (hc.other _ (beq_false hb)) h1⟩
 |dS j i=>
  simp only [ft]at h;cases hb:Nat.beq j k with
  |true=>simp only [hb]at h;exact⟨_,h,λ ρ w M ρ' w' M' hc v hv=>aH.aM hv⟩
  |false=>simp only [hb]at h;exact⟨_,h,λ ρ w M ρ' w' M' hc v ⟨o,b,h1,h2⟩=>⟨o,b,a6 (hc.other _ (beq_false hb)) h1,h2⟩⟩
 |gd j i c=>
  simp only [ft]at h;cases hb:Nat.beq j k with
  |true=>simp only [hb]at h;exact⟨_,h,λ ρ w M ρ' w' M' hc v hv=>aH.aM hv⟩
  |false=>simp only [hb]at h;exact⟨_,h,λ ρ w M ρ' w' M' hc v ⟨o,b,h1,h2⟩=>⟨o,b,a6 (hc.other _ (beq_false hb)) h1,h2⟩⟩
 |gf j i=>
  simp only [ft]at h;cases hb:Nat.beq j k with
  |true=>simp only [hb]at h;exact⟨_,h,λ ρ w M ρ' w' M' hc v hv=>aH.aM hv⟩
  |false=>simp only [hb]at h;exact⟨_,h,λ ρ w M ρ' w' M' hc v ⟨o,h1,h2⟩=>⟨o,a6 (hc.other _ (beq_false hb)) h1,h2⟩⟩
 |ro r=>exact⟨_,h,λ ρ w M ρ' w' M' hc v hv=>a8.keep hc.keep hv⟩
 |eH r i=>exact⟨_,h,λ ρ w M ρ' w' M' hc v ⟨b,off,cap,h1,h2⟩=>⟨b,off,cap,h1.keep hc.keep,h2⟩⟩
 |tP f r i=>exact⟨_,h,λ ρ w M ρ' w' M' hc v ⟨b,off,cap,h1,h2⟩=>⟨b,off,cap,h1.keep hc.keep,h2⟩⟩
 |fn f l=>
  cases l with
  |nil=>exact⟨_,h,λ ρ w M ρ' w' M' hc v hv=>hv⟩
  |cons x l=>exact⟨_,h,λ ρ w M ρ' w' M' hc v hv=>aH.aM hv⟩
 |int k n=>exact⟨_,h,λ ρ w M ρ' w' M' hc v hv=>hv⟩
 |bool e=>exact⟨_,h,λ ρ w M ρ' w' M' hc v hv=>hv⟩
 |ao=>exact⟨_,h,λ ρ w M ρ' w' M' hc v hv=>hv⟩
 |bK=>exact⟨_,h,λ ρ w M ρ' w' M' hc v hv=>hv⟩
 |full r=>exact⟨_,h,λ ρ w M ρ' w' M' hc v hv=>⟨a8.keep hc.keep hv.1,hv.2⟩⟩
 |str l=>exact⟨_,h,λ ρ w M ρ' w' M' hc v hv=>hv⟩
 |_=>exact⟨_,h,λ ρ w M ρ' w' M' hc v hv=>aH.aM hv⟩
theorem fX:∀{l:List AV} {K:List AV->Prop},sn k to l K->
  ∃l',K l'/\∀ρ w M ρ' w' M',Conv k to ρ w M ρ' w' M'->∀vs,aJ (aH ρ w M) l vs->aJ (aH ρ' w' M') l' vs
 |[],_,h=>⟨[],h,λ _ _ _ _ _ _ _ vs hv=>by cases vs<;>exact hv⟩
 |a::l,K,h=>by
  obtain⟨a',h1,ha⟩:=A4 h;obtain⟨l',h2,hl⟩:=fX h1;refine⟨_,h2,λ ρ w M ρ' w' M' hc vs hv=>?_⟩;cases vs with
  |nil=>exact hv.elim
  |cons v vs=>exact⟨ha _ _ _ _ _ _ hc _ hv.1,hl _ _ _ _ _ _ hc _ hv.2⟩
theorem DA{a:AV}{K:AV->Prop}(ha:(∀l,a≠.agg l)/\(∀l,a≠.cC l)/\∀f l,a≠.fn f l)(h:ft k to a K):
  ∃a',K a'/\∀ρ w M ρ' w' M',Conv k to ρ w M ρ' w' M'->(∀v,aH ρ w M (.vec k) v->az ρ' w' M' to v/\ck ρ' w' M' to v)->∀v,(az ρ w M a v->az ρ' w' M' a' v)/\(ck ρ w M a v->ck ρ' w' M' a' v):=by
 cases a with
 |agg l=>exact absurd rfl (ha.1 l)
 |cC l=>exact absurd rfl (ha.2.1 l)
 |fn f l=>exact absurd rfl (ha.2.2 f l)
 |vec j=>
  simp only [ft]at h;cases hb:Nat.beq j k with
  |true=>simp only [hb]at h;obtain rfl:=ay.1 hb;exact⟨_,h,λ ρ w M ρ' w' M' hc y6 v=>⟨λ hv=>(y6 v hv).1,λ hv=>(y6 v hv).2⟩⟩
  |false=>
   simp only [hb]at h;refine⟨_,h,λ ρ w M ρ' w' M' hc y6 v=>⟨λ hv=>?_,λ hv=>?_⟩⟩<;>(obtain⟨o,h1,h2⟩:=hv;exact⟨o,a6 (hc.other _ (beq_false hb)) h1,h2⟩)
 |ptr j off=>
  simp only [ft]at h;cases hb:Nat.beq j k with
  |true=>simp only [hb]at h;exact⟨_,h,λ ρ w M ρ' w' M' hc _ v=>⟨λ _=>trivial,λ _=>trivial⟩⟩
  |false=>
   simp only [hb]at h;refine⟨_,h,λ ρ w M ρ' w' M' hc _ v=>⟨λ hv=>?_,λ hv=>?_⟩⟩<;>exact a6 (hc.other _ (beq_false hb)) hv
 |dS j i=>
  simp only [ft]at h;cases hb:Nat.beq j k with
  |true=>simp only [hb]at h;exact⟨_,h,λ ρ w M ρ' w' M' hc _ v=>⟨λ _=>trivial,λ _=>trivial⟩⟩
  |false=>
   simp only [hb]at h;refine⟨_,h,λ ρ w M ρ' w' M' hc _ v=>⟨λ hv=>?_,λ hv=>?_⟩⟩<;>(obtain⟨o,b,h1,h2⟩:=hv;exact⟨o,b,a6 (hc.other _ (beq_false hb)) h1,h2⟩)
 |gd j i c=>
  simp only [ft]at h;cases hb:Nat.beq j k with
  |true=>simp only [hb]at h;exact⟨_,h,λ ρ w M ρ' w' M' hc _ v=>⟨λ _=>trivial,λ _=>trivial⟩⟩
  |false=>
   simp only [hb]at h;refine⟨_,h,λ ρ w M ρ' w' M' hc _ v=>⟨λ hv=>?_,λ hv=>?_⟩⟩<;>(obtain⟨o,b,h1,h2⟩:=hv;exact⟨o,b,a6 (hc.other _ (beq_false hb)) h1,h2⟩)
 |gf j i=>
  simp only [ft]at h;cases hb:Nat.beq j k with
  |true=>simp only [hb]at h;exact⟨_,h,λ ρ w M ρ' w' M' hc _ v=>⟨λ _=>trivial,λ _=>trivial⟩⟩
  |false=>
   simp only [hb]at h;refine⟨_,h,λ ρ w M ρ' w' M' hc _ v=>⟨λ hv=>?_,λ hv=>?_⟩⟩<;>(obtain⟨o,h1,h2⟩:=hv;exact⟨o,a6 (hc.other _ (beq_false hb)) h1,h2⟩)
 |ro r=>exact⟨_,h,λ ρ w M ρ' w' M' hc _ v=>⟨λ hv=>a8.keep hc.keep hv,λ hv=>a8.keep hc.keep hv⟩⟩
 |eH r i=>
  refine⟨_,h,λ ρ w M ρ' w' M' hc _ v=>⟨λ hv=>?_,λ hv=>?_⟩⟩<;>(obtain⟨b,off,cap,h1,h2⟩:=hv;exact⟨b,off,cap,h1.keep hc.keep,h2⟩)
 |tP f r i=>
  refine⟨_,h,λ ρ w M ρ' w' M' hc _ v=>⟨λ hv=>?_,λ hv=>?_⟩⟩<;>(obtain⟨b,off,cap,h1,h2⟩:=hv;exact⟨b,off,cap,h1.keep hc.keep,h2⟩)
 |int k n=>exact⟨_,h,λ ρ w M ρ' w' M' hc _ v=>⟨λ hv=>hv,λ hv=>hv⟩⟩
 |bool e=>exact⟨_,h,λ ρ w M ρ' w' M' hc _ v=>⟨λ hv=>hv,λ hv=>hv⟩⟩
 |ao=>exact⟨_,h,λ ρ w M ρ' w' M' hc _ v=>⟨λ hv=>hv,λ hv=>hv⟩⟩
 |bK=>exact⟨_,h,λ ρ w M ρ' w' M' hc _ v=>⟨λ hv=>hv,λ hv=>hv⟩⟩
 |full r=>exact⟨_,h,λ ρ w M ρ' w' M' hc _ v=>⟨λ hv=>⟨a8.keep hc.keep hv.1,hv.2⟩,λ hv=>⟨a8.keep hc.keep hv.1,hv.2⟩⟩⟩
 |str l=>exact⟨_,h,λ ρ w M ρ' w' M' hc _ v=>⟨λ hv=>hv,λ hv=>hv⟩⟩
 |_=>exact⟨_,h,λ ρ w M ρ' w' M' hc _ v=>⟨λ _=>trivial,λ _=>trivial⟩⟩
theorem qX:∀{l:List AV} {K:List AV->Prop},so k to l K->
  ∃l',K l'/\∀ρ w M ρ' w' M',Conv k to ρ w M ρ' w' M'->(∀v,aH ρ w M (.vec k) v->az ρ' w' M' to v/\ck ρ' w' M' to v)->∀vs,aJ (ck ρ w M) l vs->aJ (ck ρ' w' M') l' vs
 |[],_,h=>⟨[],h,λ _ _ _ _ _ _ _ _ vs hv=>by cases vs<;>exact hv⟩
 |a::l,K,h=>by
  have go:∃a',(so k to l λ l'=>K (a'::l'))/\∀ρ w M ρ' w' M',Conv k to ρ w M ρ' w' M'->(∀v,aH ρ w M (.vec k) v->az ρ' w' M' to v/\ck ρ' w' M' to v)->∀v,ck ρ w M a v->ck ρ' w' M' a' v:=by
   cases a with
   |agg m=>
    obtain⟨m',h1,hm⟩:=fX h;exact⟨_,h1,λ ρ w M ρ' w' M' hc _ v ⟨cs,h2,h3⟩=>⟨cs,h2,hm _ _ _ _ _ _ hc _ h3⟩⟩
   |cC m=>exact⟨.any,h,λ ρ w M ρ' w' M' hc _ v _=>trivial⟩
   |fn f m=>
    cases m with
    |nil=>exact⟨_,h,λ ρ w M ρ' w' M' hc _ v hv=>hv⟩
    |cons x m=>exact⟨.any,h,λ ρ w M ρ' w' M' hc _ v _=>trivial⟩
   |_=>
    simp only [so]at h;obtain⟨a',h1,ha⟩:=DA (by simp) h;exact⟨a',h1,λ ρ w M ρ' w' M' hc y6 v hv=>(ha _ _ _ _ _ _ hc y6 v).2 hv⟩
  obtain⟨a',h1,ha⟩:=go;obtain⟨l',h2,hl⟩:=qX h1;refine⟨_,h2,λ ρ w M ρ' w' M' hc y6 vs hv=>?_⟩;cases vs with
  |nil=>exact hv.elim
  |cons v vs=>exact⟨ha _ _ _ _ _ _ hc y6 _ hv.1,hl _ _ _ _ _ _ hc y6 _ hv.2⟩
theorem fH:∀{l:List AV} {K:List AV->Prop},cU k to l K->
  ∃l',K l'/\l'.length=l.length/\∀ρ w M ρ' w' M',Conv k to ρ w M ρ' w' M'->(∀v,aH ρ w M (.vec k) v->az ρ' w' M' to v/\ck ρ' w' M' to v)->∀i v,az ρ w M (nth l i) v->az ρ' w' M' (nth l' i) v
 |[],_,h=>⟨[],h,rfl,λ _ _ _ _ _ _ _ _ _ _ _=>trivial⟩
 |a::l,K,h=>by
  have go:∃a',(cU k to l λ l'=>K (a'::l'))/\∀ρ w M ρ' w' M',Conv k to ρ w M ρ' w' M'->(∀v,aH ρ w M (.vec k) v->az ρ' w' M' to v/\ck ρ' w' M' to v)->∀v,az ρ w M a v->az ρ' w' M' a' v:=by
   cases a with
   |agg m=>
    obtain⟨m',h1,hm⟩:=fX h;exact⟨_,h1,λ ρ w M ρ' w' M' hc _ v ⟨cs,h2,h3⟩=>⟨cs,h2,hm _ _ _ _ _ _ hc _ h3⟩⟩
   |cC m=>
    obtain⟨m',h1,hm⟩:=qX h;exact⟨_,h1,λ ρ w M ρ' w' M' hc y6 v ⟨cs,h2,h3⟩=>⟨cs,h2,hm _ _ _ _ _ _ hc y6 _ h3⟩⟩
   |fn f m=>
    obtain⟨m',h1,hm⟩:=fX h;exact⟨_,h1,λ ρ w M ρ' w' M' hc _ v ⟨cs,h2,h3⟩=>⟨cs,h2,hm _ _ _ _ _ _ hc _ h3⟩⟩
   |_=>
    simp only [cU]at h;obtain⟨a',h1,ha⟩:=DA (by simp) h;exact⟨a',h1,λ ρ w M ρ' w' M' hc y6 v hv=>(ha _ _ _ _ _ _ hc y6 v).1 hv⟩
  obtain⟨a',h1,ha⟩:=go;obtain⟨l',h2,hlen,hl⟩:=fH h1;refine⟨_,h2,by simp [hlen],λ ρ w M ρ' w' M' hc y6 i v hv=>?_⟩;cases i with
  |zero=>exact ha _ _ _ _ _ _ hc y6 _ hv
  |succ i=>exact hl _ _ _ _ _ _ hc y6 i _ hv
theorem pO{r s:RO}{i:Int}{K:RO->Prop}(h:setRow r i s K)(hi:i.toNat<r.len):∃r',K r'/\r'.len=r.len/\r'.sz=r.sz/\X6 r=true/\
  ∀(w:World) (M:aX),(∀c,a8 w M s c->av w M r' i.toNat c)/\∀q c,q≠i.toNat->av w M r q c->av w M r' q c:=by
 cases r<;>cases s<;>try exact h.elim
 case rows.ints k l k' m=>
  simp only [setRow,al]at h;obtain⟨hk,h⟩:=h;obtain rfl:=bZ hk;simp only [RO.len]at hi;refine⟨_,h,by simp [RO.len],rfl,rfl,λ w M=>⟨λ c hc=>?_,λ q c hq hc=>?_⟩⟩
  ·simp only [av,a7 _ _ _ _ _ hi,if_true];exact gW.1 hc
  ·simp only [av,a7 _ _ _ _ _ hi,hq,if_false]at hc ⊢;exact hc
 case bw.aL l m=>
  simp only [RO.len]at hi;refine⟨_,h,by simp [RO.len],rfl,rfl,λ w M=>⟨λ c hc=>?_,λ q c hq hc=>?_⟩⟩
  ·simp only [av,a7 _ _ _ _ _ hi,if_true];exact gL.1 hc
  ·simp only [av,a7 _ _ _ _ _ hi,hq,if_false]at hc ⊢;exact hc
 case bC.rows l k' m=>
  cases k'<;>try exact h.elim
  simp only [RO.len]at hi;refine⟨_,h,by simp [RO.len],rfl,rfl,λ w M=>⟨λ c hc=>?_,λ q c hq hc=>?_⟩⟩
  ·simp only [av,a7 _ _ _ _ _ hi,if_true];exact jj.1 hc
  ·simp only [av,a7 _ _ _ _ _ hi,hq,if_false]at hc ⊢;exact hc
 case cR.ints k l k' m=>
  simp only [setRow,al]at h;obtain⟨hk,hm,h⟩:=h;obtain rfl:=bZ hk;simp only [RO.len]at hi;refine⟨_,h,by simp [RO.len],rfl,rfl,λ w M=>⟨λ c hc=>?_,λ q c hq hc=>?_⟩⟩
  ·simp only [av,a7 _ _ _ _ _ hi,if_true];exact⟨gW.1 hc,λ h=>absurd h hm⟩
  ·simp only [av,a7 _ _ _ _ _ hi,hq,if_false]at hc ⊢;exact hc
theorem Fq{r:RO}(h:X6 r=true):r.sz=1:=by cases r<;>first|rfl|cases h
theorem kO{r:RO}(h:nr r=true):r.sz=1:=by cases r<;>first|rfl|cases h
def SwB(k:Nat)(to:AV)(B B':dH):Prop:=
 ∀(ρ:Env) (w:World) (M:aX) (ρ':Env) (M':aX) (j:Nat),Conv k to ρ w M ρ' w M'->ρ' j=ρ j->(∀b,hasB ρ j b->∀off,M' b off↔M b off)->eA ρ w M j B->eA ρ' w M' j B'
theorem fI:∀{S:ai} {K:ai->Prop},b5 k to S K->
  ∃S',K S'/\∀j,match aj S j with|none=>aj S' j=none|some B=>∃B',aj S' j=some B'/\SwB k to B B'
 |[],_,h=>⟨[],h,λ _=>rfl⟩
 |(i,b)::S,K,h=>by
  have go:∃b',(b5 k to S λ S'=>K ((i,b')::S'))/\SwB k to b b':=by
   cases b with
   |box m=>
    obtain⟨m',h1,hm⟩:=fX h;refine⟨_,h1,λ ρ w M ρ' M' j hc hρ hM hB=>?_⟩;obtain⟨b,h2,cs,ty,h3,h4,h5⟩:=hB;refine⟨b,by rw [hρ];exact h2,cs,ty,h3,λ off=>?_,hm _ _ _ _ _ _ hc _ h5⟩;rw [hM b (by simp [hasB,h2,bY.has]) off,h4]
   |map kd vk m=>
    refine⟨_,h,λ ρ w M ρ' M' j hc hρ hM hB=>?_⟩;obtain⟨b,h2,es,n,h3,h4,h5⟩:=hB;refine⟨b,by rw [hρ];exact h2,es,n,h3,λ off=>?_,h5⟩;rw [hM b (by simp [hasB,h2,bY.has]) off,h4]
   |deep r hole=>
    refine⟨_,h,λ ρ w M ρ' M' j hc hρ hM hB=>?_⟩;obtain⟨o,rows,h2,h3⟩:=hB;exact⟨o,rows,by rw [hρ];exact h2,h3.ext hc.keep λ b hb=>⟨rfl,hM b (by simp only [hasB,h2];exact hb)⟩⟩
   |dE n r=>
    refine⟨_,h,λ ρ w M ρ' M' j hc hρ hM hB=>?_⟩;obtain⟨o,cur,h2,h3,h4⟩:=hB;exact⟨o,cur,by rw [hρ];exact h2,h3.HT hc.keep λ b hb=>⟨rfl,hM b (by simp only [hasB,h2];exact .inr hb)⟩,h4.ext λ b hb=>⟨rfl,hM b (by simp only [hasB,h2];exact .inl hb)⟩⟩
   |ma n z=>
    refine⟨_,h,λ ρ w M ρ' M' j hc hρ hM hB=>?_⟩;obtain⟨o,h2,h4⟩:=hB;exact⟨o,by rw [hρ];exact h2,h4.ext λ b hb=>⟨rfl,hM b (by simp only [hasB,h2];exact hb)⟩⟩
   |vec wm r ov=>
    match ov,h with
    |[],h=>
     refine⟨_,h,λ ρ w M ρ' M' j hc hρ hM hB=>?_⟩;obtain⟨⟨o,h2,h3,h4,h5,h6,h7⟩,_⟩:=hB;refine⟨⟨o,by rw [hρ];exact h2,h3,h4,h5,h6,?_⟩,.inl rfl⟩;cases hb:o.aW with
     |none=>simp only [hb]at h7 ⊢;exact h7
     |some b=>
      simp only [hb]at h7 ⊢;obtain⟨h8,cs,ty,h9,cu,ou,ox⟩:=h7;refine⟨h8,cs,ty,h9,cu,λ off=>?_,λ q hq=>?_⟩
      ·rw [hM b (by simp [hasB,h2,bY.has,hb]) off,ou]
      ·obtain⟨c,wE,lW⟩:=ox q hq;exact⟨c,wE,lW.keep hc.keep⟩
    |[(x,y)],h=>
     simp only [b5]at h;cases hb:Nat.beq y k with
     |false=>
      simp only [hb]at h;refine⟨_,h,λ ρ w M ρ' M' j hc hρ hM hB=>?_⟩;obtain⟨⟨o,h2,h3,h4,h5,h6,h7⟩,gQ⟩:=hB;refine⟨⟨o,by rw [hρ];exact h2,h3,h4,h5,h6,?_⟩,gQ⟩;cases cr:o.aW with
      |none=>simp only [cr]at h7 ⊢;exact h7
      |some b=>
       simp only [cr]at h7 ⊢;obtain⟨h8,cs,ty,h9,cu,ou,ox⟩:=h7;refine⟨h8,cs,ty,h9,cu,λ off=>?_,λ q hq=>?_⟩
       ·rw [hM b (by simp [hasB,h2,bY.has,cr]) off,ou]
       ·obtain⟨c,wE,lW⟩:=ox q hq
        refine⟨c,wE,?_⟩;split at lW
        ·rename_i he;simp only [he,if_true]
         obtain⟨o',Jj,Fp⟩:=lW;exact⟨o',a6 (hc.other _ (beq_false hb)) Jj,Fp⟩
        ·rename_i he;simp only [he,if_false];exact lW.keep hc.keep
     |true=>
      obtain rfl:=ay.1 hb;simp only [hb]at h;cases to with
      |ro s=>
       by_cases hx:x.toNat<r.len
       ·obtain⟨r',h1,hl,hz,hq,cM⟩:=pO h hx
        refine⟨_,h1,λ ρ w M ρ' M' j hc hρ hM hB=>?_⟩;obtain⟨⟨o,h2,h3,h4,h5,h6,h7⟩,gQ⟩:=hB;refine⟨⟨o,by rw [hρ];exact h2,by rw [h3,hl],by rw [h4,hz],by rw [hl];exact h5,by rw [hl];exact h6,?_⟩,.inl rfl⟩;have wg:r'.cells=r.cells:=by simp [RO.cells,hl,hz]
        cases cr:o.aW with
        |none=>simp only [cr]at h7 ⊢;rw [hl];exact h7
        |some b=>
         simp only [cr]at h7 ⊢;obtain⟨h8,cs,ty,h9,cu,ou,ox⟩:=h7;refine⟨h8,cs,ty,h9,cu,λ off=>?_,λ q hq=>?_⟩
         ·rw [hM b (by simp [hasB,h2,bY.has,cr]) off,ou]
         ·rw [wg]at hq
          obtain⟨c,wE,lW⟩:=ox q hq;refine⟨c,wE,?_⟩;split at lW
          ·rename_i he
           have:q=x.toNat:=aa;rw [this];exact(cM w M').1 c (hc.self _ lW)
          ·rename_i he
           rcases gQ with gQ|⟨i',j',gQ,_,_,UH,_⟩
           ·cases gQ
           ·cases gQ
            exact(cM w M').2 q c aa (lW.keep hc.keep)
       ·have hK:∃r',b5 y (.ro s) S λ S'=>K ((i,.vec wm r' [])::S'):=by
         cases r<;>cases s<;>first
          |exact h.elim
          |(simp only [setRow,al]at h;exact⟨_,h.2⟩)
          |(simp only [setRow,al]at h;exact⟨_,h.2.2⟩)
          |exact⟨_,h⟩
          |(rename_i k' m _;cases k'<;>first|exact⟨_,h⟩|exact h.elim)
        obtain⟨r',h1⟩:=hK;refine⟨_,h1,λ ρ w M ρ' M' j hc hρ hM hB=>?_⟩;obtain⟨_,gQ⟩:=hB;rcases gQ with gQ|⟨i',j',gQ,_,_,UH,Q3⟩
        ·cases gQ
        ·cases gQ;omega
      |_=>exact h.elim
    |_::_::_,h=>exact h.elim
  obtain⟨b',h1,hb⟩:=go;obtain⟨S',h2,hS⟩:=fI h1;refine⟨_,h2,λ j=>?_⟩
  by_cases hj:i=j
  ·subst hj;simp only [aD,if_true];exact⟨b',rfl,hb⟩
  ·simp only [aD,hj,if_false];exact hS j
def aR(ρ:Env)(k:Nat):Env:=λ j=>if j=k then none else ρ j
def dt(M:aX)(ρ:Env)(k:Nat):aX:=λ b off=>M b off/\¬hasB ρ k b
theorem iQ(w:World)(M:aX)(ρ:Env)(k:Nat):bB w M w (dt M ρ k):=λ _ _ _ h h'=>⟨h,λ hm=>h' hm.1⟩
theorem wU{w0 w:World}{M0:ef w0}{ρ:Env}{M:aX}{T:List AV}{S:ai}{a:Act}{K:List AV->ai->Prop}
  (h:kL S k λ S=>cU k to T λ T=>b5 k to S λ S=>K T S) (st:St M0 ρ M S w) (tm:Tm ρ w M T a)
  (RX:∀v,aH ρ w M (.vec k) v->aH (aR ρ k) w (dt M ρ k) to v/\az (aR ρ k) w (dt M ρ k) to v/\ck (aR ρ k) w (dt M ρ k) to v):
  ∃T' S',K T' S'/\St M0 (aR ρ k) (dt M ρ k) S' w/\Tm (aR ρ k) w (dt M ρ k) T' a/\T'.length=T.length/\aj S' k=none/\
   (∀i v,az ρ w M (nth T i) v->az (aR ρ k) w (dt M ρ k) (nth T' i) v):=by
 obtain⟨S1,h1,xe⟩:=gq h;obtain⟨T',h2,hlen,hT⟩:=fH h1;obtain⟨S',h3,FZ⟩:=fI h2;have mM:Conv k to ρ w M (aR ρ k) w (dt M ρ k):=⟨iQ _ _ _ _,λ j hj o ho=>by simpa [aR,hj]using ho,λ v hv=>(RX v hv).1⟩;have y6:∀v,aH ρ w M (.vec k) v->az (aR ρ k) w (dt M ρ k) to v/\ck (aR ρ k) w (dt M ρ k) to v:=λ v hv=>(RX v hv).2
 have dA:aj S' k=none:=by
  have:=FZ k;rw [xe k]at this;simpa using this
 refine⟨T',S',h3,⟨λ j=>?_,λ j B hB=>?_,λ i j b hi hj=>?_,λ b off hm=>st.mlt b off hm.1,st.lD,λ b off hb hm=>st.sub b off hb hm.1,λ b off hb hl hm=>⟨st.eu b off hb hl hm,st.gU hb hl⟩,λ x b hx=>?_,λ x o hx ho=>?_⟩,
  ⟨tm.defers,by rw [hlen];exact tm.size,λ i=>hT _ _ _ _ _ _ mM y6 i _ (tm.tmp i)⟩,hlen,dA,λ i v=>hT _ _ _ _ _ _ mM y6 i v⟩
 ·by_cases hj:j=k
  ·subst hj;simp [aR,dA]
  ·have:=FZ j
   rw [xe j]at this;simp only [hj,if_false]at this;simp only [aR,hj,if_false,st.ga j];cases hf:aj S j with
   |none=>simp only [hf]at this;simp [this]
   |some B=>simp only [hf]at this;obtain⟨B',h4,_⟩:=this;simp [h4]
 ·have hj:j≠k:=λ e=>by subst e;rw [dA]at hB;cases hB
  have:=FZ j;rw [xe j]at this;simp only [hj,if_false]at this;cases hf:aj S j with
  |none=>simp only [hf]at this;rw [this]at hB;cases hB
  |some B0=>
   simp only [hf]at this;obtain⟨B',h4,h5⟩:=this;rw [h4]at hB;cases hB;refine h5 ρ w M _ _ j mM (by simp [aR,hj]) (λ b hb off=>?_) (st.aW j B0 hf);exact⟨λ hm=>hm.1,λ hm=>⟨hm,λ hk=>hj (st.inj _ _ _ hb hk)⟩⟩
 ·have h1:∀x,hasB (aR ρ k) x b->hasB ρ x b:=λ x hx=>by
   by_cases kH:x=k
   ·subst kH;simp [hasB,aR]at hx
   ·simpa [hasB,aR,kH]using hx
  exact st.inj _ _ _ (h1 _ hi) (h1 _ hj)
 ·by_cases kH:x=k
  ·subst kH;simp [hasB,aR]at hx
  ·exact st.fresh x b (by simpa [hasB,aR,kH]using hx)
 ·by_cases kH:x=k
  ·subst kH;simp [aR]at ho
  ·exact st.tn x o hx (by simpa [aR,kH]using ho)
theorem lJ{w0 w:World}{M0:ef w0}{ρ:Env}{M:aX}{T:List AV}{S:ai}{a:Act}{K:List AV->ai->Prop}
  (h:iH k T S K) (st:St M0 ρ M S w) (tm:Tm ρ w M T a):
  ∃T' S',K T' S'/\St M0 (aR ρ k) (dt M ρ k) S' w/\Tm (aR ρ k) w (dt M ρ k) T' a/\T'.length=T.length/\aj S' k=none/\loc k=true:=by
 obtain⟨fJ,h⟩:=al.1 h;obtain⟨T',S',h1,h2,h3,h4,h5,_⟩:=wU h st tm λ v hv=>⟨aH.aM hv,ag,ag⟩;exact⟨T',S',h1,h2,h3,h4,h5,fJ⟩
theorem uI{w:World}{ρ':Env}{M M':aX}{o:Sl}{wm:Nat}{r:RO}(hM:∀b off,M' b off->M b off)(c9:∀b off,o.aW=some b->off<r.cells->¬M' b off)(hB:fb ρ' w M o wm r []):a8 w M' r o.val:=by
 have hk:bB w M w M':=λ _ _ _ h h'=>⟨h,λ hm=>h' (hM _ _ hm)⟩;obtain⟨h3,h4,h5,h6,h7⟩:=hB;refine⟨h5,o.aW.map λ b=>⟨b,0,none⟩,o.cap,by rw [Sl.val,h3],?_⟩;cases hb:o.aW with
 |none=>simp only [hb]at h7;exact⟨by rw [h7.1];exact Nat.zero_le _,.inl (by simp [RO.cells,h7.1])⟩
 |some b=>
  simp only [hb]at h7;obtain⟨h8,cs,ty,h9,cu,ou,ox⟩:=h7;refine⟨h3▸h8,.inr ⟨b,0,rfl,λ q hq=>?_⟩⟩;obtain⟨c,wE,lW⟩:=ox q hq;exact⟨c,by rw [cell_of_heap h9,Nat.zero_add];exact wE,c9 _ _ hb aa,lW.keep hk⟩
theorem wV {w:World}{ρ':Env}{M M':aX}{o:Sl}{wm:Nat}{r:RO}(hM:∀b off,M' b off->M b off)(c9:∀b off,o.aW=some b->¬M' b off)(hB:fb ρ' w M o wm r []):a8 w M' r o.val:=uI hM (λ b off h _=>c9 b off h) hB
theorem Nu{w:World}{M:aX}{r:RO}{q:Nat}{c:Value}(hr:nr r=true):a8 w M (r.row q) c↔av w M r q c:=by
 cases r<;>try (cases hr;done)
 ·exact gW
 ·exact gL
 ·exact jj
theorem rv{w:World}{ρ:Env}{M M':aX}{B:dH}{r:RO}{v:Value}(hM:∀b off,M' b off->M b off)(c9:∀b off,hasB ρ k b->¬M' b off)(hB:eA ρ w M k B)(hf:n7 B=some r)(hv:aH ρ w M (.vec k) v):a8 w M' r v:=by
 obtain⟨o,h8,rfl⟩:=hv;cases B with
 |vec wm r' ov=>
  cases ov<;>simp only [n7]at hf<;>try (cases hf;done)
  cases hf;obtain⟨⟨o',h2,h3⟩,_⟩:=hB;obtain rfl:=cx h2 h8;exact wV hM (λ b off hb=>c9 b off (by simp [hasB,h2,bY.has,hb])) h3
 |deep r' hole=>
  cases hole<;>simp only [n7]at hf<;>try (cases hf;done)
  cases hf;obtain⟨o',rows,h2,h3⟩:=hB;rw [oB h2]at h8;cases h8;have hk:bB w M w M':=λ _ _ _ h h'=>⟨h,λ hm=>h' (hM _ _ hm)⟩;refine⟨h3.lb,o.aW.map λ b=>⟨b,0,none⟩,o.cap,by rw [Sl.val,h3.len],?_⟩;have h7:=h3.outer;have bk:=kO h3.rq;cases hb:o.aW with
  |none=>simp only [hb]at h7;exact⟨by rw [h7.1];exact Nat.zero_le _,.inl (by simp [RO.cells,h7.1])⟩
  |some b=>
   simp only [hb]at h7;obtain⟨h8,cs,ty,h9,cu,ou,ox⟩:=h7;refine⟨h3.len▸h8,.inr ⟨b,0,rfl,λ q hq=>?_⟩⟩;have hq:q<r.len:=by simpa [RO.cells,bk]using hq
   obtain⟨c,wE,lW⟩:=ox q hq;refine⟨c,by rw [cell_of_heap h9,Nat.zero_add];exact wE,c9 _ _ (by simp [hasB,h2,bY.has,hb]),?_⟩;rcases lW with lW|lW
   ·cases lW
   ·rw [lW]
    exact(Nu h3.rq).1 (wV hM (λ b' off cr=>c9 b' off (by simp only [hasB,h2];exact .inr ⟨q,cr⟩)) (h3.row q hq (by simp)))
 |box|map|dE|ma=>simp [n7]at hf
theorem pS{w0 w:World}{M0:ef w0}{ρ:Env}{M:aX}{T:List AV}{S:ai}{a:Act}{K:List AV->ai->Prop}
  (h:uw k T S K) (st:St M0 ρ M S w) (tm:Tm ρ w M T a):
  ∃B r,(aj S k=some B/\n7 B=some r)/\∃T' S',K T' S'/\St M0 (aR ρ k) (dt M ρ k) S' w/\Tm (aR ρ k) w (dt M ρ k) T' a/\T'.length=T.length/\
   (∀v,aH ρ w M (.vec k) v->a8 w (dt M ρ k) r v):=by
 have go:∀B r,aj S k=some B->n7 B=some r->(kL S k λ S=>cU k (.ro r) T λ T=>b5 k (.ro r) S λ S=>K T S)->∃B r,(aj S k=some B/\n7 B=some r)/\∃T' S',K T' S'/\St M0 (aR ρ k) (dt M ρ k) S' w/\Tm (aR ρ k) w (dt M ρ k) T' a/\T'.length=T.length/\
   (∀v,aH ρ w M (.vec k) v->a8 w (dt M ρ k) r v):=λ B r hf hr h=>by
  have hB:=st.aW k _ hf;have rd:∀v,aH ρ w M (.vec k) v->a8 w (dt M ρ k) r v:=λ v hv=>rv (λ _ _ h=>h.1) (λ _ _ h h'=>h'.2 h) hB hr hv;obtain⟨T',S',h1,h2,h3,h4,h5,_⟩:=wU h st tm λ v hv=>⟨rd v hv,rd v hv,rd v hv⟩;exact⟨B,r,⟨hf,hr⟩,T',S',h1,h2,h3,h4,rd⟩
 unfold uw at h;split at h
 ·rename_i wm r hf
  exact go _ r hf rfl h
 ·rename_i r hf
  exact go _ r hf rfl h
 ·exact h.elim
end
end Go.AM
end
theorem ab{a:Prop}(h:a:=by repeat' first|refine And.intro ?_ ?_|exact True.intro|(show (_:Int)=(_:Int);omega)|omega|exact rfl|(simp only [Go.AM.RO.len];omega)):a:=h
