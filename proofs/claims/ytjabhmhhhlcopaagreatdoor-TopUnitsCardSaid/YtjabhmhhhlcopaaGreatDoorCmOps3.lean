import Derived.Test.YtjabhmhhhlcopaaGreatDoorAmRet
import Derived.Laws.StructEq
section
namespace Go.CM
open Go Go.AM
noncomputable section
inductive Cp where
  |n (n:Nat)|g|u
inductive CC where
  |int (k:IntKind) (n:Int)|bool (b:Bool)|str (s:List Nat)|ptr (k off:Nat)|nilp|sl (k off len:Nat) (cap:Cp)|nils|mp (k:Nat)|nilm|fn (f:FuncId)|nilf|nili
inductive CW where
  |c (x:CC)|a (l:List CC)
inductive CV where
  |c (x:CC)|a (l:List CC)|t (l:List CW)|clo (f:FuncId) (l:List CC)|non
inductive CO where
  |cells (l:List CC) (g:Option (Nat × Nat))|map (es:List (CW × CW))
inductive Tr (α:Type) where
  |lf|nd (l:Tr α) (x:Option α) (r:Tr α)
def Tr.get {α:Type} (t:Tr α):Nat→Option α:=
  Tr.rec (motive:=fun _=>Nat→Option α) (fun _=>none) (fun _ x _ gl gr n=>Nat.rec (motive:=fun _=>Option α) x (fun m _=>Nat.rec (motive:=fun _=>Option α) (gl (m / 2)) (fun _ _=>gr (m / 2)) (m % 2)) n) t
def Tr.one {α:Type}:Nat→Nat→Option α→Tr α
  |0,_,_=>.lf
  |f+1,n,v=>match n with|0=>.nd .lf v .lf|n+1=>(match n % 2 with|0=>.nd (Tr.one f (n / 2) v) none .lf|_=>.nd .lf none (Tr.one f (n / 2) v))
def Tr.put {α:Type} (t:Tr α):Nat→Option α→Tr α:=
  Tr.rec (motive:=fun _=>Nat→Option α→Tr α) (fun n v=>Tr.one (n+1) n v) (fun l x r pl pr n v=>Nat.rec (motive:=fun _=>Tr α) (.nd l v r) (fun m _=>Nat.rec (motive:=fun _=>Tr α) (.nd (pl (m / 2) v) x r) (fun _ _=>.nd l x (pr (m / 2) v)) (m % 2)) n) t
def bo {α β:Type} (x:Option α) (f:α→Option β):Option β:=Option.rec (motive:=fun _=>Option β) none f x
def bt {β:Type} (b:Bool) (x:Option β):Option β:=Bool.rec (motive:=fun _=>Option β) none x b
structure HS where
  H:Tr CO
  nx:Nat
  wb:Nat
  wr:List Nat
def pairB (n:Nat × Nat):List (Nat × Nat)→Bool
  |[]=>false|m::l=>match Nat.beq n.1 m.1&&Nat.beq n.2 m.2 with|true=>true|false=>pairB n l
def memB (n:Nat):List Nat→Bool
  |[]=>false|m::l=>match Nat.beq n m with|true=>true|false=>memB n l
def wrote (wb k:Nat) (wr:List Nat):List Nat:=match Nat.ble wb k with|true=>wr|false=>match memB k wr with|true=>wr|false=>k::wr
def wrotes (wb:Nat):List Nat→List Nat→List Nat
  |[],wr=>wr|k::l,wr=>wrotes wb l (wrote wb k wr)
def minN (a b:Nat):Nat:=match Nat.ble a b with|true=>a|false=>b
def HS.new (s:HS) (o:CO):HS:=⟨s.H.put s.nx (some o),s.nx+1,s.wb,s.wr⟩
def HS.put (s:HS) (k:Nat) (o:CO):HS:=⟨s.H.put k (some o),s.nx,s.wb,wrote s.wb k s.wr⟩
structure Tm' where
  n:Nat
  t:Tr CV
def getV (T:Tm') (i:Nat):CV:=match T.t.get i with|some v=>v|none=>.non
def putV (T:Tm') (d:Nat) (v:CV):Option Tm':=bt (Nat.ble (d+1) T.n) (some ⟨T.n,T.t.put d (some v)⟩)
def dstV (d:Option Nat) (T:Tm') (v:CV):Option Tm':=match d with|none=>some T|some d=>putV T d v
def bytesN:List UInt8→List Nat
  |[]=>[]|b::l=>b.toNat::bytesN l
def constC:Value→Option CC
  |.int k n=>bt (fitB k n) (some (.int k n))|.bool b=>some (.bool b)|.string s=>some (.str (bytesN s.data.toList))
  |.slice a n c=>(match a,n,c with|none,0,0=>some .nils|_,_,_=>none)|.pointer a=>(match a with|none=>some .nilp|_=>none)|.map a=>(match a with|none=>some .nilm|_=>none)|.nilFunc=>some .nilf|.nilIface=>some .nili|_=>none
def consts:List Value→Option (List CC)
  |[]=>some []|v::l=>bo (constC v) fun x=>bo (consts l) fun m=>some (x::m)
def orNon (x:Option CV):CV:=match x with|some v=>v|none=>.non
def constV (v:Value):CV:=
  match v with
  |.agg cs=>orNon (bo (consts cs.toList) fun l=>some (.a l))
  |v=>orNon (bo (constC v) fun x=>some (.c x))
def evO (T:Tm'):Operand→CV
  |.tmp t=>getV T t|.const v=>constV v|.func f=>.c (.fn f)|.global _=>.non
def evOs (T:Tm'):List Operand→List CV
  |[]=>[]|x::l=>evO T x::evOs T l
def asC:CV→Option CC|.c x=>some x|_=>none
def asA:CV→Option (List CC)|.a l=>some l|_=>none
def asT:CV→Option (List CW)|.t l=>some l|_=>none
def asW:CV→Option CW|.c x=>some (.c x)|.a l=>some (.a l)|_=>none
def ofW:CW→CV|.c x=>.c x|.a l=>.a l
def asB (v:CV):Option Bool:=bo (asC v) fun x=>match x with|.bool b=>some b|_=>none
def asI (v:CV):Option (IntKind × Int):=bo (asC v) fun x=>match x with|.int k n=>some (k,n)|_=>none
def natI:Int→Option Nat|.ofNat n=>some n|.negSucc _=>none
def asN (v:CV):Option Nat:=bo (asI v) fun p=>natI p.2
def asP (v:CV):Option (Nat × Nat):=bo (asC v) fun x=>match x with|.ptr k off=>some (k,off)|_=>none
structure SlV where
  k:Nat
  off:Nat
  len:Nat
  cap:Cp
def asS (v:CV):Option SlV:=bo (asC v) fun x=>match x with|.sl k off len cap=>some ⟨k,off,len,cap⟩|_=>none
def evCs (T:Tm'):List Operand→Option (List CC)
  |[]=>some []|x::l=>bo (asC (evO T x)) fun a=>bo (evCs T l) fun m=>some (a::m)
def optN (T:Tm') (x:Option Operand):Option (Option Nat):=match x with|none=>some none|some x=>bo (asN (evO T x)) fun n=>some (some n)
def takeC:List CC→Nat→Option (List CC)
  |l,n=>match n with|0=>some []|n+1=>match l with|[]=>none|a::l=>bo (takeC l n) fun m=>some (a::m)
def dropC:List CC→Nat→List CC
  |l,n=>match n with|0=>l|n+1=>match l with|[]=>[]|_::l=>dropC l n
def partC (l:List CC) (off n:Nat):Option (List CC):=takeC (dropC l off) n
def headC:List CC→Option CC|[]=>none|a::_=>some a
def overC:List CC→List CC→Option (List CC)
  |l,m=>match m with|[]=>some l|b::m=>match l with|[]=>none|_::l=>bo (overC l m) fun r=>some (b::r)
def placeC:List CC→Nat→List CC→Option (List CC)
  |l,n,m=>match n with|0=>overC l m|n+1=>match l with|[]=>none|a::l=>bo (placeC l n m) fun r=>some (a::r)
def lenC:List CC→Nat→Bool
  |[],n=>(match n with|0=>true|_+1=>false)|_::l,n=>(match n with|0=>false|n+1=>lenC l n)
abbrev Zs:=List (List CC)
def nthZ:Zs→Nat→List CC
  |[],_=>[]|a::l,n=>match n with|0=>a|n+1=>nthZ l n
abbrev Cal:=FuncId→List CV→HS→Option (CV × HS)
structure Ev where
  TY:List TyE
  TZ:Zs
  call:Cal
  eqs:List Nat
  bys:List (Nat × Nat)
def Ev.d (E:Ev) (t:Nat):TyD:=(nthT E.TY t).d
def Ev.sz (E:Ev) (t:Nat):Nat:=(nthT E.TY t).sz
def Ev.z (E:Ev) (t:Nat):List CC:=nthZ E.TZ t
def Ev.agg (E:Ev) (t:Nat):Bool:=isAggD (nthT E.TY t).d
def cellsT (E:Ev) (t:Nat) (v:CV):Option (List CC):=
  match E.agg t with
  |true=>bo (asA v) fun l=>bt (lenC l (E.sz t)) (some l)
  |false=>bo (asC v) fun x=>bt (Nat.beq (E.sz t) 1) (some [x])
def readT (E:Ev) (t:Nat) (l:List CC) (off:Nat):Option CW:=
  match E.agg t with
  |true=>bo (partC l off (E.sz t)) fun m=>some (.a m)
  |false=>bt (Nat.beq (E.sz t) 1) (bo (headC (dropC l off)) fun x=>some (.c x))
def fitC (k:IntKind) (n:Int):CC:=match fitB k n with|true=>.int k n|false=>.int k (k.wrap n)
def notB (b:Bool):Bool:=match b with|true=>false|false=>true
def binI (op:BinOp) (k:IntKind) (a b:Int):Option CC:=
  match op with
  |.lss=>some (.bool (decide (a<b)))|.leq=>some (.bool (decide (a≤b)))|.gtr=>some (.bool (decide (b<a)))|.geq=>some (.bool (decide (b≤a)))
  |.eql=>some (.bool (a==b))|.neq=>some (.bool (notB (a==b)))
  |.add=>some (fitC k (a+b))|.sub=>some (fitC k (a - b))|.mul=>some (fitC k (a*b))
  |.quo=>bt (notB (b==0)) (some (fitC k (a.tdiv b)))
  |.rem=>bt (notB (b==0)) (some (fitC k (a.tmod b)))
  |.and=>some (.int k (andI k a b))|.or=>some (.int k (orI k a b))
  |_=>none
def binJ (op:BinOp) (k:IntKind) (a:Int) (k':IntKind) (b:Int):Option CC:=
  match op with
  |.shl=>bt (decide (0≤b)) (some (fitC k (shlI k a b)))|.shr=>bt (decide (0≤b)) (some (fitC k (shrI k a b)))
  |op=>bt (kq k k') (binI op k a b)
def eqN:List Nat→List Nat→Bool
  |[],m=>(match m with|[]=>true|_::_=>false)|a::l,m=>(match m with|[]=>false|b::m=>(match Nat.beq a b with|true=>eqN l m|false=>false))
def eqOp (op:BinOp) (e:Bool):Option CC:=match op with|.eql=>some (.bool e)|.neq=>some (.bool (notB e))|_=>none
def binS (op:BinOp) (a b:List Nat):Option CC:=eqOp op (eqN a b)
def isNilm:CC→Bool|.nilm=>true|_=>false
def isMapT:TyD→Bool|.map _ _=>true|_=>false
def isNils:CC→Bool|.nils=>true|_=>false
def binC (E:Ev) (op:BinOp) (t:Nat) (x y:CC):Option CC:=
  match x with
  |.int k a=>(match y with|.int k' b=>binJ op k a k' b|_=>none)
  |.bool a=>(match y with|.bool b=>bt (boolT E.TY t) (eqOp op (a==b))|_=>none)
  |.str a=>(match y with|.str b=>binS op a b|_=>none)
  |.sl _ _ _ _=>bt (isNils y) (bt (sliceT E.TY t) (eqOp op false))
  |.nils=>bt (isNils y) (bt (sliceT E.TY t) (eqOp op true))
  |.mp _=>bt (isNilm y) (bt (isMapT (E.d t)) (eqOp op false))
  |.nilm=>bt (isNilm y) (bt (isMapT (E.d t)) (eqOp op true))
  |_=>none
def eqC (x y:CC):Option Bool:=
  match x with
  |.int k a=>(match y with|.int k' b=>bt (kq k k') (some (a==b))|_=>none)
  |.str a=>(match y with|.str b=>some (eqN a b)|_=>none)
  |.bool a=>(match y with|.bool b=>some (a==b)|_=>none)
  |_=>none
def eqL:List CC→List CC→Option Bool
  |[],m=>(match m with|[]=>some true|_=>none)|a::l,m=>(match m with|[]=>none|b::m=>bo (eqC a b) fun e=>match e with|true=>eqL l m|false=>bo (eqL l m) fun _=>some false)
def eqW (x y:CW):Option Bool:=match x with|.c a=>(match y with|.c b=>eqC a b|_=>none)|.a l=>(match y with|.a m=>eqL l m|_=>none)
def findM:List (CW × CW)→CW→Nat→Option (Option (Nat × CW))
  |[],_,_=>some none
  |p::m,k,i=>bo (eqW k p.1) fun e=>match e with|true=>some (some (i,p.2))|false=>findM m k (i+1)
def setM:List (CW × CW)→Nat→CW→CW→List (CW × CW)
  |[],_,_,_=>[]|p::m,i,k,v=>match i with|0=>(k,v)::m|i+1=>p::setM m i k v
def mapKV (E:Ev) (t:Nat):Option (Nat × Nat):=match E.d t with|.map k e=>some (k,e)|_=>none
def lenM:List (CW × CW)→Nat→Nat
  |[],n=>n|_::l,n=>lenM l (n+1)
def allInt (k:IntKind):List CC→Bool
  |[]=>true|x::l=>match x with|.int k' _=>(match kq k k' with|true=>allInt k l|false=>false)|_=>false
def arrKey (E:Ev) (t:Nat) (l:List CC):Bool:=
  match E.d t with
  |.arr n e=>(match lenC l n with|true=>(match Nat.beq (E.sz e) 1 with|true=>(match E.d e with|.int k=>allInt k l|_=>false)|false=>false)|false=>false)
  |_=>false
def isCW:CW→Bool|.c _=>true|.a _=>false
def keyOK (E:Ev) (t:Nat) (k:CW):Bool:=
  match k with
  |.c x=>(match x with
   |.int k' _=>(match E.d t with|.int k=>kq k k'|_=>false)
   |.str _=>(match E.d t with|.str=>true|_=>false)
   |.bool _=>(match E.d t with|.bool=>true|_=>false)
   |_=>false)
  |.a l=>arrKey E t l
def zeroW (E:Ev) (t:Nat):Option CW:=
  match E.agg t with
  |true=>bt (lenC (E.z t) (E.sz t)) (match E.z t with|[]=>none|a::l=>some (.a (a::l)))
  |false=>(match E.z t with|[x]=>some (.c x)|_=>none)
def repC (z:List CC):Nat→List CC→List CC
  |0,acc=>acc|n+1,acc=>repC z n (z++acc)
def elemT (E:Ev) (t:Nat):Option Nat:=match E.d t with|.slice e=>some e|_=>none
def fillS (E:Ev) (T:Tm') (e:Nat):List (Nat × Operand)→List CC→Option (List CC)
  |[],l=>some l
  |p::ps,l=>bo (cellsT E e (evO T p.2)) fun m=>bo (placeC l (p.1*E.sz e) m) fun l'=>fillS E T e ps l'
def fillF (E:Ev) (T:Tm') (fs:List (Nat × Nat)):List (Nat × Operand)→List CC→Option (List CC)
  |[],l=>some l
  |p::ps,l=>bo (fieldOff fs p.1) fun q=>bo (cellsT E q.2 (evO T p.2)) fun m=>bo (placeC l q.1 m) fun l'=>fillF E T fs ps l'
def smallN (n:Nat):Bool:=Nat.ble n 1000000
def getH (s:HS) (k:Nat):Option CO:=s.H.get k
def cellsH (s:HS) (k:Nat):Option (List CC × Option (Nat × Nat)):=bo (getH s k) fun o=>match o with|.cells l g=>some (l,g)|_=>none
def mapH (s:HS) (k:Nat):Option (List (CW × CW)):=bo (getH s k) fun o=>match o with|.map es=>some es|_=>none
def cellsAt (s:HS) (k off n:Nat):Option (List CC):=bo (cellsH s k) fun p=>partC p.1 off n
def cutEnd (k off sz l h m:Nat):CC:=match Nat.beq m l with|true=>.sl k off (h - l) (.n (m - l))|false=>.sl k (off+l*sz) (h - l) (.n (m - l))
def optD (d:Nat) (x:Option Nat):Nat:=match x with|some n=>n|none=>d
def capMax (v:SlV):Nat:=match v.cap with|.n c=>c|_=>v.len
def cutOpen (sz:Nat) (v:SlV) (l h:Nat):Option CC:=
  bt (Nat.ble h v.len) (match l with
    |0=>bt (Nat.ble 1 v.len) (some (.sl v.k v.off h v.cap))
    |l+1=>bt (Nat.ble (l+2) v.len) (some (.sl v.k (v.off+(l+1)*sz) (h - (l+1)) .u)))
def cutPlain (sz:Nat) (v:SlV) (l h:Nat):Option CC:=
  bt (Nat.ble l h) (match v.cap with|.n c=>bt (Nat.ble h c) (some (cutEnd v.k v.off sz l h c))|_=>cutOpen sz v l h)
def cutS (sz:Nat) (v:SlV) (l:Nat) (h:Option Nat) (m:Option Nat):Option CC:=
  match m with
  |some m=>(match h with|none=>none|some h=>bt (Nat.ble l h) (bt (Nat.ble h m) (bt (Nat.ble m (capMax v)) (some (cutEnd v.k v.off sz l h m)))))
  |none=>cutPlain sz v l (optD v.len h)
def lenN:List Nat→Nat→Nat
  |[],n=>n|_::l,n=>lenN l (n+1)
def srcC (s:HS) (sz:Nat) (x:CC):Option (Nat × List CC):=
  match x with
  |.nils=>some (0,[])
  |.sl k off len _=>bo (cellsAt s k off (len*sz)) fun l=>some (len,l)
  |_=>none
def appGrow (s:HS) (sz e n:Nat) (l:List CC):Option (CV × HS):=bt (smallN n) (some (.c (.sl s.nx 0 n .g),s.new (.cells l (some (sz,e)))))
def appIn (s:HS) (sz:Nat) (v:SlV) (c n:Nat) (new:List CC):Option (CV × HS):=
  match n with
  |0=>some (.c (.sl v.k v.off v.len (.n c)),s)
  |n+1=>bo (cellsH s v.k) fun p=>bo (placeC p.1 (v.off+v.len*sz) new) fun l'=>some (.c (.sl v.k v.off (v.len+(n+1)) (.n c)),s.put v.k (.cells l' p.2))
def appOpen (s:HS) (sz e:Nat) (v:SlV) (n:Nat) (new:List CC):Option (CV × HS):=
  match n with
  |0=>some (.c (.sl v.k v.off v.len .g),s)
  |n+1=>bt (smallN (v.len+(n+1))) (bo (cellsH s v.k) fun p=>match p.2 with
   |none=>none
   |some g=>bt (Nat.beq g.1 sz) (bt (Nat.beq g.2 e) (bo (takeC p.1 (v.len*sz)) fun old=>
    some (.c (.sl s.nx 0 (v.len+(n+1)) .g),⟨(s.H.put v.k none).put s.nx (some (.cells (old++new) (some (sz,e)))),s.nx+1,s.wb,wrote s.wb v.k s.wr⟩))))
def appendQ (E:Ev) (e:Nat) (x:CC) (q:Nat × List CC) (s:HS):Option (CV × HS):=
  match x with
    |.nils=>(match q.1 with|0=>some (.c .nils,s)|n+1=>appGrow s (E.sz e) e (n+1) q.2)
    |.sl k off len cap=>(match cap with
     |.n c=>(match Nat.ble (len+q.1) c with
      |true=>appIn s (E.sz e) ⟨k,off,len,cap⟩ c q.1 q.2
      |false=>bt (smallN c) (bo (cellsAt s k off (len*E.sz e)) fun old=>appGrow s (E.sz e) e (len+q.1) (old++q.2)))
     |.g=>bt (Nat.beq off 0) (appOpen s (E.sz e) e ⟨k,off,len,cap⟩ q.1 q.2)
     |.u=>none)
    |_=>none
def appendC (E:Ev) (e:Nat) (x y:CC) (s:HS):Option (CV × HS):=
  bt (smallN (nthT E.TY e).bytes) (bt (Nat.ble 1 (E.sz e)) (bt (lenC (E.z e) (E.sz e)) (bo (srcC s (E.sz e) y) fun q=>appendQ E e x q s)))
def strC:List Nat→List CC
  |[]=>[]|b::l=>.int .u8 b::strC l
def isStrT (d:TyD):Bool:=match d with|.str=>true|_=>false
def appendS (E:Ev) (e:Nat) (x:CC) (l:List Nat) (s:HS):Option (CV × HS):=
  bt (smallN (nthT E.TY e).bytes) (bt (Nat.beq (E.sz e) 1) (bt (lenC (E.z e) (E.sz e)) (appendQ E e x (lenN l 0,strC l) s)))
def bytesOf:List CC→Option (List Nat)
  |[]=>some []|x::l=>match x with|.int k n=>(match k with|.u8=>bo (natI n) fun b=>bo (bytesOf l) fun m=>some (b::m)|_=>none)|_=>none
def ok1 (s:HS) (x:Option CC):Option (CV × HS):=bo x fun a=>some (.c a,s)
def okW (s:HS) (x:Option CW):Option (CV × HS):=bo x fun a=>some (ofW a,s)
def evPick (T:Tm') (c a b:Operand) (s:HS):Option (CV × HS):=bo (asB (evO T c)) fun t=>match t with|true=>some (evO T a,s)|false=>some (evO T b,s)
def eqCT (d:TyD) (a b:CW):Option Bool:=
  match a with
  |.c x=>(match b with
   |.c y=>(match d with
    |.int _=>(match x with|.int k n=>(match y with|.int k' m=>bt (kq k k') (some (n==m))|_=>none)|_=>none)
    |.bool=>(match x with|.bool n=>(match y with|.bool m=>some (n==m)|_=>none)|_=>none)
    |.str=>(match x with|.str n=>(match y with|.str m=>some (eqN n m)|_=>none)|_=>none)
    |_=>none)
   |_=>none)
  |_=>none
def eqF (E:Ev):List (Nat × Nat)→List CC→List CC→Option Bool
  |[],_,_=>some true
  |p::fs,l,m=>bo (readT E p.2 l p.1) fun a=>bo (readT E p.2 m p.1) fun b=>bo (eqCT (E.d p.2) a b) fun e=>match e with|true=>eqF E fs l m|false=>some false
def evBinA (E:Ev) (T:Tm') (op:BinOp) (t:Nat) (l:List CC) (y:Operand) (s:HS):Option (CV × HS):=
  bt (memB t E.eqs) (bo (asA (evO T y)) fun m=>match E.d t with|.struct fs=>bo (eqF E fs l m) fun e=>ok1 s (eqOp op e)|_=>none)
def evBin (E:Ev) (T:Tm') (op:BinOp) (t:Nat) (x y:Operand) (s:HS):Option (CV × HS):=
  match asA (evO T x) with
  |some l=>evBinA E T op t l y s
  |none=>bo (asC (evO T x)) fun a=>bo (asC (evO T y)) fun b=>ok1 s (binC E op t a b)
def evUn (T:Tm') (op:UnOp) (x:Operand) (s:HS):Option (CV × HS):=
  match op with|.not=>bo (asB (evO T x)) fun b=>some (.c (.bool (notB b)),s)|.neg=>bo (asI (evO T x)) fun p=>some (.c (fitC p.1 (0 - p.2)),s)|_=>none
def isU8 (d:TyD):Bool:=match d with|.int k=>(match k with|.u8=>true|_=>false)|_=>false
def evConv (E:Ev) (T:Tm') (a b:Nat) (x:Operand) (s:HS):Option (CV × HS):=
  match E.d b with
  |.int k=>(match E.d a with|.int _=>bo (asI (evO T x)) fun p=>some (.c (fitC k p.2),s)|_=>none)
  |.str=>(match E.d a with
   |.slice e=>bt (isU8 (E.d e)) (bo (asC (evO T x)) fun v=>match v with
    |.nils=>some (.c (.str []),s)
    |.sl k off len _=>bo (cellsAt s k off len) fun l=>bo (bytesOf l) fun m=>some (.c (.str m),s)
    |_=>none)
   |_=>none)
  |_=>none
def evAlloc (E:Ev) (t:Nat) (s:HS):Option (CV × HS):=match E.z t with|[]=>none|a::l=>some (.c (.ptr s.nx 0),s.new (.cells (a::l) (some (0,t))))
def evBox (E:Ev) (T:Tm') (t:Nat) (x:Operand) (s:HS):Option (CV × HS):=bo (cellsT E t (evO T x)) fun l=>some (.c (.ptr s.nx 0),s.new (.cells l none))
def evBuild (E:Ev) (T:Tm') (t:Nat) (ps:List (Nat × Operand)) (s:HS):Option (CV × HS):=
  match E.z t with
  |[]=>none
  |z::zs=>(match E.d t with
   |.struct fs=>bo (fillF E T fs ps (z::zs)) fun l=>some (.a l,s)
   |.arr _ e=>bt (Nat.ble 1 (E.sz e)) (bo (fillS E T e ps (z::zs)) fun l=>some (.a l,s))
   |_=>none)
def evBuildS (E:Ev) (T:Tm') (t n:Nat) (ps:List (Nat × Operand)) (s:HS):Option (CV × HS):=
  bo (elemT E t) fun e=>bt (lenC (E.z e) (E.sz e)) (bt (Nat.ble 1 (E.sz e)) (bt (Nat.ble (n*E.sz e) 1000000) (bo (fillS E T e ps (repC (E.z e) n [])) fun l=>some (.c (.sl s.nx 0 n (.n n)),s.new (.cells l none)))))
def evMake (E:Ev) (T:Tm') (t:Nat) (l c:Operand) (s:HS):Option (CV × HS):=
  bo (elemT E t) fun e=>bo (asN (evO T l)) fun l=>bo (asN (evO T c)) fun c=>
    bt (lenC (E.z e) (E.sz e)) (bt (Nat.ble 1 (E.sz e)) (bt (Nat.ble l c) (bt (smallN c) (bt (smallN (nthT E.TY e).bytes) (some (.c (.sl s.nx 0 l (.n c)),s.new (.cells (repC (E.z e) c []) none)))))))
def evLoad (E:Ev) (T:Tm') (t:Nat) (x:Operand) (s:HS):Option (CV × HS):=bo (asP (evO T x)) fun p=>bo (cellsH s p.1) fun q=>okW s (readT E t q.1 p.2)
def evStore (E:Ev) (T:Tm') (t:Nat) (x y:Operand) (s:HS):Option (CV × HS):=
  bo (asP (evO T x)) fun p=>bo (cellsT E t (evO T y)) fun m=>bo (cellsH s p.1) fun q=>bo (placeC q.1 p.2 m) fun l=>some (.t [],s.put p.1 (.cells l q.2))
def evNil (T:Tm') (x:Operand) (s:HS):Option (CV × HS):=
  match evO T x with|.c c=>(match c with|.ptr k o=>some (.c (.ptr k o),s)|.fn f=>some (.c (.fn f),s)|_=>none)|.clo f l=>some (.clo f l,s)|_=>none
def evFun (T:Tm') (fn:Fn) (first cap:List Operand) (s:HS):Option (CV × HS):=
  match fn with
  |.func f=>(match first with|[]=>bo (evCs T cap) fun l=>(match l with|[]=>some (.c (.fn f),s)|a::l=>some (.clo f (a::l),s))|_=>none)
  |_=>none
def evLook (E:Ev) (T:Tm') (t:Nat) (x k:Operand) (ok:Bool) (s:HS):Option (CV × HS):=
  bo (mapKV E t) fun q=>bo (asC (evO T x)) fun m=>bo (asW (evO T k)) fun kv=>bt (keyOK E q.1 kv) (bo (zeroW E q.2) fun z=>
    bo (match m with|.nilm=>some []|.mp k=>mapH s k|_=>none) fun es=>bo (findM es kv 0) fun r=>match ok with
      |true=>(match r with|some p=>some (.t [p.2,.c (.bool true)],s)|none=>some (.t [z,.c (.bool false)],s))
      |false=>(match r with|some p=>some (ofW p.2,s)|none=>some (ofW z,s)))
def evUpd (E:Ev) (T:Tm') (t:Nat) (x k y:Operand) (s:HS):Option (CV × HS):=
  bo (mapKV E t) fun q=>bo (asC (evO T x)) fun m=>bo (asW (evO T k)) fun kv=>bo (asW (evO T y)) fun v=>bt (keyOK E q.1 kv) (match m with
    |.mp j=>bo (mapH s j) fun es=>bo (findM es kv 0) fun r=>(match r with
     |some p=>bt (isCW kv) (some (.t [],s.put j (.map (setM es p.1 kv v))))
     |none=>some (.t [],s.put j (.map (es++[(kv,v)]))))
    |_=>none)
def evSlice (E:Ev) (T:Tm') (t:Nat) (x:Operand) (lo hi mx:Option Operand) (s:HS):Option (CV × HS):=
  bo (asS (evO T x)) fun v=>bo (optN T lo) fun l=>bo (optN T hi) fun h=>bo (optN T mx) fun m=>bo (elemT E t) fun e=>bt (Nat.ble 1 (E.sz e)) (ok1 s (cutS (E.sz e) v (optD 0 l) h m))
def evFieldA (E:Ev) (T:Tm') (t:Nat) (x:Operand) (f:Nat) (s:HS):Option (CV × HS):=
  bo (asP (evO T x)) fun p=>match E.d t with|.struct fs=>bo (fieldOff fs f) fun q=>bt (Nat.ble 1 (E.sz q.2)) (some (.c (.ptr p.1 (p.2+q.1)),s))|_=>none
def evField (E:Ev) (T:Tm') (t:Nat) (x:Operand) (f:Nat) (s:HS):Option (CV × HS):=
  bo (asA (evO T x)) fun l=>match E.d t with|.struct fs=>bo (fieldOff fs f) fun q=>okW s (readT E q.2 l q.1)|_=>none
def evIndexA (E:Ev) (T:Tm') (t:Nat) (x i:Operand) (s:HS):Option (CV × HS):=
  bo (asN (evO T i)) fun i=>match E.d t with
    |.slice e=>bo (asS (evO T x)) fun v=>bt (Nat.ble 1 (E.sz e)) (bt (Nat.ble (i+1) v.len) (some (.c (.ptr v.k (v.off+i*E.sz e)),s)))
    |.arr n e=>bo (asP (evO T x)) fun p=>bt (Nat.ble 1 (E.sz e)) (bt (Nat.ble (i+1) n) (some (.c (.ptr p.1 (p.2+i*E.sz e)),s)))
    |_=>none
def evIndex (E:Ev) (T:Tm') (t:Nat) (x i:Operand) (s:HS):Option (CV × HS):=
  bo (asN (evO T i)) fun i=>match E.d t with
    |.arr n e=>bo (asA (evO T x)) fun l=>bt (Nat.ble 1 (E.sz e)) (bt (Nat.ble (i+1) n) (okW s (readT E e l (i*E.sz e))))
    |.str=>bo (asC (evO T x)) fun c=>(match c with|.str l=>bo (l[i]?) fun b=>some (.c (.int .u8 b),s)|_=>none)
    |_=>none
def evExtract (T:Tm') (x:Operand) (i:Nat) (s:HS):Option (CV × HS):=bo (asT (evO T x)) fun l=>okW s (l[i]?)
def okI (s:HS) (n:Nat):Option (CV × HS):=bt (Nat.ble n 9223372036854775807) (some (.c (.int .i64 n),s))
def evLen (E:Ev) (t:Nat) (v:CC) (s:HS):Option (CV × HS):=
  match E.d t with
  |.slice _=>(match v with|.sl _ _ n _=>okI s n|.nils=>okI s 0|_=>none)
  |.str=>(match v with|.str l=>okI s (lenN l 0)|_=>none)
  |.map _ _=>(match v with|.nilm=>okI s 0|.mp k=>bo (mapH s k) fun es=>okI s (lenM es 0)|_=>none)
  |_=>none
def evCopy (E:Ev) (t:Nat) (v:SlV) (y:CC) (s:HS):Option (CV × HS):=
  bo (elemT E t) fun e=>bt (Nat.ble 1 (E.sz e)) (bo (srcC s (E.sz e) y) fun q=>bo (cellsH s v.k) fun p=>bo (takeC q.2 (minN q.1 v.len*E.sz e)) fun m=>bo (placeC p.1 v.off m) fun l=>
    okI (s.put v.k (.cells l p.2)) (minN q.1 v.len))
def otherT (t:Nat) (tys:List Nat):Bool:=match tys with|[]=>false|u::l=>(match l with|[]=>Nat.beq t u|_::_=>false)
def evClear (E:Ev) (t:Nat) (v:CC) (s:HS):Option (CV × HS):=
  bo (elemT E t) fun e=>match v with
    |.nils=>some (.t [],s)
    |.sl k off len _=>(match len with
     |0=>some (.t [],s)
     |n+1=>bt (Nat.ble 1 (E.sz e)) (bt (lenC (E.z e) (E.sz e)) (bo (cellsH s k) fun p=>bo (placeC p.1 off (repC (E.z e) (n+1) [])) fun l=>some (.t [],s.put k (.cells l p.2)))))
    |_=>none
def evSData (v:CC) (s:HS):Option (CV × HS):=
  match v with
  |.nils=>some (.c .nilp,s)
  |.sl k off len _=>bt (Nat.ble 1 len) (some (.c (.ptr k off),s))
  |_=>none
def evUStr (E:Ev) (t:Nat) (v:CC) (n:Nat) (s:HS):Option (CV × HS):=
  match n with
  |0=>(match v with|.nilp=>some (.c (.str []),s)|.ptr _ _=>some (.c (.str []),s)|_=>none)
  |n+1=>(match v with
   |.ptr k off=>bt (Nat.beq off 0) (bo (cellsH s k) fun p=>match p.2 with
    |none=>none
    |some g=>bt (pairB (t,g.2) E.bys) (bt (smallN n) (bo (partC p.1 0 (n+1)) fun l=>bo (bytesOf l) fun m=>some (.c (.str m),⟨s.H.put k none,s.nx,s.wb,wrote s.wb k s.wr⟩))))
   |_=>none)
def evBuiltin (E:Ev) (T:Tm') (b:Builtin) (args:List Operand) (tys:List Nat) (s:HS):Option (CV × HS):=
  match args with
  |[]=>none
  |x::args=>(match args with
   |[]=>(match b with|.len=>(match tys with|[]=>none|t::_=>bo (asC (evO T x)) fun v=>evLen E t v s)|.clear=>(match tys with|[]=>none|t::_=>bo (asC (evO T x)) fun v=>evClear E t v s)|.unsafeSliceData=>bo (asC (evO T x)) fun v=>evSData v s|_=>none)
   |y::args=>(match args with
    |_::_=>none
    |[]=>(match b with
     |.unsafeString=>(match tys with|[]=>none|t::r=>match r with|[]=>none|_::r'=>match r' with|_::_=>none|[]=>bo (asI (evO T y)) fun n=>bt (kq n.1 .i64) (bo (natI n.2) fun n=>bo (asC (evO T x)) fun v=>evUStr E t v n s))
     |.append=>(match tys with|[]=>none|t::tys=>bo (elemT E t) fun e=>bo (asC (evO T x)) fun a=>bo (asC (evO T y)) fun b=>(match b with
      |.str l=>(match tys with|[]=>none|u::r=>(match r with|[]=>bt (isStrT (E.d u)) (appendS E e a l s)|_::_=>none))
      |b=>bt (otherT t tys) (appendC E e a b s)))
     |.copy=>(match tys with|[]=>none|t::tys=>bt (otherT t tys) (bo (asS (evO T x)) fun v=>bo (asC (evO T y)) fun b=>evCopy E t v b s))
     |.max=>bo (asI (evO T x)) fun p=>bo (asI (evO T y)) fun q=>bt (kq p.1 q.1) (some (.c (.int p.1 (match decide (p.2≤q.2) with|true=>q.2|false=>p.2)),s))
     |.min=>bo (asI (evO T x)) fun p=>bo (asI (evO T y)) fun q=>bt (kq p.1 q.1) (some (.c (.int p.1 (match decide (p.2≤q.2) with|true=>p.2|false=>q.2)),s))
     |_=>none)))
def evCaps:List CC→List CV
  |[]=>[]|a::l=>.c a::evCaps l
def appV:List CV→List CV→List CV
  |[],m=>m|a::l,m=>a::appV l m
def evCall (E:Ev) (T:Tm') (c:Call) (s:HS):Option (CV × HS):=
  match c.callee with
  |.value x=>(match evO T x with
   |.c a=>(match a with|.fn f=>E.call f (evOs T c.args.toList) s|_=>none)
   |.clo f l=>E.call f (appV (evOs T c.args.toList) (evCaps l)) s
   |_=>none)
  |.builtin b=>evBuiltin E T b c.args.toList c.argTypes.toList s
  |_=>none
def evOpR (o:Op):Ev→Tm'→HS→Option (CV × HS):=
  Op.rec (motive:=fun _=>Ev→Tm'→HS→Option (CV × HS))
    (fun x=>fun _ T s=>some (evO T x,s))
    (fun x=>fun _ T s=>some (evO T x,s))
    (fun c a b=>fun _ T s=>evPick T c a b s)
    (fun t=>fun E _ s=>evAlloc E t s)
    (fun t x=>fun E T s=>evBox E T t x s)
    (fun t ps=>fun E T s=>evBuild E T t ps.toList s)
    (fun t n ps=>fun E T s=>evBuildS E T t n ps.toList s)
    (fun t x k y=>fun E T s=>evUpd E T t x k y s)
    (fun t x=>fun E T s=>evLoad E T t x s)
    (fun t x y=>fun E T s=>evStore E T t x y s)
    (fun _=>fun _ _ _=>none)
    (fun _=>fun _ _ _=>none)
    (fun x=>fun _ T s=>evNil T x s)
    (fun op t x y _=>fun E T s=>evBin E T op t x y s)
    (fun op _ x=>fun _ T s=>evUn T op x s)
    (fun a b x=>fun E T s=>evConv E T a b x s)
    (fun _ _=>fun _ _ _=>none)
    (fun _ _=>fun _ _ _=>none)
    (fun fn first cap=>fun _ T s=>evFun T fn first.toList cap.toList s)
    (fun t r=>fun E T s=>bo (mapKV E t) fun _=>bo (optN T r) fun _=>some (.c (.mp s.nx),s.new (.map [])))
    (fun _ _=>fun _ _ _=>none)
    (fun t l c=>fun E T s=>evMake E T t l c s)
    (fun t x lo hi mx=>fun E T s=>evSlice E T t x lo hi mx s)
    (fun t x f=>fun E T s=>evFieldA E T t x f s)
    (fun t x f=>fun E T s=>evField E T t x f s)
    (fun t x i=>fun E T s=>evIndexA E T t x i s)
    (fun t x i=>fun E T s=>evIndex E T t x i s)
    (fun t x k ok=>fun E T s=>evLook E T t x k ok s)
    (fun t x k y=>fun E T s=>evUpd E T t x k y s)
    (fun _ _ _=>fun _ _ _=>none)
    (fun _ _ _ _=>fun _ _ _=>none)
    (fun _ _=>fun _ _ _=>none)
    (fun _ _=>fun _ _ _=>none)
    (fun _=>fun _ _ _=>none)
    (fun _ _ _ _=>fun _ _ _=>none)
    (fun x i=>fun _ T s=>evExtract T x i s)
    (fun c=>fun E T s=>evCall E T c s)
    (fun _=>fun _ _ _=>none)
    (fun _=>fun _ _ _=>none)
    (fun _=>fun _ _ _=>none)
    (fun _ _=>fun _ _ _=>none)
    (fun _ _ _=>fun _ _ _=>none)
    (fun _ _=>fun _ _ _=>none)
    o
def evOp (E:Ev) (o:Op) (T:Tm') (s:HS):Option (CV × HS):=evOpR o E T s
def gdV (ops:Array Oper) (g:Option (Nat × Bool)) (T:Tm'):Option Bool:=
  match g with
  |none=>some true
  |some p=>bo (dstAt ops p.1) fun d=>match getV T d with
   |.c x=>(match x with|.bool b=>some (match p.2 with|true=>b|false=>notB b)|_=>none)
   |.t l=>(match l with|[]=>some false|_=>none)
   |_=>none
def evOps (E:Ev) (A:Array Oper):List Oper→Tm'→HS→Option (Tm' × HS)
  |[],T,s=>some (T,s)
  |o::rest,T,s=>bo (gdV A o.guard T) fun g=>match g with
   |true=>bo (evOp E o.op T s) fun p=>bo (dstV o.dst T p.1) fun T'=>evOps E A rest T' p.2
   |false=>bo (dstV o.dst T (.t [])) fun T'=>evOps E A rest T' s
structure Hint where
  ws:List Nat
  lo:Nat
  hi:Nat
def Hint.idle (h:Hint):Bool:=match h.ws with|[]=>Nat.ble h.hi h.lo|_=>false
def Hint.has (h:Hint) (k:Nat):Bool:=match memB k h.ws with|true=>true|false=>Nat.ble h.lo k&&Nat.ble (k+1) h.hi
def hasH (k:Nat):List Hint→Bool
  |[]=>false|h::l=>match h.has k with|true=>true|false=>hasH k l
def stepH (s:HS) (p:HS) (h:Hint):HS:=match h.idle with|true=>s|false=>⟨p.H,p.nx,s.wb,wrotes s.wb p.wr s.wr⟩
def evPlain (E:Ev) (A:Array Oper):List Oper→List Hint→Tm'→HS→Option (Tm' × HS × List Hint)
  |[],acc,T,s=>some (T,s,acc.reverse)
  |o::rest,acc,T,s=>bo (gdV A o.guard T) fun g=>match g with
   |true=>bo (evOp E o.op T ⟨s.H,s.nx,s.nx,[]⟩) fun p=>bt (Nat.ble s.nx p.2.nx) (bo (dstV o.dst T p.1) fun T'=>evPlain E A rest (⟨p.2.wr,s.nx,p.2.nx⟩::acc) T' (stepH s p.2 ⟨p.2.wr,s.nx,p.2.nx⟩))
   |false=>bo (dstV o.dst T (.t [])) fun T'=>evPlain E A rest (⟨[],s.nx,s.nx⟩::acc) T' s
def bitB (m j:Nat):Bool:=Nat.beq (Nat.land (Nat.shiftRight m j) 1) 1
def orE (C:List Nat):List Edge→Nat→Nat
  |[],acc=>acc
  |e::l,acc=>match bindB e with|true=>orE C l (Nat.lor (Nat.lor acc (Nat.shiftLeft 1 e.on)) (C.getD e.on 0))|false=>orE C l acc
def masks:List Oper→List Nat→List Nat
  |[],C=>C|o::l,C=>masks l (C++[orE C o.after.toList 0])
def ordB (C:List Nat) (i j:Nat):Bool:=match Nat.beq j i with|true=>true|false=>match bitB (C.getD i 0) j with|true=>true|false=>bitB (C.getD j 0) i
def others (C:List Nat) (i:Nat):List Hint→Nat→List Hint
  |[],_=>[]
  |h::l,j=>match h.idle with|true=>others C i l (j+1)|false=>match ordB C i j with|true=>others C i l (j+1)|false=>h::others C i l (j+1)
def rangeN:Nat→Nat→List Nat
  |_,0=>[]|lo,n+1=>lo::rangeN (lo+1) n
def keysH:List Hint→List Nat
  |[]=>[]|h::l=>h.ws++rangeN h.lo (h.hi - h.lo)++keysH l
def Hint.keys (h:Hint):List Nat:=h.ws++rangeN h.lo (h.hi - h.lo)
def hideH:List Nat→Tr CO→Tr CO
  |[],H=>H|k::l,H=>hideH l (H.put k none)
def copyH (G:Tr CO):List Nat→Tr CO→Tr CO
  |[],H=>H|k::l,H=>copyH G l (H.put k (G.get k))
def disL:List Nat→List Nat→Bool
  |[],_=>true|a::l,m=>match memB a m with|true=>false|false=>disL l m
def allMem:List Nat→List Nat→Bool
  |[],_=>true|a::l,m=>match memB a m with|true=>allMem l m|false=>false
def allIdle:List Hint→Bool
  |[]=>true|h::l=>match h.idle with|true=>allIdle l|false=>false
def clearN (C:List Nat) (hs:List Hint):Nat→Bool
  |0=>true|n+1=>match others C n hs 0 with|[]=>clearN C hs n|_::_=>false
def clearB (C:List Nat) (hs:List Hint) (n:Nat):Bool:=match allIdle hs with|true=>true|false=>clearN C hs n
def evDraw (E:Ev) (A:Array Oper) (C:List Nat) (hs:List Hint):List Oper→Nat→Tm'→HS→Option (Tm' × HS)
  |[],_,T,s=>some (T,s)
  |o::rest,i,T,s=>bo (hs[i]?) fun h=>bt (Nat.beq h.lo s.nx) (bt (Nat.ble h.lo h.hi) (bt (disL h.keys (keysH (others C i hs 0))) (bo (gdV A o.guard T) fun g=>match g with
   |true=>bo (evOp E o.op T ⟨hideH (keysH (others C i hs 0)) s.H,s.nx,s.nx,[]⟩) fun p=>bt (Nat.beq h.hi p.2.nx) (bt (allMem p.2.wr h.ws) (bo (dstV o.dst T p.1) fun T'=>
      evDraw E A C hs rest (i+1) T' ⟨copyH p.2.H h.keys s.H,p.2.nx,s.wb,wrotes s.wb p.2.wr s.wr⟩))
   |false=>bt h.idle (bo (dstV o.dst T (.t [])) fun T'=>evDraw E A C hs rest (i+1) T' s))))
def dstsL:List Oper→Nat→List (Nat × Nat)
  |[],_=>[]|o::l,i=>match o.dst with|some d=>(d,i)::dstsL l (i+1)|none=>dstsL l (i+1)
def backE (i:Nat):List Edge→Bool
  |[]=>true|e::l=>match bindB e with|true=>(match Nat.ble (e.on+1) i with|true=>backE i l|false=>false)|false=>backE i l
def lookT (C:List Nat) (i t:Nat):List (Nat × Nat)→Bool
  |[]=>true|p::l=>match Nat.beq p.1 t with|false=>lookT C i t l|true=>match ordB C i p.2 with|true=>lookT C i t l|false=>false
def lookL (C:List Nat) (i:Nat) (D:List (Nat × Nat)):List Nat→Bool
  |[]=>true|t::l=>match lookT C i t D with|true=>lookL C i D l|false=>false
def noDst (d:Nat):List (Nat × Nat)→Bool
  |[]=>true|p::l=>match Nat.beq p.1 d with|true=>false|false=>noDst d l
def difDst:List (Nat × Nat)→Bool
  |[]=>true|p::l=>match noDst p.1 l with|true=>difDst l|false=>false
def edgesL (A:Array Oper) (C:List Nat) (D:List (Nat × Nat)):List Oper→Nat→Bool
  |[],_=>true|o::l,i=>match backE i o.after.toList with|false=>false|true=>match lookL C i D (o.looksAt A) with|false=>false|true=>edgesL A C D l (i+1)
def edgesB (A:Array Oper):Bool:=match difDst (dstsL A.toList 0) with|false=>false|true=>edgesL A (masks A.toList []) (dstsL A.toList 0) A.toList 0
def evAny (E:Ev) (A:Array Oper) (T:Tm') (s:HS):Option (Tm' × HS):=
  bt (edgesB A) (bo (evPlain E A A.toList [] T s) fun r=>match clearB (masks A.toList []) r.2.2 A.size with
    |true=>some (r.1,r.2.1)
    |false=>evDraw E A (masks A.toList []) r.2.2 A.toList 0 T s)
def evRegion (E:Ev) (A:Array Oper) (d:Bool) (T:Tm') (s:HS):Option (Tm' × HS):=
  match d with
  |false=>evOps E A A.toList T s
  |true=>evAny E A T s
structure Out where
  e:EX
  T:Tm'
  s:HS
def evLoop (body:Tm'→HS→Option Out):Nat→Tm'→HS→Option Out
  |0,_,_=>none
  |n+1,T,s=>bo (body T s) fun r=>match r.e with|.normal=>evLoop body n r.T r.s|.exit i=>some ⟨.exit i,r.T,r.s⟩|.ret=>some ⟨.ret,r.T,r.s⟩
def seqN (r:Out) (k:Tm'→HS→Option Out):Option Out:=EX.rec (motive:=fun _=>Option Out) (k r.T r.s) (fun i=>some ⟨.exit i,r.T,r.s⟩) (some ⟨.ret,r.T,r.s⟩) r.e
def blkN (id:Nat) (r:Out):Option Out:=EX.rec (motive:=fun _=>Option Out) (some ⟨.normal,r.T,r.s⟩) (fun j=>Bool.rec (motive:=fun _=>Option Out) (some ⟨.exit j,r.T,r.s⟩) (some ⟨.normal,r.T,r.s⟩) (Nat.beq j id)) (some ⟨.ret,r.T,r.s⟩) r.e
def evCR (c:Code):Ev→Nat→Tm'→HS→Option Out:=
  Code.rec (motive:=fun _=>Ev→Nat→Tm'→HS→Option Out)
    (fun _ _ T s=>some ⟨.normal,T,s⟩)
    (fun _ ops d E _ T s=>bo (evRegion E ops d T s) fun p=>some ⟨.normal,p.1,p.2⟩)
    (fun _ _ a b E n T s=>bo (a E n T s) fun r=>seqN r (b E n))
    (fun c _ _ a b E n T s=>bo (asB (evO T c)) fun t=>Bool.rec (motive:=fun _=>Option Out) (b E n T s) (a E n T s) t)
    (fun id _ b E n T s=>bo (b E n T s) fun r=>blkN id r)
    (fun _ b E n T s=>evLoop (b E n) n T s)
    (fun _ _ _ _ _ _ _ _ _ _=>none)
    (fun id _ _ T s=>some ⟨.exit id,T,s⟩)
    (fun _ b E n T s=>b E n T s)
    (fun _ _ _ _ _=>none)
    (fun _ _ _ _ _=>none)
    (fun _ _ T s=>some ⟨.ret,T,s⟩)
    (fun _ _ _ _ _=>none)
    c
def evC (E:Ev) (rounds:Nat) (c:Code) (T:Tm') (s:HS):Option Out:=evCR c E rounds T s
def resV (E:Ev) (T:Tm') (s:HS):List ResultVar→Option (List CW)
  |[]=>some []
  |r::l=>match r with
   |.tmp t=>bo (asW (getV T t)) fun w=>bo (resV E T s l) fun m=>some (w::m)
   |.cell t ty=>bo (asP (getV T t)) fun p=>bo (cellsH s p.1) fun q=>bo (readT E ty q.1 p.2) fun w=>bo (resV E T s l) fun m=>some (w::m)
def retV (l:List CW):CV:=match l with|[]=>.t []|w::l=>match l with|[]=>ofW w|_=>.t (w::l)
def argsT:List CV→Nat→Tr CV→Tr CV
  |[],_,t=>t|a::l,i,t=>argsT l (i+1) (t.put i (some a))
def undefT:Nat→Nat→Tr CV→Tr CV
  |0,_,t=>t|n+1,i,t=>undefT n (i+1) (t.put i (some (.t [])))
def entryT (args:List CV) (n:Nat):Tm':=⟨n,undefT (n - args.length) args.length (argsT args 0 .lf)⟩
structure Kn where
  eqs:List Nat
  bys:List (Nat × Nat)
  know:Cal
def evF (P:Program) (TY:List TyE) (TZ:Zs) (K:Kn) (rounds:Nat):Nat→Cal
  |0,_,_,_=>none
  |n+1,f,args,s=>match K.know f args s with
   |some r=>some r
   |none=>bo (P.funcs[f]?) fun fn=>bo fn.body fun c=>bt (Nat.ble args.length fn.ntmps)
    (bo (evC ⟨TY,TZ,evF P TY TZ K rounds n,K.eqs,K.bys⟩ rounds c (entryT args fn.ntmps) s) fun r=>match r.e with
      |.exit _=>none
      |_=>bo (resV ⟨TY,TZ,evF P TY TZ K rounds n,K.eqs,K.bys⟩ r.T r.s fn.results.toList) fun l=>some (retV l,r.s))
end
end Go.CM
end
section
namespace Go.CM
open Go Go.AM
theorem bo_eq {α β:Type} {x:Option α} {f:α→Option β} {y:β} (h:bo x f=some y):∃a,x=some a∧f a=some y:=by
  cases x with
  |none=>cases h
  |some a=>exact ⟨a,rfl,h⟩
theorem bt_eq {β:Type} {b:Bool} {x:Option β} {y:β} (h:bt b x=some y):b=true∧x=some y:=by
  cases b with
  |false=>cases h
  |true=>exact ⟨rfl,h⟩
namespace Tr
variable {α:Type}
theorem get_zero (l r:Tr α) (x:Option α):(nd l x r).get 0=x:=rfl
theorem get_succ (l r:Tr α) (x:Option α) (n:Nat):(nd l x r).get (n+1)=if n % 2=0 then l.get (n / 2) else r.get (n / 2):=by
  show Nat.rec (motive:=fun _=>Option α) (l.get (n / 2)) (fun _ _=>r.get (n / 2)) (n % 2)=_
  cases h:n % 2 with
  |zero=>rfl
  |succ m=>rfl
theorem put_lf (n:Nat) (v:Option α):(lf:Tr α).put n v=Tr.one (n+1) n v:=rfl
theorem put_zero (l r:Tr α) (x v:Option α):(nd l x r).put 0 v=nd l v r:=rfl
theorem put_succ (l r:Tr α) (x v:Option α) (n:Nat):(nd l x r).put (n+1) v=if n % 2=0 then nd (l.put (n / 2) v) x r else nd l x (r.put (n / 2) v):=by
  show Nat.rec (motive:=fun _=>Tr α) (nd (l.put (n / 2) v) x r) (fun _ _=>nd l x (r.put (n / 2) v)) (n % 2)=_
  cases h:n % 2 with
  |zero=>rfl
  |succ m=>rfl
theorem one_get:∀(f n:Nat) (v:Option α) (j:Nat),n<f→(Tr.one f n v).get j=if j=n then v else none
  |0,n,v,j,h=>absurd h (Nat.not_lt_zero _)
  |f+1,0,v,j,h=>by
   show (nd lf v lf).get j=_
   cases j with
   |zero=>rfl
   |succ j=>rw [get_succ,if_neg (Nat.succ_ne_zero j)];split<;>rfl
  |f+1,n+1,v,j,h=>by
   have e:Tr.one (f+1) (n+1) v=if n % 2=0 then nd (Tr.one f (n / 2) v) none lf else nd lf none (Tr.one f (n / 2) v):=by
     show (match n % 2 with|0=>nd (Tr.one f (n / 2) v) none lf|_=>nd lf none (Tr.one f (n / 2) v))=_
     cases n % 2 with
     |zero=>rfl
     |succ m=>rfl
   rw [e]
   have ih:=fun j=>one_get f (n / 2) v j (by omega)
   by_cases h2:n % 2=0
   · rw [if_pos h2]
     cases j with
     |zero=>rw [get_zero,if_neg (by omega)]
     |succ j=>
      rw [get_succ,ih]
      by_cases h3:j % 2=0
      · rw [if_pos h3]
        by_cases h4:j / 2=n / 2
        · rw [if_pos h4,if_pos (by omega)]
        · rw [if_neg h4,if_neg (by omega)]
      · rw [if_neg h3,if_neg (by omega)];rfl
   · rw [if_neg h2]
     cases j with
     |zero=>rw [get_zero,if_neg (by omega)]
     |succ j=>
      rw [get_succ,ih]
      by_cases h3:j % 2=0
      · rw [if_pos h3,if_neg (by omega)];rfl
      · rw [if_neg h3]
        by_cases h4:j / 2=n / 2
        · rw [if_pos h4,if_pos (by omega)]
        · rw [if_neg h4,if_neg (by omega)]
theorem get_put:∀(t:Tr α) (n:Nat) (v:Option α) (j:Nat),(t.put n v).get j=if j=n then v else t.get j
  |lf,n,v,j=>by rw [put_lf,one_get _ _ _ _ (Nat.lt_succ_self n)];rfl
  |nd l x r,0,v,j=>by
   rw [put_zero]
   cases j with
   |zero=>rfl
   |succ j=>rw [get_succ,get_succ,if_neg (Nat.succ_ne_zero j)]
  |nd l x r,n+1,v,j=>by
   rw [put_succ]
   have il:=fun j=>get_put l (n / 2) v j
   have ir:=fun j=>get_put r (n / 2) v j
   by_cases h2:n % 2=0
   · rw [if_pos h2]
     cases j with
     |zero=>rw [get_zero,get_zero,if_neg (by omega)]
     |succ j=>
      rw [get_succ,get_succ,il]
      by_cases h3:j % 2=0
      · rw [if_pos h3,if_pos h3]
        by_cases h4:j / 2=n / 2
        · rw [if_pos h4,if_pos (by omega)]
        · rw [if_neg h4,if_neg (by omega)]
      · rw [if_neg h3,if_neg h3,if_neg (by omega)]
   · rw [if_neg h2]
     cases j with
     |zero=>rw [get_zero,get_zero,if_neg (by omega)]
     |succ j=>
      rw [get_succ,get_succ,ir]
      by_cases h3:j % 2=0
      · rw [if_pos h3,if_pos h3,if_neg (by omega)]
      · rw [if_neg h3,if_neg h3]
        by_cases h4:j / 2=n / 2
        · rw [if_pos h4,if_pos (by omega)]
        · rw [if_neg h4,if_neg (by omega)]
end Tr
theorem memB_iff {n:Nat}:∀{l:List Nat},memB n l=true↔n∈l
  |[]=>by simp [memB]
  |m::l=>by
   simp only [memB,List.mem_cons]
   cases h:Nat.beq n m with
   |true=>simp [beq_iff'.1 h]
   |false=>simp only [memB_iff (l:=l)];exact ⟨.inr,fun h'=>h'.resolve_left (beq_false h)⟩
theorem mem_wrote {wb k j:Nat} {wr:List Nat}:j∈wrote wb k wr↔j∈wr∨(j=k∧k<wb):=by
  unfold wrote
  cases h:Nat.ble wb k with
  |true=>rw [Nat.ble_eq] at h;exact ⟨.inl,fun h'=>h'.resolve_right fun h2=>by omega⟩
  |false=>
   have hlt:k<wb:=Nat.lt_of_not_le fun h'=>by rw [←Nat.ble_eq] at h';rw [h'] at h;cases h
   cases hm:memB k wr with
   |true=>exact ⟨.inl,fun h'=>h'.elim id fun h2=>by rw [h2.1];exact memB_iff.1 hm⟩
   |false=>simp only [List.mem_cons];exact ⟨fun h'=>h'.elim (fun e=>.inr ⟨e,hlt⟩) .inl,fun h'=>h'.elim .inr fun e=>.inl e.1⟩
theorem mem_wrotes {wb j:Nat}:∀{l wr:List Nat},j∈wrotes wb l wr↔j∈wr∨(j∈l∧j<wb)
  |[],wr=>by simp [wrotes]
  |k::l,wr=>by
   simp only [wrotes,mem_wrotes (l:=l),mem_wrote,List.mem_cons]
   constructor
   · rintro ((h|⟨rfl,h⟩)|⟨h1,h2⟩)
     · exact .inl h
     · exact .inr ⟨.inl rfl,h⟩
     · exact .inr ⟨.inr h1,h2⟩
   · rintro (h|⟨rfl|h1,h2⟩)
     · exact .inl (.inl h)
     · exact .inl (.inr ⟨rfl,h2⟩)
     · exact .inr ⟨h1,h2⟩
abbrev Rn:=Nat→Option (Nat × Nat)
def bytesV (l:List Nat):ByteArray:=⟨(l.map UInt8.ofNat).toArray⟩
def CapH (c x:Nat):Cp→Prop
  |.n n=>x=n|.g=>x=c|.u=>True
def RpC (ρ:Rn):CC→Value→Prop
  |.int k n,v=>v= .int k n∧inK k n
  |.bool b,v=>v= .bool b
  |.str s,v=>v= .string (bytesV s)∧∀x∈s,x<256
  |.ptr k off,v=>∃b c,ρ k=some (b,c)∧v= .pointer (some ⟨b,off,none⟩)
  |.nilp,v=>v= .pointer none
  |.sl k off len cap,v=>∃b c x,ρ k=some (b,c)∧len≤x∧v= .slice (some ⟨b,off,none⟩) len x∧CapH c x cap
  |.nils,v=>v= .slice none 0 0
  |.mp k,v=>∃b c,ρ k=some (b,c)∧v= .map (some b)
  |.nilm,v=>v= .map none
  |.fn f,v=>v= .func (.func f) #[] #[]
  |.nilf,v=>v= .nilFunc
  |.nili,v=>v= .nilIface
def RpL (ρ:Rn):List CC→List Value→Prop
  |[],[]=>True|a::l,v::m=>RpC ρ a v∧RpL ρ l m|_,_=>False
def RpW (ρ:Rn):CW→Value→Prop
  |.c x,v=>RpC ρ x v|.a l,v=>∃cs,v= .agg cs∧RpL ρ l cs.toList
def RpWs (ρ:Rn):List CW→List Value→Prop
  |[],[]=>True|a::l,v::m=>RpW ρ a v∧RpWs ρ l m|_,_=>False
def RpV (ρ:Rn):CV→Value→Prop
  |.c x,v=>RpC ρ x v
  |.a l,v=>∃cs,v= .agg cs∧RpL ρ l cs.toList
  |.t l,v=>∃cs,v= .tuple cs∧RpWs ρ l cs.toList
  |.clo f l,v=>∃cs,v= .func (.func f) #[] cs∧RpL ρ l cs.toList
  |.non,_=>True
def RpVs (ρ:Rn):List CV→List Value→Prop
  |[],[]=>True|a::l,v::m=>RpV ρ a v∧RpVs ρ l m|_,_=>False
def Ext (ρ ρ':Rn):Prop:=∀k x,ρ k=some x→ρ' k=some x
theorem Ext.refl (ρ:Rn):Ext ρ ρ:=fun _ _ h=>h
theorem Ext.trans {ρ ρ' ρ'':Rn} (h:Ext ρ ρ') (h':Ext ρ' ρ''):Ext ρ ρ'':=fun k x e=>h' k x (h k x e)
section
variable {ρ ρ':Rn}
theorem RpC.ext (h:Ext ρ ρ') {a:CC} {v:Value} (hv:RpC ρ a v):RpC ρ' a v:=by
  cases a with
  |ptr k off=>obtain ⟨b,c,h1,h2⟩:=hv;exact ⟨b,c,h _ _ h1,h2⟩
  |sl k off len cap=>obtain ⟨b,c,x,h1,h2⟩:=hv;exact ⟨b,c,x,h _ _ h1,h2⟩
  |mp k=>obtain ⟨b,c,h1,h2⟩:=hv;exact ⟨b,c,h _ _ h1,h2⟩
  |_=>exact hv
theorem RpL.ext (h:Ext ρ ρ'):∀{l:List CC} {m:List Value},RpL ρ l m→RpL ρ' l m
  |[],[],_=>trivial|_::_,_::_,hv=>⟨hv.1.ext h,RpL.ext h hv.2⟩|[],_::_,hv=>hv.elim|_::_,[],hv=>hv.elim
theorem RpW.ext (h:Ext ρ ρ') {a:CW} {v:Value} (hv:RpW ρ a v):RpW ρ' a v:=by
  cases a with
  |c x=>exact RpC.ext h hv
  |a l=>obtain ⟨cs,h1,h2⟩:=hv;exact ⟨cs,h1,h2.ext h⟩
theorem RpWs.ext (h:Ext ρ ρ'):∀{l:List CW} {m:List Value},RpWs ρ l m→RpWs ρ' l m
  |[],[],_=>trivial|_::_,_::_,hv=>⟨hv.1.ext h,RpWs.ext h hv.2⟩|[],_::_,hv=>hv.elim|_::_,[],hv=>hv.elim
theorem RpV.ext (h:Ext ρ ρ') {a:CV} {v:Value} (hv:RpV ρ a v):RpV ρ' a v:=by
  cases a with
  |c x=>exact RpC.ext h hv
  |a l=>obtain ⟨cs,h1,h2⟩:=hv;exact ⟨cs,h1,h2.ext h⟩
  |t l=>obtain ⟨cs,h1,h2⟩:=hv;exact ⟨cs,h1,h2.ext h⟩
  |clo f l=>obtain ⟨cs,h1,h2⟩:=hv;exact ⟨cs,h1,h2.ext h⟩
  |non=>trivial
theorem RpC.isCell {a:CC} {v:Value} (hv:RpC ρ a v):isCell v:=by
  cases a with
  |int k n=>obtain ⟨rfl,_⟩:=hv;trivial
  |str s=>obtain ⟨rfl,_⟩:=hv;trivial
  |ptr k off=>obtain ⟨b,c,_,rfl⟩:=hv;trivial
  |sl k off len cap=>obtain ⟨b,c,x,_,_,rfl,_⟩:=hv;trivial
  |mp k=>obtain ⟨b,c,_,rfl⟩:=hv;trivial
  |_=>(have hv:v=_:=hv;subst hv;trivial)
theorem cells_one {v:Value} (h:isCell v):v.cells= #[v]:=by cases v<;>first|rfl|exact h.elim
theorem RpL.len:∀{l:List CC} {m:List Value},RpL ρ l m→m.length=l.length
  |[],[],_=>rfl|_::_,_::_,hv=>by simp [RpL.len hv.2]|[],_::_,hv=>hv.elim|_::_,[],hv=>hv.elim
theorem RpL.cell:∀{l:List CC} {m:List Value},RpL ρ l m→∀v∈m,isCell v
  |[],[],_,_,h=>by cases h
  |_::_,_::_,hv,v,h=>by
   rcases List.mem_cons.1 h with rfl|h
   · exact hv.1.isCell
   · exact RpL.cell hv.2 v h
  |[],_::_,hv,_,_=>hv.elim|_::_,[],hv,_,_=>hv.elim
theorem RpL.app:∀{l l':List CC} {m m':List Value},RpL ρ l m→RpL ρ l' m'→RpL ρ (l++l') (m++m')
  |[],_,[],_,_,h=>h|_::_,_,_::_,_,h,h'=>⟨h.1,RpL.app h.2 h'⟩|[],_,_::_,_,h,_=>h.elim|_::_,_,[],_,h,_=>h.elim
theorem dropC_zero (l:List CC):dropC l 0=l:=by cases l<;>rfl
theorem RpL.drop:∀{l:List CC} {m:List Value} (n:Nat),RpL ρ l m→RpL ρ (dropC l n) (m.drop n)
  |l,m,0,h=>by rw [dropC_zero];simpa using h
  |[],[],_+1,_=>trivial|_::_,_::_,n+1,h=>by simpa [dropC] using RpL.drop n h.2|[],_::_,_+1,h=>h.elim|_::_,[],_+1,h=>h.elim
theorem takeC_zero (l:List CC):takeC l 0=some []:=by cases l<;>rfl
theorem takeC_succ (a:CC) (l:List CC) (n:Nat):takeC (a::l) (n+1)=bo (takeC l n) fun m=>some (a::m):=rfl
theorem RpL.take:∀{l:List CC} {m:List Value} (n:Nat) {r:List CC},RpL ρ l m→takeC l n=some r→RpL ρ r (m.take n)∧n≤m.length
  |l,m,0,r,h,e=>by rw [takeC_zero] at e;cases e;exact ⟨by simp;trivial,Nat.zero_le _⟩
  |[],[],_+1,_,_,e=>by cases e
  |a::l,v::m,n+1,r,h,e=>by
   rw [takeC_succ] at e
   obtain ⟨r',he,e⟩:=bo_eq e
   cases e
   obtain ⟨h1,h2⟩:=RpL.take n h.2 he
   exact ⟨⟨h.1,h1⟩,by simp;omega⟩
  |[],_::_,_+1,_,h,_=>h.elim|_::_,[],_+1,_,h,_=>h.elim
theorem RpL.part {l:List CC} {m:List Value} {off n:Nat} {r:List CC} (h:RpL ρ l m) (e:partC l off n=some r):RpL ρ r ((m.drop off).take n)∧n≤(m.drop off).length:=RpL.take n (h.drop off) e
theorem takeC_len:∀{l:List CC} {n:Nat} {r:List CC},takeC l n=some r→r.length=n∧n≤l.length
  |l,0,r,e=>by rw [takeC_zero] at e;cases e;exact ⟨rfl,Nat.zero_le _⟩
  |[],_+1,_,e=>by cases e
  |a::l,n+1,r,e=>by
   rw [takeC_succ] at e
   obtain ⟨r',he,e⟩:=bo_eq e
   cases e
   obtain ⟨h1,h2⟩:=takeC_len he
   exact ⟨by simp [h1],by simp;omega⟩
theorem overC_nil (l:List CC):overC l []=some l:=by cases l<;>rfl
theorem overC_ok:∀{l m r:List CC} {lv mv:List Value},overC l m=some r→RpL ρ l lv→RpL ρ m mv→RpL ρ r (mv++lv.drop mv.length)∧mv.length≤lv.length∧r.length=l.length
  |l,[],r,lv,mv,e,h1,h2=>by
   cases mv with
   |nil=>rw [overC_nil] at e;cases e;exact ⟨by simpa using h1,Nat.zero_le _,rfl⟩
   |cons=>exact h2.elim
  |[],_::_,_,_,_,e,_,_=>by cases e
  |a::l,b::m,r,v::lv,u::mv,e,h1,h2=>by
   have e:(bo (overC l m) fun r=>some (b::r))=some r:=e
   obtain ⟨r',he,e⟩:=bo_eq e
   cases e
   obtain ⟨h3,h4,h5⟩:=overC_ok he h1.2 h2.2
   exact ⟨⟨h2.1,by simpa using h3⟩,by simp;omega,by simp [h5]⟩
  |_::_,_::_,_,[],_,_,h1,_=>h1.elim
  |_::_,_::_,_,_::_,[],_,_,h2=>h2.elim
theorem placeC_zero (l m:List CC):placeC l 0 m=overC l m:=by cases l<;>rfl
theorem placeC_ok:∀{l:List CC} {n:Nat} {m r:List CC} {lv mv:List Value},placeC l n m=some r→RpL ρ l lv→RpL ρ m mv→RpL ρ r (lv.take n++(mv++lv.drop (n+mv.length)))∧n+mv.length≤lv.length∧r.length=l.length
  |l,0,m,r,lv,mv,e,h1,h2=>by
   rw [placeC_zero] at e
   obtain ⟨h3,h4,h5⟩:=overC_ok e h1 h2
   exact ⟨by simpa using h3,by omega,h5⟩
  |[],_+1,_,_,_,_,e,_,_=>by cases e
  |a::l,n+1,m,r,v::lv,mv,e,h1,h2=>by
   have e:(bo (placeC l n m) fun r=>some (a::r))=some r:=e
   obtain ⟨r',he,e⟩:=bo_eq e
   cases e
   obtain ⟨h3,h4,h5⟩:=placeC_ok he h1.2 h2
   refine ⟨⟨h1.1,?_⟩,by simp;omega,by simp [h5]⟩
   rw [show n+1+mv.length=(n+mv.length)+1 by omega]
   simpa using h3
  |_::_,_+1,_,_,[],_,_,h1,_=>h1.elim
theorem lenC_eq:∀{l:List CC} {n:Nat},lenC l n=true→l.length=n
  |[],0,_=>rfl|_::l,n+1,h=>by simp [lenC_eq (l:=l) h]|[],_+1,h=>by cases h|_::_,0,h=>by cases h
theorem headC_rep:∀{l:List CC} {m:List Value} {x:CC},RpL ρ l m→headC l=some x→∃v,m[0]? =some v∧RpC ρ x v
  |a::l,v::m,x,h,e=>by cases e;exact ⟨v,rfl,h.1⟩
  |[],_,_,_,e=>by cases e
  |_::_,[],_,h,_=>h.elim
end
def RpM (ρ:Rn):List (CW × CW)→List MapEntry→Prop
  |[],[]=>True|p::m,e::es=>(RpW ρ p.1 e.key∧RpW ρ p.2 e.val)∧RpM ρ m es|_,_=>False
theorem RpM.ext {ρ ρ':Rn} (h:Ext ρ ρ'):∀{l:List (CW × CW)} {m:List MapEntry},RpM ρ l m→RpM ρ' l m
  |[],[],_=>trivial|_::_,_::_,hv=>⟨⟨hv.1.1.ext h,hv.1.2.ext h⟩,RpM.ext h hv.2⟩|[],_::_,hv=>hv.elim|_::_,[],hv=>hv.elim
def SizeH (c n l:Nat) (ty:TypeId):Option (Nat × Nat)→Prop|none=>n=l|some p=>ty=p.2∧(p.1=0→n=l)∧(p.1≠0→n=c*p.1)
def ObH (ρ:Rn) (c:Nat):CO→Obj→Prop
  |.cells l g,o=>∃cs ty,o= .cells cs ty (0,0)∧l.length≤cs.size∧SizeH c cs.size l.length ty g∧RpL ρ l (cs.toList.take l.length)
  |.map es,o=>∃en n,o= .map en n∧RpM ρ es en.toList
theorem ObH.ext {ρ ρ':Rn} (h:Ext ρ ρ') {c:Nat} {x:CO} {o:Obj} (hv:ObH ρ c x o):ObH ρ' c x o:=by
  cases x with
  |cells l g=>obtain ⟨cs,ty,h1,h2,h3,h4⟩:=hv;exact ⟨cs,ty,h1,h2,h3,h4.ext h⟩
  |map es=>obtain ⟨en,n,h1,h2⟩:=hv;exact ⟨en,n,h1,h2.ext h⟩
structure Hd (ρ:Rn) (h:Nat→Option CO) (nx:Nat) (w:World):Prop where
  obj:∀k o,h k=some o→∃b c x,ρ k=some (b,c)∧w.heap[b]? =some x∧ObH ρ c o x
  inj:∀k k' o o' b c c',h k=some o→h k'=some o'→ρ k=some (b,c)→ρ k'=some (b,c')→k=k'
  new:∀k,nx≤k→ρ k=none
  lw:lwP w
  nz:∀k o b c,h k=some o→ρ k=some (b,c)→b≠0
theorem lw_heap {w w':World} (h:lwP w) (e:w'.heap[0]? =w.heap[0]?):lwP w':=fun j hj=>by
  rw [←h j hj]
  simp only [World.cell?,e]
theorem lw_pos {w:World} (h:lwP w):0<w.heap.size:=by
  have:=h 0 (by decide)
  cases e:w.heap[0]? with
  |none=>simp [World.cell?,e] at this
  |some x=>exact (Array.getElem?_eq_some_iff.1 e).1
structure Post (ρ ρ':Rn) (s s':HS) (w w':World):Prop where
  ext:Ext ρ ρ'
  hd:Hd ρ' s'.H.get s'.nx w'
  frame:∀b,b<w.heap.size→(∀k o c,s.H.get k=some o→ρ k≠some (b,c))→w'.heap[b]? =w.heap[b]?
  fresh:∀k o b c,s'.H.get k=some o→ρ' k=some (b,c)→w.heap.size≤b∨∃k0 o0 c0,s.H.get k0=some o0∧ρ k0=some (b,c0)
  size:w.heap.size≤w'.heap.size
  io:IoS w w'
  nx:s.nx≤s'.nx
  same:∀k,k<s.nx→ρ' k=ρ k
  wb:s'.wb=s.wb
  sub:∀k,k∈s.wr→k∈s'.wr
  keep:∀k,k<s.wb→k<s.nx→k∉s'.wr→s'.H.get k=s.H.get k
theorem Hd.lt {ρ:Rn} {H:Nat→Option CO} {nx:Nat} {w:World} (h:Hd ρ H nx w) {k:Nat} {o:CO} (hk:H k=some o):k<nx:=by
  rcases Nat.lt_or_ge k nx with h'|h'
  · exact h'
  · obtain ⟨b,c,x,h1,_⟩:=h.obj k o hk
    rw [h.new k h'] at h1;cases h1
theorem Hd.blt {ρ:Rn} {H:Nat→Option CO} {nx:Nat} {w:World} (h:Hd ρ H nx w) {k:Nat} {o:CO} (hk:H k=some o) {b c:Nat} (hb:ρ k=some (b,c)):b<w.heap.size:=by
  obtain ⟨b',c',x,h1,h2,_⟩:=h.obj k o hk
  rw [hb] at h1;cases h1
  exact (Array.getElem?_eq_some_iff.1 h2).1
theorem Post.refl {ρ:Rn} {s:HS} {w:World} (h:Hd ρ s.H.get s.nx w):Post ρ ρ s s w w:=
  ⟨Ext.refl ρ,h,fun _ _ _=>rfl,fun k o _b c hk hb=>.inr ⟨k,o,c,hk,hb⟩,Nat.le_refl _,IoS.refl _,Nat.le_refl _,fun _ _=>rfl,rfl,fun _ h=>h,fun _ _ _ _=>rfl⟩
theorem Post.trans {ρ ρ' ρ'':Rn} {s s' s'':HS} {w w' w'':World} (h:Post ρ ρ' s s' w w') (h':Post ρ' ρ'' s' s'' w' w''):Post ρ ρ'' s s'' w w'' where
  ext:=h.ext.trans h'.ext
  hd:=h'.hd
  frame b hb hn:=by
    rw [←h.frame b hb hn]
    refine h'.frame b (Nat.lt_of_lt_of_le hb h.size) fun k o c hk hr=>?_
    rcases h.fresh k o b c hk hr with h1|⟨k0,o0,c0,h1,h2⟩
    · omega
    · exact hn k0 o0 c0 h1 h2
  fresh k o b c hk hr:=by
    rcases h'.fresh k o b c hk hr with h1|⟨k0,o0,c0,h1,h2⟩
    · exact .inl (Nat.le_trans h.size h1)
    · exact h.fresh k0 o0 b c0 h1 h2
  size:=Nat.le_trans h.size h'.size
  io:=h.io.trans h'.io
  nx:=Nat.le_trans h.nx h'.nx
  same k hk:=(h'.same k (Nat.lt_of_lt_of_le hk h.nx)).trans (h.same k hk)
  wb:=h'.wb.trans h.wb
  sub k hk:=h'.sub k (h.sub k hk)
  keep k h1 h2 h3:=(h'.keep k (by rw [h.wb];exact h1) (Nat.lt_of_lt_of_le h2 h.nx) h3).trans (h.keep k h1 h2 fun h4=>h3 (h'.sub k h4))
theorem Post.make {ρ:Rn} {s:HS} {w w':World} {o:CO} {x:Obj} (c:Nat) (h:Hd ρ s.H.get s.nx w) (hw:w'.heap=w.heap.push x) (hio:IoS w w') (ho:∀ρ',Ext ρ ρ'→ObH ρ' c o x):
    ∃ρ',Post ρ ρ' s (s.new o) w w'∧ρ' s.nx=some (w.heap.size,c):=by
  let ρ':Rn:=fun k=>if k=s.nx then some (w.heap.size,c) else ρ k
  have hext:Ext ρ ρ':=fun k x hk=>by
    show (if k=s.nx then _ else _)=_
    rw [if_neg fun e=>by subst e;rw [h.new _ (Nat.le_refl _)] at hk;cases hk];exact hk
  have hnx:ρ' s.nx=some (w.heap.size,c):=if_pos rfl
  have hold:∀{k},k<s.nx→ρ' k=ρ k:=fun {k} hk=>if_neg (Nat.ne_of_lt hk)
  have hg:∀k,(s.new o).H.get k=if k=s.nx then some o else s.H.get k:=fun k=>Tr.get_put _ _ _ _
  have hlw:lwP w':=lw_heap h.lw (by rw [hw,Array.getElem?_push_lt (lw_pos h.lw),Array.getElem?_eq_getElem (lw_pos h.lw)])
  have hnz:∀k y b c1,(s.new o).H.get k=some y→ρ' k=some (b,c1)→b≠0:=fun k y b c1 hk hb=>by
    rw [hg] at hk
    by_cases e:k=s.nx
    · subst e;rw [hnx] at hb;cases hb;exact Nat.ne_of_gt (lw_pos h.lw)
    · rw [if_neg e] at hk;exact h.nz k y b c1 hk (by rw [←hold (h.lt hk)];exact hb)
  refine ⟨ρ',⟨hext,⟨fun k y hk=>?_,fun k k' y y' b c1 c2 hk hk' hb hb'=>?_,fun k hk=>?_,hlw,hnz⟩,fun b hb _=>?_,fun k y b c1 hk hb=>?_,?_,hio,Nat.le_succ _,fun k hk=>hold hk,rfl,fun _ h=>h,fun k _ hk _=>?_⟩,hnx⟩
  · rw [hg] at hk
    by_cases e:k=s.nx
    · subst e
      rw [if_pos rfl] at hk;cases hk
      exact ⟨w.heap.size,c,x,hnx,by rw [hw];simp,ho ρ' hext⟩
    · rw [if_neg e] at hk
      obtain ⟨b,c1,y',h1,h2,h3⟩:=h.obj k y hk
      exact ⟨b,c1,y',hext _ _ h1,by rw [hw,Array.getElem?_push_lt (Array.getElem?_eq_some_iff.1 h2).1,←Array.getElem?_eq_getElem,h2],h3.ext hext⟩
  · rw [hg] at hk hk'
    have lt:∀{k y b c},s.H.get k=some y→ρ' k=some (b,c)→b<w.heap.size:=fun hk hb=>h.blt hk (by rw [←hold (h.lt hk)];exact hb)
    by_cases e:k=s.nx<;>by_cases e':k'=s.nx
    · omega
    · subst e
      rw [if_neg e'] at hk'
      rw [hnx] at hb;cases hb
      have:=lt hk' hb';omega
    · subst e'
      rw [if_neg e] at hk
      rw [hnx] at hb';cases hb'
      have:=lt hk hb;omega
    · rw [if_neg e] at hk;rw [if_neg e'] at hk'
      exact h.inj k k' _ _ b c1 c2 hk hk' (by rw [←hold (h.lt hk)];exact hb) (by rw [←hold (h.lt hk')];exact hb')
  · have hk:s.nx+1≤k:=hk
    show (if k=s.nx then _ else _)=_
    rw [if_neg (by omega)];exact h.new k (by omega)
  · rw [hw,Array.getElem?_push_lt hb,Array.getElem?_eq_getElem hb]
  · rw [hg] at hk
    by_cases e:k=s.nx
    · subst e;rw [hnx] at hb;cases hb;exact .inl (Nat.le_refl _)
    · rw [if_neg e] at hk
      exact .inr ⟨k,y,c1,hk,by rw [←hold (h.lt hk)];exact hb⟩
  · rw [hw];simp
  · rw [hg,if_neg (by omega)]
theorem Post.write {ρ:Rn} {s:HS} {w w':World} {k b c:Nat} {o o':CO} {x:Obj} (h:Hd ρ s.H.get s.nx w) (hk:s.H.get k=some o) (hb:ρ k=some (b,c)) (hw:w'.heap=w.heap.setIfInBounds b x) (hio:IoS w w') (ho:ObH ρ c o' x):
    Post ρ ρ s (s.put k o') w w':=by
  have hlt:=h.blt hk hb
  have hg:∀j,(s.put k o').H.get j=if j=k then some o' else s.H.get j:=fun j=>Tr.get_put _ _ _ _
  have hdom:∀{j y},(s.put k o').H.get j=some y→∃y',s.H.get j=some y':=fun {j y} hj=>by
    rw [hg] at hj
    by_cases e:j=k
    · subst e;exact ⟨o,hk⟩
    · rw [if_neg e] at hj;exact ⟨y,hj⟩
  have hlw:lwP w':=lw_heap h.lw (by rw [hw,Array.getElem?_setIfInBounds_ne (h.nz k o b c hk hb)])
  refine ⟨Ext.refl ρ,⟨fun j y hj=>?_,fun j j' y y' b1 c1 c2 hj hj' hb1 hb2=>?_,h.new,hlw,fun j y b1 c1 hj hb1=>by obtain ⟨z,hz⟩:=hdom hj;exact h.nz j z b1 c1 hz hb1⟩,fun b1 hb1 hn=>?_,fun j y b1 c1 hj hb1=>?_,?_,hio,Nat.le_refl _,fun _ _=>rfl,rfl,fun j hj=>mem_wrote.2 (.inl hj),fun j hj hj2 hn=>?_⟩
  · rw [hg] at hj
    by_cases e:j=k
    · subst e
      rw [if_pos rfl] at hj;cases hj
      exact ⟨b,c,x,hb,by rw [hw];simp [hlt],ho⟩
    · rw [if_neg e] at hj
      obtain ⟨b1,c1,y',h1,h2,h3⟩:=h.obj j y hj
      have hne:b≠b1:=fun e'=>by subst e';exact e (h.inj j k _ _ b c1 c hj hk h1 hb)
      exact ⟨b1,c1,y',h1,by rw [hw,Array.getElem?_setIfInBounds_ne hne];exact h2,h3⟩
  · obtain ⟨z,hz⟩:=hdom hj
    obtain ⟨z',hz'⟩:=hdom hj'
    exact h.inj j j' _ _ b1 c1 c2 hz hz' hb1 hb2
  · have hne:b≠b1:=fun e'=>by subst e';exact hn k o c hk hb
    rw [hw,Array.getElem?_setIfInBounds_ne hne]
  · obtain ⟨z,hz⟩:=hdom hj
    exact .inr ⟨j,z,c1,hz,hb1⟩
  · rw [hw];simp
  · rw [hg,if_neg fun e=>hn (mem_wrote.2 (.inr ⟨e,by omega⟩))]
theorem Post.drop {ρ:Rn} {s:HS} {w w':World} {k b c:Nat} {o:CO} (h:Hd ρ s.H.get s.nx w) (hk:s.H.get k=some o) (hb:ρ k=some (b,c)) (hw:∀i,i<w.heap.size→i≠b→w'.heap[i]? =w.heap[i]?) (hsz:w.heap.size≤w'.heap.size) (hio:IoS w w'):
    Post ρ ρ s ⟨s.H.put k none,s.nx,s.wb,wrote s.wb k s.wr⟩ w w':=by
  have hg:∀j,(s.H.put k none).get j=if j=k then none else s.H.get j:=fun j=>Tr.get_put _ _ _ _
  have hold:∀{j y},(s.H.put k none).get j=some y→s.H.get j=some y∧j≠k:=fun {j y} hj=>by
    rw [hg] at hj
    by_cases e:j=k
    · rw [if_pos e] at hj;cases hj
    · rw [if_neg e] at hj;exact ⟨hj,e⟩
  refine ⟨Ext.refl ρ,⟨fun j y hj=>?_,fun j j' y y' b1 c1 c2 hj hj' hb1 hb2=>h.inj j j' _ _ b1 c1 c2 (hold hj).1 (hold hj').1 hb1 hb2,h.new,lw_heap h.lw (hw 0 (lw_pos h.lw) (Ne.symm (h.nz k o b c hk hb))),fun j y b1 c1 hj hb1=>h.nz j y b1 c1 (hold hj).1 hb1⟩,fun b1 hb1 hn=>hw b1 hb1 fun e=>hn k o c hk (by rw [e];exact hb),fun j y b1 c1 hj hb1=>.inr ⟨j,y,c1,(hold hj).1,hb1⟩,hsz,hio,Nat.le_refl _,fun _ _=>rfl,rfl,fun j hj=>mem_wrote.2 (.inl hj),fun j hj hj2 hn=>?_⟩
  · obtain ⟨h1,h2⟩:=hold hj
    obtain ⟨b1,c1,y',h3,h4,h5⟩:=h.obj j y h1
    have hne:b1≠b:=fun e=>h2 (h.inj j k _ _ b1 c1 c h1 hk h3 (by rw [e];exact hb))
    exact ⟨b1,c1,y',h3,by rw [hw b1 (Array.getElem?_eq_some_iff.1 h4).1 hne];exact h4,h5⟩
  · show (s.H.put k none).get j=_
    rw [hg,if_neg fun e=>hn (mem_wrote.2 (.inr ⟨e,by omega⟩))]
theorem Post.rekey {ρ:Rn} {s s':HS} {w w':World} {k b c c' b':Nat} {o o':CO} {x:Obj} (h:Hd ρ s.H.get s.nx w) (hk:s.H.get k=some o) (hb:ρ k=some (b,c)) (hs:s'=⟨(s.H.put k none).put s.nx (some o'),s.nx+1,s.wb,wrote s.wb k s.wr⟩)
    (hb':b'=b∨w.heap.size≤b') (hw:∀i,i<w.heap.size→i≠b→w'.heap[i]? =w.heap[i]?) (hwb:w'.heap[b']? =some x) (hsz:w.heap.size≤w'.heap.size) (hio:IoS w w') (ho:∀ρ',Ext ρ ρ'→ObH ρ' c' o' x):
    ∃ρ',Post ρ ρ' s s' w w'∧ρ' s.nx=some (b',c'):=by
  subst hs
  let ρ':Rn:=fun j=>if j=s.nx then some (b',c') else ρ j
  have hext:Ext ρ ρ':=fun j x hj=>by
    show (if j=s.nx then _ else _)=_
    rw [if_neg fun e=>by subst e;rw [h.new _ (Nat.le_refl _)] at hj;cases hj];exact hj
  have hnx:ρ' s.nx=some (b',c'):=if_pos rfl
  have hold:∀{j},j<s.nx→ρ' j=ρ j:=fun {j} hj=>if_neg (Nat.ne_of_lt hj)
  have hkn:=h.lt hk
  have hblt:=h.blt hk hb
  have hg:∀j,((s.H.put k none).put s.nx (some o')).get j=if j=s.nx then some o' else if j=k then none else s.H.get j:=fun j=>by rw [Tr.get_put,Tr.get_put]
  have other:∀{j y},j≠s.nx→((s.H.put k none).put s.nx (some o')).get j=some y→s.H.get j=some y∧j≠k:=fun {j y} hj hy=>by
    rw [hg,if_neg hj] at hy
    by_cases e:j=k
    · rw [if_pos e] at hy;cases hy
    · rw [if_neg e] at hy;exact ⟨hy,e⟩
  have apart:∀{j y b1 c1},j≠s.nx→((s.H.put k none).put s.nx (some o')).get j=some y→ρ' j=some (b1,c1)→b1≠b'∧b1≠b∧b1<w.heap.size:=fun {j y b1 c1} hj hy hb1=>by
    obtain ⟨h1,h2⟩:=other hj hy
    rw [hold (h.lt h1)] at hb1
    have h3:=h.blt h1 hb1
    have h4:b1≠b:=fun e=>by subst e;exact h2 (h.inj j k _ _ b1 c1 c h1 hk hb1 hb)
    refine ⟨fun e=>?_,h4,h3⟩
    rcases hb' with h5|h5
    · exact h4 (e.trans h5)
    · omega
  have hlw:lwP w':=lw_heap h.lw (hw 0 (lw_pos h.lw) (Ne.symm (h.nz k o b c hk hb)))
  have hnz:∀j y b1 c1,((s.H.put k none).put s.nx (some o')).get j=some y→ρ' j=some (b1,c1)→b1≠0:=fun j y b1 c1 hj hb1=>by
    by_cases e:j=s.nx
    · subst e
      rw [hnx] at hb1;cases hb1
      rcases hb' with h5|h5
      · rw [h5];exact h.nz k o b c hk hb
      · have:=lw_pos h.lw;omega
    · obtain ⟨h1,_⟩:=other e hj
      exact h.nz j y b1 c1 h1 (by rw [←hold (h.lt h1)];exact hb1)
  refine ⟨ρ',⟨hext,⟨fun j y hj=>?_,fun j j' y y' b1 c1 c2 hj hj' hb1 hb2=>?_,fun j hj=>?_,hlw,hnz⟩,fun i hi hn=>?_,fun j y b1 c1 hj hb1=>?_,hsz,hio,Nat.le_succ _,fun j hj=>hold hj,rfl,fun j hj=>mem_wrote.2 (.inl hj),fun j h1 h2 h3=>?_⟩,hnx⟩
  · by_cases e:j=s.nx
    · subst e
      rw [hg,if_pos rfl] at hj;cases hj
      exact ⟨b',c',x,hnx,hwb,ho ρ' hext⟩
    · obtain ⟨h1,_⟩:=other e hj
      obtain ⟨b1,c1,y',h3,h4,h5⟩:=h.obj j y h1
      have h6:=apart e hj (hext _ _ h3)
      exact ⟨b1,c1,y',hext _ _ h3,by rw [hw b1 h6.2.2 h6.2.1];exact h4,h5.ext hext⟩
  · by_cases e:j=s.nx<;>by_cases e':j'=s.nx
    · omega
    · subst e
      rw [hnx] at hb1;cases hb1
      exact absurd rfl (apart e' hj' hb2).1
    · subst e'
      rw [hnx] at hb2;cases hb2
      exact absurd rfl (apart e hj hb1).1
    · obtain ⟨h1,_⟩:=other e hj
      obtain ⟨h2,_⟩:=other e' hj'
      exact h.inj j j' _ _ b1 c1 c2 h1 h2 (by rw [←hold (h.lt h1)];exact hb1) (by rw [←hold (h.lt h2)];exact hb2)
  · have hj:s.nx+1≤j:=hj
    show (if j=s.nx then _ else _)=_
    rw [if_neg (by omega)];exact h.new j (by omega)
  · exact hw i hi fun e=>hn k o c hk (by rw [e];exact hb)
  · by_cases e:j=s.nx
    · subst e
      rw [hnx] at hb1;cases hb1
      rcases hb' with h5|h5
      · exact .inr ⟨k,o,c,hk,by rw [h5];exact hb⟩
      · exact .inl h5
    · obtain ⟨h1,_⟩:=other e hj
      exact .inr ⟨j,y,c1,h1,by rw [←hold (h.lt h1)];exact hb1⟩
  · show ((s.H.put k none).put s.nx (some o')).get j=_
    rw [hg,if_neg (by omega),if_neg fun e=>h3 (mem_wrote.2 (.inr ⟨e,by omega⟩))]
end Go.CM
end
section
namespace Go.CM
open Go Go.AM
def zcB (x:CC) (v:Value):Bool:=
  match x,v with
  |.int k n,.int k' n'=>kq k k'&&decide (n=n')&&fitB k n
  |.bool b,.bool b'=>b==b'
  |.str [],.string s=>Nat.beq s.size 0
  |.nilp,.pointer none=>true|.nils,.slice none 0 0=>true|.nilm,.map none=>true|.nilf,.nilFunc=>true
  |_,_=>false
def zcsB:List CC→List Value→Bool
  |[],[]=>true|a::l,v::m=>zcB a v&&zcsB l m|_,_=>false
def zrowB (P:Program) (TY:List TyE) (t:Nat) (l:List CC):Bool:=
  match l with
  |[]=>true
  |a::l=>match P.info? t with|some i=>(match i.zero with|some z=>zcsB (a::l) z.cells.toList&&aggB (isAggD (nthT TY t).d) z|none=>false)|none=>false
def zrowsB (P:Program) (TY:List TyE):Nat→List (List CC)→Bool
  |_,[]=>true|t,l::m=>zrowB P TY t l&&zrowsB P TY (t+1) m
theorem bytes_nil {s:ByteArray} (h:s.size=0):s=bytesV []:=by
  cases s with
  |mk d=>
   have h:d.size=0:=h
   have:d= #[]:=Array.eq_empty_of_size_eq_zero h
   subst this;rfl
theorem zcB_ok {x:CC} {v:Value} (h:zcB x v=true) (ρ:Rn):RpC ρ x v:=by
  unfold zcB at h
  split at h
  · simp only [Bool.and_eq_true,decide_eq_true_eq] at h
    obtain ⟨⟨h1,rfl⟩,h3⟩:=h
    obtain rfl:=kq_eq h1
    exact ⟨rfl,fit_in h3⟩
  · rename_i b b'
    have h:b=b':=by simpa using h
    subst h;rfl
  · exact ⟨by rw [bytes_nil (beq_iff'.1 h)],by simp⟩
  · rfl
  · rfl
  · rfl
  · rfl
  · cases h
theorem zcsB_ok:∀{l:List CC} {m:List Value},zcsB l m=true→∀ρ,RpL ρ l m
  |[],[],_,_=>trivial
  |a::l,v::m,h,ρ=>by simp only [zcsB,Bool.and_eq_true] at h;exact ⟨zcB_ok h.1 ρ,zcsB_ok h.2 ρ⟩
  |[],_::_,h,_=>by cases h
  |_::_,[],h,_=>by cases h
structure ZOk (P:Program) (TY:List TyE) (TZ:Zs):Prop where
  row:∀t,nthZ TZ t≠[]→∃i z,P.info? t=some i∧i.zero=some z∧(∀ρ,RpL ρ (nthZ TZ t) z.cells.toList)∧aggB (isAggD (nthT TY t).d) z=true
theorem nthZ_nil (t:Nat):nthZ [] t=[]:=by cases t<;>rfl
theorem zrows_ok {P:Program} {TY:List TyE}:∀{m:Zs} {t:Nat},zrowsB P TY t m=true→∀i,zrowB P TY (t+i) (nthZ m i)=true
  |[],t,_,i=>by rw [nthZ_nil];rfl
  |l::m,t,h,0=>by simp only [zrowsB,Bool.and_eq_true] at h;exact h.1
  |l::m,t,h,i+1=>by
   simp only [zrowsB,Bool.and_eq_true] at h
   have:=zrows_ok h.2 i
   rw [show t+1+i=t+(i+1) by omega] at this
   exact this
theorem zOk_of {P:Program} {TY:List TyE} {TZ:Zs} (h:zrowsB P TY 0 TZ=true):ZOk P TY TZ:=⟨fun t ht=>by
  have h1:=zrows_ok h t
  rw [Nat.zero_add] at h1
  generalize nthZ TZ t=l at h1 ht
  cases l with
  |nil=>exact absurd rfl ht
  |cons a l=>
   simp only [zrowB] at h1
   split at h1
   · rename_i i hi
     split at h1
     · rename_i z hz
       rw [Bool.and_eq_true] at h1
       exact ⟨i,z,hi,hz,zcsB_ok h1.1,h1.2⟩
     · cases h1
   · cases h1⟩
section
variable {ρ:Rn} {v:CV} {u:Value}
theorem asC_rep {x:CC} (h:asC v=some x) (hv:RpV ρ v u):RpC ρ x u:=by cases v<;>simp [asC] at h;subst h;exact hv
theorem asA_rep {l:List CC} (h:asA v=some l) (hv:RpV ρ v u):∃cs,u= .agg cs∧RpL ρ l cs.toList:=by cases v<;>simp [asA] at h;subst h;exact hv
theorem asT_rep {l:List CW} (h:asT v=some l) (hv:RpV ρ v u):∃cs,u= .tuple cs∧RpWs ρ l cs.toList:=by cases v<;>simp [asT] at h;subst h;exact hv
theorem asW_rep {x:CW} (h:asW v=some x) (hv:RpV ρ v u):RpW ρ x u:=by cases v<;>simp [asW] at h<;>(subst h;exact hv)
theorem ofW_rep {x:CW} (h:RpW ρ x u):RpV ρ (ofW x) u:=by cases x<;>exact h
theorem asB_rep {b:Bool} (h:asB v=some b) (hv:RpV ρ v u):u= .bool b:=by
  obtain ⟨x,h1,h2⟩:=bo_eq h
  have:=asC_rep h1 hv
  cases x<;>simp at h2
  subst h2;exact this
theorem asI_rep {p:IntKind × Int} (h:asI v=some p) (hv:RpV ρ v u):u= .int p.1 p.2∧inK p.1 p.2:=by
  obtain ⟨x,h1,h2⟩:=bo_eq h
  have:=asC_rep h1 hv
  cases x<;>simp at h2
  subst h2;exact this
theorem natI_eq {i:Int} {n:Nat} (h:natI i=some n):i=n:=by cases i<;>simp [natI] at h;subst h;rfl
theorem asN_rep {n:Nat} (h:asN v=some n) (hv:RpV ρ v u):∃k,u= .int k n∧inK k n:=by
  obtain ⟨p,h1,h2⟩:=bo_eq h
  have:=asI_rep h1 hv
  rw [natI_eq h2] at this
  exact ⟨_,this⟩
theorem asP_rep {p:Nat × Nat} (h:asP v=some p) (hv:RpV ρ v u):∃b c,ρ p.1=some (b,c)∧u= .pointer (some ⟨b,p.2,none⟩):=by
  obtain ⟨x,h1,h2⟩:=bo_eq h
  have:=asC_rep h1 hv
  cases x<;>simp at h2
  subst h2;exact this
theorem asS_rep {s:SlV} (h:asS v=some s) (hv:RpV ρ v u):RpC ρ (.sl s.k s.off s.len s.cap) u:=by
  obtain ⟨x,h1,h2⟩:=bo_eq h
  have:=asC_rep h1 hv
  cases x<;>simp at h2
  subst h2;exact this
end
theorem ofNat_toNat (b:UInt8):UInt8.ofNat b.toNat=b:=by simp
theorem bytesN_eq:∀(l:List UInt8),(bytesN l).map UInt8.ofNat=l
  |[]=>rfl
  |b::l=>by simp only [bytesN,List.map_cons,bytesN_eq l,ofNat_toNat]
theorem bytesN_lt:∀(l:List UInt8),∀x∈bytesN l,x<256
  |[],x,h=>by cases h
  |b::l,x,h=>by
   simp only [bytesN,List.mem_cons] at h
   rcases h with rfl|h
   · exact b.toNat_lt
   · exact bytesN_lt l x h
theorem constC_rep {v:Value} {x:CC} (h:constC v=some x) (ρ:Rn):RpC ρ x v:=by
  cases v with
  |int k n=>obtain ⟨h1,h2⟩:=bt_eq h;cases h2;exact ⟨rfl,fit_in h1⟩
  |bool b=>cases h;rfl
  |string s=>
   cases h
   refine ⟨?_,bytesN_lt _⟩
   cases s with
   |mk d=>simp [bytesV,bytesN_eq]
  |slice a n c=>simp only [constC] at h;split at h<;>cases h;rfl
  |pointer a=>simp only [constC] at h;split at h<;>cases h;rfl
  |map a=>simp only [constC] at h;split at h<;>cases h;rfl
  |nilFunc=>cases h;rfl
  |nilIface=>cases h;rfl
  |_=>cases h
theorem consts_rep {ρ:Rn}:∀{l:List Value} {m:List CC},consts l=some m→RpL ρ m l
  |[],_,h=>by cases h;trivial
  |v::l,m,h=>by
   obtain ⟨x,h1,h⟩:=bo_eq h
   obtain ⟨r,h2,h⟩:=bo_eq h
   cases h
   exact ⟨constC_rep h1 ρ,consts_rep h2⟩
theorem constV_rep (ρ:Rn) (v:Value):RpV ρ (constV v) v:=by
  have plain:∀v:Value,RpV ρ (orNon (bo (constC v) fun x=>some (.c x))) v:=fun v=>by
    cases hc:constC v with
    |none=>trivial
    |some x=>exact constC_rep hc ρ
  cases v with
  |agg cs=>
   show RpV ρ (orNon (bo (consts cs.toList) fun l=>some (.a l))) _
   cases hc:consts cs.toList with
   |none=>trivial
   |some l=>exact ⟨cs,rfl,consts_rep hc⟩
  |bool b=>exact plain (.bool b)
  |int k n=>exact plain (.int k n)
  |float k b=>exact plain (.float k b)
  |complex k a b=>exact plain (.complex k a b)
  |string b=>exact plain (.string b)
  |pointer a=>exact plain (.pointer a)
  |slice a n c=>exact plain (.slice a n c)
  |map r=>exact plain (.map r)
  |chan r=>exact plain (.chan r)
  |func f a b=>exact plain (.func f a b)
  |nilFunc=>exact plain .nilFunc
  |iface t v=>exact plain (.iface t v)
  |nilIface=>exact plain .nilIface
  |tuple vs=>exact plain (.tuple vs)
structure TmH (ρ:Rn) (T:Tm') (a:Act):Prop where
  defers:a.defers=[]
  size:a.tmps.size=T.n
  tmp:∀i,RpV ρ (getV T i) (a.tmps.getD i undef)
theorem TmH.ext {ρ ρ':Rn} {T:Tm'} {a:Act} (h:TmH ρ T a) (he:Ext ρ ρ'):TmH ρ' T a:=⟨h.defers,h.size,fun i=>(h.tmp i).ext he⟩
theorem evO_rep {ρ:Rn} {T:Tm'} {a:Act} (h:TmH ρ T a) (x:Operand):RpV ρ (evO T x) (a.eval x):=by
  cases x with
  |tmp t=>exact h.tmp t
  |const v=>exact constV_rep ρ v
  |global g=>trivial
  |func f=>exact rfl
theorem getV_put {T T':Tm'} {d:Nat} {v:CV} (h:putV T d v=some T') (i:Nat):getV T' i=if i=d then v else getV T i:=by
  obtain ⟨_,h2⟩:=bt_eq h
  cases h2
  show (match (T.t.put d (some v)).get i with|some v=>v|none=>.non)=_
  rw [Tr.get_put]
  by_cases e:i=d
  · rw [if_pos e,if_pos e]
  · rw [if_neg e,if_neg e];rfl
theorem TmH.put {ρ:Rn} {T T':Tm'} {a:Act} {d:Option Nat} {v:CV} {u:Value} (h:TmH ρ T a) (hd:dstV d T v=some T') (hv:RpV ρ v u):TmH ρ T' (a.put d u):=by
  cases d with
  |none=>cases hd;exact h
  |some d=>
   have hp:putV T d v=some T':=hd
   obtain ⟨h1,h2⟩:=bt_eq hp
   have hn:T'.n=T.n:=by cases h2;rfl
   have hlt:d<a.tmps.size:=by rw [h.size];exact Nat.le_of_ble_eq_true h1
   refine ⟨h.defers,by simp [Act.put,h.size,hn],fun i=>?_⟩
   rw [getV_put hp i]
   by_cases e:i=d
   · subst e
     rw [if_pos rfl]
     have:(a.put (some i) u).tmps.getD i undef=u:=by simp [Act.put,hlt]
     rw [this];exact hv
   · rw [if_neg e]
     have:(a.put (some d) u).tmps.getD i undef=a.tmps.getD i undef:=by simp [Act.put,Array.getD_eq_getD_getElem?,Array.getElem?_setIfInBounds_ne (Ne.symm e)]
     rw [this];exact h.tmp i
theorem undef_rep (ρ:Rn):RpV ρ (.t []) undef:=⟨#[],rfl,trivial⟩
section
variable {P:Program} {E:Ev} {ρ:Rn} {s s':HS} {w:World}
theorem cellsH_eq {k:Nat} {p:List CC × Option (Nat × Nat)} (h:cellsH s k=some p):s.H.get k=some (.cells p.1 p.2):=by
  obtain ⟨o,h1,h2⟩:=bo_eq h
  cases o<;>simp at h2
  subst h2;exact h1
theorem mapH_eq {k:Nat} {es:List (CW × CW)} (h:mapH s k=some es):s.H.get k=some (.map es):=by
  obtain ⟨o,h1,h2⟩:=bo_eq h
  cases o<;>simp at h2
  subst h2;exact h1
theorem cells_at (hd:Hd ρ s.H.get s.nx w) {k b c:Nat} {l:List CC} {g:Option (Nat × Nat)} (hk:s.H.get k=some (.cells l g)) (hb:ρ k=some (b,c)):
    ∃cs ty,w.heap[b]? =some (.cells cs ty (0,0))∧l.length≤cs.size∧SizeH c cs.size l.length ty g∧RpL ρ l (cs.toList.take l.length):=by
  obtain ⟨b',c',x,h1,h2,h3⟩:=hd.obj k _ hk
  rw [hb] at h1;cases h1
  obtain ⟨cs,ty,rfl,h4,h5,h6⟩:=h3
  exact ⟨cs,ty,h2,h4,h5,h6⟩
theorem part_cells {l m:List CC} {cs:Array Value} {ty:TypeId} {b off n:Nat} (hl:RpL ρ l (cs.toList.take l.length)) (hb:w.heap[b]? =some (.cells cs ty (0,0))) (h:partC l off n=some m):
    ∃mv:List Value,RpL ρ m mv∧mv.length=n∧∀j x,mv[j]? =some x→w.cell? ⟨b,off+j,none⟩=some x:=by
  obtain ⟨h1,h2⟩:=hl.part h
  refine ⟨_,h1,by rw [List.length_take];omega,fun j x hj=>?_⟩
  rw [cell_of_heap hb]
  rw [List.getElem?_take] at hj
  split at hj
  · rw [List.getElem?_drop,List.getElem?_take] at hj
    split at hj
    · rw [←Array.getElem?_toList];exact hj
    · cases hj
  · cases hj
variable (hty:TyOk P E.TY)
include hty
theorem read_ok {t off b:Nat} {l:List CC} {x:CW} {cs:Array Value} {ty:TypeId} (hl:RpL ρ l (cs.toList.take l.length)) (hb:w.heap[b]? =some (.cells cs ty (0,0))) (h:readT E t l off=some x):
    ∃u,(Instr.loadAt t (.pointer (some ⟨b,off,none⟩))).run P w= .ok u w∧RpW ρ x u:=by
  unfold readT at h
  split at h
  · rename_i ha
    obtain ⟨m,h1,h2⟩:=bo_eq h
    cases h2
    have hrow:=hty.at (t:=t) (.inr fun e=>by unfold Ev.agg at ha;rw [e] at ha;cases ha)
    obtain ⟨mv,h3,h4,h5⟩:=part_cells hl hb h1
    exact ⟨_,run_loadN hrow ha (by rw [h4];rfl) h5,mv.toArray,rfl,by simpa using h3⟩
  · rename_i ha
    obtain ⟨h1,h2⟩:=bt_eq h
    obtain ⟨y,h3,h4⟩:=bo_eq h2
    cases h4
    have hrow:=hty.at (t:=t) (.inl (by have:(nthT E.TY t).sz=1:=beq_iff'.1 h1;omega))
    obtain ⟨v,h5,h6⟩:=headC_rep (hl.drop off) h3
    refine ⟨v,run_load1 hrow ha ?_,h6⟩
    rw [cell_of_heap hb]
    rw [List.getElem?_drop,List.getElem?_take] at h5
    split at h5
    · rw [←Array.getElem?_toList];simpa using h5
    · cases h5
theorem part_ok {t off:Nat} {l:List CC} {x:CW} {cs:Array Value} (hl:RpL ρ l cs.toList) (h:readT E t l off=some x):∃u,(part t cs off).run P w= .ok u w∧RpW ρ x u:=by
  unfold readT at h
  split at h
  · rename_i ha
    obtain ⟨m,h1,h2⟩:=bo_eq h
    cases h2
    have hrow:=hty.at (t:=t) (.inr fun e=>by unfold Ev.agg at ha;rw [e] at ha;cases ha)
    obtain ⟨h3,h4⟩:=hl.part h1
    have ha':isAggD (nthT E.TY t).d=true:=ha
    refine ⟨.agg (cs.extract off (off+(nthT E.TY t).sz)),by simp [part,hrow.agg,ha',hrow.size],_,rfl,?_⟩
    have e:(cs.extract off (off+(nthT E.TY t).sz)).toList=(cs.toList.drop off).take (E.sz t):=by
      rw [Array.toList_extract,List.extract_eq_take_drop];congr 1;show off+(nthT E.TY t).sz - off=_;unfold Ev.sz;omega
    rw [e];exact h3
  · rename_i ha
    obtain ⟨h1,h2⟩:=bt_eq h
    obtain ⟨y,h3,h4⟩:=bo_eq h2
    cases h4
    have hrow:=hty.at (t:=t) (.inl (by have:(nthT E.TY t).sz=1:=beq_iff'.1 h1;omega))
    obtain ⟨v,h5,h6⟩:=headC_rep (hl.drop off) h3
    have ha':isAggD (nthT E.TY t).d=false:=ha
    have hv:cs[off]? =some v:=by rw [←Array.getElem?_toList];simpa using h5
    exact ⟨v,by simp [part,hrow.agg,ha',hv],h6⟩
omit hty in
theorem cellsT_ok {t:Nat} {v:CV} {m:List CC} {u:Value} (h:cellsT E t v=some m) (hv:RpV ρ v u):RpL ρ m u.cells.toList∧u.cells.size=E.sz t∧m.length=E.sz t∧(∀x∈u.cells.toList,isCell x):=by
  unfold cellsT at h
  split at h
  · obtain ⟨l,h1,h2⟩:=bo_eq h
    obtain ⟨h3,h4⟩:=bt_eq h2
    cases h4
    obtain ⟨cs,rfl,h5⟩:=asA_rep h1 hv
    have:=h5.len
    have h6:=lenC_eq h3
    exact ⟨h5,by show cs.size=_;rw [←Array.length_toList,this,h6],h6,h5.cell⟩
  · obtain ⟨x,h1,h2⟩:=bo_eq h
    obtain ⟨h3,h4⟩:=bt_eq h2
    cases h4
    have h5:=asC_rep h1 hv
    rw [cells_one h5.isCell]
    exact ⟨⟨h5,trivial⟩,(beq_iff'.1 h3).symm,(beq_iff'.1 h3).symm,fun y hy=>by simp at hy;subst hy;exact h5.isCell⟩
omit hty in
theorem write_cells {l m r:List CC} {g:Option (Nat × Nat)} {cs:Array Value} {c off:Nat} {mv:List Value} (h1:l.length≤cs.size) {ty:TypeId} (h2:SizeH c cs.size l.length ty g) (h3:RpL ρ l (cs.toList.take l.length)) (hm:RpL ρ m mv)
    (hp:placeC l off m=some r):ObH ρ c (.cells r g) (.cells (cs.toList.take off++mv++cs.toList.drop (off+mv.length)).toArray ty (0,0))∧off+mv.length≤l.length:=by
  obtain ⟨h4,h5,h6⟩:=placeC_ok hp h3 hm
  have hL:(cs.toList.take l.length).length=l.length:=by
    have e:cs.toList.length=cs.size:=Array.length_toList
    rw [List.length_take];omega
  rw [hL] at h5
  have hsz:(cs.toList.take off++mv++cs.toList.drop (off+mv.length)).toArray.size=cs.size:=by
    have e:cs.toList.length=cs.size:=Array.length_toList
    simp only [List.size_toArray,List.length_append,List.length_take,List.length_drop];omega
  refine ⟨⟨_,ty,rfl,by rw [hsz,h6];exact h1,by rw [hsz,h6];exact h2,?_⟩,h5⟩
  have e:((cs.toList.take off++mv++cs.toList.drop (off+mv.length)).toArray.toList).take r.length=(cs.toList.take l.length).take off++(mv++(cs.toList.take l.length).drop (off+mv.length)):=by
    rw [h6]
    apply List.ext_getElem?
    intro q
    simp only [List.getElem?_take,List.getElem?_append,List.length_append,List.length_take,List.getElem?_drop,Array.length_toList]
    by_cases hq:q<l.length
    · by_cases h7:q<off
      · rw [if_pos hq,if_pos (by omega),if_pos (by omega),if_pos h7,if_pos (by omega),if_pos h7,if_pos hq]
      · by_cases h8:q<off+mv.length
        · rw [if_pos hq,if_pos (by omega),if_neg (by omega),if_neg (by omega),if_pos (by omega)]
          congr 1;omega
        · rw [if_pos hq,if_neg (by omega),if_neg (by omega),if_neg (by omega),if_pos (by omega)]
          congr 1;omega
    · rw [if_neg hq]
      by_cases h7:q<off
      · omega
      · rw [if_neg (by omega)]
        by_cases h8:q<off+mv.length
        · omega
        · rw [if_neg (by omega),if_neg (by omega)]
  rw [e];exact h4
end
theorem row_set {w:World} {b:Nat} {cs cs':Array Value} {ty:TypeId} (hb:w.heap[b]? =some (.cells cs ty (0,0))):(w.setRow b cs').heap=w.heap.setIfInBounds b (.cells cs' ty (0,0)):=by
  apply Array.ext_getElem?
  intro i
  by_cases e:i=b
  · subst e
    rw [setRow_heap w i cs cs' ty (0,0) hb]
    have:=(Array.getElem?_eq_some_iff.1 hb).1
    simp [this]
  · rw [setRow_other w b i cs' e,Array.getElem?_setIfInBounds_ne (Ne.symm e)]
end Go.CM
end
section
namespace Go.CM
open Go Go.AM
def CalOk (P:Program) (call:Cal):Prop:=∀f args s v s',call f args s=some (v,s')→Callable P f∧∀(ρ:Rn) (w:World) (vs:List Value),Hd ρ s.H.get s.nx w→RpVs ρ args vs→
  Calls P f vs.toArray w fun e w'=>∃u,e= .returned u∧∃ρ',Post ρ ρ' s s' w w'∧RpV ρ' v u
def EqOk (P:Program) (eqs:List Nat):Prop:=∀t,memB t eqs=true→P.stoodInHeld t=false∧P.eqGuardType P.depth t=false∧∀f∈(P.fieldsOf t).toList,f.name≠ "_"
def BysOk (P:Program) (bys:List (Nat × Nat)):Prop:=∀p,pairB p bys=true→P.underlying p.1=some (.pointer p.2)∧P.cellsOf p.2=1
structure EvOk (P:Program) (E:Ev):Prop where
  cal:CalOk P E.call
  eqs:EqOk P E.eqs
  bys:BysOk P E.bys
abbrev Res (P:Program) (e:Operand→Value) (oo:Oper) (ρ:Rn) (s s':HS) (w:World) (v:CV):Prop:=Runs P (execOp e oo) w fun u w'=>∃ρ',Post ρ ρ' s s' w w'∧RpV ρ' v u
section
variable {P:Program} {E:Ev} {ρ:Rn} {s s':HS} {w:World} {T:Tm'} {e:Operand→Value} {oo:Oper} {v:CV}
theorem res_pure {u:Value} (hd:Hd ρ s.H.get s.nx w) (h:(execOp e oo).run P w= .ok (.value u) w) (hv:RpV ρ v u):Res P e oo ρ s s w v:=.inl ⟨u,w,h,ρ,Post.refl hd,hv⟩
theorem okW_eq {x:Option CW} (h:okW s x=some (v,s')):∃y,x=some y∧v=ofW y∧s=s':=by
  obtain ⟨y,h1,h2⟩:=bo_eq h
  cases h2
  exact ⟨y,h1,rfl,rfl⟩
theorem ok1_eq {x:Option CC} (h:ok1 s x=some (v,s')):∃y,x=some y∧v= .c y∧s=s':=by
  obtain ⟨y,h1,h2⟩:=bo_eq h
  cases h2
  exact ⟨y,h1,rfl,rfl⟩
theorem pick_ok {c a b:Operand} (h:evPick T c a b s=some (v,s')) (ho:oo.op= .pick c a b) (hd:Hd ρ s.H.get s.nx w) (he:∀x∈oo.op.operands,RpV ρ (evO T x) (e x)):Res P e oo ρ s s' w v:=by
  rw [ho] at he
  obtain ⟨t,h1,h2⟩:=bo_eq h
  have hc:=asB_rep h1 (he c (by simp [Op.operands]))
  cases t with
  |true=>cases h2;exact res_pure hd (u:=e a) (by simp [execOp,ho,hc,asBool]) (he a (by simp [Op.operands]))
  |false=>cases h2;exact res_pure hd (u:=e b) (by simp [execOp,ho,hc,asBool]) (he b (by simp [Op.operands]))
theorem fitC_rep (ρ:Rn) (k:IntKind) (n:Int):RpC ρ (fitC k n) (.int k (k.wrap n)):=by
  unfold fitC
  cases hf:fitB k n with
  |true=>
   have:=fit_in hf
   simp only
   exact ⟨by rw [wrap_in this],this⟩
  |false=>exact ⟨rfl,in_wrap k n⟩
theorem notB_eq (b:Bool):notB b= !b:=by cases b<;>rfl
theorem emod_le {a b:Int} (h:0≤a) (hb:b≠0):a % b≤a:=by
  have key:∀c:Int,0<c→a % c≤a:=fun c hc=>by
    have e:=Int.mul_ediv_add_emod a c
    have e2:=Int.mul_nonneg (show 0≤c by omega) (Int.ediv_nonneg h (show 0≤c by omega))
    omega
  rcases Int.lt_or_lt_of_ne hb with h1|h1
  · rw [←Int.emod_neg];exact key (-b) (by omega)
  · exact key b h1
theorem tmod_in {k:IntKind} {a b:Int} (ha:inK k a) (hb':inK k b) (hb:b≠0):inK k (a.tmod b):=by
  have hmax:0≤k.max:=by cases k<;>simp [IntKind.max,IntKind.bits,IntKind.signed]
  have hmin:k.min≤0:=by cases k<;>simp [IntKind.min,IntKind.bits,IntKind.signed]
  obtain ⟨a1,a2⟩:=ha
  rcases Int.le_total 0 a with h0|h0
  · have h1:0≤a.tmod b:=Int.tmod_nonneg _ h0
    have h2:a.tmod b≤a:=by
      rw [Int.tmod_eq_emod_of_nonneg h0]
      exact emod_le h0 hb
    exact ⟨by omega,by omega⟩
  · have h1:0≤(-a).tmod b:=Int.tmod_nonneg _ (by omega)
    have h2:(-a).tmod b≤ -a:=by
      rw [Int.tmod_eq_emod_of_nonneg (by omega)]
      exact emod_le (by omega) hb
    rw [Int.neg_tmod] at h1 h2
    exact ⟨by omega,by omega⟩
theorem binI_ok {op:BinOp} {t:Nat} {k:IntKind} {a b:Int} {r:CC} (h:binI op k a b=some r) (ha:inK k a) (hb:inK k b):∃u,(binOp op t (.int k a) (.int k b)).run P w= .ok u w∧RpC ρ r u:=by
  cases op<;>simp only [binI] at h<;>first
    |(cases h;done)
    |skip
  case lss=>cases h;exact ⟨.bool (decide (a<b)),by simp [binOp,Op.intCmp],rfl⟩
  case leq=>cases h;exact ⟨.bool (decide (a≤b)),by simp [binOp,Op.intCmp],rfl⟩
  case gtr=>cases h;exact ⟨.bool (decide (b<a)),by simp [binOp,Op.intCmp],rfl⟩
  case geq=>cases h;exact ⟨.bool (decide (b≤a)),by simp [binOp,Op.intCmp],rfl⟩
  case eql=>cases h;exact ⟨.bool (a==b),by simp [binOp,Op.intCmp],rfl⟩
  case neq=>cases h;exact ⟨.bool (a !=b),by simp [binOp,Op.intCmp],by show Value.bool _= .bool (notB _);rw [notB_eq];rfl⟩
  case add=>cases h;exact ⟨.int k (k.wrap (a+b)),by simp [binOp,Op.intArith],fitC_rep _ _ _⟩
  case sub=>cases h;exact ⟨.int k (k.wrap (a - b)),by simp [binOp,Op.intArith],fitC_rep _ _ _⟩
  case mul=>cases h;exact ⟨.int k (k.wrap (a*b)),by simp [binOp,Op.intArith],fitC_rep _ _ _⟩
  case quo=>
    obtain ⟨h1,h2⟩:=bt_eq h
    cases h2
    have hb0:b≠0:=fun e=>by subst e;cases h1
    exact ⟨.int k (k.wrap (a.tdiv b)),by simp [binOp,Op.intDiv,hb0],fitC_rep _ _ _⟩
  case rem=>
    obtain ⟨h1,h2⟩:=bt_eq h
    cases h2
    have hb0:b≠0:=fun e=>by subst e;cases h1
    have hin:=tmod_in ha hb hb0
    have hr:=fitC_rep ρ k (a.tmod b)
    rw [wrap_in hin] at hr
    exact ⟨.int k (a.tmod b),by simp [binOp,Op.intDiv,hb0],hr⟩
  case and=>cases h;exact ⟨.int k (andI k a b),by simp [binOp,Op.intBits,andI],rfl,in_wrap _ _⟩
  case or=>cases h;exact ⟨.int k (orI k a b),by simp [binOp,Op.intBits,orI],rfl,in_wrap _ _⟩
theorem binJ_ok {op:BinOp} {t:Nat} {k k':IntKind} {a b:Int} {r:CC} (h:binJ op k a k' b=some r) (ha:inK k a) (hb:inK k' b):∃u,(binOp op t (.int k a) (.int k' b)).run P w= .ok u w∧RpC ρ r u:=by
  have rest:bt (kq k k') (binI op k a b)=some r→∃u,(binOp op t (.int k a) (.int k' b)).run P w= .ok u w∧RpC ρ r u:=fun h=>by
    obtain ⟨h1,h2⟩:=bt_eq h
    obtain rfl:=kq_eq h1
    exact binI_ok h2 ha hb
  cases op<;>first|exact rest h|skip
  case shl=>
    obtain ⟨h1,h2⟩:=bt_eq h
    cases h2
    have h1:0≤b:=of_decide_eq_true h1
    have hw:inK k (shlI k a b):=in_wrap _ _
    have hr:=fitC_rep ρ k (shlI k a b)
    rw [wrap_in hw] at hr
    exact ⟨.int k (shlI k a b),by simp [binOp,Op.shift,shlI,Int.not_lt.2 h1],hr⟩
  case shr=>
    obtain ⟨h1,h2⟩:=bt_eq h
    cases h2
    have h1:0≤b:=of_decide_eq_true h1
    have hr:=fitC_rep ρ k (shrI k a b)
    have hin:inK k (shrI k a b):=fdiv_in ha _
    rw [wrap_in hin] at hr
    exact ⟨.int k (shrI k a b),by simp [binOp,Op.shift,shrI,Int.not_lt.2 h1],hr⟩
theorem guard_eq {op:BinOp} {t:Nat} (x y:Operand) {u1 u2:Value} (h:op≠.eql∧op≠.neq∨(∃k n k' m,u1= .int k n∧u2= .int k' m)∨(∃a b,u1= .bool a∧u2= .bool b)∨(∃a b,u1= .string a∧u2= .string b)):(eqGuard op t x y u1 u2).run P w= .ok () w:=by
  rcases h with ⟨h1,h2⟩|⟨k,n,k',m,rfl,rfl⟩|⟨a,b,rfl,rfl⟩|⟨a,b,rfl,rfl⟩
  · cases op<;>first|rfl|exact absurd rfl h1|exact absurd rfl h2
  · cases op<;>rfl
  · cases op<;>rfl
  · cases op<;>rfl
theorem eqN_iff:∀{a b:List Nat},eqN a b=true↔a=b
  |[],[]=>by simp [eqN]
  |[],_::_=>by simp [eqN]
  |_::_,[]=>by simp [eqN]
  |a::l,b::m=>by
   simp only [eqN]
   cases h:Nat.beq a b with
   |true=>obtain rfl:=beq_iff'.1 h;simp [eqN_iff (a:=l)]
   |false=>have:=beq_false h;simp [this]
theorem ofNat_inj {a b:Nat} (ha:a<256) (hb:b<256) (h:UInt8.ofNat a=UInt8.ofNat b):a=b:=by
  have:=congrArg UInt8.toNat h
  simp only [UInt8.toNat_ofNat'] at this
  omega
theorem bytesV_inj:∀{a b:List Nat},(∀x∈a,x<256)→(∀x∈b,x<256)→a.map UInt8.ofNat=b.map UInt8.ofNat→a=b
  |[],[],_,_,_=>rfl
  |[],_::_,_,_,h=>by simp at h
  |_::_,[],_,_,h=>by simp at h
  |a::l,b::m,ha,hb,h=>by
   simp only [List.map_cons,List.cons.injEq] at h
   rw [ofNat_inj (ha a (by simp)) (hb b (by simp)) h.1,bytesV_inj (fun x hx=>ha x (List.mem_cons_of_mem _ hx)) (fun x hx=>hb x (List.mem_cons_of_mem _ hx)) h.2]
theorem bytes_eq {a b:List Nat} (ha:∀x∈a,x<256) (hb:∀x∈b,x<256):((bytesV a).toList==(bytesV b).toList)=eqN a b:=by
  rw [ByteArray.toList_eq,ByteArray.toList_eq,Bool.eq_iff_iff,eqN_iff,beq_iff_eq]
  constructor
  · intro h
    exact bytesV_inj ha hb (by simpa [bytesV] using h)
  · rintro rfl;rfl
theorem eqOp_rep {op:BinOp} {b:Bool} {r:CC} (h:eqOp op b=some r):(op= .eql∧r= .bool b)∨(op= .neq∧r= .bool (!b)):=by
  cases op<;>simp [eqOp] at h
  · exact .inl ⟨rfl,h.symm⟩
  · exact .inr ⟨rfl,by rw [←h,notB_eq]⟩
theorem bool_row (hty:TyOk P E.TY) {t:Nat} (h:boolT E.TY t=true):P.underlying t=some .bool:=by
  unfold boolT at h
  split at h
  · rename_i hd
    obtain ⟨u,h1,h2,_⟩:=(hty.at (t:=t) (.inr (by rw [hd];simp))).under
    rw [hd] at h2
    cases u<;>first|exact h1|exact h2.elim
  · cases h
theorem sliceT_row (hty:TyOk P E.TY) {t:Nat} (h:sliceT E.TY t=true):∃e,P.underlying t=some (.slice e):=by
  unfold sliceT at h
  split at h
  · rename_i e hd;exact ⟨e,slice_row hty hd⟩
  · cases h
theorem mapT_row (hty:TyOk P E.TY) {t:Nat} (h:isMapT (E.d t)=true):∃k e,P.underlying t=some (.map k e):=by
  cases hd:E.d t with
  |map k e=>
   have hd:(nthT E.TY t).d= .map k e:=hd
   obtain ⟨_,u,_,h1,_,_,h2,_⟩:=(hty.at (t:=t) (.inr (by rw [hd];simp))).row
   rw [hd] at h2
   cases u<;>first|exact ⟨_,_,h1⟩|exact h2.elim
  |_=>rw [hd] at h;cases h
theorem eqCT_ok (hty:TyOk P E.TY) {t d:Nat} {a b:CW} {u u':Value} {r:Bool} (h:eqCT (E.d t) a b=some r) (ha:RpW ρ a u) (hb:RpW ρ b u'):(Op.equalIn (d+1) t u u').run P w= .ok r w:=by
  cases a with
  |a l=>cases h
  |c x=>
   cases b with
   |a l=>cases h
   |c y=>
    have und:E.d t≠.other→∃u,P.underlying t=some u∧descOK (nthT E.TY t).d u:=fun hne=>by
      obtain ⟨_,u,_,h1,_,_,h2,_⟩:=(hty.at (t:=t) (.inr hne)).row
      exact ⟨u,h1,h2⟩
    simp only [eqCT] at h
    split at h
    · rename_i k hdt
      obtain ⟨v,h1,h2⟩:=und (by rw [hdt];simp)
      have hdt:(nthT E.TY t).d= .int k:=hdt
      rw [hdt] at h2
      cases v<;>try exact h2.elim
      cases x<;>simp only [reduceCtorEq] at h
      cases y<;>simp only [reduceCtorEq] at h
      rename_i k1 n k2 m
      obtain ⟨h3,h4⟩:=bt_eq h
      obtain rfl:=kq_eq h3
      obtain rfl:(n==m)=r:=Option.some.inj h4
      obtain ⟨rfl,_⟩:=ha
      obtain ⟨rfl,_⟩:=hb
      exact run_equalIn_int w d t _ _ _ _ h1
    · rename_i hdt
      obtain ⟨v,h1,h2⟩:=und (by rw [hdt];simp)
      have hdt:(nthT E.TY t).d= .bool:=hdt
      rw [hdt] at h2
      cases v<;>try exact h2.elim
      cases x<;>simp only [reduceCtorEq] at h
      cases y<;>simp only [reduceCtorEq] at h
      cases h
      have ha:u= .bool _:=ha
      have hb:u'= .bool _:=hb
      subst ha;subst hb
      exact run_equalIn_bool' w d t _ _ h1
    · rename_i hdt
      obtain ⟨v,h1,h2⟩:=und (by rw [hdt];simp)
      have hdt:(nthT E.TY t).d= .str:=hdt
      rw [hdt] at h2
      cases v<;>try exact h2.elim
      cases x<;>simp only [reduceCtorEq] at h
      cases y<;>simp only [reduceCtorEq] at h
      cases h
      obtain ⟨rfl,g1⟩:=ha
      obtain ⟨rfl,g2⟩:=hb
      rw [run_equalIn_string w d t _ _ h1,bytes_eq g1 g2]
    · cases h
theorem eqF_ok (hty:TyOk P E.TY) {xs ys:Array Value} {d:Nat}:∀{fl:List Field} {l m:List CC} {r:Bool},eqF E (fl.map fun f=>(f.offset,f.type)) l m=some r→(∀f∈fl,f.name≠ "_")→RpL ρ l xs.toList→RpL ρ m ys.toList→(Op.eqFields (d+1) xs ys fl).run P w= .ok r w
  |[],l,m,r,h,_,_,_=>by cases h;simp [Op.eqFields]
  |f::fl,l,m,r,h,hn,hl,hm=>by
   obtain ⟨a,h1,h⟩:=bo_eq h
   obtain ⟨b,h2,h⟩:=bo_eq h
   obtain ⟨e,h3,h⟩:=bo_eq h
   obtain ⟨u,g1,g2⟩:=part_ok (w:=w) hty hl h1
   obtain ⟨u',g3,g4⟩:=part_ok (w:=w) hty hm h2
   have g5:=eqCT_ok (w:=w) (d:=d) hty h3 g2 g4
   have hf:=hn f (by simp)
   cases e with
   |false=>
    cases h
    simp [Op.eqFields,hf,g1,g3,g5]
   |true=>
    have ih:=eqF_ok (d:=d) hty h (fun g hg=>hn g (List.mem_cons_of_mem _ hg)) hl hm
    simp [Op.eqFields,hf,g1,g3,g5,ih]
theorem bin_ok (hty:TyOk P E.TY) (heqs:EqOk P E.eqs) {op:BinOp} {t ty:Nat} {x y:Operand} (h:evBin E T op t x y s=some (v,s')) (ho:oo.op= .binOp op t x y ty) (hd:Hd ρ s.H.get s.nx w) (he:∀x∈oo.op.operands,RpV ρ (evO T x) (e x)):Res P e oo ρ s s' w v:=by
  rw [ho] at he
  unfold evBin at h
  split at h
  · rename_i l hl
    obtain ⟨h1,h⟩:=bt_eq h
    obtain ⟨m,h2,h⟩:=bo_eq h
    obtain ⟨hs,hg,hnm⟩:=heqs t h1
    split at h
    · rename_i fs hdt
      obtain ⟨r,h3,h⟩:=bo_eq h
      obtain ⟨c,h4,rfl,rfl⟩:=ok1_eq h
      obtain ⟨F,hu,hfs⟩:=struct_row hty hdt
      have hF:P.fieldsOf t=F:=by simp [Program.fieldsOf,hu]
      obtain ⟨xs,e1,g1⟩:=asA_rep hl (he x (by simp [Op.operands]))
      obtain ⟨ys,e2,g2⟩:=asA_rep h2 (he y (by simp [Op.operands]))
      rw [hF] at hnm
      rw [hfs] at h3
      have g3:=eqF_ok (w:=w) (d:=9998) hty h3 hnm g1 g2
      have g4:(Op.equalIn 10000 t (.agg xs) (.agg ys)).run P w= .ok r w:=by
        rw [run_equalIn_struct w 9999 t xs ys (by rw [hF];exact hu) hs,hF];exact g3
      have fin:∀u,(binOp op t (.agg xs) (.agg ys)).run P w= .ok u w→RpC ρ c u→Res P e oo ρ s s w (.c c):=fun u k1 k2=>by
        refine res_pure hd (u:=u) ?_ k2
        simp only [execOp,ho]
        rw [Sem.run_bind,Sem.run_bind,e1,e2,run_eqGuard_agg w op t x y xs ys hg]
        show Result.andThen ((binOp op t (.agg xs) (.agg ys)).run P w) _=_
        rw [k1];rfl
      rcases eqOp_rep h4 with ⟨rfl,rfl⟩|⟨rfl,rfl⟩
      · exact fin (.bool r) (by rw [run_eql_struct,g4];rfl) rfl
      · exact fin (.bool (!r)) (by rw [run_neq_struct,g4];rfl) rfl
    · cases h
  obtain ⟨a,h1,h⟩:=bo_eq h
  obtain ⟨b,h2,h⟩:=bo_eq h
  obtain ⟨r,h3,rfl,rfl⟩:=ok1_eq h
  have ha:=asC_rep h1 (he x (by simp [Op.operands]))
  have hb:=asC_rep h2 (he y (by simp [Op.operands]))
  have fin:∀u,(eqGuard op t x y (e x) (e y)).run P w= .ok () w→(binOp op t (e x) (e y)).run P w= .ok u w→RpC ρ r u→Res P e oo ρ s s w (.c r):=fun u g1 g2 g3=>by
    refine res_pure hd (u:=u) ?_ g3
    simp only [execOp,ho]
    rw [Sem.run_bind,Sem.run_bind,g1]
    show Result.andThen ((binOp op t (e x) (e y)).run P w) _=_
    rw [g2];rfl
  cases a with
  |int k a=>
   cases b with
   |int k' b=>
    obtain ⟨e1,hka⟩:=ha
    obtain ⟨e2,hkb⟩:=hb
    obtain ⟨u,g1,g2⟩:=binJ_ok (P:=P) (w:=w) (ρ:=ρ) (t:=t) h3 hka hkb
    rw [e1,e2] at fin
    exact fin u (guard_eq x y (.inr (.inl ⟨_,_,_,_,rfl,rfl⟩))) g1 g2
   |_=>cases h3
  |bool a=>
   cases b with
   |bool b=>
    obtain ⟨g1,g2⟩:=bt_eq h3
    have hu:=bool_row hty g1
    have e1:e x= .bool a:=ha
    have e2:e y= .bool b:=hb
    rw [e1,e2] at fin
    rcases eqOp_rep g2 with ⟨rfl,rfl⟩|⟨rfl,rfl⟩
    · exact fin (.bool (a==b)) (guard_eq x y (.inr (.inr (.inl ⟨_,_,rfl,rfl⟩)))) (by simp [binOp,Go.AM.run_equal_bool hu]) rfl
    · exact fin (.bool (!(a==b))) (guard_eq x y (.inr (.inr (.inl ⟨_,_,rfl,rfl⟩)))) (by simp [binOp,Go.AM.run_equal_bool hu]) rfl
   |_=>cases h3
  |str a=>
   cases b with
   |str b=>
    have h3:eqOp op (eqN a b)=some r:=h3
    obtain ⟨e1,hka⟩:=ha
    obtain ⟨e2,hkb⟩:=hb
    rw [e1,e2] at fin
    rcases eqOp_rep h3 with ⟨rfl,rfl⟩|⟨rfl,rfl⟩
    · exact fin (.bool (eqN a b)) (guard_eq x y (.inr (.inr (.inr ⟨_,_,rfl,rfl⟩)))) (by simp [binOp,Op.stringOp,bytes_eq hka hkb]) rfl
    · exact fin (.bool (!(eqN a b))) (guard_eq x y (.inr (.inr (.inr ⟨_,_,rfl,rfl⟩)))) (by simp [binOp,Op.stringOp,bytes_eq hka hkb]) rfl
   |_=>cases h3
  |sl k off len cap=>
   obtain ⟨g0,h3⟩:=bt_eq h3
   obtain ⟨g1,g2⟩:=bt_eq h3
   cases b<;>simp [isNils] at g0
   obtain ⟨el,hu⟩:=sliceT_row hty g1
   obtain ⟨bb,c,n,_,_,e1,_⟩:=ha
   have e2:e y= .slice none 0 0:=hb
   rw [e1,e2] at fin
   have heq:(Op.equal t (.slice (some ⟨bb,off,none⟩) len n) (.slice none 0 0)).run P w= .ok false w:=by
     have h:∀n',(Op.equalIn (n'+1) t (.slice (some ⟨bb,off,none⟩) len n) (.slice none 0 0)).run P w= .ok false w:=fun n'=>by simp [Op.equalIn,underlying,hu]
     exact h 9999
   rcases eqOp_rep g2 with ⟨rfl,rfl⟩|⟨rfl,rfl⟩
   · exact fin (.bool false) (by rfl) (by simp [binOp,heq]) rfl
   · exact fin (.bool true) (by rfl) (by simp [binOp,heq]) rfl
  |nils=>
   obtain ⟨g0,h3⟩:=bt_eq h3
   obtain ⟨g1,g2⟩:=bt_eq h3
   cases b<;>simp [isNils] at g0
   obtain ⟨el,hu⟩:=sliceT_row hty g1
   have e1:e x= .slice none 0 0:=ha
   have e2:e y= .slice none 0 0:=hb
   rw [e1,e2] at fin
   have heq:(Op.equal t (.slice none 0 0) (.slice none 0 0)).run P w= .ok true w:=by
     have h:∀n',(Op.equalIn (n'+1) t (.slice none 0 0) (.slice none 0 0)).run P w= .ok true w:=fun n'=>by simp [Op.equalIn,underlying,hu]
     exact h 9999
   rcases eqOp_rep g2 with ⟨rfl,rfl⟩|⟨rfl,rfl⟩
   · exact fin (.bool true) (by rfl) (by simp [binOp,heq]) rfl
   · exact fin (.bool false) (by rfl) (by simp [binOp,heq]) rfl
  |mp k=>
   obtain ⟨g0,h3⟩:=bt_eq h3
   obtain ⟨g1,g2⟩:=bt_eq h3
   cases b<;>simp [isNilm] at g0
   obtain ⟨ke,el,hu⟩:=mapT_row hty g1
   obtain ⟨bb,c,_,e1⟩:=ha
   have e2:e y= .map none:=hb
   rw [e1,e2] at fin
   have heq:(Op.equal t (.map (some bb)) (.map none)).run P w= .ok false w:=by
     have h:∀n',(Op.equalIn (n'+1) t (.map (some bb)) (.map none)).run P w= .ok false w:=fun n'=>by simp [Op.equalIn,underlying,hu]
     exact h 9999
   rcases eqOp_rep g2 with ⟨rfl,rfl⟩|⟨rfl,rfl⟩
   · exact fin (.bool false) (by rfl) (by simp [binOp,heq]) rfl
   · exact fin (.bool true) (by rfl) (by simp [binOp,heq]) rfl
  |nilm=>
   obtain ⟨g0,h3⟩:=bt_eq h3
   obtain ⟨g1,g2⟩:=bt_eq h3
   cases b<;>simp [isNilm] at g0
   obtain ⟨ke,el,hu⟩:=mapT_row hty g1
   have e1:e x= .map none:=ha
   have e2:e y= .map none:=hb
   rw [e1,e2] at fin
   have heq:(Op.equal t (.map none) (.map none)).run P w= .ok true w:=by
     have h:∀n',(Op.equalIn (n'+1) t (.map none) (.map none)).run P w= .ok true w:=fun n'=>by simp [Op.equalIn,underlying,hu]
     exact h 9999
   rcases eqOp_rep g2 with ⟨rfl,rfl⟩|⟨rfl,rfl⟩
   · exact fin (.bool true) (by rfl) (by simp [binOp,heq]) rfl
   · exact fin (.bool false) (by rfl) (by simp [binOp,heq]) rfl
  |_=>cases h3
theorem un_ok {op:UnOp} {t:Nat} {x:Operand} (h:evUn T op x s=some (v,s')) (ho:oo.op= .unOp op t x) (hd:Hd ρ s.H.get s.nx w) (he:∀x∈oo.op.operands,RpV ρ (evO T x) (e x)):Res P e oo ρ s s' w v:=by
  rw [ho] at he
  cases op with
  |not=>
   obtain ⟨b,h1,h2⟩:=bo_eq h
   cases h2
   have hx:=asB_rep h1 (he x (by simp [Op.operands]))
   exact res_pure hd (u:=.bool (!b)) (by simp [execOp,ho,hx,Op.unary]) (by show Value.bool _= .bool (notB b);rw [notB_eq])
  |neg=>
   obtain ⟨p,h1,h2⟩:=bo_eq h
   cases h2
   have hx:=(asI_rep h1 (he x (by simp [Op.operands]))).1
   exact res_pure hd (u:=.int p.1 (p.1.wrap (0 - p.2))) (by simp [execOp,ho,hx,Op.unary,Op.intArith]) (fitC_rep _ _ _)
  |_=>cases h
theorem move_ok {x:Operand} (ho:oo.op= .move x∨oo.op= .assign x) (hd:Hd ρ s.H.get s.nx w) (he:∀x∈oo.op.operands,RpV ρ (evO T x) (e x)):Res P e oo ρ s s w (evO T x):=by
  rcases ho with ho|ho
  · rw [ho] at he;exact res_pure hd (u:=e x) (by simp [execOp,ho]) (he x (by simp [Op.operands]))
  · rw [ho] at he;exact res_pure hd (u:=e x) (by simp [execOp,ho]) (he x (by simp [Op.operands]))
theorem nil_ok {x:Operand} (h:evNil T x s=some (v,s')) (ho:oo.op= .nilCheck x) (hd:Hd ρ s.H.get s.nx w) (he:∀x∈oo.op.operands,RpV ρ (evO T x) (e x)):Res P e oo ρ s s' w v:=by
  rw [ho] at he
  have hx:=he x (by simp [Op.operands])
  unfold evNil at h
  generalize hv:evO T x=y at h hx
  cases y with
  |c c=>
   cases c<;>simp at h
   · obtain ⟨rfl,rfl⟩:=h
     have h2:=hx
     obtain ⟨b,c,_,h1⟩:=hx
     exact res_pure hd (u:=e x) (by simp [execOp,ho,h1]) h2
   · obtain ⟨rfl,rfl⟩:=h
     have h2:e x= .func (.func _) #[] #[]:=hx
     exact res_pure hd (u:=e x) (by simp [execOp,ho,h2]) hx
  |clo f l=>
   simp at h
   obtain ⟨rfl,rfl⟩:=h
   have h2:=hx
   obtain ⟨cs,h1,_⟩:=hx
   exact res_pure hd (u:=e x) (by simp [execOp,ho,h1]) h2
  |_=>cases h
theorem RpWs.get:∀{l:List CW} {m:List Value} {i:Nat} {x:CW},RpWs ρ l m→l[i]? =some x→∃u,m[i]? =some u∧RpW ρ x u
  |a::l,v::m,0,x,h,e=>by cases e;exact ⟨v,rfl,h.1⟩
  |a::l,v::m,i+1,x,h,e=>by obtain ⟨u,h1,h2⟩:=RpWs.get (i:=i) h.2 (by simpa using e);exact ⟨u,by simpa using h1,h2⟩
  |[],_,_,_,_,e=>by simp at e
  |_::_,[],_,_,h,_=>h.elim
theorem extract_ok {x:Operand} {i:Nat} (h:evExtract T x i s=some (v,s')) (ho:oo.op= .extract x i) (hd:Hd ρ s.H.get s.nx w) (he:∀x∈oo.op.operands,RpV ρ (evO T x) (e x)):Res P e oo ρ s s' w v:=by
  rw [ho] at he
  obtain ⟨l,h1,h⟩:=bo_eq h
  obtain ⟨y,h2,rfl,rfl⟩:=okW_eq h
  obtain ⟨cs,h3,h4⟩:=asT_rep h1 (he x (by simp [Op.operands]))
  obtain ⟨u,h5,h6⟩:=h4.get h2
  rw [Array.getElem?_toList] at h5
  exact res_pure hd (u:=u) (by simp [execOp,ho,h3,Instr.extract,h5]) (ofW_rep h6)
theorem caps_rep:∀{l:List Operand} {m:List CC},evCs T l=some m→(∀x∈l,RpV ρ (evO T x) (e x))→RpL ρ m (l.map e)
  |[],m,h,_=>by cases h;trivial
  |x::l,m,h,he=>by
   obtain ⟨a,h1,h⟩:=bo_eq h
   obtain ⟨r,h2,h⟩:=bo_eq h
   cases h
   exact ⟨asC_rep h1 (he x (by simp)),caps_rep h2 fun y hy=>he y (List.mem_cons_of_mem _ hy)⟩
theorem fun_ok {fn:Fn} {first cap:Array Operand} (h:evFun T fn first.toList cap.toList s=some (v,s')) (ho:oo.op= .makeFunc fn first cap) (hd:Hd ρ s.H.get s.nx w) (he:∀x∈oo.op.operands,RpV ρ (evO T x) (e x)):Res P e oo ρ s s' w v:=by
  rw [ho] at he
  cases fn with
  |func f=>
   simp only [evFun] at h
   split at h
   case h_2=>cases h
   rename_i hf
   have hf':first= #[]:=by simpa using congrArg List.toArray hf
   subst hf'
   obtain ⟨l,h1,h⟩:=bo_eq h
   have hl:=caps_rep (e:=e) h1 fun x hx=>he x (by simp [Op.operands];exact Array.mem_toList_iff.1 hx)
   have hrun:(execOp e oo).run P w= .ok (.value (.func (.func f) #[] (cap.map e))) w:=by simp [execOp,ho,Instr.makeFunc]
   cases l with
   |nil=>
    cases h
    have:cap.map e= #[]:=by
      have:=hl.len
      simp at this
      simp [this]
    rw [this] at hrun
    exact res_pure hd hrun rfl
   |cons a l=>
    cases h
    exact res_pure hd hrun ⟨_,rfl,by rw [Array.toList_map];exact hl⟩
  |_=>cases h
theorem load_ok (hty:TyOk P E.TY) {t:Nat} {x:Operand} (h:evLoad E T t x s=some (v,s')) (ho:oo.op= .load t x) (hd:Hd ρ s.H.get s.nx w) (he:∀x∈oo.op.operands,RpV ρ (evO T x) (e x)):Res P e oo ρ s s' w v:=by
  rw [ho] at he
  obtain ⟨p,h1,h⟩:=bo_eq h
  obtain ⟨q,h2,h⟩:=bo_eq h
  obtain ⟨y,h3,rfl,rfl⟩:=okW_eq h
  obtain ⟨b,c,h4,h5⟩:=asP_rep h1 (he x (by simp [Op.operands]))
  obtain ⟨cs,ty,h6,_,_,h7⟩:=cells_at hd (cellsH_eq h2) h4
  obtain ⟨u,h8,h9⟩:=read_ok hty h7 h6 h3
  exact res_pure hd (u:=u) (by simp [execOp,ho,h5,h8]) (ofW_rep h9)
theorem store_ok (hty:TyOk P E.TY) {t:Nat} {x y:Operand} (h:evStore E T t x y s=some (v,s')) (ho:oo.op= .store t x y) (hd:Hd ρ s.H.get s.nx w) (he:∀x∈oo.op.operands,RpV ρ (evO T x) (e x)):Res P e oo ρ s s' w v:=by
  rw [ho] at he
  obtain ⟨p,h1,h⟩:=bo_eq h
  obtain ⟨m,h2,h⟩:=bo_eq h
  obtain ⟨q,h3,h⟩:=bo_eq h
  obtain ⟨l,h4,h⟩:=bo_eq h
  cases h
  obtain ⟨b,c,h5,h6⟩:=asP_rep h1 (he x (by simp [Op.operands]))
  obtain ⟨g1,g2,g3,g4⟩:=cellsT_ok h2 (he y (by simp [Op.operands]))
  obtain ⟨cs,ty,h7,h8,h9,h10⟩:=cells_at hd (cellsH_eq h3) h5
  obtain ⟨h11,h12⟩:=write_cells h8 h9 h10 g1 h4
  have hrow:=hty.at (t:=t) (by
    unfold cellsT at h2
    split at h2
    · rename_i ha;exact .inr fun e=>by unfold Ev.agg at ha;rw [e] at ha;cases ha
    · obtain ⟨_,_,h2⟩:=bo_eq h2
      obtain ⟨h2,_⟩:=bt_eq h2
      exact .inl (by have:(nthT E.TY t).sz=1:=beq_iff'.1 h2;omega))
  have hrun:=run_storeAt (P:=P) (TY:=E.TY) (w:=w) (o:=p.2) hrow g2 h7 (by rw [←Array.length_toList];omega) (fun j z hz=>g4 z (List.mem_of_getElem? (by rw [Array.getElem?_toList];exact hz)))
  rw [←Array.length_toList] at hrun
  have hexec:(execOp e oo).run P w= .ok .skip (w.setRow b (cs.toList.take p.2++(e y).cells.toList++cs.toList.drop (p.2+(e y).cells.toList.length)).toArray):=by
    simp only [execOp,ho,h6]
    rw [Sem.run_bind,hrun];rfl
  exact .inr (.inl ⟨_,hexec,ρ,Post.write hd (cellsH_eq h3) h5 (row_set h7) ⟨⟨rfl,rfl⟩,rfl,Nat.le_refl _⟩ h11,undef_rep ρ⟩)
end
end Go.CM
end
section
namespace Go.CM
open Go Go.AM
section
variable {P:Program} {E:Ev} {ρ:Rn} {s s':HS} {w:World} {T:Tm'} {e:Operand→Value} {oo:Oper} {v:CV}
theorem ob_closed {l:List CC} {cs:Array Value} (h:RpL ρ l cs.toList) (c:Nat) (ty:TypeId):ObH ρ c (.cells l none) (.cells cs ty (0,0)):=by
  have:=h.len
  rw [Array.length_toList] at this
  exact ⟨cs,ty,rfl,by omega,this,by rw [List.take_of_length_le (by rw [Array.length_toList];omega)];exact h⟩
theorem res_make {u:Value} {l:List CC} {cs:Array Value} {ty:TypeId} {w':World} (hd:Hd ρ s.H.get s.nx w) (hrun:(execOp e oo).run P w= .ok (.value u) w') (hw:w'.heap=w.heap.push (.cells cs ty (0,0))) (hio:IoS w w') (hl:RpL ρ l cs.toList)
    (hu:∀ρ',ρ' s.nx=some (w.heap.size,0)→RpV ρ' v u):Res P e oo ρ s (s.new (.cells l none)) w v:=by
  obtain ⟨ρ',h1,h2⟩:=Post.make (o:=.cells l none) 0 hd hw hio fun ρ' hx=>ob_closed (hl.ext hx) 0 ty
  exact .inl ⟨u,w',hrun,ρ',h1,hu ρ' h2⟩
theorem ob_closedT {l:List CC} {cs:Array Value} (h:RpL ρ l cs.toList) (c:Nat) (ty:TypeId):ObH ρ c (.cells l (some (0,ty))) (.cells cs ty (0,0)):=by
  have:=h.len
  rw [Array.length_toList] at this
  exact ⟨cs,ty,rfl,by omega,⟨rfl,fun _=>this,fun h=>absurd rfl h⟩,by rw [List.take_of_length_le (by rw [Array.length_toList];omega)];exact h⟩
theorem res_makeT {u:Value} {l:List CC} {cs:Array Value} {ty:TypeId} {w':World} (hd:Hd ρ s.H.get s.nx w) (hrun:(execOp e oo).run P w= .ok (.value u) w') (hw:w'.heap=w.heap.push (.cells cs ty (0,0))) (hio:IoS w w') (hl:RpL ρ l cs.toList)
    (hu:∀ρ',ρ' s.nx=some (w.heap.size,0)→RpV ρ' v u):Res P e oo ρ s (s.new (.cells l (some (0,ty)))) w v:=by
  obtain ⟨ρ',h1,h2⟩:=Post.make (o:=.cells l (some (0,ty))) 0 hd hw hio fun ρ' hx=>ob_closedT (hl.ext hx) 0 ty
  exact .inl ⟨u,w',hrun,ρ',h1,hu ρ' h2⟩
theorem alloc_ok (hz:ZOk P E.TY E.TZ) {t:Nat} (h:evAlloc E t s=some (v,s')) (ho:oo.op= .alloc t) (hd:Hd ρ s.H.get s.nx w):Res P e oo ρ s s' w v:=by
  unfold evAlloc at h
  generalize hl:E.z t=l at h
  cases l with
  |nil=>cases h
  |cons a l=>
   cases h
   obtain ⟨i,z,hi,hz1,hr,_⟩:=hz.row t (by show E.z t≠[];rw [hl];simp)
   have hzv:(zeroValue t).run P w= .ok z w:=by simp [zeroValue,typeInfo,hi,hz1]
   have hr:=hr ρ
   have hl':nthZ E.TZ t=a::l:=hl
   rw [hl'] at hr
   refine res_makeT hd (cs:=z.cells) (ty:=t) (w':={ w with heap:=w.heap.push (.cells z.cells t) }) ?_ rfl ⟨⟨rfl,rfl⟩,rfl,Nat.le_refl _⟩ hr fun ρ' h=>⟨_,_,h,rfl⟩
   simp [execOp,ho,Instr.alloc,hzv,newVar,newRow]
theorem box_ok {t:Nat} {x:Operand} (h:evBox E T t x s=some (v,s')) (ho:oo.op= .box t x) (hd:Hd ρ s.H.get s.nx w) (he:∀x∈oo.op.operands,RpV ρ (evO T x) (e x)):Res P e oo ρ s s' w v:=by
  rw [ho] at he
  obtain ⟨l,h1,h⟩:=bo_eq h
  cases h
  obtain ⟨g1,_⟩:=cellsT_ok h1 (he x (by simp [Op.operands]))
  refine res_make hd (cs:=(e x).cells) (ty:=t) (w':={ w with heap:=w.heap.push (.cells (e x).cells t) }) ?_ rfl ⟨⟨rfl,rfl⟩,rfl,Nat.le_refl _⟩ g1 fun ρ' h=>⟨_,_,h,rfl⟩
  simp [execOp,ho,Instr.box,newVar,newRow]
theorem fold_place {cells:Array Value} {u:Value} {off:Nat} {l m r:List CC} (hl:RpL ρ l cells.toList) (hm:RpL ρ m u.cells.toList) (hp:placeC l off m=some r):
    RpL ρ r (u.cells.zipIdx.foldl (fun cs (c,j)=>cs.setIfInBounds (off+j) c) cells).toList∧off+u.cells.size≤cells.size:=by
  obtain ⟨h1,h2,_⟩:=placeC_ok hp hl hm
  rw [Array.length_toList,Array.length_toList] at h2
  have hfold:=fold_set off u.cells.toList 0 cells (by simp;omega)
  have hstep:((u.cells.zipIdx.foldl (fun cs (c,j)=>cs.setIfInBounds (off+j) c) cells).toList)=cells.toList.take off++(u.cells.toList++cells.toList.drop (off+u.cells.toList.length)):=by
    rw [←Array.foldl_toList,Array.toList_zipIdx]
    simpa [←Array.length_toList] using hfold
  rw [hstep]
  exact ⟨h1,h2⟩
theorem fillS_ok {t:Nat} {place:Nat→Option (Nat × Nat)} (hp:∀i,place i=some (i*E.sz t,E.sz t)):∀{ps:List (Nat × Operand)} {l m:List CC} {cells:Array Value},fillS E T t ps l=some m→(∀i x,(i,x)∈ps→RpV ρ (evO T x) (e x))→RpL ρ l cells.toList→
    ∃cells',Instr.fill place cells (ps.map fun (i,x)=>(i,e x))=some cells'∧RpL ρ m cells'.toList
  |[],l,m,cells,h,_,hl=>by cases h;exact ⟨cells,rfl,hl⟩
  |(i,x)::ps,l,m,cells,h,he,hl=>by
   obtain ⟨a,h1,h⟩:=bo_eq h
   obtain ⟨l',h2,h⟩:=bo_eq h
   obtain ⟨g1,g2,g3,_⟩:=cellsT_ok h1 (he i x (by simp))
   obtain ⟨h3,h4⟩:=fold_place hl g1 h2
   obtain ⟨c',h5,h6⟩:=fillS_ok hp h (fun j y hy=>he j y (List.mem_cons_of_mem _ hy)) h3
   refine ⟨c',?_,h6⟩
   have h4:i*E.sz t+(e x).cells.size≤cells.size:=h4
   simp only [List.map_cons,Instr.fill,hp i]
   rw [if_neg]
   · exact h5
   · simp only [Bool.or_eq_true,decide_eq_true_eq,not_or,ne_eq,Decidable.not_not]
     exact ⟨g2,by omega⟩
theorem fillF_ok {fs:List (Nat × Nat)} {place:Nat→Option (Nat × Nat)} (hp:∀i o t,fieldOff fs i=some (o,t)→place i=some (o,E.sz t)):∀{ps:List (Nat × Operand)} {l m:List CC} {cells:Array Value},fillF E T fs ps l=some m→(∀i x,(i,x)∈ps→RpV ρ (evO T x) (e x))→RpL ρ l cells.toList→
    ∃cells',Instr.fill place cells (ps.map fun (i,x)=>(i,e x))=some cells'∧RpL ρ m cells'.toList
  |[],l,m,cells,h,_,hl=>by cases h;exact ⟨cells,rfl,hl⟩
  |(i,x)::ps,l,m,cells,h,he,hl=>by
   obtain ⟨⟨o,t⟩,h0,h⟩:=bo_eq h
   obtain ⟨a,h1,h⟩:=bo_eq h
   obtain ⟨l',h2,h⟩:=bo_eq h
   obtain ⟨g1,g2,g3,_⟩:=cellsT_ok h1 (he i x (by simp))
   obtain ⟨h3,h4⟩:=fold_place hl g1 h2
   obtain ⟨c',h5,h6⟩:=fillF_ok hp h (fun j y hy=>he j y (List.mem_cons_of_mem _ hy)) h3
   refine ⟨c',?_,h6⟩
   simp only [List.map_cons,Instr.fill,hp i o t h0]
   rw [if_neg]
   · exact h5
   · simp only [Bool.or_eq_true,decide_eq_true_eq,not_or,ne_eq,Decidable.not_not]
     exact ⟨g2,Nat.not_lt.2 h4⟩
theorem range_cells (zc:Array Value):(List.range zc.size).map (fun i=>zc[i]!)=zc.toList:=by
  apply List.ext_getElem?
  intro i
  by_cases h:i<zc.size
  · simp [h]
  · rw [List.getElem?_eq_none (by simp;omega),List.getElem?_eq_none (by simp;omega)]
theorem made_rep {z:List CC} {zc:Array Value} (hz:RpL ρ z zc.toList) (h0:0<zc.size):∀(n:Nat) {acc:List CC} {accv:List Value},RpL ρ acc accv→RpL ρ (repC z n acc) ((List.range (n*zc.size)).map (fun i=>zc[i % zc.size]!)++accv)
  |0,acc,accv,h=>by simpa [repC] using h
  |n+1,acc,accv,h=>by
   have ih:=made_rep hz h0 n (hz.app h)
   have e:(List.range ((n+1)*zc.size)).map (fun i=>zc[i % zc.size]!)=(List.range (n*zc.size)).map (fun i=>zc[i % zc.size]!)++zc.toList:=by
     rw [Nat.add_mul,Nat.one_mul,List.range_add,List.map_append,List.map_map]
     congr 1
     rw [←range_cells zc]
     apply List.map_congr_left
     intro i hi
     rw [List.mem_range] at hi
     show zc[(n*zc.size+i) % zc.size]! =zc[i]!
     rw [Nat.mul_comm,Nat.mul_add_mod,Nat.mod_eq_of_lt hi]
   rw [e,List.append_assoc]
   exact ih
theorem made_ok {z:List CC} {zc:Array Value} (hz:RpL ρ z zc.toList) (h0:0<zc.size) (n:Nat):RpL ρ (repC z n []) ((Array.range (n*zc.size)).map fun i=>zc[i % zc.size]!).toList:=by
  have:=made_rep hz h0 n (acc:=[]) (accv:=[]) trivial
  simpa using this
theorem elemT_eq {t el:Nat} (h:elemT E t=some el):(nthT E.TY t).d= .slice el:=by
  unfold elemT Ev.d at h
  split at h
  · rename_i hd;cases h;exact hd
  · cases h
theorem one_sz {t:Nat} (h:Nat.ble 1 (E.sz t)=true):(nthT E.TY t).sz≠0:=by
  have:=Nat.le_of_ble_eq_true h
  unfold Ev.sz at this;omega
theorem build_ok (hty:TyOk P E.TY) (hz:ZOk P E.TY E.TZ) {t:Nat} {ps:Array (Nat × Operand)} (h:evBuild E T t ps.toList s=some (v,s')) (ho:oo.op= .build t ps) (hd:Hd ρ s.H.get s.nx w) (he:∀x∈oo.op.operands,RpV ρ (evO T x) (e x)):Res P e oo ρ s s' w v:=by
  rw [ho] at he
  have hmem:∀i x,(i,x)∈ps.toList→RpV ρ (evO T x) (e x):=fun i x hx=>he x (by simp only [Op.operands,List.mem_toArray,List.mem_map];exact ⟨_,hx,rfl⟩)
  unfold evBuild at h
  generalize hl:E.z t=l at h
  cases l with
  |nil=>cases h
  |cons a l=>
   obtain ⟨i,z,hi,hz1,hr,_⟩:=hz.row t (by show E.z t≠[];rw [hl];simp)
   have hzv:(zeroValue t).run P w= .ok z w:=by simp [zeroValue,typeInfo,hi,hz1]
   have hr:=hr ρ
   have hl':nthZ E.TZ t=a::l:=hl
   rw [hl'] at hr
   simp only at h
   split at h
   · rename_i fs hdt
     obtain ⟨m,h1,h⟩:=bo_eq h
     cases h
     have hdt:(nthT E.TY t).d= .struct fs:=hdt
     obtain ⟨F',hu,hfs⟩:=struct_row hty hdt
     have key:∀(l:List Field),(∀f∈l,f.type<E.TY.length)→∀w,(l.mapM fun f=>Prod.mk f.offset<$>sizeOf f.type:Sem (List (Nat × Nat))).run P w= .ok (l.map fun f=>(f.offset,(nthT E.TY f.type).sz)) w:=by
       intro l
       induction l with
       |nil=>intro _ w;simp
       |cons f l ih=>
        intro hl w
        have hn:=(hty.row f.type (hl f (by simp))).size w
        simp [List.mapM_cons,hn,ih (fun g hg=>hl g (List.mem_cons_of_mem _ hg))]
     have hpl:∀w,(F'.mapM fun f=>Prod.mk f.offset<$>sizeOf f.type:Sem (Array (Nat × Nat))).run P w= .ok (F'.toList.map fun f=>(f.offset,(nthT E.TY f.type).sz)).toArray w:=by
       intro w
       have:=key F'.toList (fun f hf=>hty.closed t fs hdt (f.offset,f.type) (by rw [hfs];exact List.mem_map.2 ⟨f,hf,rfl⟩)) w
       have he:F'=F'.toList.toArray:=by simp
       rw [he,List.mapM_toArray]
       simp [this]
     have hplace:∀j o u,fieldOff fs j=some (o,u)→(F'.toList.map fun f=>(f.offset,(nthT E.TY f.type).sz)).toArray[j]? =some (o,E.sz u):=by
       intro j o u ho
       have:=fieldOff_get ho
       rw [hfs,List.getElem?_map] at this
       cases hg:F'.toList[j]? with
       |none=>rw [hg] at this;cases this
       |some f=>rw [hg] at this;cases this;simp only [List.getElem?_toArray,List.getElem?_map,hg];rfl
     obtain ⟨cells',h4,h5⟩:=fillF_ok (e:=e) (place:=fun j=>(F'.toList.map fun f=>(f.offset,(nthT E.TY f.type).sz)).toArray[j]?) hplace h1 hmem hr
     refine res_pure hd (u:=.agg cells') ?_ ⟨cells',rfl,h5⟩
     have hub:(underlying t).run P w= .ok (.struct F') w:=by simp [underlying,hu]
     simp only [List.getElem?_toArray,List.getElem?_map,Array.getElem?_toList] at h4
     simp [execOp,ho,Instr.build,hzv,hub,hpl]
     rw [h4]
     rfl
   · rename_i n el hdt
     obtain ⟨h0,h⟩:=bt_eq h
     obtain ⟨m,h1,h⟩:=bo_eq h
     cases h
     have hdt:(nthT E.TY t).d= .arr n el:=hdt
     have hu:=arr_row hty hdt
     have hrow':=hty.at (t:=el) (.inl (one_sz h0))
     obtain ⟨cells',h4,h5⟩:=fillS_ok (e:=e) (place:=fun i=>some (i*E.sz el,E.sz el)) (fun i=>rfl) h1 hmem hr
     refine res_pure hd (u:=.agg cells') ?_ ⟨cells',rfl,h5⟩
     have hub:(underlying t).run P w= .ok (.array n el) w:=by simp [underlying,hu]
     have h4:Instr.fill (fun i=>some (i*(nthT E.TY el).sz,(nthT E.TY el).sz)) z.cells (ps.toList.map fun (i,x)=>(i,e x))=some cells':=h4
     simp [execOp,ho,Instr.build,hzv,hub,hrow'.size,h4]
   · cases h
theorem zero_row (hz:ZOk P E.TY E.TZ) (hty:TyOk P E.TY) {el:Nat} (h1:lenC (E.z el) (E.sz el)=true) (h2:Nat.ble 1 (E.sz el)=true):∃i z,P.info? el=some i∧i.zero=some z∧i.size=E.sz el∧i.bytes=(nthT E.TY el).bytes∧z.cells.size=E.sz el∧(∀ρ,RpL ρ (E.z el) z.cells.toList):=by
  have h3:=lenC_eq h1
  have h4:=Nat.le_of_ble_eq_true h2
  obtain ⟨i,z,hi,hz1,hr,_⟩:=hz.row el (by show E.z el≠[];intro e;rw [e] at h3;simp at h3;omega)
  obtain ⟨i',u,hi',_,h5,h6,_⟩:=(hty.at (t:=el) (.inl (one_sz h2))).row
  rw [hi] at hi';cases hi'
  refine ⟨i,z,hi,hz1,h5,h6,?_,hr⟩
  have:=(hr (fun _=>none)).len
  rw [Array.length_toList] at this
  rw [this];exact h3
theorem buildS_ok (hty:TyOk P E.TY) (hz:ZOk P E.TY E.TZ) {t n:Nat} {ps:Array (Nat × Operand)} (h:evBuildS E T t n ps.toList s=some (v,s')) (ho:oo.op= .buildSlice t n ps) (hd:Hd ρ s.H.get s.nx w) (he:∀x∈oo.op.operands,RpV ρ (evO T x) (e x)):Res P e oo ρ s s' w v:=by
  rw [ho] at he
  have hmem:∀i x,(i,x)∈ps.toList→RpV ρ (evO T x) (e x):=fun i x hx=>he x (by simp only [Op.operands,List.mem_toArray,List.mem_map];exact ⟨_,hx,rfl⟩)
  obtain ⟨el,h1,h⟩:=bo_eq h
  obtain ⟨h2,h⟩:=bt_eq h
  obtain ⟨h3,h⟩:=bt_eq h
  obtain ⟨h4,h⟩:=bt_eq h
  obtain ⟨l,h5,h⟩:=bo_eq h
  cases h
  obtain ⟨i,z,hi,hz1,hsz,_,hzs,hr⟩:=zero_row hz hty h2 h3
  have hu:=slice_row hty (elemT_eq h1)
  have hrow:=hty.at (t:=el) (.inl (one_sz h3))
  have h30:=Nat.le_of_ble_eq_true h3
  have h40:=Nat.le_of_ble_eq_true h4
  have hm:=made_ok (hr ρ) (by omega) n
  rw [hzs] at hm
  obtain ⟨cells',h6,h7⟩:=fillS_ok (e:=e) (place:=fun i=>some (i*E.sz el,E.sz el)) (fun i=>rfl) h5 hmem hm
  have hub:(underlying t).run P w= .ok (.slice el) w:=by simp [underlying,hu]
  have hsv:(sizeOf el).run P w= .ok (E.sz el) w:=hrow.size w
  have hzv:(zeroValue el).run P w= .ok z w:=by simp [zeroValue,typeInfo,hi,hz1]
  have hn0:¬(2 ^ 24<n*E.sz el):=by omega
  have hcells:((Array.range (n*E.sz el)).map fun j=>((if n*E.sz el=0 then #[] else z.cells):Array Value)[j % ((if n*E.sz el=0 then #[] else z.cells):Array Value).size]!)=(Array.range (n*E.sz el)).map fun j=>z.cells[j % E.sz el]! :=by
    by_cases h0:n*E.sz el=0
    · rw [h0];simp
    · rw [if_neg h0,hzs]
  refine res_make hd (l:=l) (u:=.slice (some ⟨w.heap.size,0,none⟩) n n) (cs:=cells') (ty:=el) (w':={ w with heap:=w.heap.push (.cells cells' el) }) ?_ rfl ⟨⟨rfl,rfl⟩,rfl,Nat.le_refl _⟩ h7 fun ρ' h=>⟨_,_,_,h,Nat.le_refl _,rfl,rfl⟩
  have h6:Instr.fill (fun i=>some (i*E.sz el,E.sz el)) ((Array.range (n*E.sz el)).map fun j=>((if n*E.sz el=0 then #[] else z.cells):Array Value)[j % ((if n*E.sz el=0 then #[] else z.cells):Array Value).size]!) (ps.toList.map fun (i,x)=>(i,e x))=some cells':=by rw [hcells];exact h6
  by_cases h0:n*E.sz el=0
  · rw [if_pos h0] at h6
    simp [execOp,ho,Instr.buildSlice,hub,hsv,h0] at h6 ⊢
    simp [h6,newRow]
  · rw [if_neg h0] at h6
    have h00:¬(n=0∨E.sz el=0):=by rw [←Nat.mul_eq_zero];exact h0
    simp [execOp,ho,Instr.buildSlice,hub,hsv,hn0,h0,hzv,h6,newRow]
theorem make_ok (hty:TyOk P E.TY) (hz:ZOk P E.TY E.TZ) {t:Nat} {l c:Operand} (h:evMake E T t l c s=some (v,s')) (ho:oo.op= .makeSlice t l c) (hd:Hd ρ s.H.get s.nx w) (he:∀x∈oo.op.operands,RpV ρ (evO T x) (e x)):Res P e oo ρ s s' w v:=by
  rw [ho] at he
  obtain ⟨el,h1,h⟩:=bo_eq h
  obtain ⟨ln,h2,h⟩:=bo_eq h
  obtain ⟨cn,h3,h⟩:=bo_eq h
  obtain ⟨h4,h⟩:=bt_eq h
  obtain ⟨h5,h⟩:=bt_eq h
  obtain ⟨h6,h⟩:=bt_eq h
  obtain ⟨h7,h⟩:=bt_eq h
  obtain ⟨h8,h⟩:=bt_eq h
  cases h
  obtain ⟨kl,e1,_⟩:=asN_rep h2 (he l (by simp [Op.operands]))
  obtain ⟨kc,e2,_⟩:=asN_rep h3 (he c (by simp [Op.operands]))
  obtain ⟨i,z,hi,hz1,hsz,hby,hzs,hr⟩:=zero_row hz hty h4 h5
  have hu:=slice_row hty (elemT_eq h1)
  have h50:=Nat.le_of_ble_eq_true h5
  have h60:=Nat.le_of_ble_eq_true h6
  have h70:=Nat.le_of_ble_eq_true h7
  have h80:=Nat.le_of_ble_eq_true h8
  have hmul:i.bytes*cn≤1000000*1000000:=Nat.mul_le_mul (by rw [hby];exact h80) h70
  have hrun:=run_make (P:=P) w t el i z hu hi hz1 kl kc (ln:Int) (cn:Int) (by omega) (by omega) (by have:((i.bytes*cn:Nat):Int)≤((1000000*1000000:Nat):Int):=Int.ofNat_le.2 hmul;rw [Int.natCast_mul] at this;omega) (by omega)
  simp only [Int.toNat_natCast] at hrun
  have hm:=made_ok (hr ρ) (by omega) cn
  rw [hzs] at hm
  refine res_make hd (l:=repC (E.z el) cn []) (u:=.slice (some ⟨w.heap.size,0,none⟩) ln cn) (cs:=madeCells z.cells (cn*i.size)) (ty:=el) (w':=w.alloc (.cells (madeCells z.cells (cn*i.size)) el)) ?_ rfl ⟨⟨rfl,rfl⟩,rfl,Nat.le_refl _⟩ ?_ fun ρ' h=>⟨_,_,_,h,h60,rfl,rfl⟩
  · simp [execOp,ho,e1,e2,hrun]
  · rw [hsz]
    unfold madeCells
    rw [hzs];exact hm
theorem opt_rep {x:Option Operand} {r:Option Nat} (h:optN T x=some r) (he:∀y,x=some y→RpV ρ (evO T y) (e y)):(x=none∧r=none)∨∃y n k,x=some y∧r=some n∧e y= .int k n∧inK k n:=by
  cases x with
  |none=>cases h;exact .inl ⟨rfl,rfl⟩
  |some y=>
   obtain ⟨n,h1,h2⟩:=bo_eq h
   cases h2
   obtain ⟨k,h3,h4⟩:=asN_rep h1 (he y rfl)
   exact .inr ⟨y,n,k,rfl,rfl,h3,h4⟩
theorem bound_ok {k:IntKind} {n y:Nat} (code:BoundsCode) (h:n≤y):(Instr.sliceBound (.int k (n:Int)) y code).run P w= .ok n w:=by
  simp [Instr.sliceBound,asIntOf,h]
theorem addr_add0 (b off n:Nat):(⟨b,off,none⟩:Addr).add n=⟨b,off+n,none⟩:=addr_add b off n
theorem slice_ok (hty:TyOk P E.TY) {t:Nat} {x:Operand} {lo hi mx:Option Operand} (h:evSlice E T t x lo hi mx s=some (v,s')) (ho:oo.op= .slice t x lo hi mx) (hd:Hd ρ s.H.get s.nx w) (he:∀x∈oo.op.operands,RpV ρ (evO T x) (e x)):Res P e oo ρ s s' w v:=by
  rw [ho] at he
  obtain ⟨sv,h1,h⟩:=bo_eq h
  obtain ⟨l,h2,h⟩:=bo_eq h
  obtain ⟨hh,h3,h⟩:=bo_eq h
  obtain ⟨m,h4,h⟩:=bo_eq h
  obtain ⟨el,h5,h⟩:=bo_eq h
  obtain ⟨h6,h⟩:=bt_eq h
  obtain ⟨r,h7,rfl,rfl⟩:=ok1_eq h
  have hx:=asS_rep h1 (he x (by simp [Op.operands]))
  have hlo:=opt_rep (e:=e) h2 fun y hy=>he y (by simp [Op.operands,hy])
  have hhi:=opt_rep (e:=e) h3 fun y hy=>he y (by simp [Op.operands,hy])
  have hmx:=opt_rep (e:=e) h4 fun y hy=>he y (by simp [Op.operands,hy])
  obtain ⟨b,c,cap,g1,g2,g3,g4⟩:=hx
  have hu:=slice_row hty (elemT_eq h5)
  have hub:(underlying t).run P w= .ok (.slice el) w:=by simp [underlying,hu]
  have hsv:(sizeOf el).run P w= .ok (E.sz el) w:=(hty.at (t:=el) (.inl (one_sz h6))).size w
  have fin:∀(l' h' m':Nat),optD 0 l=l'→optD sv.len hh=h'→optD cap m=m'→(m≠none→hh≠none)→l'≤h'→h'≤m'→m'≤cap→
      (execOp e oo).run P w= .ok (.value (.slice (some (if m'=l' then ⟨b,sv.off,none⟩ else ⟨b,sv.off+l'*E.sz el,none⟩)) (h' - l') (m' - l'))) w:=by
    intro l' h' m' e1 e2 e3 e4 b1 b2 b3
    have hb:(Instr.sliceBounds true sv.len cap (lo.map e) (hi.map e) (mx.map e)).run P w= .ok (l',h',m') w:=by
      rcases hmx with ⟨rfl,rfl⟩|⟨ym,nm,km,rfl,rfl,em,_⟩
      · simp only [optD] at e3;subst e3
        rcases hhi with ⟨rfl,rfl⟩|⟨yh,nh,kh,rfl,rfl,eh,_⟩
        · simp only [optD] at e2;subst e2
          rcases hlo with ⟨rfl,rfl⟩|⟨yl,nl,kl,rfl,rfl,el',_⟩
          · simp only [optD] at e1;subst e1;simp [Instr.sliceBounds]
          · simp only [optD] at e1;subst e1;simp [Instr.sliceBounds,el',bound_ok _ b1]
        · simp only [optD] at e2;subst e2
          rcases hlo with ⟨rfl,rfl⟩|⟨yl,nl,kl,rfl,rfl,el',_⟩
          · simp only [optD] at e1;subst e1;simp [Instr.sliceBounds,eh,bound_ok _ b2]
          · simp only [optD] at e1;subst e1;simp [Instr.sliceBounds,eh,el',bound_ok _ b1,bound_ok _ b2]
      · simp only [optD] at e3;subst e3
        rcases hhi with ⟨rfl,rfl⟩|⟨yh,nh,kh,rfl,rfl,eh,_⟩
        · exact absurd rfl (e4 (by simp))
        · simp only [optD] at e2;subst e2
          rcases hlo with ⟨rfl,rfl⟩|⟨yl,nl,kl,rfl,rfl,el',_⟩
          · simp only [optD] at e1;subst e1;simp [Instr.sliceBounds,em,eh,bound_ok _ b2,bound_ok _ b3]
          · simp only [optD] at e1;subst e1;simp [Instr.sliceBounds,em,eh,el',bound_ok _ b1,bound_ok _ b2,bound_ok _ b3]
    have hnarr:∀w,(Instr.sliceAt t (e x) (lo.map e) (hi.map e) (mx.map e)).run P w=(Instr.slice t (e x) (lo.map e) (hi.map e) (mx.map e)).run P w:=fun w=>by
      have:(underlying t).run P w= .ok (.slice el) w:=by simp [underlying,hu]
      simp [Instr.sliceAt,this]
    have:(Instr.slice t (e x) (lo.map e) (hi.map e) (mx.map e)).run P w= .ok (.slice (some (if m'=l' then ⟨b,sv.off,none⟩ else ⟨b,sv.off+l'*E.sz el,none⟩)) (h' - l') (m' - l')) w:=by
      rw [g3]
      simp [Instr.slice,hub,hb,hsv]
      split<;>simp [addr_add0]
    simp [execOp,ho,hnarr,this]
  have done:∀{l' h' m':Nat} {r:CC},(execOp e oo).run P w= .ok (.value (.slice (some (if m'=l' then ⟨b,sv.off,none⟩ else ⟨b,sv.off+l'*E.sz el,none⟩)) (h' - l') (m' - l'))) w→h'≤m'→(r=cutEnd sv.k sv.off (E.sz el) l' h' m')→Res P e oo ρ s s w (.c r):=by
    intro l' h' m' r hrun hle hr
    refine res_pure hd hrun ?_
    subst hr
    unfold cutEnd
    cases hb:Nat.beq m' l' with
    |true=>
     have:=beq_iff'.1 hb
     rw [if_pos this]
     exact ⟨b,c,_,g1,by omega,rfl,rfl⟩
    |false=>
     rw [if_neg (beq_false hb)]
     exact ⟨b,c,_,g1,by omega,rfl,rfl⟩
  cases m with
  |some m=>
   cases hh with
   |none=>cases h7
   |some hh=>
    obtain ⟨b1,h7⟩:=bt_eq h7
    obtain ⟨b2,h7⟩:=bt_eq h7
    obtain ⟨b3,h7⟩:=bt_eq h7
    cases h7
    have b1:=Nat.le_of_ble_eq_true b1
    have b2:=Nat.le_of_ble_eq_true b2
    have b3:=Nat.le_of_ble_eq_true b3
    have b4:m≤cap:=by
      unfold capMax at b3
      cases hc:sv.cap with
      |n n=>rw [hc] at b3 g4;have g4:cap=n:=g4;simp only at b3;omega
      |g=>rw [hc] at b3;simp only at b3;omega
      |u=>rw [hc] at b3;simp only at b3;omega
    exact done (fin _ hh m rfl rfl rfl (fun _=>by simp) b1 b2 b4) b2 rfl
  |none=>
   have h7:cutPlain (E.sz el) sv (optD 0 l) (optD sv.len hh)=some r:=h7
   generalize hH:optD sv.len hh=H at h7
   generalize hL:optD 0 l=L at h7
   obtain ⟨b1,h7⟩:=bt_eq h7
   have b1:=Nat.le_of_ble_eq_true b1
   have open_:cutOpen (E.sz el) sv L H=some r→Res P e oo ρ s s w (.c r):=by
     intro h7
     obtain ⟨b2,h7⟩:=bt_eq h7
     have b2:=Nat.le_of_ble_eq_true b2
     cases L with
     |zero=>
      obtain ⟨b3,h7⟩:=bt_eq h7
      have b3:=Nat.le_of_ble_eq_true b3
      cases h7
      have hrun:=fin 0 H cap hL hH rfl (fun h=>absurd rfl h) (Nat.zero_le _) (by omega) (Nat.le_refl _)
      rw [if_neg (by omega),Nat.sub_zero,Nat.sub_zero] at hrun
      exact res_pure hd hrun ⟨b,c,cap,g1,by omega,by simp,g4⟩
     |succ L=>
      obtain ⟨b3,h7⟩:=bt_eq h7
      have b3:=Nat.le_of_ble_eq_true b3
      cases h7
      have hrun:=fin (L+1) H cap hL hH rfl (fun h=>absurd rfl h) b1 (by omega) (Nat.le_refl _)
      rw [if_neg (by omega)] at hrun
      exact res_pure hd hrun ⟨b,c,_,g1,by omega,rfl,trivial⟩
   cases hc:sv.cap with
   |n n=>
    rw [hc] at h7 g4
    have g4:cap=n:=g4
    obtain ⟨b2,h7⟩:=bt_eq h7
    have b2:=Nat.le_of_ble_eq_true b2
    cases h7
    subst g4
    exact done (fin L H cap hL hH rfl (fun h=>absurd rfl h) b1 b2 (Nat.le_refl _)) b2 rfl
   |g=>rw [hc] at h7;exact open_ h7
   |u=>rw [hc] at h7;exact open_ h7
end
end Go.CM
end
