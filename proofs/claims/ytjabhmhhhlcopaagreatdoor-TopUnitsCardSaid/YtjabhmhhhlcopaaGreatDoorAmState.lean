import Derived.Calls
import Derived.Orders
import Derived.Still
import Derived.Lib.TrailingZeros
section
namespace Go.AM
open Go
inductive BE where
  |lit (b:Bool)|v (b:Bool)|lt (x y:Int)|le (x y:Int)|eq (x y:Int)|ne (x y:Int)
def BE.val:BE→Bool
  |.lit b=>b|.v b=>b|.lt x y=>decide (x<y)|.le x y=>decide (x≤y)|.eq x y=>decide (x=y)|.ne x y=>decide (x≠y)
abbrev Prn:=(Int × Int) × List Int × List (Int × Int)
abbrev prn0:Prn:=((0,0),[],[])
inductive RO where
  |ints (k:IntKind) (l:List Int)|bools (l:List Bool)|rows (k:IntKind) (l:List (List Int))|brows (l:List (List Bool))
  |rows3 (l:List (List (List Int)))|pairs (l:List (Int × Int))|arrs (n:Nat) (k:IntKind) (l:List (List Int))|nrows (k:IntKind) (l:List (List Int))
  |prows (l:List (List (Int × Int)))|facs (l:List (Int × Bool))|prins (l:List Prn)
  |gb (l:List (List Bool))|gi (l:List (List (List Int)))
  |strs (l:List (List Int))|ruls (l:List (List Int × List Int))
inductive AV where
  |int (k:IntKind) (n:Int)|bool (e:BE)|ro (r:RO)|vec (k:Nat)|ptr (k off:Nat)|rptr (r:RO) (i:Int)|vptr (k:Nat) (i:Int)|cptr (k:Nat) (i:Int) (j:Nat)|vsuf (k:Nat) (i:Int)
  |agg (l:List AV)|tup (l:List AV)|nils|any|fn (f:FuncId) (cap:List AV)|new (r:RO)|may (b:Bool) (n:Nat)|full (r:RO)|str (l:List Int)|cfn (f:FuncId) (r:RO) (i:Int)|row (k:Nat) (i:Int)|gptr (k:Nat) (i j:Int)
inductive KeyD where
  |int (k:IntKind)|arr (n:Nat) (k:IntKind)|str
inductive Blk where
  |vec (wm:Nat) (r:RO) (ov:List (Int × Nat))
  |box (l:List AV)
  |map (kd:KeyD) (vk:Option IntKind) (m:List (List Int × Int))
  |deep (r:RO) (hole:Option Int)
  |stk (n:Nat) (r:RO)
  |jnk (n sz:Nat)
  |gho (l:List (List (List Int))) (i j:Int)
abbrev Store:=List (Nat × Blk)
def loc (k:Nat):Bool:=match Nat.ble 1000 k with|true=>false|false=>true
def kq:IntKind→IntKind→Bool
  |.i8,.i8=>true|.i16,.i16=>true|.i32,.i32=>true|.i64,.i64=>true|.u8,.u8=>true|.u16,.u16=>true|.u32,.u32=>true|.u64,.u64=>true|_,_=>false
def ifK (b:Bool) (p:Prop):Prop:=match b with|true=>p|false=>False
inductive TyD where
  |int (k:IntKind)|bool|str|slice (e:Nat)|arr (n e:Nat)|struct (fs:List (Nat × Nat))|map (k e:Nat)|other
structure TyE where
  d:TyD
  sz:Nat
  bytes:Nat
  zero:List AV
def nthT:List TyE→Nat→TyE
  |[],_=>⟨.other,0,0,[]⟩|a::_,0=>a|_::l,n+1=>nthT l n
def RO.sz:RO→Nat
  |.pairs _=>2|.facs _=>2|.ruls _=>2|.prins _=>4|.arrs n _ _=>n+2|_=>1
def RO.len:RO→Nat
  |.ints _ l=>l.length|.bools l=>l.length|.rows _ l=>l.length|.brows l=>l.length|.rows3 l=>l.length|.pairs l=>l.length|.arrs _ _ l=>l.length|.nrows _ l=>l.length|.prows l=>l.length|.facs l=>l.length|.prins l=>l.length|.gb l=>l.length|.gi l=>l.length|.strs l=>l.length|.ruls l=>l.length
def lenK (r:RO) (K:Nat→Prop):Prop:=
  match r with
  |.ints _ l=>K l.length|.bools l=>K l.length|.rows _ l=>K l.length|.brows l=>K l.length|.rows3 l=>K l.length|.pairs l=>K l.length|.arrs _ _ l=>K l.length|.nrows _ l=>K l.length|.prows l=>K l.length|.facs l=>K l.length|.prins l=>K l.length|.gb l=>K l.length|.gi l=>K l.length|.strs l=>K l.length|.ruls l=>K l.length
def aggL:Nat→IntKind→List Int→Nat→List AV
  |0,_,_,_=>[]|n+1,k,m,j=>.int k (m.getD j 0)::aggL n k m (j+1)
def aggK:Nat→IntKind→List Int→Nat→(List AV→Prop)→Prop
  |0,_,_,_,K=>K []|n+1,k,m,j,K=>aggK n k m (j+1) fun r=>K (.int k (m.getD j 0)::r)
def RO.get:RO→Nat→AV
  |.ints k l,i=>.int k (l.getD i 0)|.bools l,i=>.bool (.v (l.getD i false))|.rows k l,i=>.ro (.ints k (l.getD i []))
  |.brows l,i=>.ro (.bools (l.getD i []))|.rows3 l,i=>.ro (.rows .i64 (l.getD i []))|.pairs l,i=>.agg [.int .i64 (l.getD i (0,0)).1,.int .i64 (l.getD i (0,0)).2]
  |.arrs n k l,i=>.agg (aggL (n+2) k (l.getD i []) 0)
  |.nrows k l,i=>if l.getD i []=[] then .nils else .ro (.ints k (l.getD i []))
  |.prows l,i=>.ro (.pairs (l.getD i []))
  |.facs l,i=>.agg [.int .i64 (l.getD i (0,false)).1,.bool (.v (l.getD i (0,false)).2)]
  |.prins l,i=>.agg [.int .i64 (l.getD i prn0).1.1,.int .i64 (l.getD i prn0).1.2,.ro (.ints .i64 (l.getD i prn0).2.1),.ro (.pairs (l.getD i prn0).2.2)]
  |.gb _,_=>.any|.gi _,_=>.any
  |.strs l,i=>.str (l.getD i [])|.ruls l,i=>.agg [.str (l.getD i ([],[])).1,.str (l.getD i ([],[])).2]
def getK (r:RO) (i:Int) (K:AV→Prop):Prop:=
  match r with
  |.ints k l=>K (.int k (l.getD i.toNat 0))|.bools l=>K (.bool (.v (l.getD i.toNat false)))|.rows k l=>K (.ro (.ints k (l.getD i.toNat [])))
  |.brows l=>K (.ro (.bools (l.getD i.toNat [])))|.rows3 l=>K (.ro (.rows .i64 (l.getD i.toNat [])))
  |.pairs l=>K (.agg [.int .i64 (l.getD i.toNat (0,0)).1,.int .i64 (l.getD i.toNat (0,0)).2])
  |.arrs n k l=>aggK (n+2) k (l.getD i.toNat []) 0 fun m=>K (.agg m)
  |.nrows k l=>(l.getD i.toNat []=[]→K .nils)∧(l.getD i.toNat []≠[]→K (.ro (.ints k (l.getD i.toNat []))))
  |.prows l=>K (.ro (.pairs (l.getD i.toNat [])))
  |.facs l=>K (.agg [.int .i64 (l.getD i.toNat (0,false)).1,.bool (.v (l.getD i.toNat (0,false)).2)])
  |.prins l=>K (.agg [.int .i64 (l.getD i.toNat prn0).1.1,.int .i64 (l.getD i.toNat prn0).1.2,.ro (.ints .i64 (l.getD i.toNat prn0).2.1),.ro (.pairs (l.getD i.toNat prn0).2.2)])
  |.gb _=>K .any|.gi _=>K .any
  |.strs l=>K (.str (l.getD i.toNat []))|.ruls l=>K (.agg [.str (l.getD i.toNat ([],[])).1,.str (l.getD i.toNat ([],[])).2])
def valB (e:BE) (K:Bool→Prop):Prop:=match e with|.lit b=>K b|.v b=>K b|e=>K e.val
def setK (r:RO) (i:Int) (v:AV) (K:RO→Prop):Prop:=
  match r,v with
  |.ints k l,.int k' n=>ifK (kq k k')<|K (.ints k (l.set i.toNat n))
  |.bools l,.bool e=>(match e with|.lit b=>K (.bools (l.set i.toNat b))|.v b=>K (.bools (l.set i.toNat b))|e=>K (.bools (l.set i.toNat e.val)))
  |.rows k l,.ro (.ints k' m)=>ifK (kq k k')<|K (.rows k (l.set i.toNat m))
  |.rows k l,.nils=>K (.rows k (l.set i.toNat []))
  |.brows l,.ro (.bools m)=>K (.brows (l.set i.toNat m))
  |.brows l,.nils=>K (.brows (l.set i.toNat []))
  |.rows3 l,.ro (.rows .i64 m)=>K (.rows3 (l.set i.toNat m))
  |.rows3 l,.nils=>K (.rows3 (l.set i.toNat []))
  |.pairs l,.agg [.int .i64 a,.int .i64 b]=>K (.pairs (l.set i.toNat (a,b)))
  |.facs l,.agg [.int .i64 a,.bool e]=>valB e fun b=>K (.facs (l.set i.toNat (a,b)))
  |.nrows k l,.nils=>K (.nrows k (l.set i.toNat []))
  |.strs l,.str m=>K (.strs (l.set i.toNat m))
  |_,_=>False
def catK (r s:RO) (K:RO→Prop):Prop:=
  match r,s with
  |.ints k l,.ints k' m=>ifK (kq k k')<|K (.ints k (l++m))
  |.bools l,.bools m=>K (.bools (l++m))
  |.rows k l,.rows k' m=>ifK (kq k k')<|K (.rows k (l++m))
  |.brows l,.brows m=>K (.brows (l++m))
  |.rows3 l,.rows3 m=>K (.rows3 (l++m))
  |.pairs l,.pairs m=>K (.pairs (l++m))
  |.prows l,.prows m=>K (.prows (l++m))
  |.facs l,.facs m=>K (.facs (l++m))
  |.prins l,.prins m=>K (.prins (l++m))
  |.arrs n k l,.arrs n' k' m=>ifK (Nat.beq n n')<|ifK (kq k k')<|K (.arrs n k (l++m))
  |.strs l,.strs m=>K (.strs (l++m))
  |.ruls l,.ruls m=>K (.ruls (l++m))
  |_,_=>False
def cutK (r:RO) (a b:Nat) (K:RO→Prop):Prop:=
  match r with
  |.ints k l=>K (.ints k ((l.take b).drop a))|.bools l=>K (.bools ((l.take b).drop a))|.rows k l=>K (.rows k ((l.take b).drop a))
  |.brows l=>K (.brows ((l.take b).drop a))|.rows3 l=>K (.rows3 ((l.take b).drop a))|.pairs l=>K (.pairs ((l.take b).drop a))
  |.arrs n k l=>K (.arrs n k ((l.take b).drop a))|.nrows k l=>K (.nrows k ((l.take b).drop a))
  |.prows l=>K (.prows ((l.take b).drop a))
  |.facs l=>K (.facs ((l.take b).drop a))
  |.prins l=>K (.prins ((l.take b).drop a))
  |.strs l=>K (.strs ((l.take b).drop a))
  |.ruls l=>K (.ruls ((l.take b).drop a))
  |.gb _=>False|.gi _=>False
def zeroPair:List AV→Bool
  |[.int .i64 (.ofNat 0),.int .i64 (.ofNat 0)]=>true|_=>false
def zeroFac:List AV→Bool
  |[.int .i64 (.ofNat 0),.bool (.lit false)]=>true|_=>false
def zeroPrn:List AV→Bool
  |[.int .i64 (.ofNat 0),.int .i64 (.ofNat 0),.nils,.nils]=>true|_=>false
def zeroInts (k:IntKind):Nat→List AV→Bool
  |0,[]=>true|n+1,.int k' (.ofNat 0)::l=>(match kq k k' with|true=>zeroInts k n l|false=>false)|_,_=>false
def zeroRul:List AV→Bool
  |[.str [],.str []]=>true|_=>false
def zeroStr:List AV→Bool
  |[.str []]=>true|_=>false
def zerosG (TY:List TyE) (e:Nat) (fr:(α:Type)→α→List α) (K:RO→Prop):Prop:=
  match (nthT TY e).d with
  |.int k=>K (.ints k (fr _ 0))
  |.bool=>K (.bools (fr _ false))
  |.str=>ifK (zeroStr (nthT TY e).zero)<|K (.strs (fr _ []))
  |.slice f=>(match (nthT TY f).d with
   |.int k=>K (.rows k (fr _ []))
   |.bool=>K (.brows (fr _ []))
   |.slice g=>(match (nthT TY g).d with|.int .i64=>K (.rows3 (fr _ []))|_=>False)
   |.arr 2 g=>(match (nthT TY g).d with|.int .i64=>K (.prows (fr _ []))|_=>False)
   |_=>False)
  |.arr 2 f=>(match (nthT TY f).d with|.int .i64=>ifK (zeroPair (nthT TY e).zero)<|K (.pairs (fr _ (0,0)))|_=>False)
  |.arr (n+2) f=>(match (nthT TY f).d with|.int k=>ifK (zeroInts k (n+2) (nthT TY e).zero)<|K (.arrs n k (fr _ (List.replicate (n+2) 0)))|_=>False)
  |.struct _=>(match zeroFac (nthT TY e).zero with
   |true=>K (.facs (fr _ (0,false)))
   |false=>(match zeroPrn (nthT TY e).zero with
    |true=>K (.prins (fr _ prn0))
    |false=>match zeroRul (nthT TY e).zero with
    |true=>K (.ruls (fr _ ([],[])))
    |false=>ifK (zeroPair (nthT TY e).zero)<|K (.pairs (fr _ (0,0)))))
  |_=>False
def zerosK (TY:List TyE) (e:Nat) (n:Nat) (K:RO→Prop):Prop:=zerosG TY e (fun _ a=>List.replicate n a) K
def emptyK (TY:List TyE) (e:Nat) (K:RO→Prop):Prop:=zerosG TY e (fun _ _=>[]) K
def capP (b:Nat) (n:Int) (K:Prop):Prop:=
  match Nat.ble b 8 with
  |true=>n≤17592186044416∧K
  |false=>ifK (Nat.ble b 64) (n≤2199023255552∧K)
def snocK {α:Type}:List α→α→(List α→Prop)→Prop
  |[],x,K=>K [x]|a::l,x,K=>snocK l x fun m=>K (a::m)
def dN (d:Option Nat) (K:Nat→Prop):Prop:=match d with|some d=>K d|none=>K 999
def nth:List AV→Nat→AV
  |[],_=>.any|a::_,0=>a|_::l,n+1=>nth l n
def forceA (a:AV) (K:AV→Prop):Prop:=
  match a with
  |.int k n=>K (.int k n)|.bool e=>(match e with|.lit b=>K (.bool (.lit b))|.v b=>K (.bool (.v b))|.lt x y=>K (.bool (.lt x y))|.le x y=>K (.bool (.le x y))|.eq x y=>K (.bool (.eq x y))|.ne x y=>K (.bool (.ne x y)))
  |.ro r=>K (.ro r)|.vec k=>K (.vec k)|.ptr k o=>K (.ptr k o)|.rptr r i=>K (.rptr r i)|.vptr k i=>K (.vptr k i)|.cptr k i j=>K (.cptr k i j)|.vsuf k i=>K (.vsuf k i)
  |.agg l=>K (.agg l)|.tup l=>K (.tup l)|.nils=>K .nils|.any=>K .any|.fn f c=>K (.fn f c)|.new r=>K (.new r)|.may b n=>K (.may b n)|.full r=>K (.full r)|.str l=>K (.str l)|.cfn f r i=>K (.cfn f r i)|.row k i=>K (.row k i)|.gptr k i j=>K (.gptr k i j)
def putK:List AV→Nat→AV→(List AV→Prop)→Prop
  |[],_,_,k=>k []
  |_::l,0,v,k=>k (v::l)
  |a::l,n+1,v,k=>putK l n v fun l'=>k (a::l')
def dstK (d:Option Nat) (T:List AV) (v:AV) (K:List AV→Prop):Prop:=
  match d with|none=>K T|some d=>putK T d v K
def fitB (k:IntKind) (n:Int):Bool:=
  match n with
  |.ofNat m=>(match k with
   |.i64=>Nat.ble m 9223372036854775807|.u64=>Nat.ble m 18446744073709551615|.i32=>Nat.ble m 2147483647|.u8=>Nat.ble m 255|_=>Nat.ble m 127)
  |.negSucc m=>(match k with
   |.i64=>Nat.ble m 9223372036854775807|.i32=>Nat.ble m 2147483647|.i16=>Nat.ble m 127|.i8=>Nat.ble m 127|_=>false)
def constA:Value→AV
  |.int k n=>(match fitB k n with|true=>.int k n|false=>.any)|.bool b=>.bool (.lit b)|.slice none 0 0=>.nils|.string s=>(match Nat.beq s.size 0 with|true=>.str []|false=>.any)|_=>.any
def evalK (T:List AV) (x:Operand) (K:AV→Prop):Prop:=
  match x with
  |.tmp t=>forceA (nth T t) K
  |.const v=>forceA (constA v) K
  |.func f=>K (.fn f [])
  |.global _=>K .any
def evalsK (T:List AV):List Operand→(List AV→Prop)→Prop
  |[],K=>K []
  |x::l,K=>evalK T x fun a=>evalsK T l fun m=>K (a::m)
def findS:Store→Nat→Option Blk
  |[],_=>none
  |(j,b)::S,k=>match Nat.beq j k with|true=>some b|false=>findS S k
def setS:Store→Nat→Blk→(Store→Prop)→Prop
  |[],_,_,K=>K []
  |(j,b)::S,k,c,K=>match Nat.beq j k with|true=>K ((j,c)::S)|false=>setS S k c fun S'=>K ((j,b)::S')
def delS:Store→Nat→(Store→Prop)→Prop
  |[],_,K=>K []
  |(j,b)::S,k,K=>match Nat.beq j k with|true=>delS S k K|false=>delS S k fun S'=>K ((j,b)::S')
def sweepA (k:Nat) (to:AV) (a:AV) (K:AV→Prop):Prop:=
  match a with
  |.vec j=>(match Nat.beq j k with|true=>K to|false=>K (.vec j))
  |.ptr j o=>(match Nat.beq j k with|true=>K .any|false=>K (.ptr j o))
  |.vptr j o=>(match Nat.beq j k with|true=>K .any|false=>K (.vptr j o))
  |.cptr j o c=>(match Nat.beq j k with|true=>K .any|false=>K (.cptr j o c))
  |.vsuf j o=>(match Nat.beq j k with|true=>K .any|false=>K (.vsuf j o))
  |.row j o=>(match Nat.beq j k with|true=>K .any|false=>K (.row j o))
  |.gptr j o c=>(match Nat.beq j k with|true=>K .any|false=>K (.gptr j o c))
  |.int k n=>K (.int k n)|.bool e=>K (.bool e)|.ro r=>K (.ro r)|.rptr r i=>K (.rptr r i)|.nils=>K .nils|.full r=>K (.full r)|.str l=>K (.str l)|.cfn f r i=>K (.cfn f r i)
  |.fn f []=>K (.fn f [])
  |_=>K .any
def sweepL (k:Nat) (to:AV):List AV→(List AV→Prop)→Prop
  |[],K=>K []
  |a::l,K=>sweepA k to a fun a'=>sweepL k to l fun l'=>K (a'::l')
def sweepG (k:Nat) (to:AV):List AV→(List AV→Prop)→Prop
  |[],K=>K []
  |a::l,K=>
   match a with
   |.agg m=>sweepL k to m fun m'=>sweepG k to l fun l'=>K (.agg m'::l')
   |a=>sweepA k to a fun a'=>sweepG k to l fun l'=>K (a'::l')
def sweepT (k:Nat) (to:AV):List AV→(List AV→Prop)→Prop
  |[],K=>K []
  |a::l,K=>
   match a with
   |.agg m=>sweepL k to m fun m'=>sweepT k to l fun l'=>K (.agg m'::l')
   |.tup m=>sweepG k to m fun m'=>sweepT k to l fun l'=>K (.tup m'::l')
   |.fn f m=>sweepL k to m fun m'=>sweepT k to l fun l'=>K (.fn f m'::l')
   |a=>sweepA k to a fun a'=>sweepT k to l fun l'=>K (a'::l')
def setRow (r:RO) (i:Int) (s:RO) (K:RO→Prop):Prop:=
  match r,s with
  |.rows k l,.ints k' m=>ifK (kq k k')<|K (.rows k (l.set i.toNat m))
  |.brows l,.bools m=>K (.brows (l.set i.toNat m))
  |.rows3 l,.rows .i64 m=>K (.rows3 (l.set i.toNat m))
  |.nrows k l,.ints k' m=>ifK (kq k k')<|m≠[]∧K (.nrows k (l.set i.toNat m))
  |_,_=>False
def sweepS (k:Nat) (to:AV):Store→(Store→Prop)→Prop
  |[],K=>K []
  |(j,b)::S,K=>
   match b with
   |.box m=>sweepL k to m fun m'=>sweepS k to S fun S'=>K ((j,.box m')::S')
   |.vec wm r []=>sweepS k to S fun S'=>K ((j,.vec wm r [])::S')
   |.vec wm r [(i,h)]=>(match Nat.beq h k with
    |false=>sweepS k to S fun S'=>K ((j,.vec wm r [(i,h)])::S')
    |true=>(match to with
     |.ro s=>setRow r i s fun r'=>sweepS k to S fun S'=>K ((j,.vec wm r' [])::S')
     |_=>False))
   |.map kd vk m=>sweepS k to S fun S'=>K ((j,.map kd vk m)::S')
   |.deep r h=>sweepS k to S fun S'=>K ((j,.deep r h)::S')
   |.gho l a c=>sweepS k to S fun S'=>K ((j,.gho l a c)::S')
   |.stk n r=>sweepS k to S fun S'=>K ((j,.stk n r)::S')
   |.jnk n z=>sweepS k to S fun S'=>K ((j,.jnk n z)::S')
   |_=>False
def killK (k:Nat) (T:List AV) (S:Store) (K:List AV→Store→Prop):Prop:=
  ifK (loc k)<|delS S k fun S=>sweepT k .any T fun T=>sweepS k .any S fun S=>K T S
def RO.thaw:RO→RO
  |.gb l=>.brows l|.gi l=>.rows3 l|r=>r
def thwK (r:RO) (K:RO→Prop):Prop:=
  match r with
  |.gb l=>K (.brows l)|.gi l=>K (.rows3 l)|.rows k l=>K (.rows k l)|.brows l=>K (.brows l)|.rows3 l=>K (.rows3 l)|r=>K r
def freezeK (k:Nat) (T:List AV) (S:Store) (K:List AV→Store→Prop):Prop:=
  match findS S k with
  |some (.vec _ r [])=>delS S k fun S=>sweepT k (.ro r) T fun T=>sweepS k (.ro r) S fun S=>K T S
  |some (.deep r none)=>thwK r fun r=>delS S k fun S=>sweepT k (.ro r) T fun T=>sweepS k (.ro r) S fun S=>K T S
  |_=>False
def frzB:Blk→Option RO
  |.vec _ r []=>some r|.deep r none=>some r.thaw|_=>none
def splitB:BE→(Bool→Prop)→Prop
  |.lit true,K=>K true|.lit false,K=>K false
  |.v b,K=>(b=true→K true)∧(b=false→K false)
  |.lt x y,K=>(x<y→K true)∧(y≤x→K false)
  |.le x y,K=>(x≤y→K true)∧(y<x→K false)
  |.eq x y,K=>(x=y→K true)∧(x≠y→K false)
  |.ne x y,K=>(x≠y→K true)∧(x=y→K false)
def notK (e:BE) (K:BE→Prop):Prop:=
  match e with
  |.lit true=>K (.lit false)|.lit false=>K (.lit true)|.v b=>K (.v (!b))|.lt x y=>K (.le y x)|.le x y=>K (.lt y x)|.eq x y=>K (.ne x y)|.ne x y=>K (.eq x y)
def inK (k:IntKind) (n:Int):Prop:=k.min≤n∧n≤k.max
def rangeK (k:IntKind) (n:Int):Prop:=
  match k with
  |.i64=> -9223372036854775808≤n∧n≤9223372036854775807
  |k=>k.min≤n∧n≤k.max
def rangeP (k:IntKind) (n:Int) (K:Prop):Prop:=
  match k with
  |.i64=>(-9223372036854775808≤n∧n≤9223372036854775807)∧K
  |.u64=>(0≤n∧n≤18446744073709551615)∧K
  |k=>(k.min≤n∧n≤k.max)∧K
def andI (k:IntKind) (a b:Int):Int:=k.wrap (BitVec.ofInt k.bits a &&& BitVec.ofInt k.bits b).toNat
def orI (k:IntKind) (a b:Int):Int:=k.wrap (BitVec.ofInt k.bits a ||| BitVec.ofInt k.bits b).toNat
def shlI (k:IntKind) (a b:Int):Int:=k.wrap (a*2 ^ (min b.toNat k.bits))
def shrI (k:IntKind) (a b:Int):Int:=a.fdiv (2 ^ (min b.toNat k.bits))
def sliceT (TY:List TyE) (t:Nat):Bool:=match (nthT TY t).d with|.slice _=>true|_=>false
def boolT (TY:List TyE) (t:Nat):Bool:=match (nthT TY t).d with|.bool=>true|_=>false
def isI64 (d:TyD):Bool:=match d with|.int .i64=>true|_=>false
def facT (TY:List TyE) (t:Nat):Bool:=
  match (nthT TY t).d with
  |.struct [(0,a),(1,b)]=>(match zeroFac (nthT TY t).zero,isI64 (nthT TY a).d,boolT TY b with|true,true,true=>true|_,_,_=>false)
  |_=>false
def rulT (TY:List TyE) (t:Nat):Bool:=
  match (nthT TY t).d with
  |.struct [(0,a),(1,b)]=>(match zeroRul (nthT TY t).zero,(nthT TY a).d,(nthT TY b).d with|true,.str,.str=>true|_,_,_=>false)
  |_=>false
def facEqK (TY:List TyE) (op:BinOp) (t:Nat) (l m:List AV) (K:AV→Prop):Prop:=
  match l,m with
  |[.int .i64 a,.bool e],[.int .i64 b,.bool f]=>ifK (facT TY t) (match op with
   |.eql=>K (.bool (.v (a==b&&e.val==f.val)))
   |.neq=>K (.bool (.v (!(a==b&&e.val==f.val))))
   |_=>False)
  |[.str a,.str b],[.str c,.str d]=>ifK (rulT TY t) (match op with
   |.eql=>K (.bool (.v (a==c&&b==d)))
   |.neq=>K (.bool (.v (!(a==c&&b==d))))
   |_=>False)
  |_,_=>False
def binK (TY:List TyE) (op:BinOp) (t:Nat) (x y:AV) (K:AV→Prop):Prop:=
  match x,y with
  |.int k a,.int k' b=>
   match op with
   |.shl=>0≤b∧K (.int k (shlI k a b))
   |.shr=>0≤b∧K (.int k (shrI k a b))
   |_=>ifK (kq k k')<|
    match op with
    |.lss=>K (.bool (.lt a b))|.gtr=>K (.bool (.lt b a))|.leq=>K (.bool (.le a b))|.geq=>K (.bool (.le b a))
    |.eql=>K (.bool (.eq a b))|.neq=>K (.bool (.ne a b))
    |.add=>rangeP k (a+b) (K (.int k (a+b)))
    |.sub=>rangeP k (a - b) (K (.int k (a - b)))
    |.mul=>rangeP k (a*b) (K (.int k (a*b)))
    |.quo=>(0≤a∧0<b)∧K (.int k (a / b))
    |.rem=>((0≤a∧0<b)∧K (.int k (a % b)))∨(0<b∧K (.int k (a.tmod b)))
    |.and=>K (.int k (andI k a b))
    |.or=>K (.int k (orI k a b))
    |_=>False
  |.bool a,.bool b=>
   match op with
   |.eql=>ifK (boolT TY t)<|K (.bool (.v (a.val==b.val)))
   |.neq=>ifK (boolT TY t)<|K (.bool (.v (!(a.val==b.val))))
   |_=>False
  |.ro r,.nils=>ifK (sliceT TY t) (match op with
   |.eql=>lenK r fun n=>K (.may true n)
   |.neq=>lenK r fun n=>K (.may false n)
   |_=>False)
  |.nils,.nils=>ifK (sliceT TY t) (match op with
   |.eql=>K (.bool (.lit true))
   |.neq=>K (.bool (.lit false))
   |_=>False)
  |.agg l,.agg m=>facEqK TY op t l m K
  |.str a,.str b=>(match op with
   |.add=>a.length+b.length≤17592186044416∧K (.str (a++b))
   |.eql=>K (.bool (.v (a==b)))
   |.neq=>K (.bool (.v (!(a==b))))
   |_=>False)
  |_,_=>False
def zeroBools:List AV→Bool
  |[]=>true|.bool (.lit false)::l=>zeroBools l|_::_=>false
def boolArr (TY:List TyE) (t:Nat):Bool:=
  match (nthT TY t).d with
  |.arr n e=>(match boolT TY e,Nat.ble 8 n,zeroBools (nthT TY t).zero,Nat.ble (nthT TY t).sz 1000000 with|true,true,true,true=>true|_,_,_,_=>false)
  |_=>false
def fieldOff:List (Nat × Nat)→Nat→Option (Nat × Nat)
  |[],_=>none|a::_,0=>some a|_::l,n+1=>fieldOff l n
def takeK:List AV→Nat→(List AV→Prop)→Prop
  |_,0,K=>K []
  |[],_+1,_=>False
  |a::l,n+1,K=>takeK l n fun m=>K (a::m)
def dropK:List AV→Nat→(List AV→Prop)→Prop
  |l,0,K=>K l
  |[],_+1,_=>False
  |_::l,n+1,K=>dropK l n K
def partK (TY:List TyE) (t:Nat) (l:List AV) (off:Nat) (K:AV→Prop):Prop:=
  match (nthT TY t).d with
  |.struct _=>dropK l off fun l=>takeK l (nthT TY t).sz fun m=>K (.agg m)
  |.arr _ _=>dropK l off fun l=>takeK l (nthT TY t).sz fun m=>K (.agg m)
  |_=>ifK (Nat.beq (nthT TY t).sz 1) (dropK l off fun l=>match l with|a::_=>forceA a K|[]=>False)
def overK:List AV→List AV→(List AV→Prop)→Prop
  |l,[],K=>K l
  |[],_::_,_=>False
  |_::l,b::m,K=>overK l m fun l'=>K (b::l')
def spliceK:List AV→Nat→List AV→(List AV→Prop)→Prop
  |l,0,m,K=>overK l m K
  |[],_+1,_,_=>False
  |a::l,n+1,m,K=>spliceK l n m fun l'=>K (a::l')
def sameLenO:List Operand→Nat→Bool
  |[],0=>true|_::l,n+1=>sameLenO l n|_,_=>false
def sameLen:List AV→Nat→Bool
  |[],0=>true|_::l,n+1=>sameLen l n|_,_=>false
def cellOK:AV→Bool
  |.agg _=>false|.tup _=>false|.new _=>false|.any=>false|.fn _ (_::_)=>false|.rptr _ _=>false|.vptr _ _=>false|.cptr _ _ _=>false|.vsuf _ _=>false|.may _ _=>false|.full _=>false|.row _ _=>false|.gptr _ _ _=>false|_=>true
def cellsOK:List AV→Bool
  |[]=>true|a::l=>match cellOK a with|true=>cellsOK l|false=>false
def asCellsK (TY:List TyE) (t:Nat) (v:AV) (K:List AV→Prop):Prop:=
  match (nthT TY t).d with
  |.struct _=>(match v with|.agg m=>(match sameLen m (nthT TY t).sz with|true=>K m|false=>False)|_=>False)
  |.arr _ _=>(match v with|.agg m=>(match sameLen m (nthT TY t).sz with|true=>K m|false=>False)|_=>False)
  |_=>match cellOK v with|true=>(match sameLen [v] (nthT TY t).sz with|true=>K [v]|false=>False)|false=>False
def intsK (k:IntKind):List AV→(List Int→Prop)→Prop
  |[],K=>K []|.int k' n::l,K=>ifK (kq k k')<|intsK k l fun m=>K (n::m)|_::_,_=>False
def elemsK (r:RO):List AV→(RO→Prop)→Prop
  |[],K=>K r
  |a::l,K=>
   match r,a with
   |.ints k m,.int k' n=>ifK (kq k k')<|snocK m n fun m=>elemsK (.ints k m) l K
   |.bools m,.bool e=>snocK m (e.val) fun m=>elemsK (.bools m) l K
   |.rows k m,.ro (.ints k' x)=>ifK (kq k k')<|snocK m x fun m=>elemsK (.rows k m) l K
   |.rows k m,.nils=>snocK m [] fun m=>elemsK (.rows k m) l K
   |.brows m,.ro (.bools x)=>snocK m x fun m=>elemsK (.brows m) l K
   |.brows m,.nils=>snocK m [] fun m=>elemsK (.brows m) l K
   |.rows3 m,.ro (.rows .i64 x)=>snocK m x fun m=>elemsK (.rows3 m) l K
   |.rows3 m,.nils=>snocK m [] fun m=>elemsK (.rows3 m) l K
   |.pairs m,.agg [.int .i64 x,.int .i64 y]=>snocK m (x,y) fun m=>elemsK (.pairs m) l K
   |.prows m,.ro (.pairs x)=>snocK m x fun m=>elemsK (.prows m) l K
   |.prows m,.nils=>snocK m [] fun m=>elemsK (.prows m) l K
   |.facs m,.agg [.int .i64 x,.bool e]=>valB e fun b=>snocK m (x,b) fun m=>elemsK (.facs m) l K
   |.prins m,.agg [.int .i64 x,.int .i64 y,.ro (.ints .i64 c),.ro (.pairs q)]=>snocK m ((x,y),c,q) fun m=>elemsK (.prins m) l K
   |.arrs n k m,.agg x=>ifK (sameLen x (n+2))<|intsK k x fun y=>snocK m y fun m=>elemsK (.arrs n k m) l K
   |.strs m,.str x=>snocK m x fun m=>elemsK (.strs m) l K
   |.ruls m,.agg [.str x,.str y]=>snocK m (x,y) fun m=>elemsK (.ruls m) l K
   |_,_=>False
def intsA:List AV→Bool
  |[]=>true|.int _ _::l=>intsA l|.bool _::l=>intsA l|.ro _::l=>intsA l|.str _::l=>intsA l|_::_=>false
def plainA:AV→Bool
  |.int _ _=>true|.bool _=>true|.ro _=>true|.nils=>true|.str _=>true|.agg l=>intsA l|_=>false
def plainsA:List AV→Bool
  |[]=>true|a::l=>match plainA a with|true=>plainsA l|false=>false
def thawK:List AV→List AV→Store→(List AV→List AV→Store→Prop)→Prop
  |[],T,S,K=>K [] T S
  |a::l,T,S,K=>
   match a with
   |.vec k=>(match findS S k with
    |some (.vec _ r [])=>freezeK k T S fun T S=>thawK l T S fun m T S=>K (.ro r::m) T S
    |_=>False)
   |a=>ifK (plainA a)<|thawK l T S fun m T S=>K (a::m) T S
def partsK:Nat→List (Nat × Operand)→(List Operand→Prop)→Prop
  |_,[],K=>K []
  |n,(i,x)::l,K=>match Nat.beq i n with|true=>partsK (n+1) l fun m=>K (x::m)|false=>False
def fillK (T:List AV) (place:Nat→Option (Nat × Nat)):List (Nat × Operand)→List AV→(List AV→Prop)→Prop
  |[],l,K=>K l
  |(i,x)::ps,l,K=>evalK T x fun a=>
   match place i with
   |some (off,sz)=>(match a with
    |.agg m=>(match sameLen m sz with|true=>spliceK l off m fun l'=>fillK T place ps l' K|false=>False)
    |a=>match cellOK a with|true=>(match sameLen [a] sz with|true=>spliceK l off [a] fun l'=>fillK T place ps l' K|false=>False)|false=>False)
   |none=>False
def liveB (S:Store) (k:Nat):Prop:=match findS S k with|some _=>True|none=>False
def deadB (S:Store) (k:Nat):Prop:=match findS S k with|some _=>False|none=>True
def leA (S S':Store) (a b:AV):Prop:=
  match b with
  |.any=>True
  |.int k' n'=>(match a with|.int k n=>ifK (kq k k') (n=n')|_=>False)
  |.bool e'=>(match a with|.bool e=>e.val=e'.val|_=>False)
  |.ro r'=>(match a with
   |.ro r=>r=r'
   |.nils=>r'.len=0
   |.vec k=>(match findS S k with
    |some (.vec _ r [])=>(match findS S' k with
     |none=>True∧r=r'
     |some (.vec wm' s [])=>ifK (Nat.beq r.sz s.sz)<|(lenK r fun n=>n≤wm')∧r=r'
     |_=>False)
    |some (.deep r none)=>thwK r fun r=>deadB S' k∧r=r'
    |_=>False)
   |_=>False)
  |.vec k'=>(match a with
   |.vec k=>k=k'∧liveB S' k'∧liveB S k'
   |.nils=>(match findS S k',findS S' k' with|none,some (.vec _ _ _)=>True|_,_=>False)
   |_=>False)
  |.ptr k' o'=>(match a with|.ptr k o=>k=k'∧o=o'∧liveB S' k'∧liveB S k'|_=>False)
  |.nils=>(match a with|.nils=>True|_=>False)
  |.str l'=>(match a with|.str l=>l=l'|_=>False)
  |.rptr r' i'=>(match a with|.rptr r i=>r=r'∧i=i'|_=>False)
  |.cfn f' r' i'=>(match a with|.cfn f r i=>f=f'∧r=r'∧i=i'|_=>False)
  |.fn f' []=>(match a with|.fn f []=>f=f'|_=>False)
  |_=>False
def leL (S S':Store):List AV→List AV→Prop
  |[],[]=>True
  |a::l,b::m=>leA S S' a b∧leL S S' l m
  |_,_=>False
def leG (S S':Store):List AV→List AV→Prop
  |[],[]=>True
  |a::l,b::m=>(match b with
   |.agg y=>(match a with|.agg x=>leL S S' x y|_=>False)
   |b=>leA S S' a b)∧leG S S' l m
  |_,_=>False
def leT (S S':Store) (a b:AV):Prop:=
  match b with
  |.agg m=>(match a with|.agg l=>leL S S' l m|_=>False)
  |.tup m=>(match a with|.tup l=>leG S S' l m|_=>False)
  |.fn f m=>(match a with|.fn g l=>g=f∧leL S S' l m|_=>False)
  |b=>leA S S' a b
def appN:List Nat→List Nat→List Nat
  |[],m=>m|a::l,m=>a::appN l m
def lendC (S:Store) (a:AV) (K:AV→List Nat→Prop):Prop:=
  match a with
  |.vec k=>(match findS S k with
   |some (.vec _ r [])=>K (.ro r) [k]
   |some (.deep r none)=>thwK r fun r=>K (.ro r) [k]
   |_=>False)
  |.vsuf k i=>(match findS S k with
   |some (.vec _ r [])=>lenK r fun n=>i.toNat≤n∧cutK r i.toNat n fun r'=>K (.ro r') [k]
   |_=>False)
  |.int k n=>K (.int k n) []|.bool e=>K (.bool e) []|.ro r=>K (.ro r) []|.nils=>K .nils []|.any=>K .any []|.fn f []=>K (.fn f []) []|.str l=>K (.str l) []|.rptr r i=>K (.rptr r i) []|.cfn f r i=>K (.cfn f r i) []
  |_=>False
def lendL (S:Store):List AV→(List AV→List Nat→Prop)→Prop
  |[],K=>K [] []
  |a::l,K=>lendC S a fun a' ks=>lendL S l fun l' ks'=>K (a'::l') (appN ks ks')
def lendK (S:Store):List AV→(List AV→List Nat→Prop)→Prop
  |[],K=>K [] []
  |a::l,K=>match a with
   |.agg m=>lendL S m fun m' ks=>lendK S l fun l' ks'=>K (.agg m'::l') (appN ks ks')
   |a=>lendC S a fun a' ks=>lendK S l fun l' ks'=>K (a'::l') (appN ks ks')
def argsK:List AV→List AV→Prop
  |[],[]=>True
  |a::l,b::m=>leT [] [] a b∧argsK l m
  |_,_=>False
def freezesK:List Nat→List AV→Store→(List AV→Store→Prop)→Prop
  |[],T,S,K=>K T S
  |k::ks,T,S,K=>match findS S k with
   |none=>freezesK ks T S K
   |some _=>freezeK k T S fun T S=>freezesK ks T S K
def safeA:AV→Bool
  |.int _ _=>true|.bool _=>true|.nils=>true|.any=>true|.str _=>true|.new (.ints _ _)=>true|.new (.bools _)=>true|.new (.pairs _)=>true|.new (.facs _)=>true|.new (.arrs _ _ _)=>true|.new (.strs _)=>true|.new (.ruls _)=>true|_=>false
def safeL:List AV→Bool
  |[]=>true|a::l=>match safeA a with|true=>safeL l|false=>false
def safe:AV→Bool
  |.tup l=>safeL l|.agg l=>safeL l|a=>safeA a
def newA:AV→Nat
  |.new _=>1|_=>0
def newL:List AV→Nat
  |[]=>0|a::l=>match newA a with|0=>newL l|_=>newL l+1
def news:AV→Nat
  |.tup l=>newL l|a=>newA a
def noNew (a:AV):Bool:=Nat.beq (news a) 0
def bindL (d:Nat):List AV→List AV→Store→(List AV→List AV→Store→Prop)→Prop
  |[],T,S,K=>K [] T S
  |a::l,T,S,K=>
   match a with
   |.new r=>killK d T S fun T S=>K (.vec d::l) T ((d,.vec 0 r [])::S)
   |a=>bindL d l T S fun m T S=>K (a::m) T S
def bindK (d:Nat) (v:AV) (T:List AV) (S:Store) (K:AV→List AV→Store→Prop):Prop:=
  match v with
  |.new r=>killK d T S fun T S=>K (.vec d) T ((d,.vec 0 r [])::S)
  |.tup l=>bindL d l T S fun m T S=>K (.tup m) T S
  |a=>forceA a fun a=>K a T S
structure Spec where
  q:FuncId→List AV→AV→Prop
  m:FuncId→List AV→Store→AV→Store→Prop
  e:FuncId→List AV→(X:Type)→(X→AV)→(X→Prop)→Prop
  n:FuncId→List AV→Store→(X:Type)→(X→AV)→(X→Store)→(X→Prop)→Prop
  dm:Bool
def backK (d:Nat) (ks:List Nat) (ret:AV) (T:List AV) (S:Store) (K:AV→List AV→Store→Prop):Prop:=
  ifK (Nat.ble (news ret) 1) (match ks,safe ret with
    |_,true=>bindK d ret T S K
    |[],_=>bindK d ret T S K
    |ks,false=>freezesK ks T S fun T S=>bindK d ret T S K)
def callEK (F:Spec) (d:Nat) (f:FuncId) (args:List AV) (T:List AV) (S:Store) (K:AV→List AV→Store→Prop):Prop:=
  lendK S args fun args' ks=>∃(X:Type) (args2:List AV) (out:X→AV) (ok:X→Prop),F.e f args2 X out ok∧argsK args' args2∧∀x,ok x→backK d ks (out x) T S K
def callK (F:Spec) (d:Nat) (f:FuncId) (args:List AV) (T:List AV) (S:Store) (K:AV→List AV→Store→Prop):Prop:=
  lendK S args fun args' ks=>∃args2 ret,F.q f args2 ret∧argsK args' args2∧
    ifK (Nat.ble (news ret) 1) (match ks,safe ret with
    |_,true=>bindK d ret T S K
    |[],_=>bindK d ret T S K
    |ks,false=>freezesK ks T S fun T S=>bindK d ret T S K)
def appA:List AV→List AV→List AV
  |[],m=>m|a::l,m=>a::appA l m
def updS:Store→Store→(Store→Prop)→Prop
  |[],S,K=>K S
  |(k,b)::u,S,K=>match findS S k with
   |some _=>setS S k b fun S'=>updS u S' K
   |none=>updS u ((k,b)::S) K
def leB (S S':Store) (b b':Blk):Prop:=
  match b,b' with
  |.box l,.box m=>leL S S' l m
  |.vec wm r [],.vec wm' r' []=>(wm≤wm'∧wm'≤r'.len)∧r=r'
  |.vec _wm r [(i,j)],.vec wm' r' []=>(match findS S j with
   |some (.vec _ s [])=>deadB S' j∧wm'≤r.len∧setRow r i s fun r=>r=r'
   |_=>False)
  |.vec _wm r [(i,j)],.vec wm' r' [(i',j')]=>wm'=0∧r=r'∧i=i'∧j=j'∧liveB S' j∧liveB S j
  |.map kd vk m,.map kd' vk' m'=>(kd=kd'∧vk=vk')∧m=m'
  |.deep r none,.deep r' none=>r=r'
  |.stk n r,.stk n' r'=>n=n'∧r=r'
  |.jnk n z,.jnk n' z'=>n=n'∧z=z'
  |.vec wm r [],.jnk n' z'=>wm=0∧r.len=n'∧r.sz=z'
  |_,_=>False
def leS (S S':Store):Store→Prop
  |[]=>True
  |(k,b')::R=>(match findS S k with
   |some b=>leB S S' b b'
   |none=>match b' with|.vec wm r []=>ifK (loc k) (wm=0∧r.len=0)|_=>False)∧leS S S' R
def namesA (S:Store) (a:AV):Bool:=
  match a with
  |.vec k=>(match findS S k with|some _=>true|none=>false)
  |.ptr k _=>(match findS S k with|some _=>true|none=>false)
  |.vptr k _=>(match findS S k with|some _=>true|none=>false)
  |.cptr k _ _=>(match findS S k with|some _=>true|none=>false)
  |.vsuf k _=>(match findS S k with|some _=>true|none=>false)
  |.row k _=>(match findS S k with|some _=>true|none=>false)
  |.gptr k _ _=>(match findS S k with|some _=>true|none=>false)
  |_=>true
def namesL (S:Store):List AV→Bool
  |[]=>true|a::l=>match namesA S a with|true=>namesL S l|false=>false
def namesG (S:Store):List AV→Bool
  |[]=>true
  |a::l=>match a with
   |.agg m=>(match namesL S m with|true=>namesG S l|false=>false)
   |a=>(match namesA S a with|true=>namesG S l|false=>false)
def namesT (S:Store):List AV→Bool
  |[]=>true
  |a::l=>match a with
   |.agg m=>(match namesL S m with|true=>namesT S l|false=>false)
   |.fn _ m=>(match namesL S m with|true=>namesT S l|false=>false)
   |.tup m=>(match namesG S m with|true=>namesT S l|false=>false)
   |a=>(match namesA S a with|true=>namesT S l|false=>false)
def fndN:List (Nat × Nat)→Nat→Option Nat
  |[],_=>none|(i,j)::σ,k=>match Nat.beq i k with|true=>some j|false=>fndN σ k
def renC (σ:List (Nat × Nat)) (a:AV):AV:=
  match a with
  |.vec k=>(match fndN σ k with|some j=>.vec j|none=>.any)
  |.ptr k o=>(match fndN σ k with|some j=>.ptr j o|none=>.any)
  |.vptr k i=>(match fndN σ k with|some j=>.vptr j i|none=>.any)
  |.cptr k i c=>(match fndN σ k with|some j=>.cptr j i c|none=>.any)
  |.vsuf k i=>(match fndN σ k with|some j=>.vsuf j i|none=>.any)
  |.int k n=>.int k n|.bool e=>.bool e|.ro r=>.ro r|.rptr r i=>.rptr r i|.nils=>.nils|.may b n=>.may b n|.full r=>.full r|.str l=>.str l|.cfn f r i=>.cfn f r i
  |.fn f []=>.fn f []|_=>.any
def renL (σ:List (Nat × Nat)):List AV→List AV
  |[]=>[]|a::l=>renC σ a::renL σ l
def renG (σ:List (Nat × Nat)):List AV→List AV
  |[]=>[]|a::l=>(match a with|.agg m=>.agg (renL σ m)|a=>renC σ a)::renG σ l
def renT (σ:List (Nat × Nat)) (a:AV):AV:=
  match a with
  |.agg m=>.agg (renL σ m)|.tup m=>.tup (renG σ m)|.fn f m=>.fn f (renL σ m)|a=>renC σ a
def renTL (σ:List (Nat × Nat)):List AV→List AV
  |[]=>[]|a::l=>renT σ a::renTL σ l
def renB (σ:List (Nat × Nat)) (b:Blk):Blk:=
  match b with|.box l=>.box (renL σ l)|.vec wm r _=>.vec wm r []|.map kd vk m=>.map kd vk m|.deep r h=>.deep r h|.stk n r=>.stk n r|.jnk n z=>.jnk n z|.gho l i j=>.gho l i j
def renS (σ:List (Nat × Nat)):Store→Store
  |[]=>[]|(k,b)::S=>match fndN σ k with|some j=>(j,renB σ b)::renS σ S|none=>renS σ S
def okC (σ:List (Nat × Nat)) (a:AV):Bool:=
  match a with
  |.vec k=>(match fndN σ k with|some _=>true|none=>false)
  |.ptr k _=>(match fndN σ k with|some _=>true|none=>false)
  |.vptr k _=>(match fndN σ k with|some _=>true|none=>false)
  |.cptr k _ _=>(match fndN σ k with|some _=>true|none=>false)
  |.vsuf k _=>(match fndN σ k with|some _=>true|none=>false)
  |.fn _ (_::_)=>false|.agg _=>false|.tup _=>false|.new _=>false|.row _ _=>false|.gptr _ _ _=>false|_=>true
def okL (σ:List (Nat × Nat)):List AV→Bool
  |[]=>true|a::l=>match okC σ a with|true=>okL σ l|false=>false
def okT (σ:List (Nat × Nat)):List AV→Bool
  |[]=>true
  |a::l=>match a with
   |.agg m=>(match okL σ m with|true=>okT σ l|false=>false)
   |.fn _ m=>(match okL σ m with|true=>okT σ l|false=>false)
   |a=>(match okC σ a with|true=>okT σ l|false=>false)
def okB (σ:List (Nat × Nat)) (b:Blk):Bool:=
  match b with|.box l=>okL σ l|.vec _ _ []=>true|.map .. =>true|_=>false
def okS (σ:List (Nat × Nat)):Store→Bool
  |[]=>true
  |(k,b)::S=>match fndN σ k,okB σ b with|some _,true=>okS σ S|_,_=>false
def plainS:Store→Bool
  |[]=>true
  |(_,b)::S=>match b with|.box _=>plainS S|.vec _ _ []=>plainS S|.map .. =>plainS S|.jnk .. =>plainS S|.deep _ none=>plainS S|_=>false
def hasN (n:Nat):List Nat→Bool
  |[]=>false|m::l=>match Nat.beq n m with|true=>true|false=>hasN n l
def difN:List Nat→Bool
  |[]=>true|n::l=>match hasN n l with|true=>false|false=>difN l
def fsts {α:Type}:List (Nat × α)→List Nat
  |[]=>[]|(i,_)::l=>i::fsts l
def snds:List (Nat × Nat)→List Nat
  |[]=>[]|(_,j)::l=>j::snds l
def locs:List Nat→Bool
  |[]=>true|n::l=>match loc n with|true=>locs l|false=>false
def gone (S1 S2:Store):List (Nat × Nat)→List Nat
  |[]=>[]
  |(i,j)::σ=>match findS S1 i,findS S2 i,loc i with
   |some _,some _,false=>gone S1 S2 σ
   |_,_,_=>j::gone S1 S2 σ
def lentN (S1:Store):List (Nat × Nat)→List (Nat × Nat)
  |[]=>[]
  |(i,j)::σ=>match findS S1 i with|some _=>(i,j)::lentN S1 σ|none=>lentN S1 σ
def okM (σ:List (Nat × Nat)) (as:List AV) (S1 S2:Store):Bool:=
  match difN (fsts σ),difN (snds σ),difN (fsts S1),difN (fsts S2) with
  |true,true,true,true=>(match okT (lentN S1 σ) as,okS (lentN S1 σ) S1,plainS S2,locs (gone S1 S2 σ) with|true,true,true,true=>true|_,_,_,_=>false)
  |_,_,_,_=>false
def leTs (S S':Store):List AV→List AV→Prop
  |[],[]=>True
  |a::l,b::m=>leT S S' a b∧leTs S S' l m
  |_,_=>False
def forgetsK:List Nat→List AV→Store→(List AV→Store→Prop)→Prop
  |[],T,S,K=>K T S
  |k::ks,T,S,K=>delS S k fun S=>sweepT k .any T fun T=>sweepS k .any S fun S=>forgetsK ks T S K
def putS (σ:List (Nat × Nat)):Store→Store→(Store→Prop)→Prop
  |[],S,K=>K S
  |(i,b)::R,S,K=>match fndN σ i with
   |none=>putS σ R S K
   |some j=>(match findS S j with
    |some _=>setS S j (renB σ b) fun S=>putS σ R S K
    |none=>putS σ R ((j,renB σ b)::S) K)
def capK (T:List AV) (x:Operand) (f:FuncId) (K:List AV→Prop):Prop:=
  evalK T x fun a=>match a with|.fn g cap=>ifK (Nat.beq g f) (K cap)|_=>False
def okN (σ:List (Nat × Nat)) (as:List AV) (S1:Store):Bool:=
  match difN (fsts σ),difN (snds σ),difN (fsts S1) with
  |true,true,true=>(match okT (lentN S1 σ) as,okS (lentN S1 σ) S1 with|true,true=>true|_,_=>false)
  |_,_,_=>false
def okN2 (σ:List (Nat × Nat)) (S1 S2:Store):Bool:=
  match difN (fsts S2),plainS S2,locs (gone S1 S2 σ) with|true,true,true=>true|_,_,_=>false
def callNK (F:Spec) (f:FuncId) (xs:List Operand) (x:Operand) (T:List AV) (S:Store) (K:AV→List AV→Store→Prop):Prop:=
  ∃(fz:List Nat) (σ:List (Nat × Nat)) (S1:Store) (as2:List AV) (X:Type) (ret:X→AV) (S2:X→Store) (ok:X→Prop),F.n f as2 S1 X ret S2 ok∧ifK (okN σ as2 S1)
   (freezesK fz T S fun T S=>evalsK T xs fun as=>capK T x f fun cs=>updS (renS (lentN S1 σ) S1) S fun S'=>ifK (namesT S' T)
     ((leS S S' S'∧leTs S S' (appA as cs) (renTL (lentN S1 σ) as2))∧∀z,ok z→ifK (okN2 σ S1 (S2 z)) (forgetsK (gone S1 (S2 z) σ) T S' fun T S=>putS σ (S2 z) S fun S=>K (renT σ (ret z)) T S)))
def callMK (F:Spec) (f:FuncId) (xs:List Operand) (x:Operand) (T:List AV) (S:Store) (K:AV→List AV→Store→Prop):Prop:=(
  ∃(fz:List Nat) (σ:List (Nat × Nat)) (S1:Store) (as2:List AV) (ret:AV) (S2:Store),F.m f as2 S1 ret S2∧ifK (okM σ as2 S1 S2)
   (freezesK fz T S fun T S=>evalsK T xs fun as=>capK T x f fun cs=>updS (renS (lentN S1 σ) S1) S fun S'=>ifK (namesT S' T)
     ((leS S S' S'∧leTs S S' (appA as cs) (renTL (lentN S1 σ) as2))∧forgetsK (gone S1 S2 σ) T S' fun T S=>putS σ S2 S fun S=>K (renT σ ret) T S)))∨callNK F f xs x T S K
def idxK:List AV→Int→Int→(AV→Prop)→Prop
  |[],_,_,_=>True
  |a::l,j,i,K=>(i=j→forceA a K)∧idxK l (j+1) i K
def idxP:Nat→Nat→Int→(Nat→Prop)→Prop
  |0,_,_,_=>True
  |n+1,j,i,K=>(i=(j:Int)→K j)∧idxP n (j+1) i K
def boundK (n:AV) (K:Int→Prop):Prop:=match n with|.int _ n=>K n|_=>False
abbrev dnR:RO→RO
  |.nrows k l=>.rows k l|r=>r
def ovQ:RO→Bool
  |.rows _ _=>true|.brows _=>true|.rows3 _=>true|.nrows _ _=>true|_=>false
def rowsQ:RO→Bool
  |.rows _ _=>true|.brows _=>true|.rows3 _=>true|.gb _=>true|.gi _=>true|_=>false
def gridQ:RO→Bool
  |.gb _=>true|.gi _=>true|_=>false
def zeroB:List AV→Bool
  |[]=>false|_::_=>true
def isAggD:TyD→Bool
  |.struct _=>true|.arr _ _=>true|_=>false
def oneT (TY:List TyE) (t:Nat):Bool:=match isAggD (nthT TY t).d with|true=>false|false=>Nat.beq (nthT TY t).sz 1
def pairJ (j:Nat) (p:Int × Int):Int:=match j with|0=>p.1|_=>p.2
def pairS (j:Nat) (p:Int × Int) (n:Int):Int × Int:=match j with|0=>(n,p.2)|_=>(p.1,n)
def facJ (j:Nat) (p:Int × Bool) (K:AV→Prop):Prop:=match j with|0=>K (.int .i64 p.1)|_=>K (.bool (.v p.2))
def prnJ (j:Nat) (p:Prn) (K:AV→Prop):Prop:=match j with|0=>K (.int .i64 p.1.1)|1=>K (.int .i64 p.1.2)|2=>K (.ro (.ints .i64 p.2.1))|3=>K (.ro (.pairs p.2.2))|_=>False
def facP (o:Nat) (p:Int × Bool) (K:AV→Prop):Prop:=match o with|0=>K (.rptr (.ints .i64 [p.1]) 0)|1=>K (.rptr (.bools [p.2]) 0)|_=>False
def okEl (TY:List TyE) (t:Nat) (r:RO):Bool:=
  match r with
  |.pairs _=>(match isAggD (nthT TY t).d with|true=>Nat.beq (nthT TY t).sz 2|false=>false)
  |.facs _=>(match isAggD (nthT TY t).d with|true=>Nat.beq (nthT TY t).sz 2|false=>false)
  |.prins _=>(match isAggD (nthT TY t).d with|true=>Nat.beq (nthT TY t).sz 4|false=>false)
  |.ruls _=>(match isAggD (nthT TY t).d with|true=>Nat.beq (nthT TY t).sz 2|false=>false)
  |.arrs n _ _=>(match isAggD (nthT TY t).d with|true=>Nat.beq (nthT TY t).sz (n+2)|false=>false)
  |_=>(match isAggD (nthT TY t).d with|true=>false|false=>Nat.beq (nthT TY t).sz 1)
def okSl (TY:List TyE) (t:Nat) (r:RO):Bool:=
  match (nthT TY t).d with
  |.slice e=>(match r with|.pairs _=>Nat.beq (nthT TY e).sz 2|.facs _=>Nat.beq (nthT TY e).sz 2|.prins _=>Nat.beq (nthT TY e).sz 4|.ruls _=>Nat.beq (nthT TY e).sz 2|.arrs n _ _=>Nat.beq (nthT TY e).sz (n+2)|_=>Nat.beq (nthT TY e).sz 1)
  |_=>false
def getM:List (List Int × Int)→List Int→Option Int
  |[],_=>none|p::m,k=>if p.1=k then some p.2 else getM m k
def setM:List (List Int × Int)→List Int→Int→List (List Int × Int)
  |[],k,v=>[(k,v)]|p::m,k,v=>if p.1=k then (k,v)::m else p::setM m k v
def intT (TY:List TyE) (t:Nat) (K:IntKind→Prop):Prop:=match (nthT TY t).d with|.int k=>K k|_=>False
def keyT (TY:List TyE) (t:Nat) (K:KeyD→Prop):Prop:=
  match (nthT TY t).d with|.int k=>K (.int k)|.arr n e=>ifK (Nat.beq (nthT TY t).sz n)<|ifK (Nat.beq (nthT TY e).sz 1)<|intT TY e fun k=>K (.arr n k)|.str=>K .str|_=>False
def valT (TY:List TyE) (t:Nat) (K:Option IntKind→Prop):Prop:=
  match (nthT TY t).d with|.int k=>K (some k)|.bool=>K none|_=>False
def mapT (TY:List TyE) (t:Nat) (K:KeyD→Option IntKind→Prop):Prop:=
  match (nthT TY t).d with|.map k e=>keyT TY k fun kd=>valT TY e fun vk=>ifK (zeroB (nthT TY e).zero) (K kd vk)|_=>False
def kdq:KeyD→KeyD→Bool
  |.int k,.int k'=>kq k k'|.arr n k,.arr n' k'=>(match Nat.beq n n' with|true=>kq k k'|false=>false)|.str,.str=>true|_,_=>false
def vkq:Option IntKind→Option IntKind→Bool
  |some k,some k'=>kq k k'|none,none=>true|_,_=>false
def keyK (kd:KeyD) (a:AV) (K:List Int→Prop):Prop:=
  match kd,a with
  |.int k,.int k' n=>ifK (kq k k') (K [n])
  |.arr n k,.agg l=>ifK (sameLen l n) (intsK k l K)
  |.str,.str l=>K l
  |_,_=>False
def valK (vk:Option IntKind) (a:AV) (K:Int→Prop):Prop:=
  match vk,a with
  |some k,.int k' n=>ifK (kq k k') (K n)
  |none,.bool e=>(match e with|.lit true=>K 1|.lit false=>K 0|e=>K (if e.val then 1 else 0))
  |_,_=>False
def valA (vk:Option IntKind) (n:Int):AV:=match vk with|some k=>.int k n|none=>.bool (.ne n 0)
def mkSl (d:Nat) (r:RO) (K:AV→Option Blk→Prop):Prop:=
  match rowsQ r with
  |false=>K (.vec d) (some (.vec 0 r []))
  |true=>K (.vec d) (some (.vec 0 r []))∨K (.vec d) (some (.deep r none))∨(match r with|.rows k l=>K (.vec d) (some (.vec 0 (.nrows k l) []))|_=>False)
def srcK (S:Store) (b:AV) (K:Option RO→Prop):Prop:=
  match b with
  |.ro r=>K (some r)
  |.nils=>K none
  |.vec j=>(match findS S j with|some (.vec _ r [])=>K (some r)|_=>False)
  |_=>False
def qretK (d:Nat) (ret:AV) (K:AV→Option Blk→Prop):Prop:=
  match ret with
  |.new r=>K (.vec d) (some (.vec 0 r []))
  |ret=>ifK (noNew ret) (forceA ret fun v=>K v none)
def capfK (f:FuncId) (l:List AV) (K:AV→Option Blk→Prop):Prop:=
  match l with
  |[.rptr r i]=>K (.cfn f r i) none
  |l=>ifK (cellsOK l)<|K (.fn f l) none
def boxK (TY:List TyE) (t d:Nat) (a:AV) (K:AV→Option Blk→Prop):Prop:=
  match a with
  |.ro (.rows .i64 l)=>(asCellsK TY t (.ro (.rows .i64 l)) fun m=>K (.ptr d 0) (some (.box m)))∨(asCellsK TY t (.ro (.rows .i64 l)) fun _=>K (.rptr (.rows3 [l]) 0) none)
  |a=>asCellsK TY t a fun m=>K (.ptr d 0) (some (.box m))
def qK (TY:List TyE) (F:Spec) (d:Nat) (o:Op) (T:List AV) (S:Store) (K:AV→Option Blk→Prop):Prop:=
  match o with
  |.move x=>evalK T x fun a=>K a none
  |.assign x=>evalK T x fun a=>K a none
  |.binOp op t x y _=>evalK T x fun a=>evalK T y fun b=>binK TY op t a b fun v=>K v none
  |.unOp op _ x=>evalK T x fun a=>(match op,a with
   |.not,.bool e=>notK e fun e=>K (.bool e) none
   |.neg,.int k n=>rangeP k (0 - n) (K (.int k (0 - n)) none)
   |_,_=>False)
  |.convert s t x=>evalK T x fun a=>(match (nthT TY s).d,(nthT TY t).d,a with
   |.int k,.int k',.int k'' n=>ifK (kq k k'')<|rangeP k' n (K (.int k' n) none)
   |.int k,.str,.int k'' n=>ifK (kq k k'')<|(0≤n∧n<128)∧K (.str [n]) none
   |.slice e,.str,a=>(match (nthT TY e).d with|.int .u8=>srcK S a fun r=>(match r with|some (.ints .u8 l)=>K (.str l) none|_=>False)|_=>False)
   |_,_,_=>False)
  |.pick c a b=>evalK T c fun c=>(match c with
   |.bool e=>splitB e fun t=>match t with|true=>evalK T a fun v=>K v none|false=>evalK T b fun v=>K v none
   |_=>False)
  |.alloc t=>ifK (sameLen (nthT TY t).zero (nthT TY t).sz)<|ifK (zeroB (nthT TY t).zero)<|(match boolArr TY t with
   |true=>K (.vptr d 0) (some (.vec 0 (.bools (List.replicate (nthT TY t).sz false)) []))
   |false=>K (.ptr d 0) (some (.box (nthT TY t).zero)))
  |.box t x=>evalK T x fun a=>boxK TY t d a K
  |.build t ps=>(match (nthT TY t).d with
   |.struct fs=>ifK (zeroB (nthT TY t).zero)<|fillK T (fieldPlace TY fs) ps.toList (nthT TY t).zero fun m=>K (.agg m) none
   |.arr _ e=>ifK (zeroB (nthT TY t).zero)<|ifK (Nat.ble 1 (nthT TY e).sz)<|fillK T (fun i=>some (i*(nthT TY e).sz,(nthT TY e).sz)) ps.toList (nthT TY t).zero fun m=>K (.agg m) none
   |_=>False)
  |.load t x=>evalK T x fun a=>(match a with
   |.rptr r i=>ifK (okEl TY t r) (getK r i fun v=>K v none)
   |.vptr k i=>(match findS S k with
    |some (.vec _ r [])=>ifK (okEl TY t r) (getK r i fun v=>K v none)
    |some (.vec _ r [(j,k')])=>ifK (okEl TY t r) ((i=j→K (.vec k') none)∧(i≠j→getK r i fun v=>K v none))
    |some (.stk _ r)=>ifK (okEl TY t r) (getK r i fun v=>K v none)
    |some (.deep r none)=>ifK (okEl TY t r)<|ifK (gridQ r) (K (.row k i) none)
    |some (.gho l _ _)=>ifK (okEl TY t (.gi l)) (K (.row k i) none)
    |_=>False)
   |.gptr k i j=>(match findS S k with
    |some (.deep (.gb l) none)=>ifK (okEl TY t (.bools (l.getD i.toNat []))) (K (.bool (.v ((l.getD i.toNat []).getD j.toNat false))) none)
    |_=>False)
   |.ptr k off=>(match findS S k with
    |some (.box l)=>partK TY t l off fun v=>K v none
    |_=>False)
   |.cptr k i j=>(match findS S k with
    |some (.vec _ (.pairs l) [])=>ifK (oneT TY t)<|ifK (Nat.ble j 1)<|K (.int .i64 (pairJ j (l.getD i.toNat (0,0)))) none
    |some (.stk _ (.pairs l))=>ifK (oneT TY t)<|ifK (Nat.ble j 1)<|K (.int .i64 (pairJ j (l.getD i.toNat (0,0)))) none
    |some (.vec _ (.facs l) [])=>ifK (oneT TY t)<|ifK (Nat.ble j 1)<|facJ j (l.getD i.toNat (0,false)) fun v=>K v none
    |some (.vec _ (.prins l) [])=>ifK (oneT TY t)<|prnJ j (l.getD i.toNat prn0) fun v=>K v none
    |_=>False)
   |_=>False)
  |.makeMap t none=>mapT TY t fun kd vk=>K (.ptr d 0) (some (.map kd vk []))
  |.makeMap t (some x)=>mapT TY t fun kd vk=>evalK T x fun a=>(match a with|.int _ _=>K (.ptr d 0) (some (.map kd vk []))|_=>False)
  |.buildSlice t n ps=>(match (nthT TY t).d with
   |.slice e=>ifK (zeroB (nthT TY e).zero)<|ifK (Nat.ble (n*(nthT TY e).sz) 16000000)<|partsK 0 ps.toList fun xs=>match sameLenO xs n with
    |true=>evalsK T xs fun vs=>ifK (plainsA vs)<|emptyK TY e fun r=>elemsK r vs fun r=>ifK (okSl TY t r) (K (.vec d) (some (.vec 0 r [])))
    |false=>False
   |_=>False)
  |.lookup t x k ok=>mapT TY t fun kd vk=>evalK T x fun a=>evalK T k fun kv=>(match a with
   |.ptr j _=>(match findS S j with
    |some (.map kd' vk' m)=>ifK (kdq kd kd')<|ifK (vkq vk vk')<|keyK kd kv fun key=>(match ok with
     |true=>K (.tup [valA vk ((getM m key).getD 0),.bool (.v (getM m key).isSome)]) none
     |false=>K (valA vk ((getM m key).getD 0)) none)
    |_=>False)
   |_=>False)
  |.nilCheck x=>evalK T x fun a=>(match a with|.ptr k o=>K (.ptr k o) none|.fn f c=>K (.fn f c) none|.vptr k i=>K (.vptr k i) none|.rptr r i=>K (.rptr r i) none|_=>False)
  |.makeSlice t l c=>(match (nthT TY t).d with
   |.slice e=>evalK T l fun l=>evalK T c fun c=>boundK l fun l=>boundK c fun c=>
    And (0≤l∧l≤c)<|capP (nthT TY e).bytes c<|zerosK TY e l.toNat fun r=>ifK (Nat.ble 1 (nthT TY e).bytes)<|ifK (zeroB (nthT TY e).zero)<|ifK (okSl TY t r) (mkSl d r K)
   |_=>False)
  |.slice t x lo hi none=>evalK T x fun a=>(match a with
   |.ro r=>ifK (okSl TY t r)<|lenK r fun n=>loK T lo fun lo=>hiK T hi n fun hi=>((0≤lo∧lo≤hi)∧hi≤(n:Int))∧cutK r lo.toNat hi.toNat fun r=>K (.ro r) none
   |_=>False)
  |.slice t x none (some y) (some z)=>evalK T x fun a=>(match a with
   |.ro r=>ifK (okSl TY t r)<|lenK r fun n=>hiK T (some y) n fun hi=>hiK T (some z) n fun mx=>((0≤hi∧hi=mx)∧mx≤(n:Int))∧cutK r 0 hi.toNat fun r=>K (.full r) none
   |_=>False)
  |.fieldAddr t x f=>evalK T x fun a=>(match a,(nthT TY t).d with
   |.ptr k off,.struct fs=>(match findS S k with
    |some (.box _)=>(match fieldOff fs f with|some (o,u)=>(match Nat.beq (nthT TY u).sz 0 with|false=>K (.ptr k (off+o)) none|true=>False)|none=>False)
    |_=>False)
   |.vptr k i,.struct fs=>(match fieldOff fs f with|some (o,u)=>(match Nat.beq (nthT TY u).sz 0 with|false=>K (.cptr k i o) none|true=>False)|none=>False)
   |.rptr (.facs l) i,.struct fs=>(match fieldOff fs f with|some (o,u)=>(match Nat.beq (nthT TY u).sz 0 with|false=>facP o (l.getD i.toNat (0,false)) fun v=>K v none|true=>False)|none=>False)
   |_,_=>False)
  |.field t x f=>evalK T x fun a=>(match a,(nthT TY t).d with
   |.agg l,.struct fs=>(match fieldOff fs f with|some (o,u)=>partK TY u l o fun v=>K v none|none=>False)
   |_,_=>False)
  |.indexAddr t x i=>evalK T x fun a=>evalK T i fun i=>boundK i fun i=>(match a with
   |.ro r=>ifK (okSl TY t r) (lenK r fun n=>(0≤i∧i<(n:Int))∧K (.rptr r i) none)
   |.vec k=>(match findS S k with
    |some (.vec _ r _)=>ifK (okSl TY t r) (lenK r fun n=>(0≤i∧i<(n:Int))∧K (.vptr k i) none)
    |some (.deep r _)=>ifK (okSl TY t r) (lenK r fun n=>(0≤i∧i<(n:Int))∧K (.vptr k i) none)
    |some (.gho l _ _)=>ifK (okSl TY t (.gi l)) ((0≤i∧i<(l.length:Int))∧K (.vptr k i) none)
    |some (.stk _ r)=>ifK (okSl TY t r) (lenK r fun n=>(0≤i∧i<(n:Int))∧K (.vptr k i) none)
    |_=>False)
   |.row k q=>(match findS S k with
    |some (.deep (.gb l) none)=>ifK (okSl TY t (.bools (l.getD q.toNat []))) ((0≤i∧i<((l.getD q.toNat []).length:Int))∧K (.gptr k q i) none)
    |some (.deep (.gi l) none)=>ifK (okSl TY t (.rows .i64 (l.getD q.toNat []))) ((0≤i∧i<((l.getD q.toNat []).length:Int))∧K (.gptr k q i) none)
    |some (.gho l _ _)=>ifK (okSl TY t (.rows .i64 (l.getD q.toNat []))) ((0≤i∧i<((l.getD q.toNat []).length:Int))∧K (.gptr k q i) none)
    |_=>False)
   |.ptr k off=>(match (nthT TY t).d,findS S k with
    |.arr n e,some (.box _)=>ifK (Nat.beq (nthT TY e).sz 1)<|(0≤i∧i<(n:Int))∧idxP n 0 i fun j=>K (.ptr k (off+j)) none
    |_,_=>False)
   |.vptr k off=>(match (nthT TY t).d with
    |.arr n e=>(match boolT TY e with
     |true=>(match findS S k with
      |some (.vec _ (.bools l) [])=>ifK (Nat.beq (nthT TY e).sz 1)<|(off=0∧(0≤i∧i<(n:Int))∧i<(l.length:Int))∧K (.vptr k i) none
      |_=>False)
     |false=>ifK (Nat.beq (nthT TY e).sz 1)<|(0≤i∧i<(n:Int))∧idxP n 0 i fun j=>K (.cptr k off j) none)
    |_=>False)
   |_=>False)
  |.index t x i=>evalK T x fun a=>evalK T i fun i=>boundK i fun i=>(match a,(nthT TY t).d with
   |.agg l,.arr n e=>(match sameLen l n,Nat.beq (nthT TY e).sz 1,isAggD (nthT TY e).d with
    |true,true,false=>(0≤i∧i<(n:Int))∧idxK l 0 i fun v=>K v none
    |_,_,_=>False)
   |_,_=>False)
  |.extract x i=>evalK T x fun a=>(match a with
   |.tup l=>dropK l i fun l=>match l with|a::_=>forceA a fun a=>K a none|[]=>False
   |_=>False)
  |.makeFunc (.func f) first cap=>(match first.toList with
   |[]=>evalsK T cap.toList fun l=>capfK f l K
   |_=>False)
  |.call c=>(match c.callee with
   |.builtin .len=>(match c.args.toList,c.argTypes.toList with
    |[x],[t]=>(match sliceT TY t with
     |true=>evalK T x fun a=>(match a with
      |.ro r=>lenK r fun n=>K (.int .i64 n) none
      |.nils=>K (.int .i64 0) none
      |.vec k=>(match findS S k with|some (.vec _ r _)=>lenK r fun n=>K (.int .i64 n) none|some (.deep r _)=>lenK r fun n=>K (.int .i64 n) none|some (.stk _ r)=>lenK r fun n=>K (.int .i64 n) none|_=>False)
      |_=>False)
     |false=>mapT TY t fun _ _=>evalK T x fun a=>(match a with
      |.ptr k _=>(match findS S k with|some (.map _ _ m)=>(m.length:Int)≤9223372036854775807∧K (.int .i64 m.length) none|_=>False)
      |_=>False))
    |_,_=>False)
   |.builtin .max=>(match c.args.toList with
    |[x,y]=>evalK T x fun a=>evalK T y fun b=>(match a,b with|.int k a,.int k' b=>ifK (kq k k')<|K (.int k (max a b)) none|_,_=>False)
    |_=>False)
   |.builtin .min=>(match c.args.toList with
    |[x,y]=>evalK T x fun a=>evalK T y fun b=>(match a,b with|.int k a,.int k' b=>ifK (kq k k')<|K (.int k (min a b)) none|_,_=>False)
    |_=>False)
   |.value (.func f)=>evalsK T c.args.toList fun as=>lendK S as fun as ks=>∃as2 ret,F.q f as2 ret∧argsK as as2∧(match ks,safe ret with
    |_,true=>qretK d ret K
    |[],_=>qretK d ret K
    |_,_=>False)
   |_=>False)
  |_=>False
where
  fieldPlace (TY:List TyE) (fs:List (Nat × Nat)) (i:Nat):Option (Nat × Nat):=
    match fieldOff fs i with|some (o,t)=>some (o,(nthT TY t).sz)|none=>none
  loK (T:List AV) (lo:Option Operand) (K:Int→Prop):Prop:=
    match lo with|none=>K 0|some x=>evalK T x fun a=>boundK a K
  hiK (T:List AV) (hi:Option Operand) (n:Nat) (K:Int→Prop):Prop:=
    match hi with|none=>K n|some x=>evalK T x fun a=>boundK a K
def nb (a b:Nat):Bool:=match Nat.beq a b with|true=>false|false=>true
def rowK (r:RO) (i:Int) (K:RO→Prop):Prop:=
  match r with
  |.rows k l=>K (.ints k (l.getD i.toNat []))|.brows l=>K (.bools (l.getD i.toNat []))|.rows3 l=>K (.rows .i64 (l.getD i.toNat []))|_=>False
def quietOp:Op→Bool
  |.store .. =>false|.buildSlice .. =>false|.slice .. =>false|.mapUpdate .. =>false|.insert .. =>false
  |.call c=>(match c.callee with|.builtin .append=>false|.builtin .copy=>false|.builtin .clear=>false|.builtin _=>true|_=>false)
  |_=>true
def makesOp:Op→Bool
  |.alloc _=>true|.box .. =>true|.makeSlice .. =>true|.makeMap .. =>true|.buildSlice .. =>true|_=>false
def putMK (TY:List TyE) (t:Nat) (x k y:Operand) (T:List AV) (S:Store) (K:AV→List AV→Store→Prop):Prop:=
  mapT TY t fun kd vk=>evalK T x fun a=>evalK T k fun kv=>evalK T y fun v=>(match a with
    |.ptr j _=>(match findS S j with
     |some (.map kd' vk' m)=>ifK (kdq kd kd')<|ifK (vkq vk vk')<|keyK kd kv fun key=>valK vk v fun n=>setS S j (.map kd vk (setM m key n)) fun S=>K .any T S
     |_=>False)
    |_=>False)
def restK (k:Nat) (b:Blk) (T:List AV) (S:Store) (K:AV→List AV→Store→Prop):Prop:=
  delS S k fun S=>sweepT k .any T fun T=>sweepS k .any S fun S=>K (.vec k) T ((k,b)::S)
def popK (k wm n:Nat) (r:RO) (hi:Int) (T:List AV) (S:Store) (K:AV→List AV→Store→Prop):Prop:=
  ifK (Nat.beq wm 0)<|cutK r 0 hi.toNat fun r'=>match loc k with
    |true=>restK k (.vec 0 r' []) T S K
    |false=>restK k (.stk n r') T S K
def storeV (k:Nat) (i:Int) (wm:Nat) (r:RO) (ov:List (Int × Nat)) (v:AV) (T:List AV) (S:Store) (K:AV→List AV→Store→Prop):Prop:=
  match v,ov with
  |.vec k',[]=>(match findS S k' with
   |some (.vec _ _ [])=>ifK (ovQ r)<|ifK (Nat.beq wm 0)<|setS S k (.vec 0 r [(i,k')]) fun S=>K .any T S
   |_=>False)
  |v,[]=>setK r i v fun r=>setS S k (.vec wm r []) fun S=>K .any T S
  |_,_=>False
def storeC (k:Nat) (i:Int) (j wm:Nat) (l:List (Int × Int)) (v:AV) (T:List AV) (S:Store) (K:AV→List AV→Store→Prop):Prop:=
  match v with
  |.int k' n=>ifK (kq .i64 k')<|setS S k (.vec wm (.pairs (l.set i.toNat (pairS j (l.getD i.toNat (0,0)) n))) []) fun S=>K .any T S
  |_=>False
def opB (TY:List TyE) (F:Spec) (d:Nat) (o:Op) (T:List AV) (S:Store) (K:AV→List AV→Store→Prop):Prop:=
  match quietOp o with
  |true=>(match makesOp o with
   |true=>killK d T S fun T S=>qK TY F d o T S fun v b=>match b with|some b=>K v T ((d,b)::S)|none=>K v T S
   |false=>qK TY F d o T S fun v b=>match b with|none=>K v T S|some _=>False)
  |false=>match o with
   |.buildSlice t n ps=>(match (nthT TY t).d with
    |.slice e=>ifK (zeroB (nthT TY e).zero)<|ifK (Nat.ble (n*(nthT TY e).sz) 16000000)<|partsK 0 ps.toList fun xs=>match sameLenO xs n with
     |true=>evalsK T xs fun vs=>thawK vs T S fun vs T S=>emptyK TY e fun r=>elemsK r vs fun r=>ifK (okSl TY t r)<|killK d T S fun T S=>K (.vec d) T ((d,.vec 0 r [])::S)
     |false=>False
    |_=>False)
   |.mapUpdate t x k y=>putMK TY t x k y T S K
   |.insert t x k y=>putMK TY t x k y T S K
   |.store t x y=>evalK T x fun a=>evalK T y fun v=>(match a with
    |.vptr k i=>(match findS S k with
     |some (.vec wm r ov)=>ifK (okEl TY t r)<|(wm:Int)≤i∧storeV k i wm r ov v T S K
     |some (.deep r (some j))=>ifK (okEl TY t r)<|ifK (loc k)<|i=j∧(match v with
      |.vec h=>(match findS S h with
       |some (.vec wm s [])=>ifK (Nat.beq wm 0)<|ifK (nb k h)<|setRow r i s fun r'=>forgetsK [h] T S fun T S=>setS S k (.deep r' none) fun S=>K .any T S
       |_=>False)
      |_=>False)
     |_=>False)
    |.gptr k i j=>(match findS S k with
     |some (.deep (.gb l) none)=>(match v with
      |.bool e=>ifK (okEl TY t (.bools (l.getD i.toNat [])))<|ifK (loc k)<|valB e fun b=>setS S k (.deep (.gb (l.set i.toNat ((l.getD i.toNat []).set j.toNat b))) none) fun S=>K .any T S
      |_=>False)
     |some (.gho l i' j')=>ifK (okEl TY t (.rows .i64 (l.getD i.toNat [])))<|ifK (loc k)<|(i=i'∧j=j')∧(match v with
      |.vec h=>(match findS S h with
       |some (.vec wm (.ints .i64 s) [])=>ifK (Nat.beq wm 0)<|ifK (nb k h)<|forgetsK [h] T S fun T S=>setS S k (.deep (.gi (l.set i.toNat ((l.getD i.toNat []).set j.toNat s))) none) fun S=>K .any T S
       |_=>False)
      |_=>False)
     |_=>False)
    |.ptr k off=>(match findS S k with
     |some (.box l)=>asCellsK TY t v fun m=>spliceK l off m fun l'=>setS S k (.box l') fun S=>K .any T S
     |_=>False)
    |.cptr k i j=>(match findS S k with
     |some (.vec wm (.pairs l) [])=>ifK (oneT TY t)<|ifK (Nat.ble j 1)<|(wm:Int)≤i∧storeC k i j wm l v T S K
     |_=>False)
    |_=>False)
   |.slice t x lo hi none=>evalK T x fun a=>(match a with
    |.vec k=>(match findS S k,lo with
     |some (.vec wm r []),none=>ifK (okSl TY t r)<|lenK r fun n=>qK.hiK T hi n fun hi=>(0≤hi∧hi≤(n:Int))∧
        ((cutK r 0 hi.toNat fun r'=>setS S k (.vec (max wm hi.toNat) r []) fun S=>K (.ro r') T S)∨popK k wm n r hi T S K)
     |some (.stk n0 r),none=>ifK (okSl TY t r)<|lenK r fun n=>qK.hiK T hi n fun hi=>(0≤hi∧hi≤(n:Int))∧cutK r 0 hi.toNat fun r'=>restK k (.stk n0 r') T S K
     |some (.vec _ r []),some x=>(match hi with
      |none=>ifK (okSl TY t r)<|evalK T x fun b=>boundK b fun i=>lenK r fun n=>(0≤i∧i≤(n:Int))∧K (.vsuf k i) T S
      |some _=>False)
     |some (.jnk n z),none=>(match (nthT TY t).d with
      |.slice e=>qK.hiK T hi n fun hi=>hi=0∧(emptyK TY e fun r=>ifK (loc k)<|ifK (okSl TY t r)<|ifK (Nat.beq r.sz z)<|restK k (.vec 0 r []) T S K)
      |_=>False)
     |_,_=>False)
    |.nils=>(match lo,hi with
     |none,some y=>evalK T y fun b=>boundK b fun b=>b=0∧(match (nthT TY t).d with|.slice e=>ifK (Nat.ble 1 (nthT TY e).sz) (K .nils T S)|_=>False)
     |_,_=>False)
    |_=>qK TY F d (.slice t x lo hi none) T S fun v b=>match b with|none=>K v T S|some _=>False)
   |.slice t x lo hi (some z)=>qK TY F d (.slice t x lo hi (some z)) T S fun v b=>match b with|none=>K v T S|some _=>False
   |.call c=>(match c.callee with
    |.value (.func f)=>(evalsK T c.args.toList fun as=>callK F d f as T S K)∨callMK F f c.args.toList (.func f) T S K∨(evalsK T c.args.toList fun as=>callEK F d f as T S K)
    |.value x=>evalK T x fun a=>(match a with
     |.fn f cap=>(evalsK T c.args.toList fun as=>callK F d f (appA as cap) T S K)∨callMK F f c.args.toList x T S K
     |.cfn f r i=>evalsK T c.args.toList fun as=>callK F d f (appA as [.rptr r i]) T S K
     |_=>False)
    |.builtin .append=>(match c.args.toList,c.argTypes.toList with
     |[x,y],[t,t']=>(match Nat.beq t t',(nthT TY t).d with
      |true,.slice e=>ifK (zeroB (nthT TY e).zero)<|evalK T x fun a=>evalK T y fun b=>srcK S b fun src=>(match a,src with
       |.nils,some r=>ifK (okSl TY t r)<|lenK r fun n=>capP (nthT TY e).bytes n<|killK d T S fun T S=>K (.vec d) T ((d,.vec 0 r [])::S)
       |.vec k,some r'=>(match findS S k with
        |some (.vec wm r [])=>ifK (okSl TY t r)<|catK r r' fun r''=>lenK r'' fun n=>capP (nthT TY e).bytes n<|
           (killK k T S fun T S=>K (.vec k) T ((k,.vec wm r'' [])::S))
        |some (.stk n0 r)=>ifK (okSl TY t r)<|catK r r' fun r''=>lenK r'' fun n=>capP (nthT TY e).bytes n<|restK k (.stk n0 r'') T S K
        |_=>False)
       |.full r,some r'=>ifK (okSl TY t r)<|catK r r' fun r''=>lenK r' fun n'=>lenK r'' fun n=>capP (nthT TY e).bytes n<|
          (n'=0→K (.ro r) T S)∧(n'≠0→killK d T S fun T S=>K (.vec d) T ((d,.vec 0 r'' [])::S))
       |.full r,none=>K (.ro r) T S
       |.vec k,none=>K (.vec k) T S
       |.nils,none=>K .nils T S
       |_,_=>False)
      |_,_=>False)
     |_,_=>False)
    |.builtin .clear=>(match c.args.toList,c.argTypes.toList with
     |[x],[t]=>evalK T x fun a=>(match a with
      |.vsuf k i=>(match findS S k with
       |some (.vec wm (.ints kk l) [])=>ifK (okSl TY t (.ints kk l))<|(match (nthT TY t).d with
        |.slice e=>intT TY e fun k'=>ifK (kq kk k')<|ifK (zeroB (nthT TY e).zero)<|((wm:Int)≤i∧i≤(l.length:Int))∧setS S k (.vec wm (.ints kk (l.take i.toNat++List.replicate (l.length - i.toNat) 0)) []) fun S=>K .any T S
        |_=>False)
       |_=>False)
      |_=>False)
     |_,_=>False)
    |.builtin .copy=>(match c.args.toList,c.argTypes.toList with
     |[x,y],[t,t']=>(match Nat.beq t t' with
      |true=>evalK T x fun a=>evalK T y fun b=>srcK S b fun src=>(match a,src with
       |.vec k,some r'=>(match findS S k with
        |some (.vec wm r [])=>ifK (Nat.beq wm 0)<|ifK (okSl TY t r)<|ifK (okSl TY t r')<|ifK (Nat.beq r.sz 1)<|r.len=r'.len∧setS S k (.vec 0 r' []) fun S=>K .any T S
        |_=>False)
       |_,_=>False)
      |false=>False)
     |_,_=>False)
    |_=>False)
   |_=>False
def deepLd (o:Op) (T:List AV) (S:Store):Bool:=
  match o with
  |.load _ (.tmp t)=>(match nth T t with|.vptr k _=>(match findS S k with|some (.deep r _)=>(match gridQ r with|true=>false|false=>true)|_=>false)|_=>false)
  |_=>false
def ldDeep (TY:List TyE) (d:Nat) (o:Op) (T:List AV) (S:Store) (K:AV→List AV→Store→Prop):Prop:=
  match o with
  |.load t x=>killK d T S fun T S=>evalK T x fun a=>(match a with
   |.vptr k i=>(match findS S k with
    |some (.deep r none)=>ifK (okEl TY t r)<|ifK (loc k)<|rowK r i fun s=>setS S k (.deep r (some i)) fun S=>K (.vec d) T ((d,.vec 0 s [])::S)
    |_=>False)
   |_=>False)
  |_=>False
def gridLd (o:Op) (T:List AV) (S:Store):Bool:=
  match o with
  |.load _ (.tmp t)=>(match nth T t with|.gptr k _ _=>(match findS S k with|some (.deep (.gi _) _)=>true|_=>false)|_=>false)
  |_=>false
def ldGrid (TY:List TyE) (d:Nat) (o:Op) (T:List AV) (S:Store) (K:AV→List AV→Store→Prop):Prop:=
  match o with
  |.load t x=>killK d T S fun T S=>evalK T x fun a=>(match a with
   |.gptr k i j=>(match findS S k with
    |some (.deep (.gi l) none)=>ifK (okEl TY t (.rows .i64 (l.getD i.toNat [])))<|ifK (loc k)<|setS S k (.gho l i j) fun S=>K (.vec d) T ((d,.vec 0 (.ints .i64 ((l.getD i.toNat []).getD j.toNat [])) [])::S)
    |_=>False)
   |_=>False)
  |_=>False
def ldOv (TY:List TyE) (d:Nat) (o:Op) (T:List AV) (S:Store) (K:AV→List AV→Store→Prop):Prop:=
  match o with
  |.load t x=>killK d T S fun T S=>evalK T x fun a=>(match a with
   |.vptr k i=>(match findS S k with
    |some (.deep r none)=>ifK (okEl TY t r)<|ifK (loc k)<|rowK r i fun s=>setS S k (.vec 0 r [(i,d)]) fun S=>K (.vec d) T ((d,.vec 0 s [])::S)
    |_=>False)
   |_=>False)
  |_=>False
def deepLit (o:Op) (T:List AV) (S:Store):Bool:=
  match o with
  |.buildSlice _ _ ps=>(match ps.toList with
   |[(_,.tmp x)]=>(match nth T x with|.vec h=>(match findS S h with|some (.vec _ (.ints _ _) [])=>true|some (.vec _ (.bools _) [])=>true|some (.vec _ (.nrows .i64 _) [])=>true|_=>false)|_=>false)
   |_=>false)
  |_=>false
def oneRow (r:RO) (K:RO→Prop):Prop:=
  match r with
  |.ints kk m=>K (.rows kk [m])|.bools m=>K (.gb [m])|.nrows .i64 m=>(∀x∈m,x=[])∧K (.gi [m])|_=>False
def ltDeep (TY:List TyE) (d:Nat) (o:Op) (T:List AV) (S:Store) (K:AV→List AV→Store→Prop):Prop:=
  match o with
  |.buildSlice t n ps=>ifK (Nat.beq n 1)<|(match (nthT TY t).d with
   |.slice e=>ifK (zeroB (nthT TY e).zero)<|(match ps.toList with
    |[(j,x)]=>ifK (Nat.beq j 0)<|evalK T x fun a=>(match a with
     |.vec h=>(match findS S h with
      |some (.vec wm r [])=>ifK (Nat.beq wm 0)<|oneRow r fun r=>ifK (okSl TY t r)<|forgetsK [h] T S fun T S=>killK d T S fun T S=>K (.vec d) T ((d,.deep r none)::S)
      |_=>False)
     |_=>False)
    |_=>False)
   |_=>False)
  |_=>False
def deepAp (o:Op) (T:List AV) (S:Store):Bool:=
  match o with
  |.call c=>(match c.callee with
   |.builtin .append=>(match c.args.toList with
    |[_,.tmp y]=>(match nth T y with|.vec j=>(match findS S j with|some (.deep _ _)=>true|_=>false)|_=>false)
    |_=>false)
   |_=>false)
  |_=>false
def snocRow (r s:RO) (K:RO→Prop):Prop:=
  match r,s with
  |.rows k l,.rows k' [m]=>ifK (kq k k') (K (.rows k (l++[m])))
  |.gb l,.gb [m]=>K (.gb (l++[m]))
  |.gi l,.gi [m]=>K (.gi (l++[m]))
  |_,_=>False
def oneQ:RO→Bool
  |.rows _ [_]=>true|.gb [_]=>true|.gi [_]=>true|_=>false
def apDeep (TY:List TyE) (d:Nat) (o:Op) (T:List AV) (S:Store) (K:AV→List AV→Store→Prop):Prop:=
  match o with
  |.call c=>(match c.callee with
   |.builtin .append=>(match c.args.toList,c.argTypes.toList with
    |[x,y],[t,t']=>(match Nat.beq t t',(nthT TY t).d with
     |true,.slice e=>ifK (zeroB (nthT TY e).zero)<|evalK T x fun a=>evalK T y fun b=>(match b with
      |.vec j=>(match findS S j with
       |some (.deep s none)=>ifK (oneQ s)<|(match a with
        |.nils=>ifK (okSl TY t s)<|capP (nthT TY e).bytes 1<|forgetsK [j] T S fun T S=>killK d T S fun T S=>K (.vec d) T ((d,.deep s none)::S)
        |.vec k=>(match findS S k with
         |some (.deep r none)=>ifK (nb k j)<|ifK (okSl TY t r)<|snocRow r s fun r'=>lenK r' fun n=>capP (nthT TY e).bytes (n:Int)<|forgetsK [j] T S fun T S=>killK k T S fun T S=>K (.vec k) T ((k,.deep r' none)::S)
         |_=>False)
        |_=>False)
       |_=>False)
      |_=>False)
     |_,_=>False)
    |_,_=>False)
   |_=>False)
  |_=>False
def opD (TY:List TyE) (F:Spec) (d:Nat) (o:Op) (T:List AV) (S:Store) (K:AV→List AV→Store→Prop):Prop:=
  match deepLit o T S with
  |true=>ltDeep TY d o T S K
  |false=>match deepAp o T S with
   |true=>apDeep TY d o T S K
   |false=>opB TY F d o T S K
def opK (TY:List TyE) (F:Spec) (d:Nat) (o:Op) (T:List AV) (S:Store) (K:AV→List AV→Store→Prop):Prop:=
  match gridLd o T S with
  |true=>ldGrid TY d o T S K
  |false=>match deepLd o T S with
  |true=>(match F.dm with
   |false=>ldDeep TY d o T S K
   |true=>ldOv TY d o T S K)
  |false=>match F.dm with
   |false=>opB TY F d o T S K
   |true=>opD TY F d o T S K
def guardK (ops:List Oper) (g:Option (Nat × Bool)) (T:List AV) (yes no:List AV→Prop):Prop:=
  match g with
  |none=>yes T
  |some (j,want)=>
   match (ops.getD j default).dst with
   |some d=>(match nth T d with
    |.bool e=>splitB e fun t=>putK T d (.bool (.lit t)) fun T'=>match t,want with|true,true=>yes T'|false,false=>yes T'|_,_=>no T'
    |.tup []=>no T
    |_=>False)
   |none=>False
noncomputable def opsK (TY:List TyE) (F:Spec) (ops:List Oper) (l:List Oper):List AV→Store→(List AV→Store→Prop)→Prop:=
  List.rec (motive:=fun _=>List AV→Store→(List AV→Store→Prop)→Prop) (fun T S K=>K T S)
    (fun o _ ih T S K=>guardK ops o.guard T
      (fun T=>dN o.dst fun d=>opK TY F d o.op T S fun v T S=>dstK o.dst T v fun T=>ih T S K)
      (fun T=>dstK o.dst T (.tup []) fun T=>ih T S K)) l
theorem opsK_cons {TY:List TyE} {F:Spec} {ops rest:List Oper} {o:Oper} {T:List AV} {S:Store} {K:List AV→Store→Prop}:opsK TY F ops (o::rest) T S K=guardK ops o.guard T
      (fun T=>dN o.dst fun d=>opK TY F d o.op T S fun v T S=>dstK o.dst T v fun T=>opsK TY F ops rest T S K)
      (fun T=>dstK o.dst T (.tup []) fun T=>opsK TY F ops rest T S K):=rfl
def bindB (e:Edge):Bool:=match e.ground with|.textOnly _=>false|.gcOnly _=>false|_=>true
def closE (C:List (List Nat)):List Edge→List Nat→List Nat
  |[],acc=>acc
  |e::l,acc=>if bindB e&& !(acc.contains e.on) then closE C l (((C.getD e.on []).filter fun j=>!(acc.contains j))++(e.on::acc)) else closE C l acc
def closAll:List Oper→List (List Nat)→List (List Nat)
  |[],C=>C
  |o::l,C=>closAll l (C++[closE C o.after.toList []])
def dstAt (ops:Array Oper) (i:Nat):Option Nat:=(ops[i]?).bind (·.dst)
def floatO (o:Oper):Bool:=
  (match o.guard with|none=>true|_=>false)&&(match o.op with|.move _=>true|.assign _=>true|.pick _ _ _=>true|.extract _ _=>true|_=>false)
def floatAt (ops:Array Oper) (j:Nat):Bool:=
  (match ops[j]? with|some o=>floatO o|none=>false)&&Region.noSelect ops&&Region.free .any ops (List.replicate j true++List.replicate (ops.size - j) false).toArray j
def drawAt (ops:Array Oper) (g:List Bool) (C:List (List Nat)) (i:Nat):Bool:=
  match ops[i]? with
  |none=>true
  |some o=>
   (o.after.toList.all fun e=>!bindB e||decide (e.on<i))&&
   ((C.getD i []).all fun j=>o.after.toList.any fun e=>bindB e&&(e.on==j||(C.getD e.on []).contains j))&&
   ((o.looksAt ops).all fun t=>(List.range ops.size).all fun j=>!(dstAt ops j==some t)||(decide (j<i)&&(C.getD i []).contains j)||(g.getD j false&&decide (i<j)))&&
   (!(g.getD i false)||(List.range ops.size).all fun j=>(decide (j<i)&&(C.getD i []).contains j)||j==i||(decide (i<j)&&(C.getD j []).contains i)||(decide (j<i)&&floatAt ops j))&&
   ((List.range ops.size).all fun j=>i==j||dstAt ops i==none|| !(dstAt ops i==dstAt ops j))
def drawOK (ops:Array Oper) (g:List Bool):Bool:=(List.range ops.size).all (drawAt ops g (closAll ops.toList []))
def freshK (S:Store) (d:Nat) (K:Prop):Prop:=match findS S d with|none=>ifK (loc d) K|some _=>False
noncomputable def drawK (TY:List TyE) (F:Spec) (ops:List Oper) (gl:List Bool) (l:List Oper):List AV→Store→(List AV→Store→Prop)→Prop:=
  List.rec (motive:=fun _=>List Bool→List AV→Store→(List AV→Store→Prop)→Prop) (fun _ T S K=>K T S)
    (fun o _ ih gl T S K=>match gl with
  |[]=>False
  |g::gs=>
   match g with
   |true=>guardK ops o.guard T
    (fun T=>dN o.dst fun d=>opK TY F d o.op T S fun v T S=>dstK o.dst T v fun T=>ih gs T S K)
    (fun T=>dstK o.dst T (.tup []) fun T=>ih gs T S K)
   |false=>guardK ops o.guard T
    (fun T=>match o.dst with
      |some d=>qK TY F d o.op T S fun v b=>(match b with
       |none=>putK T d v fun T=>ih gs T S K
       |some b=>freshK S d (putK T d v fun T=>ih gs T ((d,b)::S) K))
      |none=>qK TY F 999 o.op T S fun _v b=>(match b with
       |none=>ih gs T S K
       |some _=>False))
    (fun T=>dstK o.dst T (.tup []) fun T=>ih gs T S K)) l gl
theorem drawK_nil {TY:List TyE} {F:Spec} {ops:List Oper} {gl:List Bool} {T:List AV} {S:Store} {K:List AV→Store→Prop}:drawK TY F ops gl [] T S K=K T S:=rfl
theorem drawK_cons {TY:List TyE} {F:Spec} {ops rest:List Oper} {o:Oper} {g:Bool} {gs:List Bool} {T:List AV} {S:Store} {K:List AV→Store→Prop}:drawK TY F ops (g::gs) (o::rest) T S K=(match g with
    |true=>guardK ops o.guard T
     (fun T=>dN o.dst fun d=>opK TY F d o.op T S fun v T S=>dstK o.dst T v fun T=>drawK TY F ops gs rest T S K)
     (fun T=>dstK o.dst T (.tup []) fun T=>drawK TY F ops gs rest T S K)
    |false=>guardK ops o.guard T
     (fun T=>match o.dst with
       |some d=>qK TY F d o.op T S fun v b=>(match b with
        |none=>putK T d v fun T=>drawK TY F ops gs rest T S K
        |some b=>freshK S d (putK T d v fun T=>drawK TY F ops gs rest T ((d,b)::S) K))
       |none=>qK TY F 999 o.op T S fun _v b=>(match b with
        |none=>drawK TY F ops gs rest T S K
        |some _=>False))
     (fun T=>dstK o.dst T (.tup []) fun T=>drawK TY F ops gs rest T S K)):=rfl
inductive Sch where
  |done|fst (i:Nat) (s:Sch)|br (i:Nat) (s:Sch) (r:Sch)|no|txt|dag (N:List (Nat × List (Nat × Nat)))
def pureO (o:Oper):Bool:=
  (match o.guard with|none=>true|_=>false)&&(match o.op with|.move _=>true|.assign _=>true|.slice _ _ _ _ none=>true|.fieldAddr _ _ _=>true|.nilCheck _=>true|_=>false)
def Sch.heads:Sch→List Nat|.br i _ r=>i::r.heads|_=>[]
def maskL (n m:Nat):Array Bool:=((List.range n).map (Nat.testBit m)).toArray
def dagAt:List (Nat × List (Nat × Nat))→Nat→Nat × List (Nat × Nat)
  |[],_=>(0,[])|a::_,0=>a|_::l,n+1=>dagAt l n
def dagOK (ops:Array Oper) (N:List (Nat × List (Nat × Nat))) (l:Array Bool):Bool:=
  decide (0<N.length)&&(maskL ops.size (dagAt N 0).1==l)&&(List.range N.length).all fun n=>
    ((Region.ready .any ops (maskL ops.size (dagAt N n).1)).all fun i=>(dagAt N n).2.any fun e=>e.1==i)&&(dagAt N n).2.all fun e=>
      (Region.ready .any ops (maskL ops.size (dagAt N n).1)).contains e.1&&decide (e.2<N.length)&&(maskL ops.size (dagAt N e.2).1==(maskL ops.size (dagAt N n).1).setIfInBounds e.1 true)
def schOK (ops:Array Oper):Sch→Array Bool→Bool→Bool
  |.done,l,c=>!c&&(Region.ready .any ops l).isEmpty
  |.no,_,c=>c
  |.txt,_,_=>false
  |.dag N,l,c=>!c&&dagOK ops N l
  |.fst i s,l,c=>!c&&(match ops[i]? with|some o=>pureO o|none=>false)&&(Region.ready .any ops l).contains i&&Region.free .any ops l i&&schOK ops s (l.setIfInBounds i true) false
  |.br i s r,l,c=>(c||(!(Region.ready .any ops l).isEmpty&&(Region.ready .any ops l).all fun j=>(i::r.heads).contains j))&&(Region.ready .any ops l).contains i&&schOK ops s (l.setIfInBounds i true) false&&schOK ops r l true
def txtOK (ops:Array Oper):Bool:=Region.lexB .any ops&&ops.toList.all fun o=>o.guard.isNone&&quietOp o.op&& !makesOp o.op
def schAll (ops:Array Oper) (t:Sch):Bool:=(match t with|.txt=>true|_=>false)&&txtOK ops||Region.noSelect ops&&schOK ops t (Array.replicate ops.size false) false
noncomputable def txtK (TY:List TyE) (F:Spec) (l:List Oper):List AV→Store→(List AV→Store→Prop)→Prop:=
  List.rec (motive:=fun _=>List AV→Store→(List AV→Store→Prop)→Prop) (fun T S K=>K T S)
    (fun o _ ih T S K=>dN o.dst fun d=>qK TY F d o.op T S fun v b=>match b with|none=>dstK o.dst T v fun T=>ih T S K|some _=>False) l
theorem txtK_cons {TY:List TyE} {F:Spec} {o:Oper} {l:List Oper} {T:List AV} {S:Store} {K:List AV→Store→Prop}:txtK TY F (o::l) T S K=dN o.dst fun d=>qK TY F d o.op T S fun v b=>match b with|none=>dstK o.dst T v fun T=>txtK TY F l T S K|some _=>False:=rfl
def stK:List (List AV × Store)→Nat→(List AV→Store→Prop)→Prop
  |[],_,_=>False
  |(T,S)::_,0,K=>K T S
  |_::l,n+1,K=>stK l n K
def stEq (st:List (List AV × Store)) (n:Nat) (T:List AV) (S:Store):Prop:=stK st n fun T' S'=>T=T'∧S=S'
noncomputable def dagE (TY:List TyE) (F:Spec) (ops:List Oper) (st:List (List AV × Store)) (T:List AV) (S:Store):List (Nat × Nat)→Prop
  |[]=>True
  |(i,m)::l=>(match ops.getD i default with
   |o=>guardK ops o.guard T
    (fun T=>dN o.dst fun d=>opK TY F d o.op T S fun v T S=>dstK o.dst T v fun T=>stEq st m T S)
    (fun T=>dstK o.dst T (.tup []) fun T=>stEq st m T S))∧dagE TY F ops st T S l
noncomputable def dagK (TY:List TyE) (F:Spec) (ops:List Oper) (st:List (List AV × Store)) (K:List AV→Store→Prop):List (Nat × List (Nat × Nat))→Nat→Prop
  |[],_=>True
  |(_,nx)::N,n=>stK st n (fun T S=>match nx with|[]=>K T S|nx=>dagE TY F ops st T S nx)∧dagK TY F ops st K N (n+1)
noncomputable def schK (TY:List TyE) (F:Spec) (ops:List Oper):Sch→List AV→Store→(List AV→Store→Prop)→Prop
  |.done,T,S,K=>K T S
  |.no,_,_,_=>True
  |.txt,T,S,K=>txtK TY F ops T S K
  |.dag N,T,S,K=>∃st,stEq st 0 T S∧dagK TY F ops st K N 0
  |.fst i s,T,S,K=>(match ops.getD i default with
   |o=>guardK ops o.guard T
    (fun T=>dN o.dst fun d=>qK TY F d o.op T S fun v b=>match b with|none=>dstK o.dst T v fun T=>schK TY F ops s T S K|some _=>False)
    (fun _=>False))
  |.br i s r,T,S,K=>(match ops.getD i default with
   |o=>guardK ops o.guard T
    (fun T=>dN o.dst fun d=>opK TY F d o.op T S fun v T S=>dstK o.dst T v fun T=>schK TY F ops s T S K)
    (fun T=>dstK o.dst T (.tup []) fun T=>schK TY F ops s T S K))∧schK TY F ops r T S K
def killsK:List Nat→List AV→Store→(List AV→Store→Prop)→Prop
  |[],T,S,K=>K T S
  |d::l,T,S,K=>match findS S d with
   |none=>killsK l T S K
   |some _=>killK d T S fun T S=>killsK l T S K
def makes:List Bool→List Oper→List Nat
  |g::gs,o::l=>(match g,makesOp o.op||(match o.op with|.call _=>true|_=>false),o.dst with|false,true,some d=>d::makes gs l|_,_,_=>makes gs l)
  |_,_=>[]
def memN (n:Nat):List Nat→Bool
  |[]=>false|m::l=>match Nat.beq n m with|true=>true|false=>memN n l
def dsts:List Oper→List Nat→List Nat
  |[],acc=>acc
  |o::l,acc=>match o.dst with|some d=>dsts l (d::acc)|none=>dsts l acc
def writes:Code→List Nat→List Nat
  |.region _ ops _,acc=>dsts ops.toList acc
  |.seq a b,acc=>writes a (writes b acc)|.cond _ a b,acc=>writes a (writes b acc)
  |.block _ b,acc=>writes b acc|.loop b,acc=>writes b acc|.scope b,acc=>writes b acc|_,acc=>acc
def forgetK (W:List Nat):Nat→List AV→(List AV→Prop)→Prop
  |_,[],k=>k []
  |i,a::l,k=>forgetK W (i+1) l fun l'=>match memN i W with|true=>k (.any::l')|false=>k (a::l')
def delsS:List Nat→Store→(Store→Prop)→Prop
  |[],S,K=>K S
  |w::W,S,K=>match Nat.ble 10000 w with|true=>delS S (w - 10000) fun S=>delsS W S K|false=>delsS W S K
def updK:List (Nat × AV)→List AV→(List AV→Prop)→Prop
  |[],T,k=>k T
  |(i,v)::u,T,k=>putK T i v fun T'=>updK u T' k
def leU (S S':Store) (T:List AV):List (Nat × AV)→Prop
  |[]=>True
  |(i,v)::u=>leT S S' (nth T i) v∧leU S S' T u
inductive EX where
  |normal|exit (id:Nat)|ret
def onceW (W:List Nat):Bool:=match W with|[]=>false|w::_=>Nat.beq w 7777
def loopK (ex:List AV→Store→(EX→List AV→Store→Prop)→Prop) (wr:List Nat) (W:List Nat) (T:List AV) (St:Store) (Q:EX→List AV→Store→Prop):Prop:=
  delsS W St fun S=>forgetK (appN W wr) 0 T fun T0=>
     ∃(X:Type) (U:X→List (Nat × AV)) (V:X→Store) (ok:X→Prop) (μ:X→Nat) (x0:X),
      (ok x0∧(updS (V x0) S fun S0=>ifK (namesT S0 T0) (leU St S0 T (U x0)∧leS St S0 S0)))∧
      ∀x,ok x→updK (U x) T0 fun T1=>updS (V x) S fun S1=>ex T1 S1 fun e T2 S2=>match e with
       |.normal=>forgetK (appN W wr) 0 T2 fun T3=>∃x',(ok x'∧μ x'<μ x)∧T3=T0∧updS (V x') S fun S3=>ifK (namesT S3 T0) (leU S2 S3 T2 (U x')∧leS S2 S3 S3)
       |.exit i=>Q (.exit i) T2 S2
       |.ret=>Q .ret T2 S2
def exK (TY:List TyE) (F:Spec):Code→List AV→Store→(EX→List AV→Store→Prop)→Prop
  |.skip,T,S,Q=>Q .normal T S
  |.region _ ops false,T,S,Q=>opsK TY F ops.toList ops.toList T S (Q .normal)
  |.region _ ops true,T,S,Q=>(∃g:List Bool,drawOK ops g=true∧killsK (makes g ops.toList) T S fun T S=>drawK TY F ops.toList g ops.toList T S (Q .normal))∨
     ∃t:Sch,schAll ops t=true∧schK TY F ops.toList t T S (Q .normal)
  |.seq a b,T,S,Q=>exK TY F a T S fun e T S=>match e with|.normal=>exK TY F b T S Q|.exit i=>Q (.exit i) T S|.ret=>Q .ret T S
  |.cond c a b,T,S,Q=>evalK T c fun c=>match c with
   |.bool e=>splitB e fun t=>match t with|true=>exK TY F a T S Q|false=>exK TY F b T S Q
   |.may t n=>(match t with|true=>(n=0→exK TY F a T S Q)∧exK TY F b T S Q|false=>exK TY F a T S Q∧(n=0→exK TY F b T S Q))
   |_=>False
  |.block id b,T,S,Q=>exK TY F b T S fun e T S=>match e with
   |.exit j=>(match Nat.beq j id with|true=>Q .normal T S|false=>Q (.exit j) T S)
   |.normal=>Q .normal T S|.ret=>Q .ret T S
  |.loop b,T,St,Q=>∃W:List Nat,match onceW W with
   |true=>exK TY F b T St fun e T2 S2=>match e with
      |.normal=>∃W:List Nat,loopK (exK TY F b) (writes b []) W T2 S2 Q
      |.exit i=>Q (.exit i) T2 S2
      |.ret=>Q .ret T2 S2
   |false=>loopK (exK TY F b) (writes b []) W T St Q
  |.exit id,T,S,Q=>Q (.exit id) T S
  |.scope b,T,S,Q=>exK TY F b T S Q
  |.ret,T,S,Q=>Q .ret T S
  |_,_,_,_=>False
def newKey:List AV→List AV→Store
  |.vec k::l,.new _::m=>match newKey l m with|[]=>[(k,.box [])]|S=>(k,.box [])::S
  |_::l,_::m=>newKey l m
  |_,_=>[]
def leR (S S':Store) (a b:AV):Prop:=
  match b with
  |.new r'=>(match a with
   |.vec k=>(match findS S k with|some (.vec wm r [])=>wm=0∧dnR r=r'|_=>False)
   |.nils=>r'.len=0
   |_=>False)
  |b=>leT S S' a b
def leRs (S S':Store):List AV→List AV→Prop
  |[],[]=>True
  |a::l,b::m=>leR S S' a b∧leRs S S' l m
  |_,_=>False
def cleanA:AV→Bool
  |.vec _=>false|.ptr _ _=>false|.vptr _ _=>false|.cptr _ _ _=>false|.vsuf _ _=>false|.full _=>false|.row _ _=>false|.gptr _ _ _=>false|.tup _=>false|.fn _ (_::_)=>false|_=>true
def cleanL:List AV→Bool
  |[]=>true|a::l=>match cleanA a with|true=>cleanL l|false=>false
def cleanG:List AV→Bool
  |[]=>true
  |a::l=>match a with
   |.agg m=>(match cleanL m with|true=>cleanG l|false=>false)
   |a=>(match cleanA a with|true=>cleanG l|false=>false)
def retsK (S:Store) (as rs:List AV):Prop:=
  match newKey as rs with
  |[]=>ifK (cleanG rs) (leRs S [] as rs)
  |[x]=>ifK (cleanG rs) (leRs S [x] as rs)
  |_=>False
def resK (TY:List TyE) (T:List AV) (S:Store):List ResultVar→(List AV→Prop)→Prop
  |[],K=>K []
  |.tmp t::l,K=>forceA (nth T t) fun a=>resK TY T S l fun m=>K (a::m)
  |.cell t ty::l,K=>(match nth T t with
   |.ptr k off=>(match findS S k with
    |some (.box b)=>partK TY ty b off fun a=>resK TY T S l fun m=>K (a::m)
    |_=>False)
   |_=>False)
def repl:Nat→List AV
  |0=>[]|n+1=>.any::repl n
def dropN:Nat→List AV→Nat
  |n,[]=>n|0,_::_=>0|n+1,_::l=>dropN n l
def factsR:RO→Prop
  |.ints k l=>l.length≤140737488355328∧∀x∈l,rangeK k x
  |.bools l=>l.length≤140737488355328
  |.rows k l=>l.length≤140737488355328∧∀m∈l,m.length≤140737488355328∧∀x∈m,rangeK k x
  |.brows l=>l.length≤140737488355328∧∀m∈l,m.length≤140737488355328
  |.rows3 l=>l.length≤140737488355328∧∀n∈l,n.length≤140737488355328∧∀m∈n,m.length≤140737488355328∧∀x∈m,rangeK .i64 x
  |.pairs l=>l.length≤140737488355328∧∀p∈l,rangeK .i64 p.1∧rangeK .i64 p.2
  |.arrs _ _ l=>l.length≤140737488355328
  |.facs l=>l.length≤140737488355328∧∀p∈l,rangeK .i64 p.1
  |.gb _=>True|.gi _=>True
  |.prins l=>l.length≤140737488355328
  |.strs l=>l.length≤140737488355328
  |.ruls l=>l.length≤140737488355328
  |.nrows k l=>l.length≤140737488355328∧∀m∈l,m.length≤140737488355328∧∀x∈m,rangeK k x
  |.prows l=>l.length≤140737488355328∧∀m∈l,m.length≤140737488355328∧∀p∈m,rangeK .i64 p.1∧rangeK .i64 p.2
def factsA (a:AV):Prop:=match a with|.int k n=>rangeK k n|.ro r=>factsR r|_=>True
def factsC:List AV→Prop
  |[]=>True|a::l=>factsA a∧factsC l
def factsL:List AV→Prop
  |[]=>True|a::l=>(match a with|.agg m=>factsC m|a=>factsA a)∧factsL l
def fnK (TY:List TyE) (F:Spec) (fn:Func) (args:List AV) (ret:AV):Prop:=
  match fn.body with
  |some c=>exK TY F c (appA args (repl (dropN fn.ntmps args))) [] fun e T S=>match e with
   |.exit _=>False
   |_=>resK TY T S fn.results.toList fun as=>match as,ret with
    |[a],r=>retsK S [a] [r]
    |as,.tup rs=>retsK S as rs
    |_,_=>False
  |none=>False
def fnEK (TY:List TyE) (F:Spec) (fn:Func) (args:List AV) {X:Type} (out:X→AV) (ok:X→Prop):Prop:=
  match fn.body with
  |some c=>exK TY F c (appA args (repl (dropN fn.ntmps args))) [] fun e T S=>match e with
   |.exit _=>False
   |_=>resK TY T S fn.results.toList fun as=>∃x,ok x∧match as,out x with
    |[a],r=>retsK S [a] [r]
    |as,.tup rs=>retsK S as rs
    |_,_=>False
  |none=>False
def unstkK:Store→List AV→Store→(List AV→Store→Prop)→Prop
  |[],T,S,K=>K T S
  |(k,b)::R,T,S,K=>match b with
   |.jnk _ _=>(match findS S k with
    |some (.stk n r)=>delS S k fun S=>sweepT k .any T fun T=>sweepS k .any S fun S=>unstkK R T ((k,.jnk n r.sz)::S) K
    |_=>unstkK R T S K)
   |_=>unstkK R T S K
def fnMK (TY:List TyE) (F:Spec) (fn:Func) (args:List AV) (S1:Store) (ret:AV) (S2:Store):Prop:=
  match fn.body with
  |some c=>exK TY F c (appA args (repl (dropN fn.ntmps args))) S1 fun e T S=>match e with
   |.exit _=>False
   |_=>unstkK S2 T S fun T S=>resK TY T S fn.results.toList fun as=>leS S S2 S2∧match as,ret with
    |[a],r=>leT S S2 a r
    |as,.tup rs=>leG S S2 as rs
    |_,_=>False
  |none=>False
end Go.AM
end
section
namespace Go.AM
open Go
abbrev LB:Nat:=140737488355328
structure Sl where
  blk:Option Nat
  len:Nat
  cap:Nat
  sz:Nat
structure RowO where
  sl:Sl
  sub:List Sl
inductive Own where
  |sl (o:Sl)|bx (b:Nat)|mp (b:Nat)|dp (o:Sl) (rows:List RowO) (g:Bool)|st (o cur:Sl)
def nilSl:Sl:=⟨none,0,0,1⟩
def nilRow:RowO:=⟨nilSl,[]⟩
def RowO.has (R:RowO) (b:Nat):Prop:=R.sl.blk=some b∨∃j,(R.sub.getD j nilSl).blk=some b
def Sl.val (o:Sl):Value:=.slice (o.blk.map fun b=>⟨b,0,none⟩) o.len o.cap
def Sl.suf (o:Sl) (i:Nat):Value:=.slice (if o.cap=i then (o.blk.map fun b=>⟨b,0,none⟩) else (o.blk.map fun b=>(⟨b,0,none⟩:Addr)).map (·.add (i*o.sz))) (o.len - i) (o.cap - i)
def Own.ref:Own→Nat→Option Value
  |.bx b,off=>some (.pointer (some ⟨b,off,none⟩))|.mp b,_=>some (.map (some b))|_,_=>none
def Own.sli:Own→Option Sl
  |.sl o=>some o|.dp o _ _=>some o|.st _ o=>some o|_=>none
def Own.rws:Own→Option (List Sl)
  |.dp _ rows true=>some (rows.map (·.sl))|_=>none
def Own.base:Own→Own
  |.st o _=>.sl o|o=>o
abbrev Env:=Nat→Option Own
abbrev Msk:=Nat→Nat→Prop
def isCell:Value→Prop
  |.agg _=>False|.tuple _=>False|_=>True
def SlOf (w:World) (M:Msk) (n:Nat) (C:Nat→Value→Prop) (m:Nat) (v:Value):Prop:=
  ∃a cap,v= .slice a m cap∧m≤cap∧(n=0∨∃b off,a=some ⟨b,off,none⟩∧∀q,q<n→∃c,w.cell? ⟨b,off+q,none⟩=some c∧¬M b (off+q)∧C q c)
def RO.cells (r:RO):Nat:=r.len*r.sz
def SlI (w:World) (M:Msk) (k:IntKind) (l:List Int) (v:Value):Prop:=
  l.length≤LB∧SlOf w M l.length (fun q c=>c= .int k (l.getD q 0)∧inK k (l.getD q 0)) l.length v
def SlB (w:World) (M:Msk) (l:List Bool) (v:Value):Prop:=
  l.length≤LB∧SlOf w M l.length (fun q c=>c= .bool (l.getD q false)) l.length v
def Sl2 (w:World) (M:Msk) (k:IntKind) (l:List (List Int)) (v:Value):Prop:=
  l.length≤LB∧SlOf w M l.length (fun q c=>SlI w M k (l.getD q []) c) l.length v
def SlP (w:World) (M:Msk) (l:List (Int × Int)) (v:Value):Prop:=
  l.length≤LB∧SlOf w M (l.length*2) (fun q c=>if q % 2=0 then c= .int .i64 (l.getD (q / 2) (0,0)).1∧inK .i64 (l.getD (q / 2) (0,0)).1 else c= .int .i64 (l.getD (q / 2) (0,0)).2∧inK .i64 (l.getD (q / 2) (0,0)).2) l.length v
def strB (l:List Int):ByteArray:=⟨(l.map fun x=>UInt8.ofNat x.toNat).toArray⟩
def byteP (x:Int):Prop:=0≤x∧x≤255
def StrP (l:List Int) (v:Value):Prop:=v= .string (strB l)∧∀x∈l,byteP x
def CellP (w:World) (M:Msk):RO→Nat→Value→Prop
  |.ints k l,q,c=>c= .int k (l.getD q 0)∧inK k (l.getD q 0)
  |.bools l,q,c=>c= .bool (l.getD q false)
  |.rows k l,q,c=>SlI w M k (l.getD q []) c
  |.brows l,q,c=>SlB w M (l.getD q []) c
  |.rows3 l,q,c=>Sl2 w M .i64 (l.getD q []) c
  |.pairs l,q,c=>if q % 2=0 then c= .int .i64 (l.getD (q / 2) (0,0)).1∧inK .i64 (l.getD (q / 2) (0,0)).1 else c= .int .i64 (l.getD (q / 2) (0,0)).2∧inK .i64 (l.getD (q / 2) (0,0)).2
  |.arrs n k l,q,c=>c= .int k ((l.getD (q / (n+2)) []).getD (q % (n+2)) 0)∧inK k ((l.getD (q / (n+2)) []).getD (q % (n+2)) 0)
  |.nrows k l,q,c=>SlI w M k (l.getD q []) c∧(l.getD q []=[]→c= .slice none 0 0)
  |.prows l,q,c=>SlP w M (l.getD q []) c
  |.facs l,q,c=>if q % 2=0 then c= .int .i64 (l.getD (q / 2) (0,false)).1∧inK .i64 (l.getD (q / 2) (0,false)).1 else c= .bool (l.getD (q / 2) (0,false)).2
  |.gb _,_,_=>False
  |.gi _,_,_=>False
  |.strs l,q,c=>StrP (l.getD q []) c
  |.ruls l,q,c=>if q % 2=0 then StrP (l.getD (q / 2) ([],[])).1 c else StrP (l.getD (q / 2) ([],[])).2 c
  |.prins l,q,c=>if q % 4=0 then c= .int .i64 (l.getD (q / 4) prn0).1.1∧inK .i64 (l.getD (q / 4) prn0).1.1 else if q % 4=1 then c= .int .i64 (l.getD (q / 4) prn0).1.2∧inK .i64 (l.getD (q / 4) prn0).1.2 else if q % 4=2 then SlI w M .i64 (l.getD (q / 4) prn0).2.1 c else SlP w M (l.getD (q / 4) prn0).2.2 c
def RepRO (w:World) (M:Msk) (r:RO) (v:Value):Prop:=r.len≤LB∧SlOf w M r.cells (CellP w M r) r.len v
theorem bind_isSome {α β:Type} {x:Option α} {f:α→Option β} {b:β} (h:x.bind f=some b):x.isSome=true:=by cases x with|none=>cases h|some a=>rfl
theorem ref_some {ρ:Env} {k off:Nat} {v:Value} (h:(ρ k).bind (Own.ref · off)=some v):∃b,(ρ k=some (.bx b)∧v= .pointer (some ⟨b,off,none⟩))∨(ρ k=some (.mp b)∧v= .map (some b)):=by
  cases ho:ρ k with
  |none=>rw [ho] at h;cases h
  |some o=>
   rw [ho] at h
   cases o with
   |bx b=>cases h;exact ⟨b,.inl ⟨rfl,rfl⟩⟩
   |mp b=>cases h;exact ⟨b,.inr ⟨rfl,rfl⟩⟩
   |_=>cases h
theorem ref_bx {ρ:Env} {k off b:Nat} {v:Value} (hk:ρ k=some (.bx b)) (h:(ρ k).bind (Own.ref · off)=some v):v= .pointer (some ⟨b,off,none⟩):=by rw [hk] at h;cases h;rfl
theorem ref_mp {ρ:Env} {k off b:Nat} {v:Value} (hk:ρ k=some (.mp b)) (h:(ρ k).bind (Own.ref · off)=some v):v= .map (some b):=by rw [hk] at h;cases h;rfl
theorem of_bx {ρ:Env} {k b:Nat} (off:Nat) (hk:ρ k=some (.bx b)):(ρ k).bind (Own.ref · off)=some (.pointer (some ⟨b,off,none⟩)):=by rw [hk];rfl
theorem of_mp {ρ:Env} {k b:Nat} (off:Nat) (hk:ρ k=some (.mp b)):(ρ k).bind (Own.ref · off)=some (.map (some b)):=by rw [hk];rfl
theorem sli_sl {ρ:Env} {k:Nat} {o o':Sl} (hk:ρ k=some (.sl o)) (h:(ρ k).bind Own.sli=some o'):o'=o:=by rw [hk] at h;cases h;rfl
theorem of_sl {ρ:Env} {k:Nat} {o:Sl} (hk:ρ k=some (.sl o)):(ρ k).bind Own.sli=some o:=by rw [hk];rfl
theorem of_st {ρ:Env} {k:Nat} {o cur:Sl} (hk:ρ k=some (.st o cur)):(ρ k).bind Own.sli=some cur:=by rw [hk];rfl
theorem of_dp {ρ:Env} {k:Nat} {o:Sl} {rows:List RowO} {g:Bool} (hk:ρ k=some (.dp o rows g)):(ρ k).bind Own.sli=some o:=by rw [hk];rfl
def RepC (ρ:Env) (w:World) (M:Msk):AV→Value→Prop
  |.int k n,v=>v= .int k n∧inK k n
  |.bool e,v=>v= .bool e.val
  |.ro r,v=>RepRO w M r v
  |.vec k,v=>∃o,(ρ k).bind Own.sli=some o∧v=o.val
  |.ptr k off,v=>(ρ k).bind (Own.ref · off)=some v
  |.nils,v=>v= .slice none 0 0
  |.may b n,v=>∃x,v= .bool x∧(x=b→n=0)
  |.any,v=>isCell v
  |.fn f [],v=>v= .func (.func f) #[] #[]
  |.rptr r i,v=>∃b off cap,RepRO w M r (.slice (some ⟨b,off,none⟩) r.len cap)∧0≤i∧i<r.len∧v= .pointer (some ⟨b,off+i.toNat*r.sz,none⟩)
  |.vptr k i,v=>∃o b,(ρ k).bind Own.sli=some o∧o.blk=some b∧0≤i∧i<o.len∧v= .pointer (some ⟨b,i.toNat*o.sz,none⟩)
  |.cptr k i j,v=>∃o b,(ρ k).bind Own.sli=some o∧o.blk=some b∧0≤i∧i<o.len∧v= .pointer (some ⟨b,i.toNat*o.sz+j,none⟩)
  |.vsuf k i,v=>∃o,(ρ k).bind Own.sli=some o∧0≤i∧i≤o.len∧v=o.suf i.toNat
  |.row k i,v=>∃l,(ρ k).bind Own.rws=some l∧0≤i∧i.toNat<l.length∧v=(l.getD i.toNat nilSl).val
  |.gptr k i j,v=>∃l b,(ρ k).bind Own.rws=some l∧0≤i∧i.toNat<l.length∧(l.getD i.toNat nilSl).blk=some b∧(0≤j∧j<(l.getD i.toNat nilSl).len)∧v= .pointer (some ⟨b,j.toNat,none⟩)
  |.full r,v=>RepRO w M r v∧∃a,v= .slice a r.len r.len
  |.str l,v=>v= .string (strB l)∧∀x∈l,byteP x
  |.cfn f r i,v=>∃b off cap,RepRO w M r (.slice (some ⟨b,off,none⟩) r.len cap)∧0≤i∧i<r.len∧v= .func (.func f) #[] #[.pointer (some ⟨b,off+i.toNat*r.sz,none⟩)]
  |_,_=>False
def RepL (R:AV→Value→Prop):List AV→List Value→Prop
  |[],[]=>True
  |a::l,v::m=>R a v∧RepL R l m
  |_,_=>False
def RepG (ρ:Env) (w:World) (M:Msk):AV→Value→Prop
  |.agg l,v=>∃cs,v= .agg cs∧RepL (RepC ρ w M) l cs.toList
  |.any,_=>True
  |a,v=>RepC ρ w M a v
def RepT (ρ:Env) (w:World) (M:Msk):AV→Value→Prop
  |.agg l,v=>∃cs,v= .agg cs∧RepL (RepC ρ w M) l cs.toList
  |.tup l,v=>∃cs,v= .tuple cs∧RepL (RepG ρ w M) l cs.toList
  |.fn f l,v=>∃cs,v= .func (.func f) #[] cs∧RepL (RepC ρ w M) l cs.toList
  |.any,_=>True
  |a,v=>RepC ρ w M a v
def VecH (ρ:Env) (w:World) (M:Msk) (o:Sl) (wm:Nat) (r:RO) (ov:List (Int × Nat)):Prop:=
  o.len=r.len∧o.sz=r.sz∧r.len≤LB∧wm≤r.len∧
  match o.blk with
  |none=>r.len=0∧o.cap=0
  |some b=>o.len≤o.cap∧∃cs ty,w.heap[b]? =some (.cells cs ty (0,0))∧cs.size=o.cap*o.sz∧
     (∀off,M b off↔wm*o.sz≤off∧off<cs.size)∧
     ∀q,q<r.cells→∃c,cs[q]? =some c∧match ov with
      |[]=>CellP w M r q c
      |(i,j)::_=>if (q:Int)=i then RepC ρ w M (.vec j) c else CellP w M r q c
def KeyV:KeyD→List Int→Value→Prop
  |.int k,l,v=>∃n,l=[n]∧v= .int k n∧inK k n
  |.arr n k,l,v=>l.length=n∧v= .agg (l.map fun x=>Value.int k x).toArray∧∀x∈l,inK k x
  |.str,l,v=>v= .string (strB l)∧∀x∈l,byteP x
def ValV:Option IntKind→Int→Value→Prop
  |some k,n,v=>v= .int k n∧inK k n
  |none,n,v=>v= .bool (decide (n≠0))∧(n=0∨n=1)
def RepM (kd:KeyD) (vk:Option IntKind):List (List Int × Int)→List MapEntry→Prop
  |[],[]=>True
  |p::m,e::es=>(KeyV kd p.1 e.key∧ValV vk p.2 e.val)∧RepM kd vk m es
  |_,_=>False
def RO.row:RO→Nat→RO
  |.rows k l,q=>.ints k (l.getD q [])|.brows l,q=>.bools (l.getD q [])|.rows3 l,q=>.rows .i64 (l.getD q [])|.gb l,q=>.bools (l.getD q [])|r,_=>r
structure DeepI (w:World) (M:Msk) (o:Sl) (rows:List Sl) (r:RO) (hole:Option Int):Prop where
  rq:rowsQ r=true
  len:o.len=r.len
  osz:o.sz=1
  lb:r.len≤LB
  rlen:rows.length=r.len
  outer:match o.blk with
    |none=>r.len=0∧o.cap=0
    |some b=>o.len≤o.cap∧∃cs ty,w.heap[b]? =some (.cells cs ty (0,0))∧cs.size=o.cap∧(∀off,M b off↔off<cs.size)∧∀q,q<r.len→∃c,cs[q]? =some c∧(hole=some (q:Int)∨c=(rows.getD q nilSl).val)
  row:∀q,q<r.len→hole≠some (q:Int)→VecH (fun _=>none) w M (rows.getD q nilSl) 0 (r.row q) []
  hol:∀i,hole=some i→(0≤i∧i<r.len)∧(rows.getD i.toNat nilSl).blk=none
  out:∀q b,(rows.getD q nilSl).blk=some b→o.blk≠some b
  apart:∀q q' b,(rows.getD q nilSl).blk=some b→(rows.getD q' nilSl).blk=some b→q=q'
def RowH (w:World) (M:Msk) (R:RowO) (r:RO) (q:Nat) (h:Option Int):Prop:=
  match r with
  |.gi l=>DeepI w M R.sl R.sub (.rows .i64 (l.getD q [])) h
  |r=>R.sub=[]∧VecH (fun _=>none) w M R.sl 0 (r.row q) []
def cellOf (hc:Option (Int × Int)) (q:Nat):Option Int:=match hc with|some (i,j)=>if (q:Int)=i then some j else none|none=>none
structure DeepG (w:World) (M:Msk) (o:Sl) (rows:List RowO) (r:RO) (hole:Option Int) (hc:Option (Int × Int)):Prop where
  rq:rowsQ r=true
  len:o.len=r.len
  osz:o.sz=1
  lb:r.len≤LB
  rlen:rows.length=r.len
  outer:match o.blk with
    |none=>r.len=0∧o.cap=0
    |some b=>o.len≤o.cap∧∃cs ty,w.heap[b]? =some (.cells cs ty (0,0))∧cs.size=o.cap∧(∀off,M b off↔off<cs.size)∧∀q,q<r.len→∃c,cs[q]? =some c∧(hole=some (q:Int)∨c=(rows.getD q nilRow).sl.val)
  row:∀q,q<r.len→hole≠some (q:Int)→RowH w M (rows.getD q nilRow) r q (cellOf hc q)
  hol:∀i,hole=some i→(0≤i∧i<r.len)∧∀b,¬(rows.getD i.toNat nilRow).has b
  out:∀q b,(rows.getD q nilRow).has b→o.blk≠some b
  apart:∀q q' b,(rows.getD q nilRow).has b→(rows.getD q' nilRow).has b→q=q'
abbrev DeepH (w:World) (M:Msk) (o:Sl) (rows:List RowO) (r:RO) (hole:Option Int):Prop:=DeepG w M o rows r hole none
def JnkH (w:World) (M:Msk) (o:Sl) (n z:Nat):Prop:=
  o.len=n∧o.sz=z∧n≤LB∧
  match o.blk with
  |none=>n=0∧o.cap=0
  |some b=>o.len≤o.cap∧∃cs ty,w.heap[b]? =some (.cells cs ty (0,0))∧cs.size=o.cap*o.sz∧∀off,M b off↔off<cs.size
def BlkH (ρ:Env) (w:World) (M:Msk) (k:Nat):Blk→Prop
  |.map kd vk m=>∃b,ρ k=some (.mp b)∧∃es n,w.heap[b]? =some (.map es n)∧(∀off,M b off↔off=0)∧RepM kd vk m es.toList
  |.deep r hole=>∃o rows,ρ k=some (.dp o rows (gridQ r))∧DeepH w M o rows r hole
  |.gho l i j=>∃o rows,ρ k=some (.dp o rows true)∧DeepG w M o rows (.gi l) none (some (i,j))∧0≤i∧i<l.length
  |.vec wm r ov=>(∃o,ρ k=some (.sl o)∧VecH ρ w M o wm r ov)∧(ov=[]∨∃i j,ov=[(i,j)]∧ovQ r=true∧wm=0∧0≤i∧i<r.len)
  |.stk n r=>∃o cur,ρ k=some (.st o cur)∧VecH ρ w M cur 0 r []∧JnkH w M o n r.sz
  |.jnk n z=>∃o,ρ k=some (.sl o)∧JnkH w M o n z
  |.box l=>∃b,ρ k=some (.bx b)∧∃cs ty,w.heap[b]? =some (.cells cs ty (0,0))∧(∀off,M b off↔off<cs.size)∧RepL (RepC ρ w M) l cs.toList
def Own.has:Own→Nat→Prop
  |.sl o,b=>o.blk=some b|.bx b',b=>b'=b|.mp b',b=>b'=b
  |.dp o rows _,b=>o.blk=some b∨∃q,(rows.getD q nilRow).has b
  |.st o cur,b=>o.blk=some b∨cur.blk=some b
def hasB (ρ:Env) (k b:Nat):Prop:=match ρ k with|some o=>o.has b|none=>False
def IoS (w w':World):Prop:=(w'.os=w.os∧w'.output=w.output)∧w'.tape=w.tape∧w.drawn≤w'.drawn
theorem IoS.refl (w:World):IoS w w:=⟨⟨rfl,rfl⟩,rfl,Nat.le_refl _⟩
theorem IoS.trans {w w' w'':World} (h:IoS w w') (h':IoS w' w''):IoS w w'':=⟨⟨h'.1.1.trans h.1.1,h'.1.2.trans h.1.2⟩,h'.2.1.trans h.2.1,Nat.le_trans h.2.2 h'.2.2⟩
structure Stp (M:Msk) (w w':World):Prop where
  size:w.heap.size≤w'.heap.size
  blocks:∀b,b<w.heap.size→w'.heap[b]? =w.heap[b]?∨
    (∃cs cs' ty,w.heap[b]? =some (.cells cs ty (0,0))∧w'.heap[b]? =some (.cells cs' ty (0,0))∧cs'.size=cs.size∧∀off,¬M b off→cs'[off]? =cs[off]?)∨
    ∃es es' n n',w.heap[b]? =some (.map es n)∧w'.heap[b]? =some (.map es' n')∧M b 0
  io:IoS w w'
def lwP (w:World):Prop:=∀j,j<Lib.deBruijn64tab.length→w.cell? ⟨0,j,none⟩=some (.int .u8 (Lib.deBruijn64tab.getD j 0))
structure Base (w0:World) where
  mask:Msk
  lent:Nat→Prop
  env:Env
  hw:∀w',Stp (fun b off=>lent b∧mask b off) w0 w'→lwP w'
structure St {w0:World} (M0:Base w0) (ρ:Env) (M:Msk) (S:Store) (w:World):Prop where
  dom:∀k,(ρ k).isSome=(findS S k).isSome
  blk:∀k B,findS S k=some B→BlkH ρ w M k B
  inj:∀k k' b,hasB ρ k b→hasB ρ k' b→k=k'
  mlt:∀b off,M b off→b<w.heap.size
  stp:Stp (fun b off=>M0.lent b∧M0.mask b off) w0 w
  sub:∀b off,b<w0.heap.size→M b off→M0.mask b off
  old:∀b off,b<w0.heap.size→¬M0.lent b→M0.mask b off→M b off
  fresh:∀k b,hasB ρ k b→w0.heap.size≤b∨M0.lent b
  pin:∀k o,loc k=false→ρ k=some o→M0.env k=some o.base
theorem St.notFresh {w0 w:World} {M0:Base w0} {ρ:Env} {M:Msk} {S:Store} (st:St M0 ρ M S w) {k b:Nat} (hb:b<w0.heap.size) (hl:¬M0.lent b):¬hasB ρ k b:=
  fun h=>(st.fresh k b h).elim (fun h=>absurd hb (Nat.not_lt_of_le h)) hl
structure Tm (ρ:Env) (w:World) (M:Msk) (T:List AV) (a:Act):Prop where
  defers:a.defers=[]
  size:a.tmps.size=T.length
  tmp:∀i,RepT ρ w M (nth T i) (a.tmps.getD i undef)
def Keep (w:World) (M:Msk) (w':World) (M':Msk):Prop:=
  ∀b off c,w.cell? ⟨b,off,none⟩=some c→¬M b off→w'.cell? ⟨b,off,none⟩=some c∧¬M' b off
section
variable {w w':World} {M M':Msk}
theorem Keep.refl (w:World) (M:Msk):Keep w M w M:=fun _ _ _ h h'=>⟨h,h'⟩
theorem SlOf.keep {n m:Nat} {C C':Nat→Value→Prop} {v:Value} (hk:Keep w M w' M') (hC:∀q c,C q c→C' q c)
    (h:SlOf w M n C m v):SlOf w' M' n C' m v:=by
  obtain ⟨a,cap,rfl,hcap,h⟩:=h
  refine ⟨a,cap,rfl,hcap,?_⟩
  rcases h with h|⟨b,off,rfl,h⟩
  · exact .inl h
  · refine .inr ⟨b,off,rfl,fun q hq=>?_⟩
    obtain ⟨c,h1,h2,h3⟩:=h q hq
    obtain ⟨h4,h5⟩:=hk _ _ _ h1 h2
    exact ⟨c,h4,h5,hC _ _ h3⟩
theorem SlI.keep {k:IntKind} {l:List Int} {v:Value} (hk:Keep w M w' M') (h:SlI w M k l v):SlI w' M' k l v:=⟨h.1,h.2.keep hk fun _ _ h=>h⟩
theorem SlB.keep {l:List Bool} {v:Value} (hk:Keep w M w' M') (h:SlB w M l v):SlB w' M' l v:=⟨h.1,h.2.keep hk fun _ _ h=>h⟩
theorem SlP.keep {l:List (Int × Int)} {v:Value} (hk:Keep w M w' M') (h:SlP w M l v):SlP w' M' l v:=⟨h.1,h.2.keep hk fun _ _ h=>h⟩
theorem Sl2.keep {k:IntKind} {l:List (List Int)} {v:Value} (hk:Keep w M w' M') (h:Sl2 w M k l v):Sl2 w' M' k l v:=⟨h.1,h.2.keep hk fun _ _ h=>h.keep hk⟩
theorem CellP.keep {r:RO} {q:Nat} {c:Value} (hk:Keep w M w' M') (h:CellP w M r q c):CellP w' M' r q c:=by
  cases r<;>first|exact h|exact SlI.keep hk h|exact SlB.keep hk h|exact Sl2.keep hk h|exact SlP.keep hk h|exact ⟨SlI.keep hk h.1,h.2⟩|skip
  simp only [CellP] at h ⊢
  split at h
  · rename_i h0;rw [if_pos h0];exact h
  · rename_i h0
    rw [if_neg h0]
    split at h
    · rename_i h1;rw [if_pos h1];exact h
    · rename_i h1
      rw [if_neg h1]
      split at h
      · rename_i h2;rw [if_pos h2];exact h.keep hk
      · rename_i h2;rw [if_neg h2];exact h.keep hk
theorem RepRO.keep {r:RO} {v:Value} (hk:Keep w M w' M') (h:RepRO w M r v):RepRO w' M' r v:=⟨h.1,h.2.keep hk fun _ _ h=>h.keep hk⟩
theorem bind_keep {α β:Type} {x y:Option α} {f:α→Option β} {b:β} (h:∀o,x=some o→y=some o) (hx:x.bind f=some b):y.bind f=some b:=by
  cases x with
  |none=>cases hx
  |some a=>rw [h a rfl];exact hx
theorem RepC.keep {ρ ρ':Env} {a:AV} {v:Value} (hk:Keep w M w' M') (hρ:∀k o,ρ k=some o→ρ' k=some o) (h:RepC ρ w M a v):RepC ρ' w' M' a v:=by
  cases a with
  |ro r=>exact RepRO.keep hk h
  |vec k=>obtain ⟨o,h1,h2⟩:=h;exact ⟨o,bind_keep (hρ k) h1,h2⟩
  |ptr k off=>exact bind_keep (hρ k) h
  |rptr r i=>obtain ⟨b,off,cap,h1,h2⟩:=h;exact ⟨b,off,cap,h1.keep hk,h2⟩
  |vptr k i=>obtain ⟨o,b,h1,h2⟩:=h;exact ⟨o,b,bind_keep (hρ k) h1,h2⟩
  |cptr k i j=>obtain ⟨o,b,h1,h2⟩:=h;exact ⟨o,b,bind_keep (hρ k) h1,h2⟩
  |row k i=>obtain ⟨l,h1,h2⟩:=h;exact ⟨l,bind_keep (hρ k) h1,h2⟩
  |gptr k i j=>obtain ⟨l,b,h1,h2⟩:=h;exact ⟨l,b,bind_keep (hρ k) h1,h2⟩
  |vsuf k i=>obtain ⟨o,h1,h2⟩:=h;exact ⟨o,bind_keep (hρ k) h1,h2⟩
  |full r=>exact ⟨RepRO.keep hk h.1,h.2⟩
  |cfn f r i=>obtain ⟨b,off,cap,h1,h2⟩:=h;exact ⟨b,off,cap,h1.keep hk,h2⟩
  |fn f l=>cases l<;>exact h
  |_=>exact h
theorem RepL.imp {R R':AV→Value→Prop} (hR:∀a v,R a v→R' a v):∀{l:List AV} {m:List Value},RepL R l m→RepL R' l m
  |[],[],_=>trivial
  |_::_,_::_,h=>⟨hR _ _ h.1,RepL.imp hR h.2⟩
  |[],_::_,h=>h.elim
  |_::_,[],h=>h.elim
theorem RepL.length {R:AV→Value→Prop}:∀{l:List AV} {m:List Value},RepL R l m→l.length=m.length
  |[],[],_=>rfl
  |_::_,_::_,h=>by simp [RepL.length h.2]
  |[],_::_,h=>h.elim
  |_::_,[],h=>h.elim
theorem RepG.keep {ρ ρ':Env} {a:AV} {v:Value} (hk:Keep w M w' M') (hρ:∀k o,ρ k=some o→ρ' k=some o) (h:RepG ρ w M a v):RepG ρ' w' M' a v:=by
  cases a with
  |agg l=>obtain ⟨cs,h1,h2⟩:=h;exact ⟨cs,h1,h2.imp fun _ _=>RepC.keep hk hρ⟩
  |any=>trivial
  |_=>simp only [RepG] at h ⊢;exact RepC.keep hk hρ h
theorem RepT.keep {ρ ρ':Env} {a:AV} {v:Value} (hk:Keep w M w' M') (hρ:∀k o,ρ k=some o→ρ' k=some o) (h:RepT ρ w M a v):RepT ρ' w' M' a v:=by
  cases a with
  |agg l=>obtain ⟨cs,h1,h2⟩:=h;exact ⟨cs,h1,h2.imp fun _ _=>RepC.keep hk hρ⟩
  |tup l=>obtain ⟨cs,h1,h2⟩:=h;exact ⟨cs,h1,h2.imp fun _ _=>RepG.keep hk hρ⟩
  |fn f l=>obtain ⟨cs,h1,h2⟩:=h;exact ⟨cs,h1,h2.imp fun _ _=>RepC.keep hk hρ⟩
  |any=>trivial
  |_=>simp only [RepT] at h ⊢;exact RepC.keep hk hρ h
theorem cell_of_heap {b:Nat} {cs:Array Value} {ty:TypeId} {fz:Nat × Nat} (h:w.heap[b]? =some (.cells cs ty fz)) (off:Nat):w.cell? ⟨b,off,none⟩=cs[off]? :=by
  simp [World.cell?,h]
theorem cell_none {b:Nat} (h:w.heap.size≤b) (off:Nat):w.cell? ⟨b,off,none⟩=none:=by
  simp [World.cell?,Array.getElem?_eq_none h]
theorem cell_lt {b off:Nat} {c:Value} (h:w.cell? ⟨b,off,none⟩=some c):b<w.heap.size:=by
  rcases Nat.lt_or_ge b w.heap.size with h'|h'
  · exact h'
  · rw [cell_none h'] at h;cases h
theorem Stp.weaken {M1 M2:Msk} (h:Stp M1 w w') (hm:∀b off,M1 b off→M2 b off):Stp M2 w w':=
  ⟨h.1,fun b hb=>(h.2 b hb).imp id fun hh=>hh.imp (fun ⟨c1,c2,t,h1,h2,h3,h4⟩=>⟨c1,c2,t,h1,h2,h3,fun off hn=>h4 off fun hh=>hn (hm b off hh)⟩) (fun ⟨e1,e2,n1,n2,h1,h2,h3⟩=>⟨e1,e2,n1,n2,h1,h2,hm b 0 h3⟩),h.3⟩
theorem Stp.refl (M:Msk) (w:World):Stp M w w:=⟨Nat.le_refl _,fun _ _=>.inl rfl,IoS.refl _⟩
theorem Stp.cell (h:Stp M w w') {b off:Nat} {c:Value} (hc:w.cell? ⟨b,off,none⟩=some c) (hm:¬M b off):w'.cell? ⟨b,off,none⟩=some c:=by
  rcases h.2 b (cell_lt hc) with h1|⟨cs,cs',ty,h1,h2,_,h3⟩|⟨es,es',n,n',h1,h2,h3⟩
  · simpa [World.cell?,h1] using hc
  · rw [cell_of_heap h1] at hc;rw [cell_of_heap h2,h3 off hm,hc]
  · simp [World.cell?,h1] at hc
theorem Stp.keep (h:Stp M w w') (hm:∀b off,b<w.heap.size→M' b off→M b off):Keep w M w' M':=
  fun b off _ hc hn=>⟨h.cell hc hn,fun hM=>hn (hm b off (cell_lt hc) hM)⟩
theorem Stp.trans {w'':World} (h:Stp M w w') (h':Stp M' w' w'') (hm:∀b off,b<w.heap.size→M' b off→M b off):Stp M w w'':=by
  refine ⟨Nat.le_trans h.1 h'.1,fun b hb=>?_,h.3.trans h'.3⟩
  have hb':b<w'.heap.size:=Nat.lt_of_lt_of_le hb h.1
  rcases h.2 b hb with h1|⟨cs,cs',ty,h1,h2,h3,h4⟩|⟨es,es',n,n',h1,h2,h3⟩
  · rcases h'.2 b hb' with h5|⟨ds,ds',ty,h5,h6,h7,h8⟩|⟨ds,ds',m,m',h5,h6,h7⟩
    · exact .inl (h5.trans h1)
    · exact .inr (.inl ⟨ds,ds',ty,h1▸h5,h6,h7,fun off hn=>h8 off fun hM=>hn (hm b off hb hM)⟩)
    · exact .inr (.inr ⟨ds,ds',m,m',h1▸h5,h6,hm b 0 hb h7⟩)
  · rcases h'.2 b hb' with h5|⟨ds,ds',ty',h5,h6,h7,h8⟩|⟨ds,ds',m,m',h5,h6,h7⟩
    · exact .inr (.inl ⟨cs,cs',ty,h1,h5.trans h2,h3,h4⟩)
    · rw [h2] at h5
      cases h5
      exact .inr (.inl ⟨cs,ds',ty,h1,h6,h7.trans h3,fun off hn=>(h8 off fun hM=>hn (hm b off hb hM)).trans (h4 off hn)⟩)
    · rw [h2] at h5;cases h5
  · rcases h'.2 b hb' with h5|⟨ds,ds',ty',h5,h6,h7,h8⟩|⟨ds,ds',m,m',h5,h6,h7⟩
    · exact .inr (.inr ⟨es,es',n,n',h1,h5.trans h2,h3⟩)
    · rw [h2] at h5;cases h5
    · exact .inr (.inr ⟨es,ds',n,m',h1,h6,h3⟩)
theorem Stp.heap (M:Msk) {w w':World} (h:w'.heap=w.heap) (hio:IoS w w':=by exact IoS.refl _):Stp M w w':=⟨by rw [h];exact Nat.le_refl _,fun b _=>.inl (by rw [h]),hio⟩
theorem Stp.alloc (M:Msk) (w:World) (o:Obj):Stp M w { w with heap:=w.heap.push o }:=
  ⟨by simp,fun b hb=>.inl (by simp [Array.getElem?_push,Nat.ne_of_lt hb]),IoS.refl _⟩
theorem VecH.ext0 {ρ ρ':Env} {o:Sl} {wm:Nat} {r:RO} (hk:Keep w M w' M') (hb:∀b,o.blk=some b→w'.heap[b]? =w.heap[b]?∧∀off,M' b off↔M b off) (h:VecH ρ w M o wm r []):VecH ρ' w' M' o wm r []:=by
  obtain ⟨h1,h2,h3,h4,h5⟩:=h
  refine ⟨h1,h2,h3,h4,?_⟩
  cases ho:o.blk with
  |none=>simp only [ho] at h5 ⊢;exact h5
  |some b=>
   simp only [ho] at h5 ⊢
   obtain ⟨h6,cs,ty,h7,h8,h9,h10⟩:=h5
   have:=hb b ho
   refine ⟨h6,cs,ty,by rw [this.1];exact h7,h8,fun off=>(this.2 off).trans (h9 off),fun q hq=>?_⟩
   obtain ⟨c,h11,h12⟩:=h10 q hq
   exact ⟨c,h11,h12.keep hk⟩
theorem JnkH.ext {o:Sl} {n z:Nat} (hb:∀b,o.blk=some b→w'.heap[b]? =w.heap[b]?∧∀off,M' b off↔M b off) (h:JnkH w M o n z):JnkH w' M' o n z:=by
  obtain ⟨h1,h2,h3,h5⟩:=h
  refine ⟨h1,h2,h3,?_⟩
  cases ho:o.blk with
  |none=>simp only [ho] at h5 ⊢;exact h5
  |some b=>
   simp only [ho] at h5 ⊢
   obtain ⟨h6,cs,ty,h7,h8,h9⟩:=h5
   have:=hb b ho
   exact ⟨h6,cs,ty,by rw [this.1];exact h7,h8,fun off=>(this.2 off).trans (h9 off)⟩
theorem JnkH.cells {o:Sl} {n z:Nat} (h:JnkH w M o n z) {b:Nat} (hb:o.blk=some b):∃cs ty,w.heap[b]? =some (.cells cs ty (0,0)):=by
  obtain ⟨_,_,_,h5⟩:=h
  simp only [hb] at h5
  obtain ⟨_,cs,ty,h7,_⟩:=h5
  exact ⟨cs,ty,h7⟩
theorem VecH.cells {ρ:Env} {o:Sl} {wm:Nat} {r:RO} {ov:List (Int × Nat)} (h:VecH ρ w M o wm r ov) {b:Nat} (hb:o.blk=some b):∃cs ty,w.heap[b]? =some (.cells cs ty (0,0)):=by
  obtain ⟨_,_,_,_,h5⟩:=h
  simp only [hb] at h5
  obtain ⟨_,cs,ty,h7,_⟩:=h5
  exact ⟨cs,ty,h7⟩
theorem VecH.jnk {ρ:Env} {o:Sl} {r:RO} (h:VecH ρ w M o 0 r []):JnkH w M o r.len r.sz:=by
  obtain ⟨h1,h2,h3,_,h5⟩:=h
  refine ⟨h1,h2,h3,?_⟩
  cases ho:o.blk with
  |none=>simp only [ho] at h5 ⊢;exact h5
  |some b=>
   simp only [ho] at h5 ⊢
   obtain ⟨h6,cs,ty,h7,h8,h9,_⟩:=h5
   exact ⟨h6,cs,ty,h7,h8,fun off=>(h9 off).trans (by simp)⟩
theorem DeepI.ext {o:Sl} {rows:List Sl} {r:RO} {hole:Option Int} (hk:Keep w M w' M') (hb:∀b,(RowO.mk o rows).has b→w'.heap[b]? =w.heap[b]?∧∀off,M' b off↔M b off) (h:DeepI w M o rows r hole):DeepI w' M' o rows r hole:=by
  refine ⟨h.rq,h.len,h.osz,h.lb,h.rlen,?_,fun q hq hh=>(h.row q hq hh).ext0 hk fun b hb'=>hb b (.inr ⟨q,hb'⟩),h.hol,h.out,h.apart⟩
  have h5:=h.outer
  cases ho:o.blk with
  |none=>simp only [ho] at h5 ⊢;exact h5
  |some b=>
   simp only [ho] at h5 ⊢
   obtain ⟨h6,cs,ty,h7,h8,h9,h10⟩:=h5
   have:=hb b (.inl ho)
   exact ⟨h6,cs,ty,by rw [this.1];exact h7,h8,fun off=>(this.2 off).trans (h9 off),h10⟩
theorem DeepI.in {o:Sl} {rows:List Sl} {r:RO} {hole:Option Int} (h:DeepI w M o rows r hole) {q b:Nat} (hb:(rows.getD q nilSl).blk=some b):q<r.len∧hole≠some (q:Int):=by
  have h1:q<r.len:=by
    rcases Nat.lt_or_ge q r.len with h'|h'
    · exact h'
    · have h2:rows[q]? =none:=List.getElem?_eq_none (by rw [h.rlen];exact h')
      rw [List.getD,h2] at hb;cases hb
  exact ⟨h1,fun hh=>by have:=(h.hol _ hh).2;rw [Int.toNat_natCast,hb] at this;cases this⟩
theorem DeepI.cells {o:Sl} {rows:List Sl} {r:RO} {hole:Option Int} (h:DeepI w M o rows r hole) {b:Nat} (hb:(RowO.mk o rows).has b):∃cs ty,w.heap[b]? =some (.cells cs ty (0,0)):=by
  rcases hb with hb|⟨q,hb⟩
  · have hb:o.blk=some b:=hb
    have h5:=h.outer
    simp only [hb] at h5
    obtain ⟨_,cs,ty,h7,_⟩:=h5
    exact ⟨cs,ty,h7⟩
  · obtain ⟨h1,h2⟩:=h.in hb
    obtain ⟨_,_,_,_,h5⟩:=h.row q h1 h2
    have hb:(rows.getD q nilSl).blk=some b:=hb
    simp only [hb] at h5
    obtain ⟨_,cs,ty,h7,_⟩:=h5
    exact ⟨cs,ty,h7⟩
theorem rowH_plain {R:RowO} {r:RO} {q:Nat} {h:Option Int} (hg:gridQ r=false∨∃l,r= .gb l):RowH w M R r q h↔(R.sub=[]∧VecH (fun _=>none) w M R.sl 0 (r.row q) []):=by
  cases r<;>first|exact Iff.rfl|(rcases hg with hg|⟨_,hg⟩<;>cases hg)
theorem RowH.ext {R:RowO} {r:RO} {q:Nat} {ho:Option Int} (hk:Keep w M w' M') (hb:∀b,R.has b→w'.heap[b]? =w.heap[b]?∧∀off,M' b off↔M b off) (h:RowH w M R r q ho):RowH w' M' R r q ho:=by
  cases r with
  |gi l=>exact DeepI.ext hk hb h
  |_=>exact ⟨h.1,h.2.ext0 hk fun b hb'=>hb b (.inl hb')⟩
theorem RowH.cells {R:RowO} {r:RO} {q:Nat} {ho:Option Int} (h:RowH w M R r q ho) {b:Nat} (hb:R.has b):∃cs ty,w.heap[b]? =some (.cells cs ty (0,0)):=by
  have plain:R.sub=[]∧VecH (fun _=>none) w M R.sl 0 (r.row q) []→∃cs ty,w.heap[b]? =some (.cells cs ty (0,0)):=fun h=>by
    rcases hb with hb|⟨j,hb⟩
    · exact h.2.cells hb
    · rw [h.1] at hb;cases hb
  cases r with
  |gi l=>exact DeepI.cells h hb
  |_=>exact plain h
theorem DeepG.ext {o:Sl} {rows:List RowO} {r:RO} {hole:Option Int} {hc:Option (Int × Int)} {g:Bool} (hk:Keep w M w' M') (hb:∀b,(Own.dp o rows g).has b→w'.heap[b]? =w.heap[b]?∧∀off,M' b off↔M b off) (h:DeepG w M o rows r hole hc):DeepG w' M' o rows r hole hc:=by
  refine ⟨h.rq,h.len,h.osz,h.lb,h.rlen,?_,fun q hq hh=>(h.row q hq hh).ext hk fun b hb'=>hb b (.inr ⟨q,hb'⟩),h.hol,h.out,h.apart⟩
  have h5:=h.outer
  cases ho:o.blk with
  |none=>simp only [ho] at h5 ⊢;exact h5
  |some b=>
   simp only [ho] at h5 ⊢
   obtain ⟨h6,cs,ty,h7,h8,h9,h10⟩:=h5
   have:=hb b (.inl ho)
   exact ⟨h6,cs,ty,by rw [this.1];exact h7,h8,fun off=>(this.2 off).trans (h9 off),h10⟩
theorem nilRow_no {b:Nat}:¬nilRow.has b:=fun h=>by
  rcases h with h|⟨j,h⟩
  · cases h
  · simp [nilRow,nilSl] at h
theorem DeepG.in {o:Sl} {rows:List RowO} {r:RO} {hole:Option Int} {hc:Option (Int × Int)} (h:DeepG w M o rows r hole hc) {q b:Nat} (hb:(rows.getD q nilRow).has b):q<r.len∧hole≠some (q:Int):=by
  have h1:q<r.len:=by
    rcases Nat.lt_or_ge q r.len with h'|h'
    · exact h'
    · have h2:rows[q]? =none:=List.getElem?_eq_none (by rw [h.rlen];exact h')
      rw [List.getD,h2] at hb;exact absurd hb nilRow_no
  exact ⟨h1,fun hh=>by have:=(h.hol _ hh).2 b;rw [Int.toNat_natCast] at this;exact this hb⟩
theorem DeepG.cells {o:Sl} {rows:List RowO} {r:RO} {hole:Option Int} {hc:Option (Int × Int)} {g:Bool} (h:DeepG w M o rows r hole hc) {b:Nat} (hb:(Own.dp o rows g).has b):∃cs ty,w.heap[b]? =some (.cells cs ty (0,0)):=by
  rcases hb with hb|⟨q,hb⟩
  · have h5:=h.outer
    simp only [hb] at h5
    obtain ⟨_,cs,ty,h7,_⟩:=h5
    exact ⟨cs,ty,h7⟩
  · obtain ⟨h1,h2⟩:=h.in hb
    exact (h.row q h1 h2).cells hb
end
end Go.AM
end
section
namespace Go.AM
open Go
theorem ifK_iff {b:Bool} {p:Prop}:ifK b p↔b=true∧p:=by cases b<;>simp [ifK]
theorem kq_eq {k k':IntKind} (h:kq k k'=true):k=k':=by cases k<;>cases k'<;>simp_all [kq]
theorem force_iff {a:AV} {K:AV→Prop}:forceA a K↔K a:=by
  cases a<;>first|exact Iff.rfl|(rename_i e;cases e<;>exact Iff.rfl)
def evalF (T:List AV):Operand→AV
  |.tmp t=>nth T t|.const v=>constA v|.func f=>.fn f []|.global _=>.any
theorem eval_iff {T:List AV} {x:Operand} {K:AV→Prop}:evalK T x K↔K (evalF T x):=by
  cases x<;>simp [evalK,evalF,force_iff]
theorem evals_iff {T:List AV}:∀{l:List Operand} {K:List AV→Prop},evalsK T l K↔K (l.map (evalF T))
  |[],_=>Iff.rfl
  |x::l,K=>by simp [evalsK,eval_iff,evals_iff]
theorem len_iff {r:RO} {K:Nat→Prop}:lenK r K↔K r.len:=by cases r<;>exact Iff.rfl
theorem aggK_iff:∀{n:Nat} {k:IntKind} {m:List Int} {j:Nat} {K:List AV→Prop},aggK n k m j K↔K (aggL n k m j)
  |0,_,_,_,_=>Iff.rfl
  |n+1,k,m,j,_=>aggK_iff (n:=n) (k:=k) (m:=m) (j:=j+1)
theorem get_iff {r:RO} {i:Int} {K:AV→Prop}:getK r i K↔K (r.get i.toNat):=by cases r<;>first|exact Iff.rfl|exact aggK_iff|(simp only [getK,RO.get];split<;>simp_all)
theorem idxP_at:∀{n j:Nat} {i:Int} {K:Nat→Prop},idxP n j i K→(j:Int)≤i→i<((j+n:Nat):Int)→K i.toNat
  |0,j,i,K,_,h1,h2=>by omega
  |n+1,j,i,K,h,h1,h2=>by
   by_cases e:i=(j:Int)
   · have:=h.1 e
     rw [e];exact this
   · exact idxP_at h.2 (by omega) (by omega)
theorem intsK_map {k:IntKind}:∀{l:List AV} {K:List Int→Prop},intsK k l K→∃m,K m∧l=m.map (AV.int k)
  |[],K,h=>⟨[],h,rfl⟩
  |a::l,K,h=>by
   cases a<;>try exact h.elim
   rename_i k' n
   simp only [intsK,ifK_iff] at h
   obtain ⟨h1,h2⟩:=h
   obtain rfl:=kq_eq h1
   obtain ⟨m,h3,rfl⟩:=intsK_map h2
   exact ⟨n::m,h3,rfl⟩
theorem split_val {e:BE} {K:Bool→Prop} (h:splitB e K):K e.val:=by
  cases e with
  |lit b=>cases b<;>exact h
  |v b=>cases b<;>simp_all [splitB,BE.val]
  |lt x y=>simp only [splitB,BE.val] at*;by_cases hx:x<y<;>simp [hx];exact h.1 hx;exact h.2 (by omega)
  |le x y=>simp only [splitB,BE.val] at*;by_cases hx:x≤y<;>simp [hx];exact h.1 hx;exact h.2 (by omega)
  |eq x y=>simp only [splitB,BE.val] at*;by_cases hx:x=y<;>simp [hx];exact h.1 hx;exact h.2 hx
  |ne x y=>simp only [splitB,BE.val] at*;by_cases hx:x=y<;>simp [hx];exact h.2 hx;exact h.1 hx
theorem not_val {e:BE} {K:BE→Prop} (h:notK e K):∃e',K e'∧e'.val= !e.val:=by
  cases e with
  |lit b=>cases b<;>exact ⟨_,h,rfl⟩
  |v b=>exact ⟨_,h,rfl⟩
  |lt x y=>exact ⟨_,h,by simp [BE.val];rw [←decide_not];congr 1;simp⟩
  |le x y=>exact ⟨_,h,by simp [BE.val];rw [←decide_not];congr 1;simp⟩
  |eq x y=>exact ⟨_,h,by simp [BE.val]⟩
  |ne x y=>exact ⟨_,h,by simp [BE.val]⟩
theorem bound_iff {a:AV} {K:Int→Prop} (h:boundK a K):∃k n,a= .int k n∧K n:=by
  cases a<;>first|exact ⟨_,_,rfl,h⟩|exact h.elim
theorem rangeP_iff {k:IntKind} {n:Int} {K:Prop}:rangeP k n K↔inK k n∧K:=by cases k<;>exact Iff.rfl
theorem capP_of {b:Nat} {n:Int} {K:Prop} (h:capP b n K) (h0:0≤n):n*(b:Int)≤140737488355328∧n≤17592186044416∧K:=by
  unfold capP at h
  cases hb:Nat.ble b 8 with
  |true=>
   simp only [hb] at h
   rw [Nat.ble_eq] at hb
   have h1:n*(b:Int)≤n*8:=Int.mul_le_mul_of_nonneg_left (by omega) h0
   exact ⟨by omega,h.1,h.2⟩
  |false=>
   simp only [hb,ifK_iff] at h
   obtain ⟨h2,h3,h4⟩:=h
   rw [Nat.ble_eq] at h2
   have h1:n*(b:Int)≤n*64:=Int.mul_le_mul_of_nonneg_left (by omega) h0
   exact ⟨by omega,by omega,h4⟩
theorem snoc_iff {α:Type}:∀{l:List α} {x:α} {K:List α→Prop},snocK l x K↔K (l++[x])
  |[],_,_=>Iff.rfl
  |_::l,_,_=>snoc_iff (l:=l)
theorem dN_iff {d:Option Nat} {K:Nat→Prop}:dN d K↔K (d.getD 999):=by cases d<;>exact Iff.rfl
theorem wrap_in {k:IntKind} {n:Int} (h:inK k n):k.wrap n=n:=by
  unfold inK at h
  cases k<;>simp [IntKind.wrap,IntKind.min,IntKind.max,IntKind.bits,IntKind.signed] at* <;>omega
theorem in_wrap (k:IntKind) (n:Int):inK k (k.wrap n):=by
  unfold inK
  cases k<;>simp [IntKind.wrap,IntKind.min,IntKind.max,IntKind.bits,IntKind.signed] at* <;>(try split)<;>omega
theorem in_i64 {n:Int} (h1: -9223372036854775808≤n) (h2:n≤9223372036854775807):inK .i64 n:=⟨h1,h2⟩
theorem in_zero (k:IntKind):inK k 0:=by cases k<;>simp [inK,IntKind.min,IntKind.max,IntKind.bits,IntKind.signed]
theorem in_small {k:IntKind} {n:Int} (h1:0≤n) (h2:n≤127):inK k n:=by
  cases k<;>simp [inK,IntKind.min,IntKind.max,IntKind.bits,IntKind.signed]<;>omega
theorem fit_in {k:IntKind} {n:Int} (h:fitB k n=true):inK k n:=by
  cases n with
  |ofNat m=>
   have hm:(0:Int)≤Int.ofNat m:=Int.natCast_nonneg m
   cases k<;>simp only [fitB,Nat.ble_eq] at h<;>
     first
       |exact in_small hm (by simp;omega)
       |(simp [inK,IntKind.min,IntKind.max,IntKind.bits,IntKind.signed];omega)
  |negSucc m=>
   cases k<;>simp only [fitB,Nat.ble_eq] at h<;>
     first
       |(simp at h;done)
       |(simp [inK,IntKind.min,IntKind.max,IntKind.bits,IntKind.signed];omega)
theorem nth_get:∀(l:List AV) (i:Nat),i<l.length→l[i]? =some (nth l i)
  |[],_,h=>by simp at h
  |_::_,0,_=>rfl
  |_::l,i+1,h=>by simpa [nth] using nth_get l i (by simpa using h)
theorem nth_ge:∀(l:List AV) (i:Nat),l.length≤i→nth l i= .any
  |[],_,_=>rfl
  |_::_,0,h=>by simp at h
  |_::l,i+1,h=>nth_ge l i (by simpa using h)
theorem put_iff:∀{T:List AV} {d:Nat} {v:AV} {K:List AV→Prop},putK T d v K↔K (T.set d v)
  |[],_,_,_=>by simp [putK]
  |_::_,0,_,_=>Iff.rfl
  |_::l,d+1,v,K=>by simp [putK,put_iff (T:=l)]
theorem nth_set:∀(T:List AV) (d i:Nat) (v:AV),nth (T.set d v) i=if i=d∧d<T.length then v else nth T i
  |[],_,_,_=>by simp [nth]
  |_::_,0,0,_=>by simp [nth]
  |_::_,0,i+1,_=>by simp [nth]
  |_::_,d+1,0,_=>by simp [nth]
  |_::l,d+1,i+1,v=>by simp [nth,nth_set l d i v]
theorem same_len:∀{l:List AV} {n:Nat},sameLen l n=true→l.length=n
  |[],0,_=>rfl
  |_::l,n+1,h=>by simp [same_len (l:=l) (n:=n) h]
  |[],_+1,h=>by cases h
  |_::_,0,h=>by cases h
theorem same_lenO:∀{l:List Operand} {n:Nat},sameLenO l n=true→l.length=n
  |[],0,_=>rfl
  |_::l,n+1,h=>by simp [same_lenO (l:=l) (n:=n) h]
  |[],_+1,h=>by cases h
  |_::_,0,h=>by cases h
theorem take_iff:∀{l:List AV} {n:Nat} {K:List AV→Prop},takeK l n K→n≤l.length∧K (l.take n)
  |[],0,_,h=>⟨Nat.le_refl _,h⟩
  |_::_,0,_,h=>⟨Nat.zero_le _,h⟩
  |[],_+1,_,h=>h.elim
  |_::l,n+1,_,h=>by have:=take_iff (l:=l) (n:=n) h;exact ⟨by simpa using this.1,this.2⟩
theorem drop_iff:∀{l:List AV} {n:Nat} {K:List AV→Prop},dropK l n K→n≤l.length∧K (l.drop n)
  |[],0,_,h=>⟨Nat.le_refl _,h⟩
  |_::_,0,_,h=>⟨Nat.zero_le _,h⟩
  |[],_+1,_,h=>h.elim
  |_::l,n+1,_,h=>by have:=drop_iff (l:=l) (n:=n) h;exact ⟨by simpa using this.1,this.2⟩
theorem over_iff:∀{l m:List AV} {K:List AV→Prop},overK l m K→m.length≤l.length∧K (m++l.drop m.length)
  |l,[],_,h=>⟨Nat.zero_le _,by simpa using (show _ from (by cases l<;>exact h))⟩
  |[],_::_,_,h=>h.elim
  |_::l,b::m,_,h=>by
   have:=over_iff (l:=l) (m:=m) h
   exact ⟨by simpa using this.1,by simpa using this.2⟩
theorem splice_iff:∀{l:List AV} {n:Nat} {m:List AV} {K:List AV→Prop},spliceK l n m K→n+m.length≤l.length∧K (l.take n++(m++l.drop (n+m.length)))
  |l,0,m,_,h=>by
   have:=over_iff (l:=l) (m:=m) (by cases l<;>exact h)
   exact ⟨by simpa using this.1,by simpa using this.2⟩
  |[],_+1,_,_,h=>h.elim
  |a::l,n+1,m,_,h=>by
   have:=splice_iff (l:=l) (n:=n) (m:=m) h
   refine ⟨by simp;omega,?_⟩
   have h2:=this.2
   rw [show n+1+m.length=(n+m.length)+1 from by omega]
   simpa using h2
theorem beq_iff' {a b:Nat}:Nat.beq a b=true↔a=b:=⟨Nat.eq_of_beq_eq_true,fun h=>by subst h;exact Nat.beq_refl a⟩
theorem beq_false {a b:Nat} (h:Nat.beq a b=false):a≠b:=fun e=>by rw [beq_iff'.2 e] at h;cases h
theorem find_cons {j k:Nat} {b:Blk} {S:Store}:findS ((j,b)::S) k=if j=k then some b else findS S k:=by
  simp only [findS]
  cases h:Nat.beq j k with
  |true=>simp [beq_iff'.1 h]
  |false=>simp [beq_false h]
theorem set_store:∀{S:Store} {k:Nat} {c:Blk} {K:Store→Prop},setS S k c K→∃S',K S'∧∀j,findS S' j=if j=k then (findS S k).map fun _=>c else findS S j
  |[],_,_,_,h=>⟨[],h,fun j=>by simp [findS]⟩
  |(i,b)::S,k,c,K,h=>by
   simp only [setS] at h
   cases hb:Nat.beq i k with
   |true=>
    have hik:=beq_iff'.1 hb;subst hik
    simp only [hb] at h
    refine ⟨_,h,fun j=>?_⟩
    by_cases hj:j=i
    · subst hj;simp [find_cons]
    · simp [find_cons,hj,Ne.symm hj]
   |false=>
    have hik:=beq_false hb
    simp only [hb] at h
    obtain ⟨S',h1,h2⟩:=set_store (K:=fun S'=>K ((i,b)::S')) h
    refine ⟨_,h1,fun j=>?_⟩
    by_cases hj:j=k
    · subst hj;simp [find_cons,hik,h2]
    · by_cases hij:i=j
      · subst hij;simp [find_cons,hj]
      · simp [find_cons,hij,hj,h2]
theorem del_store:∀{S:Store} {k:Nat} {K:Store→Prop},delS S k K→∃S',K S'∧∀j,findS S' j=if j=k then none else findS S j
  |[],_,_,h=>⟨[],h,fun j=>by simp [findS]⟩
  |(i,b)::S,k,K,h=>by
   simp only [delS] at h
   cases hb:Nat.beq i k with
   |true=>
    have hik:=beq_iff'.1 hb;subst hik
    simp only [hb] at h
    obtain ⟨S',h1,h2⟩:=del_store (K:=K) h
    refine ⟨_,h1,fun j=>?_⟩
    by_cases hj:j=i
    · simp [hj,h2]
    · simp [find_cons,hj,Ne.symm hj,h2]
   |false=>
    have hik:=beq_false hb
    simp only [hb] at h
    obtain ⟨S',h1,h2⟩:=del_store (K:=fun S'=>K ((i,b)::S')) h
    refine ⟨_,h1,fun j=>?_⟩
    by_cases hj:j=k
    · subst hj;simp [find_cons,hik,h2]
    · by_cases hij:i=j
      · subst hij;simp [find_cons,hj]
      · simp [find_cons,hij,hj,h2]
end Go.AM
end
section
namespace Go.AM
open Go
section
variable {w:World} {M:Msk} {ρ:Env}
theorem SlOf.isCell {n m:Nat} {C:Nat→Value→Prop} {v:Value} (h:SlOf w M n C m v):isCell v:=by
  obtain ⟨a,cap,rfl,_⟩:=h;trivial
theorem CellP.isCell {r:RO} {q:Nat} {c:Value} (h:CellP w M r q c):isCell c:=by
  cases r with
  |ints k l=>rw [h.1];trivial
  |bools l=>rw [show c=_ from h];trivial
  |rows k l=>exact SlOf.isCell h.2
  |brows l=>exact SlOf.isCell h.2
  |rows3 l=>exact SlOf.isCell h.2
  |pairs l=>simp only [CellP] at h;split at h<;>(rw [h.1];trivial)
  |arrs n k l=>rw [h.1];trivial
  |nrows k l=>exact SlOf.isCell h.1.2
  |prows l=>exact SlOf.isCell h.2
  |gb l=>exact h.elim
  |gi l=>exact h.elim
  |strs l=>rw [h.1];trivial
  |ruls l=>simp only [CellP] at h;split at h<;>(rw [h.1];trivial)
  |facs l=>
   simp only [CellP] at h
   split at h
   · rw [h.1];trivial
   · rw [h];trivial
  |prins l=>
   simp only [CellP] at h
   split at h
   · rw [h.1];trivial
   · split at h
     · rw [h.1];trivial
     · split at h
       · exact SlOf.isCell h.2
       · exact SlOf.isCell h.2
theorem RepC.isCell {a:AV} {v:Value} (h:RepC ρ w M a v):isCell v:=by
  cases a with
  |int k n=>rw [h.1];trivial
  |bool e=>rw [show v=_ from h];trivial
  |ro r=>exact SlOf.isCell h.2
  |vec k=>obtain ⟨o,_,rfl⟩:=h;trivial
  |ptr k off=>obtain ⟨b,⟨_,rfl⟩|⟨_,rfl⟩⟩:=ref_some h<;>trivial
  |rptr r i=>obtain ⟨b,off,cap,_,_,_,rfl⟩:=h;trivial
  |cfn f r i=>obtain ⟨b,off,cap,_,_,_,rfl⟩:=h;trivial
  |vptr k i=>obtain ⟨o,b,_,_,_,_,rfl⟩:=h;trivial
  |cptr k i j=>obtain ⟨o,b,_,_,_,_,rfl⟩:=h;trivial
  |row k i=>obtain ⟨l,_,_,_,rfl⟩:=h;trivial
  |gptr k i j=>obtain ⟨l,b,_,_,_,_,_,rfl⟩:=h;trivial
  |vsuf k i=>obtain ⟨o,_,_,_,rfl⟩:=h;trivial
  |nils=>rw [show v=_ from h];trivial
  |may b n=>obtain ⟨x,rfl,_⟩:=h;trivial
  |full r=>exact SlOf.isCell h.1.2
  |str l=>rw [h.1];trivial
  |any=>exact h
  |fn f l=>cases l with
   |nil=>rw [show v=_ from h];trivial
   |cons=>exact h.elim
  |_=>exact h.elim
theorem dn_len (r:RO):(dnR r).len=r.len:=by cases r<;>rfl
theorem dn_sz (r:RO):(dnR r).sz=r.sz:=by cases r<;>rfl
theorem dn_cell {r:RO} {q:Nat} {c:Value} (h:CellP w M r q c):CellP w M (dnR r) q c:=by cases r<;>first|exact h|exact h.1
theorem RO.sz_pos (r:RO):0<r.sz:=by cases r<;>simp [RO.sz]
theorem rep_ints {k:IntKind} {l:List Int} {v:Value}:RepRO w M (.ints k l) v↔SlI w M k l v:=by
  unfold RepRO SlI
  simp only [RO.cells,RO.len,RO.sz,Nat.mul_one]
  exact Iff.rfl
theorem rep_bools {l:List Bool} {v:Value}:RepRO w M (.bools l) v↔SlB w M l v:=by
  unfold RepRO SlB
  simp only [RO.cells,RO.len,RO.sz,Nat.mul_one]
  exact Iff.rfl
theorem rep_rows {k:IntKind} {l:List (List Int)} {v:Value}:RepRO w M (.rows k l) v↔Sl2 w M k l v:=by
  unfold RepRO Sl2
  simp only [RO.cells,RO.len,RO.sz,Nat.mul_one]
  exact Iff.rfl
theorem rep_pairs {l:List (Int × Int)} {v:Value}:RepRO w M (.pairs l) v↔SlP w M l v:=Iff.rfl
theorem get_one {r:RO} {i:Nat} {c:Value} (hs:r.sz=1) (h:CellP w M r i c) (hl:i<r.len):RepT ρ w M (r.get i) c:=by
  cases r with
  |ints k l=>exact h
  |bools l=>exact h
  |rows k l=>exact rep_ints.2 h
  |brows l=>exact rep_bools.2 h
  |rows3 l=>exact rep_rows.2 h
  |pairs l=>simp [RO.sz] at hs
  |facs l=>simp [RO.sz] at hs
  |prins l=>simp [RO.sz] at hs
  |ruls l=>simp [RO.sz] at hs
  |strs l=>exact h
  |arrs n k l=>simp [RO.sz] at hs
  |prows l=>exact rep_pairs.2 h
  |gb l=>exact h.elim
  |gi l=>exact h.elim
  |nrows k l=>
   simp only [RO.get]
   split
   · rename_i he;exact h.2 he
   · exact rep_ints.2 h.1
theorem get_two {l:List (Int × Int)} {i:Nat} {c d:Value} (h:CellP w M (.pairs l) (i*2) c) (h':CellP w M (.pairs l) (i*2+1) d):
    RepT ρ w M ((RO.pairs l).get i) (.agg #[c,d]):=by
  simp only [CellP,Nat.mul_mod_left,if_true,Nat.mul_div_cancel _ (Nat.succ_pos 1),show (i*2+1) % 2=1 from by omega,show (i*2+1) / 2=i from by omega,Nat.one_ne_zero,if_false] at h h'
  exact ⟨_,rfl,h,h',trivial⟩
theorem get_fac {l:List (Int × Bool)} {i:Nat} {c d:Value} (h:CellP w M (.facs l) (i*2) c) (h':CellP w M (.facs l) (i*2+1) d):
    RepT ρ w M ((RO.facs l).get i) (.agg #[c,d]):=by
  simp only [CellP,Nat.mul_mod_left,if_true,Nat.mul_div_cancel _ (Nat.succ_pos 1),show (i*2+1) % 2=1 from by omega,show (i*2+1) / 2=i from by omega,Nat.one_ne_zero,if_false] at h h'
  exact ⟨_,rfl,h,h',trivial⟩
theorem get_rul {l:List (List Int × List Int)} {i:Nat} {c d:Value} (h:CellP w M (.ruls l) (i*2) c) (h':CellP w M (.ruls l) (i*2+1) d):
    RepT ρ w M ((RO.ruls l).get i) (.agg #[c,d]):=by
  simp only [CellP,Nat.mul_mod_left,if_true,Nat.mul_div_cancel _ (Nat.succ_pos 1),show (i*2+1) % 2=1 from by omega,show (i*2+1) / 2=i from by omega,Nat.one_ne_zero,if_false] at h h'
  exact ⟨_,rfl,h,h',trivial⟩
theorem get_prn {l:List Prn} {i:Nat} {c d e f:Value} (h0:CellP w M (.prins l) (i*4) c) (h1:CellP w M (.prins l) (i*4+1) d) (h2:CellP w M (.prins l) (i*4+2) e) (h3:CellP w M (.prins l) (i*4+3) f):
    RepT ρ w M ((RO.prins l).get i) (.agg #[c,d,e,f]):=by
  simp only [CellP] at h0 h1 h2 h3
  rw [if_pos (by omega),show i*4 / 4=i from by omega] at h0
  rw [if_neg (by omega),if_pos (by omega),show (i*4+1) / 4=i from by omega] at h1
  rw [if_neg (by omega),if_neg (by omega),if_pos (by omega),show (i*4+2) / 4=i from by omega] at h2
  rw [if_neg (by omega),if_neg (by omega),if_neg (by omega),show (i*4+3) / 4=i from by omega] at h3
  exact ⟨_,rfl,h0,h1,rep_ints.2 h2,rep_pairs.2 h3,trivial⟩
theorem aggL_rep {R:AV→Value→Prop} {k:IntKind} {m:List Int}:∀{n j:Nat} {cs:List Value},cs.length=n→(∀q c,cs[q]? =some c→R (.int k (m.getD (j+q) 0)) c)→RepL R (aggL n k m j) cs
  |0,_,[],_,_=>trivial
  |n+1,j,c::cs,hl,h=>⟨h 0 c rfl,aggL_rep (by simpa using hl) fun q d hq=>by
    have:=h (q+1) d (by simpa using hq)
    rwa [show j+(q+1)=j+1+q from by omega] at this⟩
  |0,_,_::_,hl,_=>by simp at hl
  |_+1,_,[],hl,_=>by simp at hl
theorem get_arr {n:Nat} {k:IntKind} {l:List (List Int)} {i:Nat} {cs:List Value} (hl:cs.length=n+2) (h:∀q c,cs[q]? =some c→CellP w M (.arrs n k l) (i*(n+2)+q) c):
    RepT ρ w M ((RO.arrs n k l).get i) (.agg cs.toArray):=by
  refine ⟨_,rfl,aggL_rep hl fun q c hq=>?_⟩
  have hqn:q<n+2:=by
    rw [←hl]
    rcases Nat.lt_or_ge q cs.length with h'|h'
    · exact h'
    · rw [List.getElem?_eq_none h'] at hq;cases hq
  have:=h q c hq
  simp only [CellP] at this
  rw [show (i*(n+2)+q) / (n+2)=i from by rw [Nat.mul_comm,Nat.mul_add_div (Nat.succ_pos _),Nat.div_eq_of_lt hqn,Nat.add_zero],show (i*(n+2)+q) % (n+2)=q from by rw [Nat.mul_comm,Nat.mul_add_mod,Nat.mod_eq_of_lt hqn]] at this
  rw [Nat.zero_add];exact this
theorem getD_set {α:Type} (l:List α) (i j:Nat) (a d:α) (h:i<l.length):(l.set i a).getD j d=if j=i then a else l.getD j d:=by
  by_cases hj:j=i
  · subst hj;simp [List.getD,h]
  · simp [List.getD,hj,List.getElem?_set_ne (Ne.symm hj)]
theorem valB_iff {e:BE} {K:Bool→Prop}:valB e K↔K e.val:=by cases e<;>rfl
theorem set_cells {r:RO} {i:Int} {v:AV} {K:RO→Prop} (h:setK r i v K) (hi:i.toNat<r.len):
    ∃r',K r'∧r'.len=r.len∧r'.sz=r.sz∧∀(ρ:Env) (w:World) (M:Msk) (u:Value),RepT ρ w M v u→u.cells.size=r.sz∧
     (∀j c,u.cells[j]? =some c→Go.AM.isCell c∧CellP w M r' (i.toNat*r.sz+j) c)∧∀q c,q / r.sz≠i.toNat→CellP w M r q c→CellP w M r' q c:=by
  cases r with
  |ints k l=>
   cases v<;>try exact h.elim
   rename_i k' n
   simp only [setK,ifK_iff] at h
   obtain ⟨hk,h⟩:=h
   obtain rfl:=kq_eq hk
   refine ⟨_,h,by simp [RO.len],rfl,fun ρ w M u hu=>?_⟩
   obtain ⟨rfl,hr⟩:=hu
   refine ⟨rfl,fun j c hj=>?_,fun q c hq hc=>?_⟩
   · have hj0:j=0:=by rcases j with _|j;rfl;simp [Value.cells] at hj
     subst hj0;simp [Value.cells] at hj;subst hj
     simp only [RO.len] at hi
     refine ⟨trivial,?_⟩
     simp only [CellP,RO.sz,Nat.mul_one,Nat.add_zero,getD_set _ _ _ _ _ hi,if_true]
     exact ⟨trivial,hr⟩
   · simp only [RO.sz,Nat.div_one] at hq
     simp only [CellP,getD_set _ _ _ _ _ hi,hq,if_false] at hc ⊢
     exact hc
  |bools l=>
   cases v<;>try exact h.elim
   rename_i e
   have h':K (.bools (l.set i.toNat e.val)):=by cases e<;>exact h
   refine ⟨_,h',by simp [RO.len],rfl,fun ρ w M u hu=>?_⟩
   have hu':u= .bool e.val:=hu
   subst hu'
   refine ⟨rfl,fun j c hj=>?_,fun q c hq hc=>?_⟩
   · have hj0:j=0:=by rcases j with _|j;rfl;simp [Value.cells] at hj
     subst hj0;simp [Value.cells] at hj;subst hj
     refine ⟨trivial,?_⟩
     simp only [CellP,RO.sz,Nat.mul_one,Nat.add_zero,getD_set _ _ _ _ _ hi,if_true]
   · simp only [RO.sz,Nat.div_one] at hq
     simp only [CellP,getD_set _ _ _ _ _ hi,hq,if_false] at hc ⊢
     exact hc
  |rows k l=>
   have main:∀(m:List Int),K (.rows k (l.set i.toNat m))→(∀(ρ:Env) (w:World) (M:Msk) (u:Value),RepT ρ w M v u→SlI w M k m u)→
       ∃r',K r'∧r'.len=(RO.rows k l).len∧r'.sz=(RO.rows k l).sz∧∀(ρ:Env) (w:World) (M:Msk) (u:Value),RepT ρ w M v u→u.cells.size=(RO.rows k l).sz∧
        (∀j c,u.cells[j]? =some c→Go.AM.isCell c∧CellP w M r' (i.toNat*(RO.rows k l).sz+j) c)∧∀q c,q / (RO.rows k l).sz≠i.toNat→CellP w M (.rows k l) q c→CellP w M r' q c:=by
     intro m hK hm
     refine ⟨_,hK,by simp [RO.len],rfl,fun ρ w M u hu=>?_⟩
     have hs:=hm ρ w M u hu
     have hs':=hs
     obtain ⟨_,a,cap,rfl,_⟩:=hs
     refine ⟨rfl,fun j c hj=>?_,fun q c hq hc=>?_⟩
     · have hj0:j=0:=by rcases j with _|j;rfl;simp [Value.cells] at hj
       subst hj0;simp [Value.cells] at hj;subst hj
       refine ⟨trivial,?_⟩
       simp only [CellP,RO.sz,Nat.mul_one,Nat.add_zero,getD_set _ _ _ _ _ hi,if_true]
       exact hs'
     · simp only [RO.sz,Nat.div_one] at hq
       simp only [CellP,getD_set _ _ _ _ _ hi,hq,if_false] at hc ⊢
       exact hc
   cases v<;>try exact h.elim
   · rename_i s
     cases s<;>try exact h.elim
     rename_i k' m
     simp only [setK,ifK_iff] at h
     obtain ⟨hk,h⟩:=h
     obtain rfl:=kq_eq hk
     exact main m h fun ρ w M u hu=>rep_ints.1 hu
   · exact main [] h fun ρ w M u hu=>⟨Nat.zero_le _,⟨none,0,hu,Nat.le_refl _,.inl rfl⟩⟩
  |brows l=>
   have main:∀(m:List Bool),K (.brows (l.set i.toNat m))→(∀(ρ:Env) (w:World) (M:Msk) (u:Value),RepT ρ w M v u→SlB w M m u)→
       ∃r',K r'∧r'.len=(RO.brows l).len∧r'.sz=(RO.brows l).sz∧∀(ρ:Env) (w:World) (M:Msk) (u:Value),RepT ρ w M v u→u.cells.size=(RO.brows l).sz∧
        (∀j c,u.cells[j]? =some c→Go.AM.isCell c∧CellP w M r' (i.toNat*(RO.brows l).sz+j) c)∧∀q c,q / (RO.brows l).sz≠i.toNat→CellP w M (.brows l) q c→CellP w M r' q c:=by
     intro m hK hm
     refine ⟨_,hK,by simp [RO.len],rfl,fun ρ w M u hu=>?_⟩
     have hs:=hm ρ w M u hu
     have hs':=hs
     obtain ⟨_,a,cap,rfl,_⟩:=hs
     refine ⟨rfl,fun j c hj=>?_,fun q c hq hc=>?_⟩
     · have hj0:j=0:=by rcases j with _|j;rfl;simp [Value.cells] at hj
       subst hj0;simp [Value.cells] at hj;subst hj
       refine ⟨trivial,?_⟩
       simp only [CellP,RO.sz,Nat.mul_one,Nat.add_zero,getD_set _ _ _ _ _ hi,if_true]
       exact hs'
     · simp only [RO.sz,Nat.div_one] at hq
       simp only [CellP,getD_set _ _ _ _ _ hi,hq,if_false] at hc ⊢
       exact hc
   cases v<;>try exact h.elim
   · rename_i s
     cases s<;>try exact h.elim
     rename_i m
     exact main m h fun ρ w M u hu=>rep_bools.1 hu
   · exact main [] h fun ρ w M u hu=>⟨Nat.zero_le _,⟨none,0,hu,Nat.le_refl _,.inl rfl⟩⟩
  |rows3 l=>
   have main:∀(m:List (List Int)),K (.rows3 (l.set i.toNat m))→(∀(ρ:Env) (w:World) (M:Msk) (u:Value),RepT ρ w M v u→Sl2 w M .i64 m u)→
       ∃r',K r'∧r'.len=(RO.rows3 l).len∧r'.sz=(RO.rows3 l).sz∧∀(ρ:Env) (w:World) (M:Msk) (u:Value),RepT ρ w M v u→u.cells.size=(RO.rows3 l).sz∧
        (∀j c,u.cells[j]? =some c→Go.AM.isCell c∧CellP w M r' (i.toNat*(RO.rows3 l).sz+j) c)∧∀q c,q / (RO.rows3 l).sz≠i.toNat→CellP w M (.rows3 l) q c→CellP w M r' q c:=by
     intro m hK hm
     refine ⟨_,hK,by simp [RO.len],rfl,fun ρ w M u hu=>?_⟩
     have hs:=hm ρ w M u hu
     have hs':=hs
     obtain ⟨_,a,cap,rfl,_⟩:=hs
     refine ⟨rfl,fun j c hj=>?_,fun q c hq hc=>?_⟩
     · have hj0:j=0:=by rcases j with _|j;rfl;simp [Value.cells] at hj
       subst hj0;simp [Value.cells] at hj;subst hj
       refine ⟨trivial,?_⟩
       simp only [CellP,RO.sz,Nat.mul_one,Nat.add_zero,getD_set _ _ _ _ _ hi,if_true]
       exact hs'
     · simp only [RO.sz,Nat.div_one] at hq
       simp only [CellP,getD_set _ _ _ _ _ hi,hq,if_false] at hc ⊢
       exact hc
   cases v<;>try exact h.elim
   · rename_i s
     cases s<;>try exact h.elim
     rename_i k' m
     cases k'<;>try exact h.elim
     exact main m h fun ρ w M u hu=>rep_rows.1 hu
   · exact main [] h fun ρ w M u hu=>⟨Nat.zero_le _,⟨none,0,hu,Nat.le_refl _,.inl rfl⟩⟩
  |pairs l=>
   cases v<;>try exact h.elim
   rename_i m
   match m,h with
   |[.int .i64 a,.int .i64 b],h=>
    refine ⟨_,h,by simp [RO.len],rfl,fun ρ w M u hu=>?_⟩
    obtain ⟨cs,rfl,hcs⟩:=hu
    match hcl:cs.toList,hcs with
    |[c,d],hcs=>
     obtain ⟨⟨rfl,ha⟩,⟨rfl,hb⟩,_⟩:=hcs
     have hcs':cs= #[.int .i64 a,.int .i64 b]:=by
       have:=congrArg List.toArray hcl;simpa using this
     subst hcs'
     refine ⟨rfl,fun j c hj=>?_,fun q c hq hc=>?_⟩
     · match j,hj with
       |0,hj=>
        simp [Value.cells] at hj;subst hj
        refine ⟨trivial,?_⟩
        simp only [CellP,RO.sz,Nat.add_zero,Nat.mul_mod_left,if_true,Nat.mul_div_cancel _ (Nat.succ_pos 1),getD_set _ _ _ _ _ hi]
        exact ⟨trivial,ha⟩
       |1,hj=>
        simp [Value.cells] at hj;subst hj
        refine ⟨trivial,?_⟩
        simp only [CellP,RO.sz,show (i.toNat*2+1) % 2=1 from by omega,show (i.toNat*2+1) / 2=i.toNat from by omega,Nat.one_ne_zero,if_false,getD_set _ _ _ _ _ hi,if_true]
        exact ⟨trivial,hb⟩
       |j+2,hj=>simp [Value.cells] at hj
     · simp only [RO.sz] at hq
       simp only [CellP,getD_set _ _ _ _ _ hi,hq,if_false] at hc ⊢
       exact hc
  |facs l=>
   cases v<;>try exact h.elim
   rename_i m
   match m,h with
   |[.int .i64 a,.bool e],h=>
    have h:=valB_iff.1 h
    refine ⟨_,h,by simp [RO.len],rfl,fun ρ w M u hu=>?_⟩
    obtain ⟨cs,rfl,hcs⟩:=hu
    match hcl:cs.toList,hcs with
    |[c,d],hcs=>
     obtain ⟨⟨rfl,ha⟩,hb,_⟩:=hcs
     have hb:d= .bool e.val:=hb
     subst hb
     have hcs':cs= #[.int .i64 a,.bool e.val]:=by
       have:=congrArg List.toArray hcl;simpa using this
     subst hcs'
     refine ⟨rfl,fun j c hj=>?_,fun q c hq hc=>?_⟩
     · match j,hj with
       |0,hj=>
        simp [Value.cells] at hj;subst hj
        refine ⟨trivial,?_⟩
        simp only [CellP,RO.sz,Nat.add_zero,Nat.mul_mod_left,if_true,Nat.mul_div_cancel _ (Nat.succ_pos 1),getD_set _ _ _ _ _ hi]
        exact ⟨trivial,ha⟩
       |1,hj=>
        simp [Value.cells] at hj;subst hj
        refine ⟨trivial,?_⟩
        simp only [CellP,RO.sz,show (i.toNat*2+1) % 2=1 from by omega,show (i.toNat*2+1) / 2=i.toNat from by omega,Nat.one_ne_zero,if_false,getD_set _ _ _ _ _ hi,if_true]
       |j+2,hj=>simp [Value.cells] at hj
     · simp only [RO.sz] at hq
       simp only [CellP,getD_set _ _ _ _ _ hi,hq,if_false] at hc ⊢
       exact hc
  |arrs n k l=>cases v<;>exact h.elim
  |prins l=>cases v<;>exact h.elim
  |ruls l=>cases v<;>exact h.elim
  |strs l=>
   cases v<;>try exact h.elim
   rename_i m
   refine ⟨_,h,by simp [RO.len],rfl,fun ρ w M u hu=>?_⟩
   obtain ⟨rfl,hr⟩:=hu
   refine ⟨rfl,fun j c hj=>?_,fun q c hq hc=>?_⟩
   · have hj0:j=0:=by rcases j with _|j;rfl;simp [Value.cells] at hj
     subst hj0;simp [Value.cells] at hj;subst hj
     simp only [RO.len] at hi
     refine ⟨trivial,?_⟩
     simp only [CellP,RO.sz,Nat.mul_one,Nat.add_zero,getD_set _ _ _ _ _ hi,if_true]
     exact ⟨rfl,hr⟩
   · simp only [RO.sz,Nat.div_one] at hq
     simp only [CellP,getD_set _ _ _ _ _ hi,hq,if_false] at hc ⊢
     exact hc
  |prows l=>cases v<;>exact h.elim
  |gb l=>cases v<;>exact h.elim
  |gi l=>cases v<;>exact h.elim
  |nrows k l=>
   cases v<;>try exact h.elim
   refine ⟨_,h,by simp [RO.len],rfl,fun ρ w M u hu=>?_⟩
   have hu:u= .slice none 0 0:=hu
   subst hu
   refine ⟨rfl,fun j c hj=>?_,fun q c hq hc=>?_⟩
   · have hj0:j=0:=by rcases j with _|j;rfl;simp [Value.cells] at hj
     subst hj0;simp [Value.cells] at hj;subst hj
     refine ⟨trivial,?_⟩
     simp only [CellP,RO.sz,Nat.mul_one,Nat.add_zero,getD_set _ _ _ _ _ hi,if_true]
     exact ⟨⟨Nat.zero_le _,none,0,rfl,Nat.le_refl _,.inl rfl⟩,fun _=>by trivial⟩
   · simp only [RO.sz,Nat.div_one] at hq
     simp only [CellP,getD_set _ _ _ _ _ hi,hq,if_false] at hc ⊢
     exact hc
theorem getD_app {α:Type} (l m:List α) (q:Nat) (d:α):(l++m).getD q d=if q<l.length then l.getD q d else m.getD (q - l.length) d:=by
  simp only [List.getD,List.getElem?_append]
  split<;>rfl
theorem cat_cells {r s:RO} {K:RO→Prop} (h:catK r s K):∃t,K t∧t.len=r.len+s.len∧t.sz=r.sz∧s.sz=r.sz∧
    ∀(w:World) (M:Msk) q c,(if q<r.cells then CellP w M r q c else CellP w M s (q - r.cells) c)→CellP w M t q c:=by
  cases r<;>cases s<;>try exact h.elim
  case ints.ints k l k' m=>
    simp only [catK,ifK_iff] at h
    obtain ⟨hk,h⟩:=h
    obtain rfl:=kq_eq hk
    refine ⟨_,h,by simp [RO.len],rfl,rfl,fun w M q c hc=>?_⟩
    simp only [RO.cells,RO.len,RO.sz,Nat.mul_one,CellP,getD_app] at hc ⊢
    by_cases hq:q<l.length<;>simp only [hq,if_true,if_false] at hc ⊢<;>exact hc
  case bools.bools l m=>
    refine ⟨_,h,by simp [RO.len],rfl,rfl,fun w M q c hc=>?_⟩
    simp only [RO.cells,RO.len,RO.sz,Nat.mul_one,CellP,getD_app] at hc ⊢
    by_cases hq:q<l.length<;>simp only [hq,if_true,if_false] at hc ⊢<;>exact hc
  case rows.rows k l k' m=>
    simp only [catK,ifK_iff] at h
    obtain ⟨hk,h⟩:=h
    obtain rfl:=kq_eq hk
    refine ⟨_,h,by simp [RO.len],rfl,rfl,fun w M q c hc=>?_⟩
    simp only [RO.cells,RO.len,RO.sz,Nat.mul_one,CellP,getD_app] at hc ⊢
    by_cases hq:q<l.length<;>simp only [hq,if_true,if_false] at hc ⊢<;>exact hc
  case brows.brows l m=>
    refine ⟨_,h,by simp [RO.len],rfl,rfl,fun w M q c hc=>?_⟩
    simp only [RO.cells,RO.len,RO.sz,Nat.mul_one,CellP,getD_app] at hc ⊢
    by_cases hq:q<l.length<;>simp only [hq,if_true,if_false] at hc ⊢<;>exact hc
  case rows3.rows3 l m=>
    refine ⟨_,h,by simp [RO.len],rfl,rfl,fun w M q c hc=>?_⟩
    simp only [RO.cells,RO.len,RO.sz,Nat.mul_one,CellP,getD_app] at hc ⊢
    by_cases hq:q<l.length<;>simp only [hq,if_true,if_false] at hc ⊢<;>exact hc
  case strs.strs l m=>
    refine ⟨_,h,by simp [RO.len],rfl,rfl,fun w M q c hc=>?_⟩
    simp only [RO.cells,RO.len,RO.sz,Nat.mul_one,CellP,getD_app] at hc ⊢
    by_cases hq:q<l.length<;>simp only [hq,if_true,if_false] at hc ⊢<;>exact hc
  case ruls.ruls l m=>
    refine ⟨_,h,by simp [RO.len],rfl,rfl,fun w M q c hc=>?_⟩
    simp only [RO.cells,RO.len,RO.sz,CellP,getD_app] at hc ⊢
    by_cases hq:q<l.length*2
    · have h2:q / 2<l.length:=by omega
      simp only [hq,if_true,h2] at hc ⊢
      exact hc
    · have h2:¬q / 2<l.length:=by omega
      have h3:(q - l.length*2) % 2=q % 2:=by omega
      have h4:(q - l.length*2) / 2=q / 2 - l.length:=by omega
      simp only [hq,if_false,h2,h3,h4] at hc ⊢
      exact hc
  case prows.prows l m=>
    refine ⟨_,h,by simp [RO.len],rfl,rfl,fun w M q c hc=>?_⟩
    simp only [RO.cells,RO.len,RO.sz,Nat.mul_one,CellP,getD_app] at hc ⊢
    by_cases hq:q<l.length<;>simp only [hq,if_true,if_false] at hc ⊢<;>exact hc
  case pairs.pairs l m=>
    refine ⟨_,h,by simp [RO.len],rfl,rfl,fun w M q c hc=>?_⟩
    simp only [RO.cells,RO.len,RO.sz,CellP,getD_app] at hc ⊢
    by_cases hq:q<l.length*2
    · have h2:q / 2<l.length:=by omega
      simp only [hq,if_true,h2] at hc ⊢
      exact hc
    · have h2:¬q / 2<l.length:=by omega
      have h3:(q - l.length*2) % 2=q % 2:=by omega
      have h4:(q - l.length*2) / 2=q / 2 - l.length:=by omega
      simp only [hq,if_false,h2,h3,h4] at hc ⊢
      exact hc
  case facs.facs l m=>
    refine ⟨_,h,by simp [RO.len],rfl,rfl,fun w M q c hc=>?_⟩
    simp only [RO.cells,RO.len,RO.sz,CellP,getD_app] at hc ⊢
    by_cases hq:q<l.length*2
    · have h2:q / 2<l.length:=by omega
      simp only [hq,if_true,h2] at hc ⊢
      exact hc
    · have h2:¬q / 2<l.length:=by omega
      have h3:(q - l.length*2) % 2=q % 2:=by omega
      have h4:(q - l.length*2) / 2=q / 2 - l.length:=by omega
      simp only [hq,if_false,h2,h3,h4] at hc ⊢
      exact hc
  case prins.prins l m=>
    refine ⟨_,h,by simp [RO.len],rfl,rfl,fun w M q c hc=>?_⟩
    simp only [RO.cells,RO.len,RO.sz,CellP,getD_app] at hc ⊢
    by_cases hq:q<l.length*4
    · have h2:q / 4<l.length:=by omega
      simp only [hq,if_true,h2] at hc ⊢
      exact hc
    · have h2:¬q / 4<l.length:=by omega
      have h3:(q - l.length*4) % 4=q % 4:=by omega
      have h4:(q - l.length*4) / 4=q / 4 - l.length:=by omega
      simp only [hq,if_false,h2,h3,h4] at hc ⊢
      exact hc
  case arrs.arrs n k l n' k' m=>
    simp only [catK,ifK_iff] at h
    obtain ⟨hn,hk,h⟩:=h
    obtain rfl:=kq_eq hk
    obtain rfl:=Nat.eq_of_beq_eq_true hn
    refine ⟨_,h,by simp [RO.len],rfl,rfl,fun w M q c hc=>?_⟩
    simp only [RO.cells,RO.len,RO.sz,CellP,getD_app] at hc ⊢
    by_cases hq:q<l.length*(n+2)
    · have h2:q / (n+2)<l.length:=(Nat.div_lt_iff_lt_mul (Nat.succ_pos _)).2 hq
      simp only [hq,if_true,h2] at hc ⊢
      exact hc
    · have h2:¬q / (n+2)<l.length:=fun h=>hq ((Nat.div_lt_iff_lt_mul (Nat.succ_pos _)).1 h)
      have h3:(q - l.length*(n+2)) % (n+2)=q % (n+2):=by
        rw [Nat.mul_comm];exact Nat.sub_mul_mod (by rw [Nat.mul_comm];omega)
      have h4:(q - l.length*(n+2)) / (n+2)=q / (n+2) - l.length:=by
        rw [Nat.mul_comm];exact Nat.sub_mul_div q (n+2) l.length
      simp only [hq,if_false,h2,h3,h4] at hc ⊢
      exact hc
theorem getD_cut {α:Type} (l:List α) (a b q:Nat) (d:α) (h:a+q<b):((l.take b).drop a).getD q d=l.getD (a+q) d:=by
  simp [List.getD,h]
theorem cut_cells {r:RO} {a b:Nat} {K:RO→Prop} (h:cutK r a b K) (hab:a≤b) (hb:b≤r.len):∃t,K t∧t.len=b - a∧t.sz=r.sz∧
    ∀(w:World) (M:Msk) q c,q<t.cells→(CellP w M r (a*r.sz+q) c→CellP w M t q c):=by
  cases r with
  |ruls l=>
   simp only [RO.len] at hb
   refine ⟨_,h,by simp [RO.len];omega,rfl,fun w M q c hq hc=>?_⟩
   simp only [RO.cells,RO.len,RO.sz,List.length_drop,List.length_take] at hq
   have h1:(a*2+q) / 2=a+q / 2:=by omega
   have h2:(a*2+q) % 2=q % 2:=by omega
   simp only [CellP,RO.sz,h1,h2,getD_cut _ _ _ _ _ (show a+q / 2<b from by omega)] at hc ⊢
   exact hc
  |facs l=>
   simp only [RO.len] at hb
   refine ⟨_,h,by simp [RO.len];omega,rfl,fun w M q c hq hc=>?_⟩
   simp only [RO.cells,RO.len,RO.sz,List.length_drop,List.length_take] at hq
   have h1:(a*2+q) / 2=a+q / 2:=by omega
   have h2:(a*2+q) % 2=q % 2:=by omega
   simp only [CellP,RO.sz,h1,h2,getD_cut _ _ _ _ _ (show a+q / 2<b from by omega)] at hc ⊢
   exact hc
  |prins l=>
   simp only [RO.len] at hb
   refine ⟨_,h,by simp [RO.len];omega,rfl,fun w M q c hq hc=>?_⟩
   simp only [RO.cells,RO.len,RO.sz,List.length_drop,List.length_take] at hq
   have h1:(a*4+q) / 4=a+q / 4:=by omega
   have h2:(a*4+q) % 4=q % 4:=by omega
   simp only [CellP,RO.sz,h1,h2,getD_cut _ _ _ _ _ (show a+q / 4<b from by omega)] at hc ⊢
   exact hc
  |pairs l=>
   simp only [RO.len] at hb
   refine ⟨_,h,by simp [RO.len];omega,rfl,fun w M q c hq hc=>?_⟩
   simp only [RO.cells,RO.len,RO.sz,List.length_drop,List.length_take] at hq
   have h1:(a*2+q) / 2=a+q / 2:=by omega
   have h2:(a*2+q) % 2=q % 2:=by omega
   simp only [CellP,RO.sz,h1,h2,getD_cut _ _ _ _ _ (show a+q / 2<b from by omega)] at hc ⊢
   exact hc
  |arrs n k l=>
   simp only [RO.len] at hb
   refine ⟨_,h,by simp [RO.len];omega,rfl,fun w M q c hq hc=>?_⟩
   simp only [RO.cells,RO.len,RO.sz,List.length_drop,List.length_take] at hq
   have h0:q / (n+2)<min b l.length - a:=(Nat.div_lt_iff_lt_mul (Nat.succ_pos _)).2 hq
   have h1:(a*(n+2)+q) / (n+2)=a+q / (n+2):=by rw [Nat.mul_comm];exact Nat.mul_add_div (Nat.succ_pos _) _ _
   have h2:(a*(n+2)+q) % (n+2)=q % (n+2):=by rw [Nat.mul_comm];exact Nat.mul_add_mod _ _ _
   simp only [CellP,RO.sz,h1,h2,getD_cut _ _ _ _ _ (show a+q / (n+2)<b from by omega)] at hc ⊢
   exact hc
  |gb l=>exact h.elim
  |gi l=>exact h.elim
  |nrows k l=>
   simp only [RO.len] at hb
   refine ⟨_,h,by simp [RO.len];omega,rfl,fun w M q c hq hc=>?_⟩
   simp only [RO.cells,RO.len,RO.sz,Nat.mul_one,List.length_drop,List.length_take] at hq
   simp only [CellP,RO.sz,Nat.mul_one,getD_cut _ _ _ _ _ (show a+q<b from by omega)] at hc ⊢
   exact hc
  |_ l=>
   simp only [RO.len] at hb
   refine ⟨_,h,by simp [RO.len];omega,rfl,fun w M q c hq hc=>?_⟩
   simp only [RO.cells,RO.len,RO.sz,Nat.mul_one,List.length_drop,List.length_take] at hq
   simp only [CellP,RO.sz,Nat.mul_one,getD_cut _ _ _ _ _ (show a+q<b from by omega)] at hc ⊢
   exact hc
theorem cells_list {w:World} {b off n:Nat} {C:Nat→Value→Prop} (h:∀q,q<n→∃c,w.cell? ⟨b,off+q,none⟩=some c∧C q c):
    ∃l:List Value,l.length=n∧(∀j v,l[j]? =some v→w.cell? ⟨b,off+j,none⟩=some v)∧∀q,q<n→∃c,l[q]? =some c∧C q c:=by
  induction n with
  |zero=>exact ⟨[],rfl,by simp,by simp⟩
  |succ n ih=>
   obtain ⟨l,h1,h2,h3⟩:=ih fun q hq=>h q (by omega)
   obtain ⟨c,h4,h5⟩:=h n (by omega)
   refine ⟨l++[c],by simp [h1],fun j v hj=>?_,fun q hq=>?_⟩
   · by_cases hjn:j<n
     · rw [List.getElem?_append_left (by omega)] at hj;exact h2 j v hj
     · by_cases hjn':j=n
       · subst hjn';rw [List.getElem?_append_right (by omega)] at hj;simp [h1] at hj;subst hj;exact h4
       · rw [List.getElem?_eq_none (by simp;omega)] at hj;cases hj
   · by_cases hqn:q<n
     · obtain ⟨c',h6,h7⟩:=h3 q hqn
       exact ⟨c',by rw [List.getElem?_append_left (by omega)];exact h6,h7⟩
     · have:q=n:=by omega
       subst this
       exact ⟨c,by rw [List.getElem?_append_right (by omega)];simp [h1],h5⟩
end
end Go.AM
end
section
namespace Go.AM
open Go
structure Conv (k:Nat) (to:AV) (ρ:Env) (w:World) (M:Msk) (ρ':Env) (w':World) (M':Msk):Prop where
  keep:Keep w M w' M'
  other:∀j,j≠k→∀o,ρ j=some o→ρ' j=some o
  self:∀v,RepC ρ w M (.vec k) v→RepC ρ' w' M' to v
section
variable {k:Nat} {to:AV}
theorem sweepA_sound {a:AV} {K:AV→Prop} (h:sweepA k to a K):
    ∃a',K a'∧∀ρ w M ρ' w' M',Conv k to ρ w M ρ' w' M'→∀v,RepC ρ w M a v→RepC ρ' w' M' a' v:=by
  cases a with
  |vec j=>
   simp only [sweepA] at h
   cases hb:Nat.beq j k with
   |true=>simp only [hb] at h;obtain rfl:=beq_iff'.1 hb;exact ⟨_,h,fun ρ w M ρ' w' M' hc v hv=>hc.self v hv⟩
   |false=>simp only [hb] at h;exact ⟨_,h,fun ρ w M ρ' w' M' hc v ⟨o,h1,h2⟩=>⟨o,bind_keep (hc.other _ (beq_false hb)) h1,h2⟩⟩
  |ptr j off=>
   simp only [sweepA] at h
   cases hb:Nat.beq j k with
   |true=>simp only [hb] at h;exact ⟨_,h,fun ρ w M ρ' w' M' hc v hv=>RepC.isCell hv⟩
   |false=>simp only [hb] at h;exact ⟨_,h,fun ρ w M ρ' w' M' hc v h1=>bind_keep (hc.other _ (beq_false hb)) h1⟩
  |vptr j i=>
   simp only [sweepA] at h
   cases hb:Nat.beq j k with
   |true=>simp only [hb] at h;exact ⟨_,h,fun ρ w M ρ' w' M' hc v hv=>RepC.isCell hv⟩
   |false=>simp only [hb] at h;exact ⟨_,h,fun ρ w M ρ' w' M' hc v ⟨o,b,h1,h2⟩=>⟨o,b,bind_keep (hc.other _ (beq_false hb)) h1,h2⟩⟩
  |cptr j i c=>
   simp only [sweepA] at h
   cases hb:Nat.beq j k with
   |true=>simp only [hb] at h;exact ⟨_,h,fun ρ w M ρ' w' M' hc v hv=>RepC.isCell hv⟩
   |false=>simp only [hb] at h;exact ⟨_,h,fun ρ w M ρ' w' M' hc v ⟨o,b,h1,h2⟩=>⟨o,b,bind_keep (hc.other _ (beq_false hb)) h1,h2⟩⟩
  |row j i=>
   simp only [sweepA] at h
   cases hb:Nat.beq j k with
   |true=>simp only [hb] at h;exact ⟨_,h,fun ρ w M ρ' w' M' hc v hv=>RepC.isCell hv⟩
   |false=>simp only [hb] at h;exact ⟨_,h,fun ρ w M ρ' w' M' hc v ⟨o,h1,h2⟩=>⟨o,bind_keep (hc.other _ (beq_false hb)) h1,h2⟩⟩
  |gptr j i c=>
   simp only [sweepA] at h
   cases hb:Nat.beq j k with
   |true=>simp only [hb] at h;exact ⟨_,h,fun ρ w M ρ' w' M' hc v hv=>RepC.isCell hv⟩
   |false=>simp only [hb] at h;exact ⟨_,h,fun ρ w M ρ' w' M' hc v ⟨o,b,h1,h2⟩=>⟨o,b,bind_keep (hc.other _ (beq_false hb)) h1,h2⟩⟩
  |vsuf j i=>
   simp only [sweepA] at h
   cases hb:Nat.beq j k with
   |true=>simp only [hb] at h;exact ⟨_,h,fun ρ w M ρ' w' M' hc v hv=>RepC.isCell hv⟩
   |false=>simp only [hb] at h;exact ⟨_,h,fun ρ w M ρ' w' M' hc v ⟨o,h1,h2⟩=>⟨o,bind_keep (hc.other _ (beq_false hb)) h1,h2⟩⟩
  |ro r=>exact ⟨_,h,fun ρ w M ρ' w' M' hc v hv=>RepRO.keep hc.keep hv⟩
  |rptr r i=>exact ⟨_,h,fun ρ w M ρ' w' M' hc v ⟨b,off,cap,h1,h2⟩=>⟨b,off,cap,h1.keep hc.keep,h2⟩⟩
  |cfn f r i=>exact ⟨_,h,fun ρ w M ρ' w' M' hc v ⟨b,off,cap,h1,h2⟩=>⟨b,off,cap,h1.keep hc.keep,h2⟩⟩
  |fn f l=>
   cases l with
   |nil=>exact ⟨_,h,fun ρ w M ρ' w' M' hc v hv=>hv⟩
   |cons x l=>exact ⟨_,h,fun ρ w M ρ' w' M' hc v hv=>RepC.isCell hv⟩
  |int k n=>exact ⟨_,h,fun ρ w M ρ' w' M' hc v hv=>hv⟩
  |bool e=>exact ⟨_,h,fun ρ w M ρ' w' M' hc v hv=>hv⟩
  |nils=>exact ⟨_,h,fun ρ w M ρ' w' M' hc v hv=>hv⟩
  |full r=>exact ⟨_,h,fun ρ w M ρ' w' M' hc v hv=>⟨RepRO.keep hc.keep hv.1,hv.2⟩⟩
  |str l=>exact ⟨_,h,fun ρ w M ρ' w' M' hc v hv=>hv⟩
  |_=>exact ⟨_,h,fun ρ w M ρ' w' M' hc v hv=>RepC.isCell hv⟩
theorem sweepL_sound:∀{l:List AV} {K:List AV→Prop},sweepL k to l K→
    ∃l',K l'∧∀ρ w M ρ' w' M',Conv k to ρ w M ρ' w' M'→∀vs,RepL (RepC ρ w M) l vs→RepL (RepC ρ' w' M') l' vs
  |[],_,h=>⟨[],h,fun _ _ _ _ _ _ _ vs hv=>by cases vs<;>exact hv⟩
  |a::l,K,h=>by
   obtain ⟨a',h1,ha⟩:=sweepA_sound h
   obtain ⟨l',h2,hl⟩:=sweepL_sound h1
   refine ⟨_,h2,fun ρ w M ρ' w' M' hc vs hv=>?_⟩
   cases vs with
   |nil=>exact hv.elim
   |cons v vs=>exact ⟨ha _ _ _ _ _ _ hc _ hv.1,hl _ _ _ _ _ _ hc _ hv.2⟩
theorem sweepA_T {a:AV} {K:AV→Prop} (ha:(∀l,a≠.agg l)∧(∀l,a≠.tup l)∧∀f l,a≠.fn f l) (h:sweepA k to a K):
    ∃a',K a'∧∀ρ w M ρ' w' M',Conv k to ρ w M ρ' w' M'→(∀v,RepC ρ w M (.vec k) v→RepT ρ' w' M' to v∧RepG ρ' w' M' to v)→∀v,(RepT ρ w M a v→RepT ρ' w' M' a' v)∧(RepG ρ w M a v→RepG ρ' w' M' a' v):=by
  cases a with
  |agg l=>exact absurd rfl (ha.1 l)
  |tup l=>exact absurd rfl (ha.2.1 l)
  |fn f l=>exact absurd rfl (ha.2.2 f l)
  |vec j=>
   simp only [sweepA] at h
   cases hb:Nat.beq j k with
   |true=>simp only [hb] at h;obtain rfl:=beq_iff'.1 hb;exact ⟨_,h,fun ρ w M ρ' w' M' hc hto v=>⟨fun hv=>(hto v hv).1,fun hv=>(hto v hv).2⟩⟩
   |false=>
    simp only [hb] at h
    refine ⟨_,h,fun ρ w M ρ' w' M' hc hto v=>⟨fun hv=>?_,fun hv=>?_⟩⟩<;>(obtain ⟨o,h1,h2⟩:=hv;exact ⟨o,bind_keep (hc.other _ (beq_false hb)) h1,h2⟩)
  |ptr j off=>
   simp only [sweepA] at h
   cases hb:Nat.beq j k with
   |true=>simp only [hb] at h;exact ⟨_,h,fun ρ w M ρ' w' M' hc _ v=>⟨fun _=>trivial,fun _=>trivial⟩⟩
   |false=>
    simp only [hb] at h
    refine ⟨_,h,fun ρ w M ρ' w' M' hc _ v=>⟨fun hv=>?_,fun hv=>?_⟩⟩<;>exact bind_keep (hc.other _ (beq_false hb)) hv
  |vptr j i=>
   simp only [sweepA] at h
   cases hb:Nat.beq j k with
   |true=>simp only [hb] at h;exact ⟨_,h,fun ρ w M ρ' w' M' hc _ v=>⟨fun _=>trivial,fun _=>trivial⟩⟩
   |false=>
    simp only [hb] at h
    refine ⟨_,h,fun ρ w M ρ' w' M' hc _ v=>⟨fun hv=>?_,fun hv=>?_⟩⟩<;>(obtain ⟨o,b,h1,h2⟩:=hv;exact ⟨o,b,bind_keep (hc.other _ (beq_false hb)) h1,h2⟩)
  |cptr j i c=>
   simp only [sweepA] at h
   cases hb:Nat.beq j k with
   |true=>simp only [hb] at h;exact ⟨_,h,fun ρ w M ρ' w' M' hc _ v=>⟨fun _=>trivial,fun _=>trivial⟩⟩
   |false=>
    simp only [hb] at h
    refine ⟨_,h,fun ρ w M ρ' w' M' hc _ v=>⟨fun hv=>?_,fun hv=>?_⟩⟩<;>(obtain ⟨o,b,h1,h2⟩:=hv;exact ⟨o,b,bind_keep (hc.other _ (beq_false hb)) h1,h2⟩)
  |gptr j i c=>
   simp only [sweepA] at h
   cases hb:Nat.beq j k with
   |true=>simp only [hb] at h;exact ⟨_,h,fun ρ w M ρ' w' M' hc _ v=>⟨fun _=>trivial,fun _=>trivial⟩⟩
   |false=>
    simp only [hb] at h
    refine ⟨_,h,fun ρ w M ρ' w' M' hc _ v=>⟨fun hv=>?_,fun hv=>?_⟩⟩<;>(obtain ⟨o,b,h1,h2⟩:=hv;exact ⟨o,b,bind_keep (hc.other _ (beq_false hb)) h1,h2⟩)
  |row j i=>
   simp only [sweepA] at h
   cases hb:Nat.beq j k with
   |true=>simp only [hb] at h;exact ⟨_,h,fun ρ w M ρ' w' M' hc _ v=>⟨fun _=>trivial,fun _=>trivial⟩⟩
   |false=>
    simp only [hb] at h
    refine ⟨_,h,fun ρ w M ρ' w' M' hc _ v=>⟨fun hv=>?_,fun hv=>?_⟩⟩<;>(obtain ⟨o,h1,h2⟩:=hv;exact ⟨o,bind_keep (hc.other _ (beq_false hb)) h1,h2⟩)
  |vsuf j i=>
   simp only [sweepA] at h
   cases hb:Nat.beq j k with
   |true=>simp only [hb] at h;exact ⟨_,h,fun ρ w M ρ' w' M' hc _ v=>⟨fun _=>trivial,fun _=>trivial⟩⟩
   |false=>
    simp only [hb] at h
    refine ⟨_,h,fun ρ w M ρ' w' M' hc _ v=>⟨fun hv=>?_,fun hv=>?_⟩⟩<;>(obtain ⟨o,h1,h2⟩:=hv;exact ⟨o,bind_keep (hc.other _ (beq_false hb)) h1,h2⟩)
  |ro r=>exact ⟨_,h,fun ρ w M ρ' w' M' hc _ v=>⟨fun hv=>RepRO.keep hc.keep hv,fun hv=>RepRO.keep hc.keep hv⟩⟩
  |rptr r i=>
   refine ⟨_,h,fun ρ w M ρ' w' M' hc _ v=>⟨fun hv=>?_,fun hv=>?_⟩⟩<;>(obtain ⟨b,off,cap,h1,h2⟩:=hv;exact ⟨b,off,cap,h1.keep hc.keep,h2⟩)
  |cfn f r i=>
   refine ⟨_,h,fun ρ w M ρ' w' M' hc _ v=>⟨fun hv=>?_,fun hv=>?_⟩⟩<;>(obtain ⟨b,off,cap,h1,h2⟩:=hv;exact ⟨b,off,cap,h1.keep hc.keep,h2⟩)
  |int k n=>exact ⟨_,h,fun ρ w M ρ' w' M' hc _ v=>⟨fun hv=>hv,fun hv=>hv⟩⟩
  |bool e=>exact ⟨_,h,fun ρ w M ρ' w' M' hc _ v=>⟨fun hv=>hv,fun hv=>hv⟩⟩
  |nils=>exact ⟨_,h,fun ρ w M ρ' w' M' hc _ v=>⟨fun hv=>hv,fun hv=>hv⟩⟩
  |full r=>exact ⟨_,h,fun ρ w M ρ' w' M' hc _ v=>⟨fun hv=>⟨RepRO.keep hc.keep hv.1,hv.2⟩,fun hv=>⟨RepRO.keep hc.keep hv.1,hv.2⟩⟩⟩
  |str l=>exact ⟨_,h,fun ρ w M ρ' w' M' hc _ v=>⟨fun hv=>hv,fun hv=>hv⟩⟩
  |_=>exact ⟨_,h,fun ρ w M ρ' w' M' hc _ v=>⟨fun _=>trivial,fun _=>trivial⟩⟩
theorem sweepG_sound:∀{l:List AV} {K:List AV→Prop},sweepG k to l K→
    ∃l',K l'∧∀ρ w M ρ' w' M',Conv k to ρ w M ρ' w' M'→(∀v,RepC ρ w M (.vec k) v→RepT ρ' w' M' to v∧RepG ρ' w' M' to v)→∀vs,RepL (RepG ρ w M) l vs→RepL (RepG ρ' w' M') l' vs
  |[],_,h=>⟨[],h,fun _ _ _ _ _ _ _ _ vs hv=>by cases vs<;>exact hv⟩
  |a::l,K,h=>by
   have go:∃a',(sweepG k to l fun l'=>K (a'::l'))∧∀ρ w M ρ' w' M',Conv k to ρ w M ρ' w' M'→(∀v,RepC ρ w M (.vec k) v→RepT ρ' w' M' to v∧RepG ρ' w' M' to v)→∀v,RepG ρ w M a v→RepG ρ' w' M' a' v:=by
     cases a with
     |agg m=>
      obtain ⟨m',h1,hm⟩:=sweepL_sound h
      exact ⟨_,h1,fun ρ w M ρ' w' M' hc _ v ⟨cs,h2,h3⟩=>⟨cs,h2,hm _ _ _ _ _ _ hc _ h3⟩⟩
     |tup m=>exact ⟨.any,h,fun ρ w M ρ' w' M' hc _ v _=>trivial⟩
     |fn f m=>
      cases m with
      |nil=>exact ⟨_,h,fun ρ w M ρ' w' M' hc _ v hv=>hv⟩
      |cons x m=>exact ⟨.any,h,fun ρ w M ρ' w' M' hc _ v _=>trivial⟩
     |_=>
      simp only [sweepG] at h
      obtain ⟨a',h1,ha⟩:=sweepA_T (by simp) h
      exact ⟨a',h1,fun ρ w M ρ' w' M' hc hto v hv=>(ha _ _ _ _ _ _ hc hto v).2 hv⟩
   obtain ⟨a',h1,ha⟩:=go
   obtain ⟨l',h2,hl⟩:=sweepG_sound h1
   refine ⟨_,h2,fun ρ w M ρ' w' M' hc hto vs hv=>?_⟩
   cases vs with
   |nil=>exact hv.elim
   |cons v vs=>exact ⟨ha _ _ _ _ _ _ hc hto _ hv.1,hl _ _ _ _ _ _ hc hto _ hv.2⟩
theorem sweepT_sound:∀{l:List AV} {K:List AV→Prop},sweepT k to l K→
    ∃l',K l'∧l'.length=l.length∧∀ρ w M ρ' w' M',Conv k to ρ w M ρ' w' M'→(∀v,RepC ρ w M (.vec k) v→RepT ρ' w' M' to v∧RepG ρ' w' M' to v)→∀i v,RepT ρ w M (nth l i) v→RepT ρ' w' M' (nth l' i) v
  |[],_,h=>⟨[],h,rfl,fun _ _ _ _ _ _ _ _ _ _ _=>trivial⟩
  |a::l,K,h=>by
   have go:∃a',(sweepT k to l fun l'=>K (a'::l'))∧∀ρ w M ρ' w' M',Conv k to ρ w M ρ' w' M'→(∀v,RepC ρ w M (.vec k) v→RepT ρ' w' M' to v∧RepG ρ' w' M' to v)→∀v,RepT ρ w M a v→RepT ρ' w' M' a' v:=by
     cases a with
     |agg m=>
      obtain ⟨m',h1,hm⟩:=sweepL_sound h
      exact ⟨_,h1,fun ρ w M ρ' w' M' hc _ v ⟨cs,h2,h3⟩=>⟨cs,h2,hm _ _ _ _ _ _ hc _ h3⟩⟩
     |tup m=>
      obtain ⟨m',h1,hm⟩:=sweepG_sound h
      exact ⟨_,h1,fun ρ w M ρ' w' M' hc hto v ⟨cs,h2,h3⟩=>⟨cs,h2,hm _ _ _ _ _ _ hc hto _ h3⟩⟩
     |fn f m=>
      obtain ⟨m',h1,hm⟩:=sweepL_sound h
      exact ⟨_,h1,fun ρ w M ρ' w' M' hc _ v ⟨cs,h2,h3⟩=>⟨cs,h2,hm _ _ _ _ _ _ hc _ h3⟩⟩
     |_=>
      simp only [sweepT] at h
      obtain ⟨a',h1,ha⟩:=sweepA_T (by simp) h
      exact ⟨a',h1,fun ρ w M ρ' w' M' hc hto v hv=>(ha _ _ _ _ _ _ hc hto v).1 hv⟩
   obtain ⟨a',h1,ha⟩:=go
   obtain ⟨l',h2,hlen,hl⟩:=sweepT_sound h1
   refine ⟨_,h2,by simp [hlen],fun ρ w M ρ' w' M' hc hto i v hv=>?_⟩
   cases i with
   |zero=>exact ha _ _ _ _ _ _ hc hto _ hv
   |succ i=>exact hl _ _ _ _ _ _ hc hto i _ hv
theorem setRow_cells {r s:RO} {i:Int} {K:RO→Prop} (h:setRow r i s K) (hi:i.toNat<r.len):∃r',K r'∧r'.len=r.len∧r'.sz=r.sz∧ovQ r=true∧
    ∀(w:World) (M:Msk),(∀c,RepRO w M s c→CellP w M r' i.toNat c)∧∀q c,q≠i.toNat→CellP w M r q c→CellP w M r' q c:=by
  cases r<;>cases s<;>try exact h.elim
  case rows.ints k l k' m=>
    simp only [setRow,ifK_iff] at h
    obtain ⟨hk,h⟩:=h
    obtain rfl:=kq_eq hk
    simp only [RO.len] at hi
    refine ⟨_,h,by simp [RO.len],rfl,rfl,fun w M=>⟨fun c hc=>?_,fun q c hq hc=>?_⟩⟩
    · simp only [CellP,getD_set _ _ _ _ _ hi,if_true];exact rep_ints.1 hc
    · simp only [CellP,getD_set _ _ _ _ _ hi,hq,if_false] at hc ⊢;exact hc
  case brows.bools l m=>
    simp only [RO.len] at hi
    refine ⟨_,h,by simp [RO.len],rfl,rfl,fun w M=>⟨fun c hc=>?_,fun q c hq hc=>?_⟩⟩
    · simp only [CellP,getD_set _ _ _ _ _ hi,if_true];exact rep_bools.1 hc
    · simp only [CellP,getD_set _ _ _ _ _ hi,hq,if_false] at hc ⊢;exact hc
  case rows3.rows l k' m=>
    cases k'<;>try exact h.elim
    simp only [RO.len] at hi
    refine ⟨_,h,by simp [RO.len],rfl,rfl,fun w M=>⟨fun c hc=>?_,fun q c hq hc=>?_⟩⟩
    · simp only [CellP,getD_set _ _ _ _ _ hi,if_true];exact rep_rows.1 hc
    · simp only [CellP,getD_set _ _ _ _ _ hi,hq,if_false] at hc ⊢;exact hc
  case nrows.ints k l k' m=>
    simp only [setRow,ifK_iff] at h
    obtain ⟨hk,hm,h⟩:=h
    obtain rfl:=kq_eq hk
    simp only [RO.len] at hi
    refine ⟨_,h,by simp [RO.len],rfl,rfl,fun w M=>⟨fun c hc=>?_,fun q c hq hc=>?_⟩⟩
    · simp only [CellP,getD_set _ _ _ _ _ hi,if_true];exact ⟨rep_ints.1 hc,fun h=>absurd h hm⟩
    · simp only [CellP,getD_set _ _ _ _ _ hi,hq,if_false] at hc ⊢;exact hc
theorem ovQ_sz {r:RO} (h:ovQ r=true):r.sz=1:=by cases r<;>first|rfl|cases h
theorem ovQ_of {r:RO} (h:rowsQ r=true) (hg:gridQ r=false):ovQ r=true:=by cases r<;>first|rfl|(cases h;done)|(cases hg;done)
theorem rowsQ_sz {r:RO} (h:rowsQ r=true):r.sz=1:=by cases r<;>first|rfl|cases h
def SwB (k:Nat) (to:AV) (B B':Blk):Prop:=
  ∀(ρ:Env) (w:World) (M:Msk) (ρ':Env) (M':Msk) (j:Nat),Conv k to ρ w M ρ' w M'→ρ' j=ρ j→(∀b,hasB ρ j b→∀off,M' b off↔M b off)→BlkH ρ w M j B→BlkH ρ' w M' j B'
theorem sweepS_sound:∀{S:Store} {K:Store→Prop},sweepS k to S K→
    ∃S',K S'∧∀j,match findS S j with|none=>findS S' j=none|some B=>∃B',findS S' j=some B'∧SwB k to B B'
  |[],_,h=>⟨[],h,fun _=>rfl⟩
  |(i,b)::S,K,h=>by
   have go:∃b',(sweepS k to S fun S'=>K ((i,b')::S'))∧SwB k to b b':=by
     cases b with
     |box m=>
      obtain ⟨m',h1,hm⟩:=sweepL_sound h
      refine ⟨_,h1,fun ρ w M ρ' M' j hc hρ hM hB=>?_⟩
      obtain ⟨b,h2,cs,ty,h3,h4,h5⟩:=hB
      refine ⟨b,by rw [hρ];exact h2,cs,ty,h3,fun off=>?_,hm _ _ _ _ _ _ hc _ h5⟩
      rw [hM b (by simp [hasB,h2,Own.has]) off,h4]
     |map kd vk m=>
      refine ⟨_,h,fun ρ w M ρ' M' j hc hρ hM hB=>?_⟩
      obtain ⟨b,h2,es,n,h3,h4,h5⟩:=hB
      refine ⟨b,by rw [hρ];exact h2,es,n,h3,fun off=>?_,h5⟩
      rw [hM b (by simp [hasB,h2,Own.has]) off,h4]
     |deep r hole=>
      refine ⟨_,h,fun ρ w M ρ' M' j hc hρ hM hB=>?_⟩
      obtain ⟨o,rows,h2,h3⟩:=hB
      exact ⟨o,rows,by rw [hρ];exact h2,h3.ext (g:=gridQ r) hc.keep fun b hb=>⟨rfl,hM b (by simp only [hasB,h2];exact hb)⟩⟩
     |gho l i' j'=>
      refine ⟨_,h,fun ρ w M ρ' M' j hc hρ hM hB=>?_⟩
      obtain ⟨o,rows,h2,h3,h4⟩:=hB
      exact ⟨o,rows,by rw [hρ];exact h2,h3.ext (g:=true) hc.keep fun b hb=>⟨rfl,hM b (by simp only [hasB,h2];exact hb)⟩,h4⟩
     |stk n r=>
      refine ⟨_,h,fun ρ w M ρ' M' j hc hρ hM hB=>?_⟩
      obtain ⟨o,cur,h2,h3,h4⟩:=hB
      exact ⟨o,cur,by rw [hρ];exact h2,h3.ext0 hc.keep fun b hb=>⟨rfl,hM b (by simp only [hasB,h2];exact .inr hb)⟩,h4.ext fun b hb=>⟨rfl,hM b (by simp only [hasB,h2];exact .inl hb)⟩⟩
     |jnk n z=>
      refine ⟨_,h,fun ρ w M ρ' M' j hc hρ hM hB=>?_⟩
      obtain ⟨o,h2,h4⟩:=hB
      exact ⟨o,by rw [hρ];exact h2,h4.ext fun b hb=>⟨rfl,hM b (by simp only [hasB,h2];exact hb)⟩⟩
     |vec wm r ov=>
      match ov,h with
      |[],h=>
       refine ⟨_,h,fun ρ w M ρ' M' j hc hρ hM hB=>?_⟩
       obtain ⟨⟨o,h2,h3,h4,h5,h6,h7⟩,_⟩:=hB
       refine ⟨⟨o,by rw [hρ];exact h2,h3,h4,h5,h6,?_⟩,.inl rfl⟩
       cases hb:o.blk with
       |none=>simp only [hb] at h7 ⊢;exact h7
       |some b=>
        simp only [hb] at h7 ⊢
        obtain ⟨h8,cs,ty,h9,h10,h12,h13⟩:=h7
        refine ⟨h8,cs,ty,h9,h10,fun off=>?_,fun q hq=>?_⟩
        · rw [hM b (by simp [hasB,h2,Own.has,hb]) off,h12]
        · obtain ⟨c,h14,h15⟩:=h13 q hq;exact ⟨c,h14,h15.keep hc.keep⟩
      |[(x,y)],h=>
       simp only [sweepS] at h
       cases hb:Nat.beq y k with
       |false=>
        simp only [hb] at h
        refine ⟨_,h,fun ρ w M ρ' M' j hc hρ hM hB=>?_⟩
        obtain ⟨⟨o,h2,h3,h4,h5,h6,h7⟩,hov⟩:=hB
        refine ⟨⟨o,by rw [hρ];exact h2,h3,h4,h5,h6,?_⟩,hov⟩
        cases hb':o.blk with
        |none=>simp only [hb'] at h7 ⊢;exact h7
        |some b=>
         simp only [hb'] at h7 ⊢
         obtain ⟨h8,cs,ty,h9,h10,h12,h13⟩:=h7
         refine ⟨h8,cs,ty,h9,h10,fun off=>?_,fun q hq=>?_⟩
         · rw [hM b (by simp [hasB,h2,Own.has,hb']) off,h12]
         · obtain ⟨c,h14,h15⟩:=h13 q hq
           refine ⟨c,h14,?_⟩
           split at h15
           · rename_i he;simp only [he,if_true]
             obtain ⟨o',h16,h17⟩:=h15
             exact ⟨o',bind_keep (hc.other _ (beq_false hb)) h16,h17⟩
           · rename_i he;simp only [he,if_false];exact h15.keep hc.keep
       |true=>
        obtain rfl:=beq_iff'.1 hb
        simp only [hb] at h
        cases to with
        |ro s=>
         by_cases hx:x.toNat<r.len
         · obtain ⟨r',h1,hl,hz,hq,hcell⟩:=setRow_cells h hx
           refine ⟨_,h1,fun ρ w M ρ' M' j hc hρ hM hB=>?_⟩
           obtain ⟨⟨o,h2,h3,h4,h5,h6,h7⟩,hov⟩:=hB
           refine ⟨⟨o,by rw [hρ];exact h2,by rw [h3,hl],by rw [h4,hz],by rw [hl];exact h5,by rw [hl];exact h6,?_⟩,.inl rfl⟩
           have hcells:r'.cells=r.cells:=by simp [RO.cells,hl,hz]
           cases hb':o.blk with
           |none=>simp only [hb'] at h7 ⊢;rw [hl];exact h7
           |some b=>
            simp only [hb'] at h7 ⊢
            obtain ⟨h8,cs,ty,h9,h10,h12,h13⟩:=h7
            refine ⟨h8,cs,ty,h9,h10,fun off=>?_,fun q hq=>?_⟩
            · rw [hM b (by simp [hasB,h2,Own.has,hb']) off,h12]
            · rw [hcells] at hq
              obtain ⟨c,h14,h15⟩:=h13 q hq
              refine ⟨c,h14,?_⟩
              split at h15
              · rename_i he
                have:q=x.toNat:=by omega
                rw [this];exact (hcell w M').1 c (hc.self _ h15)
              · rename_i he
                rcases hov with hov|⟨i',j',hov,_,_,hi0,_⟩
                · cases hov
                · cases hov
                  exact (hcell w M').2 q c (by omega) (h15.keep hc.keep)
         · have hK:∃r',sweepS y (.ro s) S fun S'=>K ((i,.vec wm r' [])::S'):=by
             cases r<;>cases s<;>first
               |exact h.elim
               |(simp only [setRow,ifK_iff] at h;exact ⟨_,h.2⟩)
               |(simp only [setRow,ifK_iff] at h;exact ⟨_,h.2.2⟩)
               |exact ⟨_,h⟩
               |(rename_i k' m _;cases k'<;>first|exact ⟨_,h⟩|exact h.elim)
           obtain ⟨r',h1⟩:=hK
           refine ⟨_,h1,fun ρ w M ρ' M' j hc hρ hM hB=>?_⟩
           obtain ⟨_,hov⟩:=hB
           rcases hov with hov|⟨i',j',hov,_,_,hi0,hi1⟩
           · cases hov
           · cases hov;omega
        |_=>exact h.elim
      |_::_::_,h=>exact h.elim
   obtain ⟨b',h1,hb⟩:=go
   obtain ⟨S',h2,hS⟩:=sweepS_sound h1
   refine ⟨_,h2,fun j=>?_⟩
   by_cases hj:i=j
   · subst hj;simp only [find_cons,if_true];exact ⟨b',rfl,hb⟩
   · simp only [find_cons,hj,if_false];exact hS j
def dropE (ρ:Env) (k:Nat):Env:=fun j=>if j=k then none else ρ j
def dropM (M:Msk) (ρ:Env) (k:Nat):Msk:=fun b off=>M b off∧¬hasB ρ k b
theorem keep_drop (w:World) (M:Msk) (ρ:Env) (k:Nat):Keep w M w (dropM M ρ k):=fun _ _ _ h h'=>⟨h,fun hm=>h' hm.1⟩
theorem drop_sound {w0 w:World} {M0:Base w0} {ρ:Env} {M:Msk} {T:List AV} {S:Store} {a:Act} {K:List AV→Store→Prop}
    (h:delS S k fun S=>sweepT k to T fun T=>sweepS k to S fun S=>K T S) (st:St M0 ρ M S w) (tm:Tm ρ w M T a)
    (hself:∀v,RepC ρ w M (.vec k) v→RepC (dropE ρ k) w (dropM M ρ k) to v∧RepT (dropE ρ k) w (dropM M ρ k) to v∧RepG (dropE ρ k) w (dropM M ρ k) to v):
    ∃T' S',K T' S'∧St M0 (dropE ρ k) (dropM M ρ k) S' w∧Tm (dropE ρ k) w (dropM M ρ k) T' a∧T'.length=T.length∧findS S' k=none∧
     (∀i v,RepT ρ w M (nth T i) v→RepT (dropE ρ k) w (dropM M ρ k) (nth T' i) v):=by
  obtain ⟨S1,h1,hS1⟩:=del_store h
  obtain ⟨T',h2,hlen,hT⟩:=sweepT_sound h1
  obtain ⟨S',h3,hS'⟩:=sweepS_sound h2
  have hconv:Conv k to ρ w M (dropE ρ k) w (dropM M ρ k):=⟨keep_drop _ _ _ _,fun j hj o ho=>by simpa [dropE,hj] using ho,fun v hv=>(hself v hv).1⟩
  have hto:∀v,RepC ρ w M (.vec k) v→RepT (dropE ρ k) w (dropM M ρ k) to v∧RepG (dropE ρ k) w (dropM M ρ k) to v:=fun v hv=>(hself v hv).2
  have hnone:findS S' k=none:=by
    have:=hS' k
    rw [hS1 k] at this;simpa using this
  refine ⟨T',S',h3,⟨fun j=>?_,fun j B hB=>?_,fun i j b hi hj=>?_,fun b off hm=>st.mlt b off hm.1,st.stp,fun b off hb hm=>st.sub b off hb hm.1,fun b off hb hl hm=>⟨st.old b off hb hl hm,st.notFresh hb hl⟩,fun x b hx=>?_,fun x o hx ho=>?_⟩,
    ⟨tm.defers,by rw [hlen];exact tm.size,fun i=>hT _ _ _ _ _ _ hconv hto i _ (tm.tmp i)⟩,hlen,hnone,fun i v=>hT _ _ _ _ _ _ hconv hto i v⟩
  · by_cases hj:j=k
    · subst hj;simp [dropE,hnone]
    · have:=hS' j
      rw [hS1 j] at this
      simp only [hj,if_false] at this
      simp only [dropE,hj,if_false,st.dom j]
      cases hf:findS S j with
      |none=>simp only [hf] at this;simp [this]
      |some B=>simp only [hf] at this;obtain ⟨B',h4,_⟩:=this;simp [h4]
  · have hj:j≠k:=fun e=>by subst e;rw [hnone] at hB;cases hB
    have:=hS' j
    rw [hS1 j] at this
    simp only [hj,if_false] at this
    cases hf:findS S j with
    |none=>simp only [hf] at this;rw [this] at hB;cases hB
    |some B0=>
     simp only [hf] at this
     obtain ⟨B',h4,h5⟩:=this
     rw [h4] at hB;cases hB
     refine h5 ρ w M _ _ j hconv (by simp [dropE,hj]) (fun b hb off=>?_) (st.blk j B0 hf)
     exact ⟨fun hm=>hm.1,fun hm=>⟨hm,fun hk=>hj (st.inj _ _ _ hb hk)⟩⟩
  · have h1:∀x,hasB (dropE ρ k) x b→hasB ρ x b:=fun x hx=>by
      by_cases hxk:x=k
      · subst hxk;simp [hasB,dropE] at hx
      · simpa [hasB,dropE,hxk] using hx
    exact st.inj _ _ _ (h1 _ hi) (h1 _ hj)
  · by_cases hxk:x=k
    · subst hxk;simp [hasB,dropE] at hx
    · exact st.fresh x b (by simpa [hasB,dropE,hxk] using hx)
  · by_cases hxk:x=k
    · subst hxk;simp [dropE] at ho
    · exact st.pin x o hx (by simpa [dropE,hxk] using ho)
theorem kill_sound {w0 w:World} {M0:Base w0} {ρ:Env} {M:Msk} {T:List AV} {S:Store} {a:Act} {K:List AV→Store→Prop}
    (h:killK k T S K) (st:St M0 ρ M S w) (tm:Tm ρ w M T a):
    ∃T' S',K T' S'∧St M0 (dropE ρ k) (dropM M ρ k) S' w∧Tm (dropE ρ k) w (dropM M ρ k) T' a∧T'.length=T.length∧findS S' k=none∧loc k=true:=by
  obtain ⟨hloc,h⟩:=ifK_iff.1 h
  obtain ⟨T',S',h1,h2,h3,h4,h5,_⟩:=drop_sound h st tm fun v hv=>⟨RepC.isCell hv,trivial,trivial⟩
  exact ⟨T',S',h1,h2,h3,h4,h5,hloc⟩
theorem vec_readsP {w:World} {ρ':Env} {M M':Msk} {o:Sl} {wm:Nat} {r:RO} (hM:∀b off,M' b off→M b off) (hno:∀b off,o.blk=some b→off<r.cells→¬M' b off) (hB:VecH ρ' w M o wm r []):RepRO w M' r o.val:=by
  have hk:Keep w M w M':=fun _ _ _ h h'=>⟨h,fun hm=>h' (hM _ _ hm)⟩
  obtain ⟨h3,h4,h5,h6,h7⟩:=hB
  refine ⟨h5,o.blk.map fun b=>⟨b,0,none⟩,o.cap,by rw [Sl.val,h3],?_⟩
  cases hb:o.blk with
  |none=>simp only [hb] at h7;exact ⟨by rw [h7.1];exact Nat.zero_le _,.inl (by simp [RO.cells,h7.1])⟩
  |some b=>
   simp only [hb] at h7
   obtain ⟨h8,cs,ty,h9,h10,h12,h13⟩:=h7
   refine ⟨h3▸h8,.inr ⟨b,0,rfl,fun q hq=>?_⟩⟩
   obtain ⟨c,h14,h15⟩:=h13 q hq
   exact ⟨c,by rw [cell_of_heap h9,Nat.zero_add];exact h14,hno _ _ hb (by omega),h15.keep hk⟩
theorem vec_reads' {w:World} {ρ':Env} {M M':Msk} {o:Sl} {wm:Nat} {r:RO} (hM:∀b off,M' b off→M b off) (hno:∀b off,o.blk=some b→¬M' b off) (hB:VecH ρ' w M o wm r []):RepRO w M' r o.val:=vec_readsP hM (fun b off h _=>hno b off h) hB
theorem thw_iff {r:RO} {K:RO→Prop}:thwK r K↔K r.thaw:=by cases r<;>exact Iff.rfl
theorem row_cell {w:World} {M:Msk} {r:RO} {q:Nat} {c:Value} (hr:rowsQ r=true) (hi:∀l,r≠.gi l):RepRO w M (r.row q) c↔CellP w M r.thaw q c:=by
  cases r<;>try (cases hr;done)
  · exact rep_ints
  · exact rep_bools
  · exact rep_rows
  · exact rep_bools
  · exact absurd rfl (hi _)
theorem deepI_reads {w:World} {M M':Msk} {o:Sl} {rows:List Sl} {k':IntKind} {l:List (List Int)} (hM:∀b off,M' b off→M b off) (hno:∀b off,(RowO.mk o rows).has b→¬M' b off) (h3:DeepI w M o rows (.rows k' l) none):RepRO w M' (.rows k' l) o.val:=by
  refine ⟨h3.lb,o.blk.map fun b=>⟨b,0,none⟩,o.cap,by rw [Sl.val,h3.len],?_⟩
  have h7:=h3.outer
  cases hb:o.blk with
  |none=>simp only [hb] at h7;exact ⟨by rw [h7.1];exact Nat.zero_le _,.inl (by simp [RO.cells,h7.1])⟩
  |some b=>
   simp only [hb] at h7
   obtain ⟨h8,cs,ty,h9,h10,h12,h13⟩:=h7
   refine ⟨h3.len▸h8,.inr ⟨b,0,rfl,fun q hq=>?_⟩⟩
   have hq:q<(RO.rows k' l).len:=by simpa [RO.cells,RO.sz] using hq
   obtain ⟨c,h14,h15⟩:=h13 q hq
   refine ⟨c,by rw [cell_of_heap h9,Nat.zero_add];exact h14,hno _ _ (.inl hb),?_⟩
   rcases h15 with h15|h15
   · cases h15
   · rw [h15]
     exact (row_cell (r:=.rows k' l) rfl (fun _ e=>by cases e)).1 (vec_reads' hM (fun b' off hb'=>hno b' off (.inr ⟨q,hb'⟩)) (h3.row q hq (by simp)))
theorem rowH_reads {w:World} {M M':Msk} {R:RowO} {r:RO} {q:Nat} (hr:rowsQ r=true) (hM:∀b off,M' b off→M b off) (hno:∀b off,R.has b→¬M' b off) (h:RowH w M R r q none):CellP w M' r.thaw q R.sl.val:=by
  have plain:(∀l,r≠.gi l)→R.sub=[]∧VecH (fun _=>none) w M R.sl 0 (r.row q) []→CellP w M' r.thaw q R.sl.val:=fun hi h=>
    (row_cell hr hi).1 (vec_reads' hM (fun b' off hb'=>hno b' off (.inl hb')) h.2)
  cases r with
  |gi l=>exact rep_rows.1 (deepI_reads hM hno h)
  |_=>exact plain (fun _ e=>by cases e) h
theorem blk_reads {w:World} {ρ:Env} {M M':Msk} {B:Blk} {r:RO} {v:Value} (hM:∀b off,M' b off→M b off) (hno:∀b off,hasB ρ k b→¬M' b off) (hB:BlkH ρ w M k B) (hf:frzB B=some r) (hv:RepC ρ w M (.vec k) v):RepRO w M' r v:=by
  obtain ⟨o,h8,rfl⟩:=hv
  cases B with
  |vec wm r' ov=>
   cases ov<;>simp only [frzB] at hf<;>try (cases hf;done)
   cases hf
   obtain ⟨⟨o',h2,h3⟩,_⟩:=hB
   obtain rfl:=sli_sl h2 h8
   exact vec_reads' hM (fun b off hb=>hno b off (by simp [hasB,h2,Own.has,hb])) h3
  |deep r' hole=>
   cases hole<;>simp only [frzB] at hf<;>try (cases hf;done)
   cases hf
   obtain ⟨o',rows,h2,h3⟩:=hB
   rw [of_dp h2] at h8;cases h8
   have hk:Keep w M w M':=fun _ _ _ h h'=>⟨h,fun hm=>h' (hM _ _ hm)⟩
   have ht:∀r:RO,r.thaw.len=r.len∧(rowsQ r=true→r.thaw.sz=1):=fun r=>by cases r<;>exact ⟨rfl,fun h=>by first|rfl|cases h⟩
   refine ⟨by rw [(ht _).1];exact h3.lb,o.blk.map fun b=>⟨b,0,none⟩,o.cap,by rw [Sl.val,h3.len,(ht _).1],?_⟩
   have h7:=h3.outer
   have hsz:=(ht r').2 h3.rq
   cases hb:o.blk with
   |none=>simp only [hb] at h7;exact ⟨by rw [(ht _).1,h7.1];exact Nat.zero_le _,.inl (by simp [RO.cells,(ht r').1,h7.1])⟩
   |some b=>
    simp only [hb] at h7
    obtain ⟨h8,cs,ty,h9,h10,h12,h13⟩:=h7
    refine ⟨by rw [(ht _).1];exact h3.len▸h8,.inr ⟨b,0,rfl,fun q hq=>?_⟩⟩
    have hq:q<r'.len:=by simpa [RO.cells,hsz,(ht r').1] using hq
    obtain ⟨c,h14,h15⟩:=h13 q hq
    refine ⟨c,by rw [cell_of_heap h9,Nat.zero_add];exact h14,hno _ _ (by simp [hasB,h2,Own.has,hb]),?_⟩
    rcases h15 with h15|h15
    · cases h15
    · rw [h15]
      exact rowH_reads h3.rq hM (fun b' off hb'=>hno b' off (by simp only [hasB,h2];exact .inr ⟨q,hb'⟩)) (h3.row q hq (by simp))
  |box|map|stk|jnk|gho=>simp [frzB] at hf
theorem freeze_sound {w0 w:World} {M0:Base w0} {ρ:Env} {M:Msk} {T:List AV} {S:Store} {a:Act} {K:List AV→Store→Prop}
    (h:freezeK k T S K) (st:St M0 ρ M S w) (tm:Tm ρ w M T a):
    ∃B r,(findS S k=some B∧frzB B=some r)∧∃T' S',K T' S'∧St M0 (dropE ρ k) (dropM M ρ k) S' w∧Tm (dropE ρ k) w (dropM M ρ k) T' a∧T'.length=T.length∧
     (∀v,RepC ρ w M (.vec k) v→RepRO w (dropM M ρ k) r v):=by
  have go:∀B r,findS S k=some B→frzB B=some r→(delS S k fun S=>sweepT k (.ro r) T fun T=>sweepS k (.ro r) S fun S=>K T S)→∃B r,(findS S k=some B∧frzB B=some r)∧∃T' S',K T' S'∧St M0 (dropE ρ k) (dropM M ρ k) S' w∧Tm (dropE ρ k) w (dropM M ρ k) T' a∧T'.length=T.length∧
      (∀v,RepC ρ w M (.vec k) v→RepRO w (dropM M ρ k) r v):=fun B r hf hr h=>by
    have hB:=st.blk k _ hf
    have rd:∀v,RepC ρ w M (.vec k) v→RepRO w (dropM M ρ k) r v:=fun v hv=>blk_reads (fun _ _ h=>h.1) (fun _ _ h h'=>h'.2 h) hB hr hv
    obtain ⟨T',S',h1,h2,h3,h4,h5,_⟩:=drop_sound h st tm fun v hv=>⟨rd v hv,rd v hv,rd v hv⟩
    exact ⟨B,r,⟨hf,hr⟩,T',S',h1,h2,h3,h4,rd⟩
  unfold freezeK at h
  split at h
  · rename_i wm r hf
    exact go _ r hf rfl h
  · rename_i r hf
    exact go _ r.thaw hf rfl (thw_iff.1 h)
  · exact h.elim
end
end Go.AM
end
