import Derived.Calls
import Derived.Orders
import Derived.Still
import Derived.Lib.TrailingZeros
universe u
abbrev ai(n:Nat):List Bool:=List.replicate n false
theorem aj{a b:Prop}(y:b)(x:a:=by omega):a/\b:=⟨x,y⟩
theorem ajj:type_of% @List.mem_cons_of_mem:=@List.mem_cons_of_mem
theorem ajk:type_of% @Nat.zero_le:=@Nat.zero_le
theorem ajl:type_of% @Nat.le_refl:=@Nat.le_refl
theorem ajm:type_of% @if_neg:=@if_neg
theorem ajn:type_of% @List.mem_cons_self:=@List.mem_cons_self
theorem ajo:type_of% @List.mem_cons:=@List.mem_cons
theorem ajp:type_of% @List.length_append:=@List.length_append
theorem ajq:type_of% @if_pos:=@if_pos
theorem ajr:type_of% @Int.toNat_natCast:=@Int.toNat_natCast
theorem ajs:type_of% @congrArg:=@congrArg
theorem ajt:type_of% @Array.getElem?_toList:=@Array.getElem?_toList
theorem aju:type_of% @Nat.not_lt_zero:=@Nat.not_lt_zero
theorem ajv:type_of% @List.length_set:=@List.length_set
theorem ajw:type_of% @Array.length_toList:=@Array.length_toList
theorem ajx:type_of% @List.length_singleton:=@List.length_singleton
theorem ajy:type_of% @Classical.byContradiction:=@Classical.byContradiction
theorem ajz:type_of% @List.length_replicate:=@List.length_replicate
theorem ajA:type_of% @List.length_take:=@List.length_take
theorem ajB:type_of% @Bool.and_eq_true:=@Bool.and_eq_true
theorem ajC:type_of% @List.mem_singleton:=@List.mem_singleton
theorem ajD:type_of% @Array.getElem?_eq_none:=@Array.getElem?_eq_none
theorem ajE:type_of% @Array.getElem?_eq_getElem:=@Array.getElem?_eq_getElem
theorem ajF:type_of% @Nat.lt_or_ge:=@Nat.lt_or_ge
theorem ajG:type_of% @Array.getD_eq_getD_getElem?:=@Array.getD_eq_getD_getElem?
theorem ajH:type_of% @List.getElem?_replicate:=@List.getElem?_replicate
theorem ajI:type_of% @List.getElem?_append_left:=@List.getElem?_append_left
theorem ajJ:type_of% @List.mem_range:=@List.mem_range
theorem ajK:type_of% @List.mem_append:=@List.mem_append
theorem ajL:type_of% @Array.getElem?_eq_some_iff:=@Array.getElem?_eq_some_iff
theorem ajM:type_of% @Option.isSome_iff_exists:=@Option.isSome_iff_exists
theorem ajN:type_of% @Option.some.inj:=@Option.some.inj
theorem ajO:type_of% @Nat.mul_le_mul_right:=@Nat.mul_le_mul_right
theorem ajP:type_of% @List.getElem?_eq_getElem:=@List.getElem?_eq_getElem
theorem ajQ:type_of% @Nat.zero_add:=@Nat.zero_add
theorem ajR:type_of% @List.getElem?_map:=@List.getElem?_map
theorem ajS:type_of% @List.length_map:=@List.length_map
theorem ajT:type_of% @Nat.lt_of_lt_of_le:=@Nat.lt_of_lt_of_le
theorem ajU:type_of% @List.mem_map:=@List.mem_map
theorem ajV:type_of% @Nat.mul_one:=@Nat.mul_one
theorem ajW:type_of% @Nat.le_trans:=@Nat.le_trans
theorem ajX:type_of% @of_decide_eq_true:=@of_decide_eq_true
theorem ajY:type_of% @List.length_cons:=@List.length_cons
theorem ajZ:type_of% @Array.getElem?_setIfInBounds_ne:=@Array.getElem?_setIfInBounds_ne
theorem aj0:type_of% @List.getElem?_eq_none:=@List.getElem?_eq_none
theorem aj1:type_of% @Nat.eq_zero_or_pos:=@Nat.eq_zero_or_pos
theorem aj2:type_of% @List.getElem?_append_right:=@List.getElem?_append_right
theorem aj3:type_of% @decide_eq_true:=@decide_eq_true
theorem aj4:type_of% @List.take_of_length_le:=@List.take_of_length_le
theorem aj5:type_of% @Int.le_refl:=@Int.le_refl
theorem aj6:type_of% @Array.mem_toList_iff:=@Array.mem_toList_iff
theorem aj7:type_of% @List.all_eq_true:=@List.all_eq_true
theorem aj8:type_of% @List.mem_append_left:=@List.mem_append_left
theorem aj9:type_of% @List.nodup_iff_pairwise_ne:=@List.nodup_iff_pairwise_ne
theorem aka:type_of% @List.getD_eq_getElem?_getD:=@List.getD_eq_getElem?_getD
theorem akb:type_of% @Nat.add_zero:=@Nat.add_zero
theorem akc:type_of% @List.pairwise_cons:=@List.pairwise_cons
theorem akd:type_of% @List.map_cons:=@List.map_cons
theorem ake:type_of% @Nat.add_mul:=@Nat.add_mul
theorem akf:type_of% @Nat.mul_le_mul:=@Nat.mul_le_mul
theorem akg:type_of% @Nat.le_succ:=@Nat.le_succ
theorem akh:type_of% @Array.getElem?_append_left:=@Array.getElem?_append_left
theorem aki:type_of% @Nat.mul_comm:=@Nat.mul_comm
theorem akj:type_of% @List.eq_nil_of_length_eq_zero:=@List.eq_nil_of_length_eq_zero
theorem akk:type_of% @Nat.ne_of_lt:=@Nat.ne_of_lt
theorem akl:type_of% @List.foldl_cons:=@List.foldl_cons
theorem akm:type_of% @List.getElem?_take:=@List.getElem?_take
theorem akn:type_of% @List.not_mem_nil:=@List.not_mem_nil
theorem ako:type_of% @Nat.succ_pos:=@Nat.succ_pos
theorem akp:type_of% @decide_eq_false:=@decide_eq_false
theorem akq:type_of% @List.mem_filter:=@List.mem_filter
theorem akr:type_of% @List.mem_append_right:=@List.mem_append_right
theorem aks:type_of% @List.length_drop:=@List.length_drop
theorem akt:type_of% @List.getElem?_drop:=@List.getElem?_drop
theorem aku:type_of% @Int.natCast_nonneg:=@Int.natCast_nonneg
theorem akv:type_of% @List.getElem?_set_ne:=@List.getElem?_set_ne
theorem akw:type_of% @List.nodup_cons:=@List.nodup_cons
theorem akx:type_of% @List.length_pos_of_mem:=@List.length_pos_of_mem
theorem aky:type_of% @List.pairwise_iff_getElem:=@List.pairwise_iff_getElem
theorem aa{a:Prop}(h:a:=by omega):a:=h
theorem ae{a b:Prop}(x:a)(y:b):a/\b:=⟨x,y⟩
theorem af{a:Sort u}{p:a->Prop}(w:a)(h:p w):∃x,p x:=⟨w,h⟩
theorem ag:True:=True.intro
theorem ah{n m:Nat}(h:Nat.ble n m=true):n<=m:=Nat.le_of_ble_eq_true h
section
namespace Go.AM
open Go
inductive BE where
 |lit (b:Bool)|v (b:Bool)|lt (x y:Int)|le (x y:Int)|eq (x y:Int)|ne (x y:Int)
def BE.val:BE->Bool
 |.lit b=>b|.v b=>b|.lt x y=>decide (x<y)|.le x y=>decide (x<=y)|.eq x y=>decide (x=y)|.ne x y=>decide (x≠y)
inductive RO where
 |ints (k:IntKind) (l:List Int)|aI (l:List Bool)|rows (k:IntKind) (l:List (List Int))|bC (l:List (List Bool))
 |bH (l:List (List (List Int)))|aW (l:List (Int × Int))|fb (n:Nat) (k:IntKind) (l:List (List Int))|cY (k:IntKind) (l:List (List Int))
 |cN (l:List (List (Int × Int)))
 |strs (l:List (List Int))|dS (l:List (List Int × List Int))|ec (l:List (Int × List Bool × Int))
inductive AV where
 |int (k:IntKind) (n:Int)|bool (e:BE)|ro (r:RO)|vec (k:Nat)|ptr (k off:Nat)|eZ (r:RO) (i:Int)|dY (k:Nat) (i:Int)|gA (k:Nat) (i:Int) (j:Nat)|gD (k:Nat) (i:Int)
 |agg (l:List AV)|cL (l:List AV)|ar|bO|any|fn (f:FuncId) (cap:List AV)|new (r:RO)|may (b:Bool) (n:Nat)|full (r:RO)|str (l:List Int)|uD (f:FuncId) (r:RO) (i:Int)
inductive iQ where
 |int (k:IntKind)|arr (n:Nat) (k:IntKind)|str
inductive dQ where
 |vec (wm:Nat) (r:RO) (ov:List (Int × Nat))
 |box (l:List AV)
 |map (kd:iQ) (vk:Option IntKind) (m:List (List Int × Int))
 |deep (r:RO) (hole:Option Int)
 |dK (n:Nat) (r:RO)
 |mA (n sz:Nat)
abbrev ak:=List (Nat × dQ)
def loc(k:Nat):Bool:=match Nat.ble 1000 k with|true=>false|false=>true
def kq:IntKind->IntKind->Bool
 |.i8,.i8=>true|.i16,.i16=>true|.i32,.i32=>true|.i64,.i64=>true|.u8,.u8=>true|.u16,.u16=>true|.u32,.u32=>true|.u64,.u64=>true|_,_=>false
def bL(b:Bool)(p:Prop):Prop:=match b with|true=>p|false=>False
inductive HN where
 |int (k:IntKind)|bool|str|slice (e:Nat)|arr (n e:Nat)|struct (fs:List (Nat × Nat))|map (k e:Nat)|other
structure cV where
 d:HN
 sz:Nat
 bytes:Nat
 zero:List AV
def au:List cV->Nat->cV
 |[],_=>⟨.other,0,0,[]⟩|a::_,0=>a|_::l,n+1=>au l n
def RO.sz:RO->Nat
 |.aW _=>2|.dS _=>2|.ec _=>3|.fb n _ _=>n+2|_=>1
def RO.len:RO->Nat
 |.ints _ l=>l.length|.aI l=>l.length|.rows _ l=>l.length|.bC l=>l.length|.bH l=>l.length|.aW l=>l.length|.fb _ _ l=>l.length|.cY _ l=>l.length|.cN l=>l.length|.strs l=>l.length|.dS l=>l.length|.ec l=>l.length
def jO(r:RO)(K:Nat->Prop):Prop:=
 match r with
 |.ints _ l=>K l.length|.aI l=>K l.length|.rows _ l=>K l.length|.bC l=>K l.length|.bH l=>K l.length|.aW l=>K l.length|.fb _ _ l=>K l.length|.cY _ l=>K l.length|.cN l=>K l.length|.strs l=>K l.length|.dS l=>K l.length|.ec l=>K l.length
def R8:Nat->IntKind->List Int->Nat->List AV
 |0,_,_,_=>[]|n+1,k,m,j=>.int k (m.getD j 0)::R8 n k m (j+1)
def VJ:Nat->IntKind->List Int->Nat->(List AV->Prop)->Prop
 |0,_,_,_,K=>K []|n+1,k,m,j,K=>VJ n k m (j+1) λr=>K (.int k (m.getD j 0)::r)
def RO.get:RO->Nat->AV
 |.ints k l,i=>.int k (l.getD i 0)|.aI l,i=>.bool (.v (l.getD i false))|.rows k l,i=>.ro (.ints k (l.getD i []))
 |.bC l,i=>.ro (.aI (l.getD i []))|.bH l,i=>.ro (.rows .i64 (l.getD i []))|.aW l,i=>.agg [.int .i64 (l.getD i (0,0)).1,.int .i64 (l.getD i (0,0)).2]
 |.fb n k l,i=>.agg (R8 (n+2) k (l.getD i []) 0)
 |.cY k l,i=>if l.getD i []=[] then .ar else .ro (.ints k (l.getD i []))
 |.cN l,i=>.ro (.aW (l.getD i []))
 |.strs l,i=>.str (l.getD i [])|.dS l,i=>.agg [.str (l.getD i ([],[])).1,.str (l.getD i ([],[])).2]
 |.ec l,i=>.agg [.int .i64 (l.getD i (0,[],0)).1,.ro (.aI (l.getD i (0,[],0)).2.1),.int .i64 (l.getD i (0,[],0)).2.2]
def Kw(r:RO)(i:Int)(K:AV->Prop):Prop:=
 match r with
 |.ints k l=>K (.int k (l.getD i.toNat 0))|.aI l=>K (.bool (.v (l.getD i.toNat false)))|.rows k l=>K (.ro (.ints k (l.getD i.toNat [])))
 |.bC l=>K (.ro (.aI (l.getD i.toNat [])))|.bH l=>K (.ro (.rows .i64 (l.getD i.toNat [])))
 |.aW l=>K (.agg [.int .i64 (l.getD i.toNat (0,0)).1,.int .i64 (l.getD i.toNat (0,0)).2])
 |.fb n k l=>VJ (n+2) k (l.getD i.toNat []) 0 λm=>K (.agg m)
 |.cY k l=>(l.getD i.toNat []=[]->K .ar)/\(l.getD i.toNat []≠[]->K (.ro (.ints k (l.getD i.toNat []))))
 |.cN l=>K (.ro (.aW (l.getD i.toNat [])))
 |.strs l=>K (.str (l.getD i.toNat []))|.dS l=>K (.agg [.str (l.getD i.toNat ([],[])).1,.str (l.getD i.toNat ([],[])).2])
 |.ec l=>K (.agg [.int .i64 (l.getD i.toNat (0,[],0)).1,.ro (.aI (l.getD i.toNat (0,[],0)).2.1),.int .i64 (l.getD i.toNat (0,[],0)).2.2])
def afv(e:BE)(K:Bool->Prop):Prop:=match e with|.lit b=>K b|.v b=>K b|e=>K e.val
def R9(r:RO)(i:Int)(v:AV)(K:RO->Prop):Prop:=
 match r,v with
 |.ints k l,.int k' n=>bL (kq k k')<|K (.ints k (l.set i.toNat n))
 |.aI l,.bool e=>(match e with|.lit b=>K (.aI (l.set i.toNat b))|.v b=>K (.aI (l.set i.toNat b))|e=>K (.aI (l.set i.toNat e.val)))
 |.rows k l,.ro (.ints k' m)=>bL (kq k k')<|K (.rows k (l.set i.toNat m))
 |.rows k l,.ar=>K (.rows k (l.set i.toNat []))
 |.bC l,.ro (.aI m)=>K (.bC (l.set i.toNat m))
 |.bC l,.ar=>K (.bC (l.set i.toNat []))
 |.bH l,.ro (.rows .i64 m)=>K (.bH (l.set i.toNat m))
 |.bH l,.ar=>K (.bH (l.set i.toNat []))
 |.aW l,.agg [.int .i64 a,.int .i64 b]=>K (.aW (l.set i.toNat (a,b)))
 |.cY k l,.ar=>K (.cY k (l.set i.toNat []))
 |.strs l,.str m=>K (.strs (l.set i.toNat m))
 |_,_=>False
def Ep(r s:RO)(K:RO->Prop):Prop:=
 match r,s with
 |.ints k l,.ints k' m=>bL (kq k k')<|K (.ints k (l++m))
 |.aI l,.aI m=>K (.aI (l++m))
 |.rows k l,.rows k' m=>bL (kq k k')<|K (.rows k (l++m))
 |.bC l,.bC m=>K (.bC (l++m))
 |.bH l,.bH m=>K (.bH (l++m))
 |.aW l,.aW m=>K (.aW (l++m))
 |.cN l,.cN m=>K (.cN (l++m))
 |.fb n k l,.fb n' k' m=>bL (Nat.beq n n')<|bL (kq k k')<|K (.fb n k (l++m))
 |.strs l,.strs m=>K (.strs (l++m))
 |.dS l,.dS m=>K (.dS (l++m))
 |.ec l,.ec m=>K (.ec (l++m))
 |_,_=>False
def CJ(r:RO)(a b:Nat)(K:RO->Prop):Prop:=
 match r with
 |.ints k l=>K (.ints k ((l.take b).drop a))|.aI l=>K (.aI ((l.take b).drop a))|.rows k l=>K (.rows k ((l.take b).drop a))
 |.bC l=>K (.bC ((l.take b).drop a))|.bH l=>K (.bH ((l.take b).drop a))|.aW l=>K (.aW ((l.take b).drop a))
 |.fb n k l=>K (.fb n k ((l.take b).drop a))|.cY k l=>K (.cY k ((l.take b).drop a))
 |.cN l=>K (.cN ((l.take b).drop a))
 |.strs l=>K (.strs ((l.take b).drop a))
 |.dS l=>K (.dS ((l.take b).drop a))
 |.ec _=>False
def xk:List AV->Bool
 |[.int .i64 (.ofNat 0),.int .i64 (.ofNat 0)]=>true|_=>false
def lG(k:IntKind):Nat->List AV->Bool
 |0,[]=>true|n+1,.int k' (.ofNat 0)::l=>(match kq k k' with|true=>lG k n l|false=>false)|_,_=>false
def rE:List AV->Bool
 |[.str [],.str []]=>true|_=>false
def IB:List AV->Bool
 |[.int .i64 (.ofNat 0),.ar,.int .i64 (.ofNat 0)]=>true|_=>false
def IC:List AV->Bool
 |[.str []]=>true|_=>false
def sn(TY:List cV)(e:Nat)(fr:(α:Type)->α->List α)(K:RO->Prop):Prop:=
 match (au TY e).d with
 |.int k=>K (.ints k (fr _ 0))
 |.bool=>K (.aI (fr _ false))
 |.str=>bL (IC (au TY e).zero)<|K (.strs (fr _ []))
 |.slice f=>(match (au TY f).d with
  |.int k=>K (.rows k (fr _ []))
  |.bool=>K (.bC (fr _ []))
  |.slice g=>(match (au TY g).d with|.int .i64=>K (.bH (fr _ []))|_=>False)
  |.arr 2 g=>(match (au TY g).d with|.int .i64=>K (.cN (fr _ []))|_=>False)
  |_=>False)
 |.arr 2 f=>(match (au TY f).d with|.int .i64=>bL (xk (au TY e).zero)<|K (.aW (fr _ (0,0)))|_=>False)
 |.arr (n+2) f=>(match (au TY f).d with|.int k=>bL (lG k (n+2) (au TY e).zero)<|K (.fb n k (fr _ (List.replicate (n+2) 0)))|_=>False)
 |.struct _=>(match rE (au TY e).zero with
  |true=>K (.dS (fr _ ([],[])))
  |false=>match IB (au TY e).zero with
  |true=>K (.ec (fr _ (0,[],0)))
  |false=>bL (xk (au TY e).zero)<|K (.aW (fr _ (0,0))))
 |_=>False
def pQ(TY:List cV)(e:Nat)(n:Nat)(K:RO->Prop):Prop:=sn TY e (λ_ a=>List.replicate n a) K
def vJ(TY:List cV)(e:Nat)(K:RO->Prop):Prop:=sn TY e (λ_ _=>[]) K
def GA(b:Nat)(n:Int)(K:Prop):Prop:=
 match Nat.ble b 8 with
 |true=>n<=17592186044416/\K
 |false=>bL (Nat.ble b 64) (n<=2199023255552/\K)
def iF{α:Type}:List α->α->(List α->Prop)->Prop
 |[],x,K=>K [x]|a::l,x,K=>iF l x λm=>K (a::m)
def dN(d:Option Nat)(K:Nat->Prop):Prop:=match d with|some d=>K d|none=>K 999
def nth:List AV->Nat->AV
 |[],_=>.any|a::_,0=>a|_::l,n+1=>nth l n
def kS(a:AV)(K:AV->Prop):Prop:=
 match a with
 |.int k n=>K (.int k n)|.bool e=>(match e with|.lit b=>K (.bool (.lit b))|.v b=>K (.bool (.v b))|.lt x y=>K (.bool (.lt x y))|.le x y=>K (.bool (.le x y))|.eq x y=>K (.bool (.eq x y))|.ne x y=>K (.bool (.ne x y)))
 |.ro r=>K (.ro r)|.vec k=>K (.vec k)|.ptr k o=>K (.ptr k o)|.eZ r i=>K (.eZ r i)|.dY k i=>K (.dY k i)|.gA k i j=>K (.gA k i j)|.gD k i=>K (.gD k i)
 |.agg l=>K (.agg l)|.cL l=>K (.cL l)|.ar=>K .ar|.bO=>K .bO|.any=>K .any|.fn f c=>K (.fn f c)|.new r=>K (.new r)|.may b n=>K (.may b n)|.full r=>K (.full r)|.str l=>K (.str l)|.uD f r i=>K (.uD f r i)
def xo:List AV->Nat->AV->(List AV->Prop)->Prop
 |[],_,_,k=>k []
 |_::l,0,v,k=>k (v::l)
 |a::l,n+1,v,k=>xo l n v λl'=>k (a::l')
def ja(d:Option Nat)(T:List AV)(v:AV)(K:List AV->Prop):Prop:=
 match d with|none=>K T|some d=>xo T d v K
def yd(k:IntKind)(n:Int):Bool:=
 match n with
 |.ofNat m=>(match k with
  |.i64=>Nat.ble m 9223372036854775807|.u64=>Nat.ble m 18446744073709551615|.i32=>Nat.ble m 2147483647|.u8=>Nat.ble m 255|_=>Nat.ble m 127)
 |.negSucc m=>(match k with
  |.i64=>Nat.ble m 9223372036854775807|.i32=>Nat.ble m 2147483647|.i16=>Nat.ble m 127|.i8=>Nat.ble m 127|_=>false)
def BD:Value->AV
 |.int k n=>(match yd k n with|true=>.int k n|false=>.any)|.bool b=>.bool (.lit b)|.slice none 0 0=>.ar|.map none=>.bO|.string s=>(match Nat.beq s.size 0 with|true=>.str []|false=>.any)|_=>.any
def bk(T:List AV)(x:Operand)(K:AV->Prop):Prop:=
 match x with
 |.tmp t=>kS (nth T t) K
 |.const v=>kS (BD v) K
 |.func f=>K (.fn f [])
 |.global _=>K .any
def gU(T:List AV):List Operand->(List AV->Prop)->Prop
 |[],K=>K []
 |x::l,K=>bk T x λa=>gU T l λm=>K (a::m)
def an:ak->Nat->Option dQ
 |[],_=>none
 |(j,b)::S,k=>match Nat.beq j k with|true=>some b|false=>an S k
def kL:ak->Nat->dQ->(ak->Prop)->Prop
 |[],_,_,K=>K []
 |(j,b)::S,k,c,K=>match Nat.beq j k with|true=>K ((j,c)::S)|false=>kL S k c λS'=>K ((j,b)::S')
def lh:ak->Nat->(ak->Prop)->Prop
 |[],_,K=>K []
 |(j,b)::S,k,K=>match Nat.beq j k with|true=>lh S k K|false=>lh S k λS'=>K ((j,b)::S')
def fC(k:Nat)(to:AV)(a:AV)(K:AV->Prop):Prop:=
 match a with
 |.vec j=>(match Nat.beq j k with|true=>K to|false=>K (.vec j))
 |.ptr j o=>(match Nat.beq j k with|true=>K .any|false=>K (.ptr j o))
 |.dY j o=>(match Nat.beq j k with|true=>K .any|false=>K (.dY j o))
 |.gA j o c=>(match Nat.beq j k with|true=>K .any|false=>K (.gA j o c))
 |.gD j o=>(match Nat.beq j k with|true=>K .any|false=>K (.gD j o))
 |.int k n=>K (.int k n)|.bool e=>K (.bool e)|.ro r=>K (.ro r)|.eZ r i=>K (.eZ r i)|.ar=>K .ar|.bO=>K .bO|.full r=>K (.full r)|.str l=>K (.str l)|.uD f r i=>K (.uD f r i)
 |.fn f []=>K (.fn f [])
 |_=>K .any
def sT(k:Nat)(to:AV):List AV->(List AV->Prop)->Prop
 |[],K=>K []
 |a::l,K=>fC k to a λa'=>sT k to l λl'=>K (a'::l')
def sU(k:Nat)(to:AV):List AV->(List AV->Prop)->Prop
 |[],K=>K []
 |a::l,K=>
  match a with
  |.agg m=>sT k to m λm'=>sU k to l λl'=>K (.agg m'::l')
  |a=>fC k to a λa'=>sU k to l λl'=>K (a'::l')
def c6(k:Nat)(to:AV):List AV->(List AV->Prop)->Prop
 |[],K=>K []
 |a::l,K=>
  match a with
  |.agg m=>sT k to m λm'=>c6 k to l λl'=>K (.agg m'::l')
  |.cL m=>sU k to m λm'=>c6 k to l λl'=>K (.cL m'::l')
  |.fn f m=>sT k to m λm'=>c6 k to l λl'=>K (.fn f m'::l')
  |a=>fC k to a λa'=>c6 k to l λl'=>K (a'::l')
def setRow(r:RO)(i:Int)(s:RO)(K:RO->Prop):Prop:=
 match r,s with
 |.rows k l,.ints k' m=>bL (kq k k')<|K (.rows k (l.set i.toNat m))
 |.bC l,.aI m=>K (.bC (l.set i.toNat m))
 |.bH l,.rows .i64 m=>K (.bH (l.set i.toNat m))
 |.cY k l,.ints k' m=>bL (kq k k')<|m≠[]/\K (.cY k (l.set i.toNat m))
 |_,_=>False
def cf(k:Nat)(to:AV):ak->(ak->Prop)->Prop
 |[],K=>K []
 |(j,b)::S,K=>
  match b with
  |.box m=>sT k to m λm'=>cf k to S λS'=>K ((j,.box m')::S')
  |.vec wm r []=>cf k to S λS'=>K ((j,.vec wm r [])::S')
  |.vec wm r [(i,h)]=>(match Nat.beq h k with
   |false=>cf k to S λS'=>K ((j,.vec wm r [(i,h)])::S')
   |true=>(match to with
    |.ro s=>setRow r i s λr'=>cf k to S λS'=>K ((j,.vec wm r' [])::S')
    |_=>False))
  |.map kd vk m=>cf k to S λS'=>K ((j,.map kd vk m)::S')
  |.deep r h=>cf k to S λS'=>K ((j,.deep r h)::S')
  |.dK n r=>cf k to S λS'=>K ((j,.dK n r)::S')
  |.mA n z=>cf k to S λS'=>K ((j,.mA n z)::S')
  |_=>False
def iV(k:Nat)(T:List AV)(S:ak)(K:List AV->ak->Prop):Prop:=
 bL (loc k)<|lh S k λS=>c6 k .any T λT=>cf k .any S λS=>K T S
def u3(k:Nat)(T:List AV)(S:ak)(K:List AV->ak->Prop):Prop:=
 match an S k with
 |some (.vec _ r [])=>lh S k λS=>c6 k (.ro r) T λT=>cf k (.ro r) S λS=>K T S
 |some (.deep r none)=>lh S k λS=>c6 k (.ro r) T λT=>cf k (.ro r) S λS=>K T S
 |_=>False
def oD:dQ->Option RO
 |.vec _ r []=>some r|.deep r none=>some r|_=>none
def mo:BE->(Bool->Prop)->Prop
 |.lit true,K=>K true|.lit false,K=>K false
 |.v b,K=>(b=true->K true)/\(b=false->K false)
 |.lt x y,K=>(x<y->K true)/\(y<=x->K false)
 |.le x y,K=>(x<=y->K true)/\(y<x->K false)
 |.eq x y,K=>(x=y->K true)/\(x≠y->K false)
 |.ne x y,K=>(x≠y->K true)/\(x=y->K false)
def Yy(e:BE)(K:BE->Prop):Prop:=
 match e with
 |.lit true=>K (.lit false)|.lit false=>K (.lit true)|.v b=>K (.v (!b))|.lt x y=>K (.le y x)|.le x y=>K (.lt y x)|.eq x y=>K (.ne x y)|.ne x y=>K (.eq x y)
def eO(k:IntKind)(n:Int):Prop:=k.min<=n/\n<=k.max
def gb(k:IntKind)(n:Int):Prop:=
 match k with
 |.i64=> -9223372036854775808<=n/\n<=9223372036854775807
 |k=>k.min<=n/\n<=k.max
def sV(k:IntKind)(n:Int)(K:Prop):Prop:=
 match k with
 |.i64=>(-9223372036854775808<=n/\n<=9223372036854775807)/\K
 |.u64=>(0<=n/\n<=18446744073709551615)/\K
 |k=>(k.min<=n/\n<=k.max)/\K
def J3(k:IntKind)(a b:Int):Int:=k.wrap (BitVec.ofInt k.bits a &&& BitVec.ofInt k.bits b).toNat
def WE(k:IntKind)(a b:Int):Int:=k.wrap (BitVec.ofInt k.bits a ||| BitVec.ofInt k.bits b).toNat
def Dx(k:IntKind)(a b:Int):Int:=k.wrap (a*2 ^ (min b.toNat k.bits))
def Dy(k:IntKind)(a b:Int):Int:=a.fdiv (2 ^ (min b.toNat k.bits))
def VK(TY:List cV)(t:Nat):Bool:=match (au TY t).d with|.str=>true|_=>false
def iP(TY:List cV)(t:Nat):Bool:=match (au TY t).d with|.slice _=>true|_=>false
def Zw(TY:List cV)(t:Nat):Bool:=match (au TY t).d with|.map _ _=>true|_=>false
def q8(TY:List cV)(t:Nat):Bool:=match (au TY t).d with|.bool=>true|_=>false
def VE(TY:List cV)(t:Nat):Bool:=
 match (au TY t).d with
 |.struct [(0,a),(1,b)]=>(match rE (au TY t).zero,(au TY a).d,(au TY b).d with|true,.str,.str=>true|_,_,_=>false)
 |_=>false
def Oy(TY:List cV)(op:BinOp)(t:Nat)(l m:List AV)(K:AV->Prop):Prop:=
 match l,m with
 |[.str a,.str b],[.str c,.str d]=>bL (VE TY t) (match op with
  |.eql=>K (.bool (.v (a==c&&b==d)))
  |.neq=>K (.bool (.v (!(a==c&&b==d))))
  |_=>False)
 |_,_=>False
def BG(TY:List cV)(op:BinOp)(t:Nat)(x y:AV)(K:AV->Prop):Prop:=
 match x,y with
 |.int k a,.int k' b=>
  match op with
  |.shl=>0<=b/\K (.int k (Dx k a b))
  |.shr=>0<=b/\K (.int k (Dy k a b))
  |_=>bL (kq k k')<|
   match op with
   |.lss=>K (.bool (.lt a b))|.gtr=>K (.bool (.lt b a))|.leq=>K (.bool (.le a b))|.geq=>K (.bool (.le b a))
   |.eql=>K (.bool (.eq a b))|.neq=>K (.bool (.ne a b))
   |.add=>sV k (a+b) (K (.int k (a+b)))
   |.sub=>sV k (a - b) (K (.int k (a - b)))
   |.mul=>sV k (a*b) (K (.int k (a*b)))
   |.quo=>(0<=a/\0<b)/\K (.int k (a / b))
   |.rem=>((0<=a/\0<b)/\K (.int k (a % b)))\/(0<b/\K (.int k (a.tmod b)))
   |.and=>K (.int k (J3 k a b))
   |.or=>K (.int k (WE k a b))
   |_=>False
 |.bool a,.bool b=>
  match op with
  |.eql=>bL (q8 TY t)<|K (.bool (.v (a.val==b.val)))
  |.neq=>bL (q8 TY t)<|K (.bool (.v (!(a.val==b.val))))
  |_=>False
 |.ro r,.ar=>bL (iP TY t) (match op with
  |.eql=>jO r λn=>K (.may true n)
  |.neq=>jO r λn=>K (.may false n)
  |_=>False)
 |.ar,.ar=>bL (iP TY t) (match op with
  |.eql=>K (.bool (.lit true))
  |.neq=>K (.bool (.lit false))
  |_=>False)
 |.agg l,.agg m=>Oy TY op t l m K
 |.bO,.bO=>bL (Zw TY t) (match op with
  |.eql=>K (.bool (.lit true))
  |.neq=>K (.bool (.lit false))
  |_=>False)
 |.str a,.str b=>(match op with
  |.add=>a.length+b.length<=17592186044416/\K (.str (a++b))
  |.eql=>K (.bool (.v (a==b)))
  |.neq=>K (.bool (.v (!(a==b))))
  |_=>False)
 |_,_=>False
def ji:List AV->Bool
 |[]=>true|.bool (.lit false)::l=>ji l|_::_=>false
def IA(TY:List cV)(t:Nat):Bool:=
 match (au TY t).d with
 |.arr n e=>(match q8 TY e,Nat.ble 8 n,ji (au TY t).zero,Nat.ble (au TY t).sz 1000000 with|true,true,true,true=>true|_,_,_,_=>false)
 |_=>false
def de:List (Nat × Nat)->Nat->Option (Nat × Nat)
 |[],_=>none|a::_,0=>some a|_::l,n+1=>de l n
def El:List AV->Nat->(List AV->Prop)->Prop
 |_,0,K=>K []
 |[],_+1,_=>False
 |a::l,n+1,K=>El l n λm=>K (a::m)
def tD:List AV->Nat->(List AV->Prop)->Prop
 |l,0,K=>K l
 |[],_+1,_=>False
 |_::l,n+1,K=>tD l n K
def yQ(TY:List cV)(t:Nat)(l:List AV)(off:Nat)(K:AV->Prop):Prop:=
 match (au TY t).d with
 |.struct _=>tD l off λl=>El l (au TY t).sz λm=>K (.agg m)
 |.arr _ _=>tD l off λl=>El l (au TY t).sz λm=>K (.agg m)
 |_=>bL (Nat.beq (au TY t).sz 1) (tD l off λl=>match l with|a::_=>kS a K|[]=>False)
def OH:List AV->List AV->(List AV->Prop)->Prop
 |l,[],K=>K l
 |[],_::_,_=>False
 |_::l,b::m,K=>OH l m λl'=>K (b::l')
def mn:List AV->Nat->List AV->(List AV->Prop)->Prop
 |l,0,m,K=>OH l m K
 |[],_+1,_,_=>False
 |a::l,n+1,m,K=>mn l n m λl'=>K (a::l')
def rL:List Operand->Nat->Bool
 |[],0=>true|_::l,n+1=>rL l n|_,_=>false
def df:List AV->Nat->Bool
 |[],0=>true|_::l,n+1=>df l n|_,_=>false
def kT:AV->Bool
 |.agg _=>false|.cL _=>false|.new _=>false|.any=>false|.fn _ (_::_)=>false|.eZ _ _=>false|.dY _ _=>false|.gA _ _ _=>false|.gD _ _=>false|.may _ _=>false|.full _=>false|_=>true
def rJ:List AV->Bool
 |[]=>true|a::l=>match kT a with|true=>rJ l|false=>false
def iE(TY:List cV)(t:Nat)(v:AV)(K:List AV->Prop):Prop:=
 match (au TY t).d with
 |.struct _=>(match v with|.agg m=>(match df m (au TY t).sz with|true=>K m|false=>False)|_=>False)
 |.arr _ _=>(match v with|.agg m=>(match df m (au TY t).sz with|true=>K m|false=>False)|_=>False)
 |_=>match kT v with|true=>(match df [v] (au TY t).sz with|true=>K [v]|false=>False)|false=>False
def xp(k:IntKind):List AV->(List Int->Prop)->Prop
 |[],K=>K []|.int k' n::l,K=>bL (kq k k')<|xp k l λm=>K (n::m)|_::_,_=>False
def bA(r:RO):List AV->(RO->Prop)->Prop
 |[],K=>K r
 |a::l,K=>
  match r,a with
  |.ints k m,.int k' n=>bL (kq k k')<|iF m n λm=>bA (.ints k m) l K
  |.aI m,.bool e=>iF m (e.val) λm=>bA (.aI m) l K
  |.rows k m,.ro (.ints k' x)=>bL (kq k k')<|iF m x λm=>bA (.rows k m) l K
  |.rows k m,.ar=>iF m [] λm=>bA (.rows k m) l K
  |.bC m,.ro (.aI x)=>iF m x λm=>bA (.bC m) l K
  |.bC m,.ar=>iF m [] λm=>bA (.bC m) l K
  |.bH m,.ro (.rows .i64 x)=>iF m x λm=>bA (.bH m) l K
  |.bH m,.ar=>iF m [] λm=>bA (.bH m) l K
  |.aW m,.agg [.int .i64 x,.int .i64 y]=>iF m (x,y) λm=>bA (.aW m) l K
  |.cN m,.ro (.aW x)=>iF m x λm=>bA (.cN m) l K
  |.cN m,.ar=>iF m [] λm=>bA (.cN m) l K
  |.fb n k m,.agg x=>bL (df x (n+2))<|xp k x λy=>iF m y λm=>bA (.fb n k m) l K
  |.strs m,.str x=>iF m x λm=>bA (.strs m) l K
  |.dS m,.agg [.str x,.str y]=>iF m (x,y) λm=>bA (.dS m) l K
  |.ec m,.agg [.int .i64 x,.ro (.aI y),.int .i64 z]=>iF m (x,y,z) λm=>bA (.ec m) l K
  |_,_=>False
def yH:List AV->Bool
 |[]=>true|.int _ _::l=>yH l|.bool _::l=>yH l|.ro _::l=>yH l|.str _::l=>yH l|_::_=>false
def pf:AV->Bool
 |.int _ _=>true|.bool _=>true|.ro _=>true|.ar=>true|.str _=>true|.agg l=>yH l|_=>false
def IE:List AV->Bool
 |[]=>true|a::l=>match pf a with|true=>IE l|false=>false
def vH:List AV->List AV->ak->(List AV->List AV->ak->Prop)->Prop
 |[],T,S,K=>K [] T S
 |a::l,T,S,K=>
  match a with
  |.vec k=>(match an S k with
   |some (.vec _ r [])=>u3 k T S λT S=>vH l T S λm T S=>K (.ro r::m) T S
   |_=>False)
  |a=>bL (pf a)<|vH l T S λm T S=>K (a::m) T S
def pk:Nat->List (Nat × Operand)->(List Operand->Prop)->Prop
 |_,[],K=>K []
 |n,(i,x)::l,K=>match Nat.beq i n with|true=>pk (n+1) l λm=>K (x::m)|false=>False
def tE(T:List AV)(place:Nat->Option (Nat × Nat)):List (Nat × Operand)->List AV->(List AV->Prop)->Prop
 |[],l,K=>K l
 |(i,x)::ps,l,K=>bk T x λa=>
  match place i with
  |some (off,sz)=>(match a with
   |.agg m=>(match df m sz with|true=>mn l off m λl'=>tE T place ps l' K|false=>False)
   |a=>match kT a with|true=>(match df [a] sz with|true=>mn l off [a] λl'=>tE T place ps l' K|false=>False)|false=>False)
  |none=>False
def s5(S:ak)(k:Nat):Prop:=match an S k with|some _=>True|none=>False
def Hc(S:ak)(k:Nat):Prop:=match an S k with|some _=>False|none=>True
def O8(S S':ak)(a b:AV):Prop:=
 match b with
 |.any=>True
 |.int k' n'=>(match a with|.int k n=>bL (kq k k') (n=n')|_=>False)
 |.bool e'=>(match a with|.bool e=>e.val=e'.val|_=>False)
 |.ro r'=>(match a with
  |.ro r=>r=r'
  |.ar=>r'.len=0
  |.vec k=>(match an S k with
   |some (.vec _ r [])=>(match an S' k with
    |none=>True/\r=r'
    |some (.vec wm' s [])=>bL (Nat.beq r.sz s.sz)<|(jO r λn=>n<=wm')/\r=r'
    |_=>False)
   |some (.deep r none)=>Hc S' k/\r=r'
   |_=>False)
  |_=>False)
 |.vec k'=>(match a with
  |.vec k=>k=k'/\s5 S' k'/\s5 S k'
  |.ar=>(match an S k',an S' k' with|none,some (.vec _ _ _)=>True|_,_=>False)
  |_=>False)
 |.ptr k' o'=>(match a with|.ptr k o=>k=k'/\o=o'/\s5 S' k'/\s5 S k'|_=>False)
 |.ar=>(match a with|.ar=>True|_=>False)
 |.bO=>(match a with|.bO=>True|_=>False)
 |.str l'=>(match a with|.str l=>l=l'|_=>False)
 |.eZ r' i'=>(match a with|.eZ r i=>r=r'/\i=i'|_=>False)
 |.uD f' r' i'=>(match a with|.uD f r i=>f=f'/\r=r'/\i=i'|_=>False)
 |.fn f' []=>(match a with|.fn f []=>f=f'|_=>False)
 |_=>False
def Us(S S':ak):List AV->List AV->Prop
 |[],[]=>True
 |a::l,b::m=>O8 S S' a b/\Us S S' l m
 |_,_=>False
def SQ(S S':ak):List AV->List AV->Prop
 |[],[]=>True
 |a::l,b::m=>(match b with
  |.agg y=>(match a with|.agg x=>Us S S' x y|_=>False)
  |b=>O8 S S' a b)/\SQ S S' l m
 |_,_=>False
def He(S S':ak)(a b:AV):Prop:=
 match b with
 |.agg m=>(match a with|.agg l=>Us S S' l m|_=>False)
 |.cL m=>(match a with|.cL l=>SQ S S' l m|_=>False)
 |.fn f m=>(match a with|.fn g l=>g=f/\Us S S' l m|_=>False)
 |b=>O8 S S' a b
def BJ:List Nat->List Nat->List Nat
 |[],m=>m|a::l,m=>a::BJ l m
def Er(S:ak)(a:AV)(K:AV->List Nat->Prop):Prop:=
 match a with
 |.vec k=>(match an S k with
  |some (.vec _ r [])=>K (.ro r) [k]
  |some (.deep r none)=>K (.ro r) [k]
  |_=>False)
 |.gD k i=>(match an S k with
  |some (.vec _ r [])=>jO r λn=>i.toNat<=n/\CJ r i.toNat n λr'=>K (.ro r') [k]
  |_=>False)
 |.int k n=>K (.int k n) []|.bool e=>K (.bool e) []|.ro r=>K (.ro r) []|.ar=>K .ar []|.bO=>K .bO []|.any=>K .any []|.fn f []=>K (.fn f []) []|.str l=>K (.str l) []|.eZ r i=>K (.eZ r i) []|.uD f r i=>K (.uD f r i) []
 |_=>False
def OI(S:ak):List AV->(List AV->List Nat->Prop)->Prop
 |[],K=>K [] []
 |a::l,K=>Er S a λa' ks=>OI S l λl' ks'=>K (a'::l') (BJ ks ks')
def tG(S:ak):List AV->(List AV->List Nat->Prop)->Prop
 |[],K=>K [] []
 |a::l,K=>match a with
  |.agg m=>OI S m λm' ks=>tG S l λl' ks'=>K (.agg m'::l') (BJ ks ks')
  |a=>Er S a λa' ks=>tG S l λl' ks'=>K (a'::l') (BJ ks ks')
def Ej:List AV->List AV->Prop
 |[],[]=>True
 |a::l,b::m=>He [] [] a b/\Ej l m
 |_,_=>False
def iG:List Nat->List AV->ak->(List AV->ak->Prop)->Prop
 |[],T,S,K=>K T S
 |k::ks,T,S,K=>match an S k with
  |none=>iG ks T S K
  |some _=>u3 k T S λT S=>iG ks T S K
def Es:AV->Bool
 |.int _ _=>true|.bool _=>true|.ar=>true|.bO=>true|.any=>true|.str _=>true|.new (.ints _ _)=>true|.new (.aI _)=>true|.new (.aW _)=>true|.new (.fb _ _ _)=>true|.new (.strs _)=>true|.new (.dS _)=>true|_=>false
def tH:List AV->Bool
 |[]=>true|a::l=>match Es a with|true=>tH l|false=>false
def safe:AV->Bool
 |.cL l=>tH l|.agg l=>tH l|a=>Es a
def x7:AV->Nat
 |.new _=>1|_=>0
def pq:List AV->Nat
 |[]=>0|a::l=>match x7 a with|0=>pq l|_=>pq l+1
def news:AV->Nat
 |.cL l=>pq l|a=>x7 a
def S5(a:AV):Bool:=Nat.beq (news a) 0
def IF(d:Nat):List AV->List AV->ak->(List AV->List AV->ak->Prop)->Prop
 |[],T,S,K=>K [] T S
 |a::l,T,S,K=>
  match a with
  |.new r=>iV d T S λT S=>K (.vec d::l) T ((d,.vec 0 r [])::S)
  |a=>IF d l T S λm T S=>K (a::m) T S
def o3(d:Nat)(v:AV)(T:List AV)(S:ak)(K:AV->List AV->ak->Prop):Prop:=
 match v with
 |.new r=>iV d T S λT S=>K (.vec d) T ((d,.vec 0 r [])::S)
 |.cL l=>IF d l T S λm T S=>K (.cL m) T S
 |a=>kS a λa=>K a T S
structure Spec where
 q:FuncId->List AV->AV->Prop
 m:FuncId->List AV->ak->AV->ak->Prop
 e:FuncId->List AV->(X:Type)->(X->AV)->(X->Prop)->Prop
 n:FuncId->List AV->ak->(X:Type)->(X->AV)->(X->ak)->(X->Prop)->Prop
def OJ(d:Nat)(ks:List Nat)(ret:AV)(T:List AV)(S:ak)(K:AV->List AV->ak->Prop):Prop:=
 bL (Nat.ble (news ret) 1) (match ks,safe ret with
  |_,true=>o3 d ret T S K
  |[],_=>o3 d ret T S K
  |ks,false=>iG ks T S λT S=>o3 d ret T S K)
def GB(F:Spec)(d:Nat)(f:FuncId)(args:List AV)(T:List AV)(S:ak)(K:AV->List AV->ak->Prop):Prop:=
 tG S args λargs' ks=>∃(X:Type) (args2:List AV) (out:X->AV) (ok:X->Prop),F.e f args2 X out ok/\Ej args' args2/\∀x,ok x->OJ d ks (out x) T S K
def vM(F:Spec)(d:Nat)(f:FuncId)(args:List AV)(T:List AV)(S:ak)(K:AV->List AV->ak->Prop):Prop:=
 tG S args λargs' ks=>∃args2 ret,F.q f args2 ret/\Ej args' args2/\
  bL (Nat.ble (news ret) 1) (match ks,safe ret with
  |_,true=>o3 d ret T S K
  |[],_=>o3 d ret T S K
  |ks,false=>iG ks T S λT S=>o3 d ret T S K)
def kI:List AV->List AV->List AV
 |[],m=>m|a::l,m=>a::kI l m
def nc:ak->ak->(ak->Prop)->Prop
 |[],S,K=>K S
 |(k,b)::u,S,K=>match an S k with
  |some _=>kL S k b λS'=>nc u S' K
  |none=>nc u ((k,b)::S) K
def ZX(S S':ak)(b b':dQ):Prop:=
 match b,b' with
 |.box l,.box m=>Us S S' l m
 |.vec wm r [],.vec wm' r' []=>(wm<=wm'/\wm'<=r'.len)/\r=r'
 |.vec _wm r [(i,j)],.vec wm' r' []=>(match an S j with
  |some (.vec _ s [])=>Hc S' j/\wm'<=r.len/\setRow r i s λr=>r=r'
  |_=>False)
 |.vec _wm r [(i,j)],.vec wm' r' [(i',j')]=>wm'=0/\r=r'/\i=i'/\j=j'/\s5 S' j/\s5 S j
 |.map kd vk m,.map kd' vk' m'=>(kd=kd'/\vk=vk')/\m=m'
 |.deep r none,.deep r' none=>r=r'
 |.dK n r,.dK n' r'=>n=n'/\r=r'
 |.mA n z,.mA n' z'=>n=n'/\z=z'
 |.vec wm r [],.mA n' z'=>wm=0/\r.len=n'/\r.sz=z'
 |_,_=>False
def KQ(S S':ak):ak->Prop
 |[]=>True
 |(k,b')::R=>(match an S k with
  |some b=>ZX S S' b b'
  |none=>match b' with|.vec wm r []=>bL (loc k) (wm=0/\r.len=0)|_=>False)/\KQ S S' R
def vt(S:ak)(a:AV):Bool:=
 match a with
 |.vec k=>(match an S k with|some _=>true|none=>false)
 |.ptr k _=>(match an S k with|some _=>true|none=>false)
 |.dY k _=>(match an S k with|some _=>true|none=>false)
 |.gA k _ _=>(match an S k with|some _=>true|none=>false)
 |.gD k _=>(match an S k with|some _=>true|none=>false)
 |_=>true
def m6(S:ak):List AV->Bool
 |[]=>true|a::l=>match vt S a with|true=>m6 S l|false=>false
def pb(S:ak):List AV->Bool
 |[]=>true
 |a::l=>match a with
  |.agg m=>(match m6 S m with|true=>pb S l|false=>false)
  |a=>(match vt S a with|true=>pb S l|false=>false)
def gJ(S:ak):List AV->Bool
 |[]=>true
 |a::l=>match a with
  |.agg m=>(match m6 S m with|true=>gJ S l|false=>false)
  |.fn _ m=>(match m6 S m with|true=>gJ S l|false=>false)
  |.cL m=>(match pb S m with|true=>gJ S l|false=>false)
  |a=>(match vt S a with|true=>gJ S l|false=>false)
def bf:List (Nat × Nat)->Nat->Option Nat
 |[],_=>none|(i,j)::σ,k=>match Nat.beq i k with|true=>some j|false=>bf σ k
def kH(σ:List (Nat × Nat))(a:AV):AV:=
 match a with
 |.vec k=>(match bf σ k with|some j=>.vec j|none=>.any)
 |.ptr k o=>(match bf σ k with|some j=>.ptr j o|none=>.any)
 |.dY k i=>(match bf σ k with|some j=>.dY j i|none=>.any)
 |.gA k i c=>(match bf σ k with|some j=>.gA j i c|none=>.any)
 |.gD k i=>(match bf σ k with|some j=>.gD j i|none=>.any)
 |.int k n=>.int k n|.bool e=>.bool e|.ro r=>.ro r|.eZ r i=>.eZ r i|.ar=>.ar|.bO=>.bO|.may b n=>.may b n|.full r=>.full r|.str l=>.str l|.uD f r i=>.uD f r i
 |.fn f []=>.fn f []|_=>.any
def Fi(σ:List (Nat × Nat)):List AV->List AV
 |[]=>[]|a::l=>kH σ a::Fi σ l
def Ut(σ:List (Nat × Nat)):List AV->List AV
 |[]=>[]|a::l=>(match a with|.agg m=>.agg (Fi σ m)|a=>kH σ a)::Ut σ l
def L3(σ:List (Nat × Nat))(a:AV):AV:=
 match a with
 |.agg m=>.agg (Fi σ m)|.cL m=>.cL (Ut σ m)|.fn f m=>.fn f (Fi σ m)|a=>kH σ a
def yF(σ:List (Nat × Nat)):List AV->List AV
 |[]=>[]|a::l=>L3 σ a::yF σ l
def vB(σ:List (Nat × Nat))(b:dQ):dQ:=
 match b with|.box l=>.box (Fi σ l)|.vec wm r _=>.vec wm r []|.map kd vk m=>.map kd vk m|.deep r h=>.deep r h|.dK n r=>.dK n r|.mA n z=>.mA n z
def tW(σ:List (Nat × Nat)):ak->ak
 |[]=>[]|(k,b)::S=>match bf σ k with|some j=>(j,vB σ b)::tW σ S|none=>tW σ S
def Fh(σ:List (Nat × Nat))(a:AV):Bool:=
 match a with
 |.vec k=>(match bf σ k with|some _=>true|none=>false)
 |.ptr k _=>(match bf σ k with|some _=>true|none=>false)
 |.dY k _=>(match bf σ k with|some _=>true|none=>false)
 |.gA k _ _=>(match bf σ k with|some _=>true|none=>false)
 |.gD k _=>(match bf σ k with|some _=>true|none=>false)
 |.fn _ (_::_)=>false|.agg _=>false|.cL _=>false|.new _=>false|_=>true
def Wb(σ:List (Nat × Nat)):List AV->Bool
 |[]=>true|a::l=>match Fh σ a with|true=>Wb σ l|false=>false
def KR(σ:List (Nat × Nat)):List AV->Bool
 |[]=>true
 |a::l=>match a with
  |.agg m=>(match Wb σ m with|true=>KR σ l|false=>false)
  |.fn _ m=>(match Wb σ m with|true=>KR σ l|false=>false)
  |a=>(match Fh σ a with|true=>KR σ l|false=>false)
def okB(σ:List (Nat × Nat))(b:dQ):Bool:=
 match b with|.box l=>Wb σ l|.vec _ _ []=>true|.map .. =>true|_=>false
def SS(σ:List (Nat × Nat)):ak->Bool
 |[]=>true
 |(k,b)::S=>match bf σ k,okB σ b with|some _,true=>SS σ S|_,_=>false
def dz:ak->Bool
 |[]=>true
 |(_,b)::S=>match b with|.box _=>dz S|.vec _ _ []=>dz S|.map .. =>dz S|.mA .. =>dz S|.deep _ none=>dz S|_=>false
def Qe(n:Nat):List Nat->Bool
 |[]=>false|m::l=>match Nat.beq n m with|true=>true|false=>Qe n l
def lT:List Nat->Bool
 |[]=>true|n::l=>match Qe n l with|true=>false|false=>lT l
def dq{α:Type}:List (Nat × α)->List Nat
 |[]=>[]|(i,_)::l=>i::dq l
def jV:List (Nat × Nat)->List Nat
 |[]=>[]|(_,j)::l=>j::jV l
def CE:List Nat->Bool
 |[]=>true|n::l=>match loc n with|true=>CE l|false=>false
def gone(S1 S2:ak):List (Nat × Nat)->List Nat
 |[]=>[]
 |(i,j)::σ=>match an S1 i,an S2 i,loc i with
  |some _,some _,false=>gone S1 S2 σ
  |_,_,_=>j::gone S1 S2 σ
def cM(S1:ak):List (Nat × Nat)->List (Nat × Nat)
 |[]=>[]
 |(i,j)::σ=>match an S1 i with|some _=>(i,j)::cM S1 σ|none=>cM S1 σ
def okM(σ:List (Nat × Nat))(as:List AV)(S1 S2:ak):Bool:=
 match lT (dq σ),lT (jV σ),lT (dq S1),lT (dq S2)with
 |true,true,true,true=>(match KR (cM S1 σ) as,SS (cM S1 σ) S1,dz S2,CE (gone S1 S2 σ)with|true,true,true,true=>true|_,_,_,_=>false)
 |_,_,_,_=>false
def Qf(S S':ak):List AV->List AV->Prop
 |[],[]=>True
 |a::l,b::m=>He S S' a b/\Qf S S' l m
 |_,_=>False
def m9:List Nat->List AV->ak->(List AV->ak->Prop)->Prop
 |[],T,S,K=>K T S
 |k::ks,T,S,K=>lh S k λS=>c6 k .any T λT=>cf k .any S λS=>m9 ks T S K
def CF(σ:List (Nat × Nat)):ak->ak->(ak->Prop)->Prop
 |[],S,K=>K S
 |(i,b)::R,S,K=>match bf σ i with
  |none=>CF σ R S K
  |some j=>(match an S j with
   |some _=>kL S j (vB σ b) λS=>CF σ R S K
   |none=>CF σ R ((j,vB σ b)::S) K)
def Qg(T:List AV)(x:Operand)(f:FuncId)(K:List AV->Prop):Prop:=
 bk T x λa=>match a with|.fn g cap=>bL (Nat.beq g f) (K cap)|_=>False
def okN(σ:List (Nat × Nat))(as:List AV)(S1:ak):Bool:=
 match lT (dq σ),lT (jV σ),lT (dq S1)with
 |true,true,true=>(match KR (cM S1 σ) as,SS (cM S1 σ) S1 with|true,true=>true|_,_=>false)
 |_,_,_=>false
def Xa(σ:List (Nat × Nat))(S1 S2:ak):Bool:=
 match lT (dq S2),dz S2,CE (gone S1 S2 σ)with|true,true,true=>true|_,_,_=>false
def L7(F:Spec)(f:FuncId)(xs:List Operand)(x:Operand)(T:List AV)(S:ak)(K:AV->List AV->ak->Prop):Prop:=
 ∃(fz:List Nat) (σ:List (Nat × Nat)) (S1:ak) (as2:List AV) (X:Type) (ret:X->AV) (S2:X->ak) (ok:X->Prop),F.n f as2 S1 X ret S2 ok/\bL (okN σ as2 S1)
  (iG fz T S λT S=>gU T xs λas=>Qg T x f λcs=>nc (tW (cM S1 σ) S1) S λS'=>bL (gJ S' T)
   ((KQ S S' S'/\Qf S S' (kI as cs) (yF (cM S1 σ) as2))/\∀z,ok z->bL (Xa σ S1 (S2 z)) (m9 (gone S1 (S2 z) σ) T S' λT S=>CF σ (S2 z) S λS=>K (L3 σ (ret z)) T S)))
def vF(F:Spec)(f:FuncId)(xs:List Operand)(x:Operand)(T:List AV)(S:ak)(K:AV->List AV->ak->Prop):Prop:=(
 ∃(fz:List Nat) (σ:List (Nat × Nat)) (S1:ak) (as2:List AV) (ret:AV) (S2:ak),F.m f as2 S1 ret S2/\bL (okM σ as2 S1 S2)
  (iG fz T S λT S=>gU T xs λas=>Qg T x f λcs=>nc (tW (cM S1 σ) S1) S λS'=>bL (gJ S' T)
   ((KQ S S' S'/\Qf S S' (kI as cs) (yF (cM S1 σ) as2))/\m9 (gone S1 S2 σ) T S' λT S=>CF σ S2 S λS=>K (L3 σ ret) T S)))\/L7 F f xs x T S K
def VL:List AV->Int->Int->(AV->Prop)->Prop
 |[],_,_,_=>True
 |a::l,j,i,K=>(i=j->kS a K)/\VL l (j+1) i K
def Sb:Nat->Nat->Int->(Nat->Prop)->Prop
 |0,_,_,_=>True
 |n+1,j,i,K=>(i=(j:Int)->K j)/\Sb n (j+1) i K
def kJ(n:AV)(K:Int->Prop):Prop:=match n with|.int _ n=>K n|_=>False
abbrev Zx:RO->RO
 |.cY k l=>.rows k l|r=>r
def Zy:RO->Bool
 |.rows _ _=>true|.bC _=>true|.bH _=>true|.cY _ _=>true|_=>false
def nL:RO->Bool
 |.rows _ _=>true|.bC _=>true|.bH _=>true|_=>false
def kz:List AV->Bool
 |[]=>false|_::_=>true
def bN:HN->Bool
 |.struct _=>true|.arr _ _=>true|_=>false
def Ku(TY:List cV)(t:Nat):Bool:=match bN (au TY t).d with|true=>false|false=>Nat.beq (au TY t).sz 1
def cB(j:Nat)(p:Int × Int):Int:=match j with|0=>p.1|_=>p.2
def tu(j:Nat)(p:Int × Int)(n:Int):Int × Int:=match j with|0=>(n,p.2)|_=>(p.1,n)
def yj(TY:List cV)(t:Nat)(r:RO):Bool:=
 match r with
 |.aW _=>(match bN (au TY t).d with|true=>Nat.beq (au TY t).sz 2|false=>false)
 |.dS _=>(match bN (au TY t).d with|true=>Nat.beq (au TY t).sz 2|false=>false)
 |.ec _=>(match bN (au TY t).d with|true=>Nat.beq (au TY t).sz 3|false=>false)
 |.fb n _ _=>(match bN (au TY t).d with|true=>Nat.beq (au TY t).sz (n+2)|false=>false)
 |_=>(match bN (au TY t).d with|true=>false|false=>Nat.beq (au TY t).sz 1)
def eF(TY:List cV)(t:Nat)(r:RO):Bool:=
 match (au TY t).d with
 |.slice e=>(match r with|.aW _=>Nat.beq (au TY e).sz 2|.dS _=>Nat.beq (au TY e).sz 2|.ec _=>Nat.beq (au TY e).sz 3|.fb n _ _=>Nat.beq (au TY e).sz (n+2)|_=>Nat.beq (au TY e).sz 1)
 |_=>false
def getM:List (List Int × Int)->List Int->Option Int
 |[],_=>none|p::m,k=>if p.1=k then some p.2 else getM m k
def lA:List (List Int × Int)->List Int->Int->List (List Int × Int)
 |[],k,v=>[(k,v)]|p::m,k,v=>if p.1=k then (k,v)::m else p::lA m k v
def Qn(TY:List cV)(t:Nat)(K:IntKind->Prop):Prop:=match (au TY t).d with|.int k=>K k|_=>False
def Yz(TY:List cV)(t:Nat)(K:iQ->Prop):Prop:=
 match (au TY t).d with|.int k=>K (.int k)|.arr n e=>bL (Nat.beq (au TY t).sz n)<|bL (Nat.beq (au TY e).sz 1)<|Qn TY e λk=>K (.arr n k)|.str=>K .str|_=>False
def VM(TY:List cV)(t:Nat)(K:Option IntKind->Prop):Prop:=
 match (au TY t).d with|.int k=>K (some k)|.bool=>K none|_=>False
def GC(TY:List cV)(t:Nat)(K:iQ->Option IntKind->Prop):Prop:=
 match (au TY t).d with|.map k e=>Yz TY k λkd=>VM TY e λvk=>bL (kz (au TY e).zero) (K kd vk)|_=>False
def Zz:iQ->iQ->Bool
 |.int k,.int k'=>kq k k'|.arr n k,.arr n' k'=>(match Nat.beq n n' with|true=>kq k k'|false=>false)|.str,.str=>true|_,_=>false
def vkq:Option IntKind->Option IntKind->Bool
 |some k,some k'=>kq k k'|none,none=>true|_,_=>false
def Kx(kd:iQ)(a:AV)(K:List Int->Prop):Prop:=
 match kd,a with
 |.int k,.int k' n=>bL (kq k k') (K [n])
 |.arr n k,.agg l=>bL (df l n) (xp k l K)
 |.str,.str l=>K l
 |_,_=>False
def VN(vk:Option IntKind)(a:AV)(K:Int->Prop):Prop:=
 match vk,a with
 |some k,.int k' n=>bL (kq k k') (K n)
 |none,.bool e=>(match e with|.lit true=>K 1|.lit false=>K 0|e=>K (if e.val then 1 else 0))
 |_,_=>False
def Sc(vk:Option IntKind)(n:Int):AV:=match vk with|some k=>.int k n|none=>.bool (.ne n 0)
def Ys(d:Nat)(r:RO)(K:AV->Option dQ->Prop):Prop:=
 match nL r with
 |false=>K (.vec d) (some (.vec 0 r []))
 |true=>K (.vec d) (some (.vec 0 r []))\/K (.vec d) (some (.deep r none))\/(match r with|.rows k l=>K (.vec d) (some (.vec 0 (.cY k l) []))|_=>False)
def Ky(S:ak)(b:AV)(K:Option RO->Prop):Prop:=
 match b with
 |.ro r=>K (some r)
 |.ar=>K none
 |.vec j=>(match an S j with|some (.vec _ r [])=>K (some r)|_=>False)
 |_=>False
def CZ(d:Nat)(ret:AV)(K:AV->Option dQ->Prop):Prop:=
 match ret with
 |.new r=>K (.vec d) (some (.vec 0 r []))
 |ret=>bL (S5 ret) (kS ret λv=>K v none)
def OA(f:FuncId)(l:List AV)(K:AV->Option dQ->Prop):Prop:=
 match l with
 |[.eZ r i]=>K (.uD f r i) none
 |l=>bL (rJ l)<|K (.fn f l) none
def Yp(TY:List cV)(t d:Nat)(a:AV)(K:AV->Option dQ->Prop):Prop:=
 match a with
 |.ro (.rows .i64 l)=>(iE TY t (.ro (.rows .i64 l)) λm=>K (.ptr d 0) (some (.box m)))\/(iE TY t (.ro (.rows .i64 l)) λ_=>K (.eZ (.bH [l]) 0) none)
 |a=>iE TY t a λm=>K (.ptr d 0) (some (.box m))
def Iz(S:ak)(a b:AV):Bool:=
 match b with
 |.bO=>(match a with|.ptr k _=>(match an S k with|some (.map _ _ _)=>true|_=>false)|_=>false)
 |_=>false
def qK(TY:List cV)(F:Spec)(d:Nat)(o:Op)(T:List AV)(S:ak)(K:AV->Option dQ->Prop):Prop:=
 match o with
 |.move x=>bk T x λa=>K a none
 |.assign x=>bk T x λa=>K a none
 |.binOp op t x y _=>bk T x λa=>bk T y λb=>match Iz S a b with
  |true=>bL (Zw TY t) (match op with
   |.eql=>K (.bool (.lit false)) none
   |.neq=>K (.bool (.lit true)) none
   |_=>False)
  |false=>BG TY op t a b λv=>K v none
 |.unOp op _ x=>bk T x λa=>(match op,a with
  |.not,.bool e=>Yy e λe=>K (.bool e) none
  |.neg,.int k n=>sV k (0 - n) (K (.int k (0 - n)) none)
  |_,_=>False)
 |.convert s t x=>bk T x λa=>(match (au TY s).d,(au TY t).d,a with
  |.int k,.int k',.int k'' n=>bL (kq k k'')<|sV k' n (K (.int k' n) none)
  |.int k,.str,.int k'' n=>bL (kq k k'')<|(0<=n/\n<128)/\K (.str [n]) none
  |.slice e,.str,a=>(match (au TY e).d with|.int .u8=>Ky S a λr=>(match r with|some (.ints .u8 l)=>K (.str l) none|_=>False)|_=>False)
  |_,_,_=>False)
 |.pick c a b=>bk T c λc=>(match c with
  |.bool e=>mo e λt=>match t with|true=>bk T a λv=>K v none|false=>bk T b λv=>K v none
  |_=>False)
 |.alloc t=>bL (df (au TY t).zero (au TY t).sz)<|bL (kz (au TY t).zero)<|(match IA TY t with
  |true=>K (.dY d 0) (some (.vec 0 (.aI (List.replicate (au TY t).sz false)) []))
  |false=>K (.ptr d 0) (some (.box (au TY t).zero)))
 |.box t x=>bk T x λa=>Yp TY t d a K
 |.build t ps=>(match (au TY t).d with
  |.struct fs=>bL (kz (au TY t).zero)<|tE T (fieldPlace TY fs) ps.toList (au TY t).zero λm=>K (.agg m) none
  |.arr _ e=>bL (kz (au TY t).zero)<|bL (Nat.ble 1 (au TY e).sz)<|tE T (λi=>some (i*(au TY e).sz,(au TY e).sz)) ps.toList (au TY t).zero λm=>K (.agg m) none
  |_=>False)
 |.load t x=>bk T x λa=>(match a with
  |.eZ r i=>bL (yj TY t r) (Kw r i λv=>K v none)
  |.dY k i=>(match an S k with
   |some (.vec _ r [])=>bL (yj TY t r) (Kw r i λv=>K v none)
   |some (.vec _ r [(j,k')])=>bL (yj TY t r) ((i=j->K (.vec k') none)/\(i≠j->Kw r i λv=>K v none))
   |some (.dK _ r)=>bL (yj TY t r) (Kw r i λv=>K v none)
   |_=>False)
  |.ptr k off=>(match an S k with
   |some (.box l)=>yQ TY t l off λv=>K v none
   |_=>False)
  |.gA k i j=>(match an S k with
   |some (.vec _ (.aW l) [])=>bL (Ku TY t)<|bL (Nat.ble j 1)<|K (.int .i64 (cB j (l.getD i.toNat (0,0)))) none
   |some (.dK _ (.aW l))=>bL (Ku TY t)<|bL (Nat.ble j 1)<|K (.int .i64 (cB j (l.getD i.toNat (0,0)))) none
   |_=>False)
  |_=>False)
 |.makeMap t none=>GC TY t λkd vk=>K (.ptr d 0) (some (.map kd vk []))
 |.makeMap t (some x)=>GC TY t λkd vk=>bk T x λa=>(match a with|.int _ _=>K (.ptr d 0) (some (.map kd vk []))|_=>False)
 |.buildSlice t n ps=>(match (au TY t).d with
  |.slice e=>bL (kz (au TY e).zero)<|bL (Nat.ble (n*(au TY e).sz) 16000000)<|pk 0 ps.toList λxs=>match rL xs n with
   |true=>gU T xs λvs=>bL (IE vs)<|vJ TY e λr=>bA r vs λr=>bL (eF TY t r) (K (.vec d) (some (.vec 0 r [])))
   |false=>False
  |_=>False)
 |.lookup t x k ok=>GC TY t λkd vk=>bk T x λa=>bk T k λkv=>(match a with
  |.ptr j _=>(match an S j with
   |some (.map kd' vk' m)=>bL (Zz kd kd')<|bL (vkq vk vk')<|Kx kd kv λkey=>(match ok with
    |true=>K (.cL [Sc vk ((getM m key).getD 0),.bool (.v (getM m key).isSome)]) none
    |false=>K (Sc vk ((getM m key).getD 0)) none)
   |_=>False)
  |.bO=>Kx kd kv λ_=>(match ok with
   |true=>K (.cL [Sc vk 0,.bool (.lit false)]) none
   |false=>False)
  |_=>False)
 |.nilCheck x=>bk T x λa=>(match a with|.ptr k o=>K (.ptr k o) none|.fn f c=>K (.fn f c) none|.dY k i=>K (.dY k i) none|.eZ r i=>K (.eZ r i) none|_=>False)
 |.makeSlice t l c=>(match (au TY t).d with
  |.slice e=>bk T l λl=>bk T c λc=>kJ l λl=>kJ c λc=>
   And (0<=l/\l<=c)<|GA (au TY e).bytes c<|pQ TY e l.toNat λr=>bL (Nat.ble 1 (au TY e).bytes)<|bL (kz (au TY e).zero)<|bL (eF TY t r) (Ys d r K)
  |_=>False)
 |.slice t x lo hi none=>bk T x λa=>(match a with
  |.ro r=>bL (eF TY t r)<|jO r λn=>loK T lo λlo=>Jh T hi n λhi=>((0<=lo/\lo<=hi)/\hi<=(n:Int))/\CJ r lo.toNat hi.toNat λr=>K (.ro r) none
  |_=>False)
 |.slice t x none (some y) (some z)=>bk T x λa=>(match a with
  |.ro r=>bL (eF TY t r)<|jO r λn=>Jh T (some y) n λhi=>Jh T (some z) n λmx=>((0<=hi/\hi=mx)/\mx<=(n:Int))/\CJ r 0 hi.toNat λr=>K (.full r) none
  |_=>False)
 |.fieldAddr t x f=>bk T x λa=>(match a,(au TY t).d with
  |.ptr k off,.struct fs=>(match an S k with
   |some (.box _)=>(match de fs f with|some (o,u)=>(match Nat.beq (au TY u).sz 0 with|false=>K (.ptr k (off+o)) none|true=>False)|none=>False)
   |_=>False)
  |.dY k i,.struct fs=>(match de fs f with|some (o,u)=>(match Nat.beq (au TY u).sz 0 with|false=>K (.gA k i o) none|true=>False)|none=>False)
  |_,_=>False)
 |.field t x f=>bk T x λa=>(match a,(au TY t).d with
  |.agg l,.struct fs=>(match de fs f with|some (o,u)=>yQ TY u l o λv=>K v none|none=>False)
  |_,_=>False)
 |.indexAddr t x i=>bk T x λa=>bk T i λi=>kJ i λi=>(match a with
  |.ro r=>bL (eF TY t r) (jO r λn=>(0<=i/\i<(n:Int))/\K (.eZ r i) none)
  |.vec k=>(match an S k with
   |some (.vec _ r _)=>bL (eF TY t r) (jO r λn=>(0<=i/\i<(n:Int))/\K (.dY k i) none)
   |some (.deep r _)=>bL (eF TY t r) (jO r λn=>(0<=i/\i<(n:Int))/\K (.dY k i) none)
   |some (.dK _ r)=>bL (eF TY t r) (jO r λn=>(0<=i/\i<(n:Int))/\K (.dY k i) none)
   |_=>False)
  |.ptr k off=>(match (au TY t).d,an S k with
   |.arr n e,some (.box _)=>bL (Nat.beq (au TY e).sz 1)<|(0<=i/\i<(n:Int))/\Sb n 0 i λj=>K (.ptr k (off+j)) none
   |_,_=>False)
  |.dY k off=>(match (au TY t).d with
   |.arr n e=>(match q8 TY e with
    |true=>(match an S k with
     |some (.vec _ (.aI l) [])=>bL (Nat.beq (au TY e).sz 1)<|(off=0/\(0<=i/\i<(n:Int))/\i<(l.length:Int))/\K (.dY k i) none
     |_=>False)
    |false=>bL (Nat.beq (au TY e).sz 1)<|(0<=i/\i<(n:Int))/\Sb n 0 i λj=>K (.gA k off j) none)
   |_=>False)
  |_=>False)
 |.index t x i=>bk T x λa=>bk T i λi=>kJ i λi=>(match a,(au TY t).d with
  |.agg l,.arr n e=>(match df l n,Nat.beq (au TY e).sz 1,bN (au TY e).d with
   |true,true,false=>(0<=i/\i<(n:Int))/\VL l 0 i λv=>K v none
   |_,_,_=>False)
  |.str l,.str=>(0<=i/\i<(l.length:Int))/\K (.int .u8 (l.getD i.toNat 0)) none
  |_,_=>False)
 |.extract x i=>bk T x λa=>(match a with
  |.cL l=>tD l i λl=>match l with|a::_=>kS a λa=>K a none|[]=>False
  |_=>False)
 |.makeFunc (.func f) first cap=>(match first.toList with
  |[]=>gU T cap.toList λl=>OA f l K
  |_=>False)
 |.call c=>(match c.callee with
  |.builtin .len=>(match c.args.toList,c.argTypes.toList with
   |[x],[t]=>(match iP TY t with
    |true=>bk T x λa=>(match a with
     |.ro r=>jO r λn=>K (.int .i64 n) none
     |.ar=>K (.int .i64 0) none
     |.vec k=>(match an S k with|some (.vec _ r _)=>jO r λn=>K (.int .i64 n) none|some (.deep r _)=>jO r λn=>K (.int .i64 n) none|some (.dK _ r)=>jO r λn=>K (.int .i64 n) none|_=>False)
     |_=>False)
    |false=>(match VK TY t with
     |true=>bk T x λa=>(match a with|.str l=>(l.length:Int)<=9223372036854775807/\K (.int .i64 l.length) none|_=>False)
     |false=>GC TY t λ_ _=>bk T x λa=>(match a with
      |.ptr k _=>(match an S k with|some (.map _ _ m)=>(m.length:Int)<=9223372036854775807/\K (.int .i64 m.length) none|_=>False)
      |_=>False)))
   |_,_=>False)
  |.builtin .max=>(match c.args.toList with
   |[x,y]=>bk T x λa=>bk T y λb=>(match a,b with|.int k a,.int k' b=>bL (kq k k')<|K (.int k (max a b)) none|_,_=>False)
   |_=>False)
  |.builtin .min=>(match c.args.toList with
   |[x,y]=>bk T x λa=>bk T y λb=>(match a,b with|.int k a,.int k' b=>bL (kq k k')<|K (.int k (min a b)) none|_,_=>False)
   |_=>False)
  |.value (.func f)=>gU T c.args.toList λas=>tG S as λas ks=>∃as2 ret,F.q f as2 ret/\Ej as as2/\(match ks,safe ret with
   |_,true=>CZ d ret K
   |[],_=>CZ d ret K
   |_,_=>False)
  |_=>False)
 |_=>False
where
 fieldPlace (TY:List cV) (fs:List (Nat × Nat)) (i:Nat):Option (Nat × Nat):=
  match de fs i with|some (o,t)=>some (o,(au TY t).sz)|none=>none
 loK (T:List AV) (lo:Option Operand) (K:Int->Prop):Prop:=
  match lo with|none=>K 0|some x=>bk T x λa=>kJ a K
 Jh (T:List AV) (hi:Option Operand) (n:Nat) (K:Int->Prop):Prop:=
  match hi with|none=>K n|some x=>bk T x λa=>kJ a K
def nb(a b:Nat):Bool:=match Nat.beq a b with|true=>false|false=>true
def OK(r:RO)(i:Int)(K:RO->Prop):Prop:=
 match r with
 |.rows k l=>K (.ints k (l.getD i.toNat []))|.bC l=>K (.aI (l.getD i.toNat []))|.bH l=>K (.rows .i64 (l.getD i.toNat []))|_=>False
def bS:Op->Bool
 |.store .. =>false|.buildSlice .. =>false|.slice .. =>false|.mapUpdate .. =>false|.insert .. =>false
 |.call c=>(match c.callee with|.builtin .append=>false|.builtin .copy=>false|.builtin .clear=>false|.builtin _=>true|_=>false)
 |_=>true
def lX:Op->Bool
 |.alloc _=>true|.box .. =>true|.makeSlice .. =>true|.makeMap .. =>true|.buildSlice .. =>true|_=>false
def Hl(TY:List cV)(t:Nat)(x k y:Operand)(T:List AV)(S:ak)(K:AV->List AV->ak->Prop):Prop:=
 GC TY t λkd vk=>bk T x λa=>bk T k λkv=>bk T y λv=>(match a with
  |.ptr j _=>(match an S j with
   |some (.map kd' vk' m)=>bL (Zz kd kd')<|bL (vkq vk vk')<|Kx kd kv λkey=>VN vk v λn=>kL S j (.map kd vk (lA m key n)) λS=>K .any T S
   |_=>False)
  |_=>False)
def s8(k:Nat)(b:dQ)(T:List AV)(S:ak)(K:AV->List AV->ak->Prop):Prop:=
 lh S k λS=>c6 k .any T λT=>cf k .any S λS=>K (.vec k) T ((k,b)::S)
def Uy(k wm n:Nat)(r:RO)(hi:Int)(T:List AV)(S:ak)(K:AV->List AV->ak->Prop):Prop:=
 bL (Nat.beq wm 0)<|CJ r 0 hi.toNat λr'=>match loc k with
  |true=>s8 k (.vec 0 r' []) T S K
  |false=>s8 k (.dK n r') T S K
def OL(k:Nat)(i:Int)(wm:Nat)(r:RO)(ov:List (Int × Nat))(v:AV)(T:List AV)(S:ak)(K:AV->List AV->ak->Prop):Prop:=
 match v,ov with
 |.vec k',[]=>(match an S k' with
  |some (.vec _ _ [])=>bL (Zy r)<|bL (Nat.beq wm 0)<|kL S k (.vec 0 r [(i,k')]) λS=>K .any T S
  |_=>False)
 |v,[]=>R9 r i v λr=>kL S k (.vec wm r []) λS=>K .any T S
 |_,_=>False
def OM(k:Nat)(i:Int)(j wm:Nat)(l:List (Int × Int))(v:AV)(T:List AV)(S:ak)(K:AV->List AV->ak->Prop):Prop:=
 match v with
 |.int k' n=>bL (kq .i64 k')<|kL S k (.vec wm (.aW (l.set i.toNat (tu j (l.getD i.toNat (0,0)) n))) []) λS=>K .any T S
 |_=>False
def xW(TY:List cV)(F:Spec)(d:Nat)(o:Op)(T:List AV)(S:ak)(K:AV->List AV->ak->Prop):Prop:=
 match bS o with
 |true=>(match lX o with
  |true=>iV d T S λT S=>qK TY F d o T S λv b=>match b with|some b=>K v T ((d,b)::S)|none=>K v T S
  |false=>qK TY F d o T S λv b=>match b with|none=>K v T S|some _=>False)
 |false=>match o with
  |.buildSlice t n ps=>(match (au TY t).d with
   |.slice e=>bL (kz (au TY e).zero)<|bL (Nat.ble (n*(au TY e).sz) 16000000)<|pk 0 ps.toList λxs=>match rL xs n with
    |true=>gU T xs λvs=>vH vs T S λvs T S=>vJ TY e λr=>bA r vs λr=>bL (eF TY t r)<|iV d T S λT S=>K (.vec d) T ((d,.vec 0 r [])::S)
    |false=>False
   |_=>False)
  |.mapUpdate t x k y=>Hl TY t x k y T S K
  |.insert t x k y=>Hl TY t x k y T S K
  |.store t x y=>bk T x λa=>bk T y λv=>(match a with
   |.dY k i=>(match an S k with
    |some (.vec wm r ov)=>bL (yj TY t r)<|(wm:Int)<=i/\OL k i wm r ov v T S K
    |some (.deep r (some j))=>bL (yj TY t r)<|bL (loc k)<|i=j/\(match v with
     |.vec h=>(match an S h with
      |some (.vec wm s [])=>bL (Nat.beq wm 0)<|bL (nb k h)<|setRow r i s λr'=>m9 [h] T S λT S=>kL S k (.deep r' none) λS=>K .any T S
      |_=>False)
     |_=>False)
    |_=>False)
   |.ptr k off=>(match an S k with
    |some (.box l)=>iE TY t v λm=>mn l off m λl'=>kL S k (.box l') λS=>K .any T S
    |_=>False)
   |.gA k i j=>(match an S k with
    |some (.vec wm (.aW l) [])=>bL (Ku TY t)<|bL (Nat.ble j 1)<|(wm:Int)<=i/\OM k i j wm l v T S K
    |_=>False)
   |_=>False)
  |.slice t x lo hi none=>bk T x λa=>(match a with
   |.vec k=>(match an S k,lo with
    |some (.vec wm r []),none=>bL (eF TY t r)<|jO r λn=>qK.Jh T hi n λhi=>(0<=hi/\hi<=(n:Int))/\
      ((CJ r 0 hi.toNat λr'=>kL S k (.vec (max wm hi.toNat) r []) λS=>K (.ro r') T S)\/Uy k wm n r hi T S K)
    |some (.dK n0 r),none=>bL (eF TY t r)<|jO r λn=>qK.Jh T hi n λhi=>(0<=hi/\hi<=(n:Int))/\CJ r 0 hi.toNat λr'=>s8 k (.dK n0 r') T S K
    |some (.vec _ r []),some x=>(match hi with
     |none=>bL (eF TY t r)<|bk T x λb=>kJ b λi=>jO r λn=>(0<=i/\i<=(n:Int))/\K (.gD k i) T S
     |some _=>False)
    |some (.mA n z),none=>(match (au TY t).d with
     |.slice e=>qK.Jh T hi n λhi=>hi=0/\(vJ TY e λr=>bL (loc k)<|bL (eF TY t r)<|bL (Nat.beq r.sz z)<|s8 k (.vec 0 r []) T S K)
     |_=>False)
    |_,_=>False)
   |.ar=>(match lo,hi with
    |none,some y=>bk T y λb=>kJ b λb=>b=0/\(match (au TY t).d with|.slice e=>bL (Nat.ble 1 (au TY e).sz) (K .ar T S)|_=>False)
    |_,_=>False)
   |_=>qK TY F d (.slice t x lo hi none) T S λv b=>match b with|none=>K v T S|some _=>False)
  |.slice t x lo hi (some z)=>qK TY F d (.slice t x lo hi (some z)) T S λv b=>match b with|none=>K v T S|some _=>False
  |.call c=>(match c.callee with
   |.value (.func f)=>(gU T c.args.toList λas=>vM F d f as T S K)\/vF F f c.args.toList (.func f) T S K\/(gU T c.args.toList λas=>GB F d f as T S K)
   |.value x=>bk T x λa=>(match a with
    |.fn f cap=>(gU T c.args.toList λas=>vM F d f (kI as cap) T S K)\/vF F f c.args.toList x T S K
    |.uD f r i=>gU T c.args.toList λas=>vM F d f (kI as [.eZ r i]) T S K
    |_=>False)
   |.builtin .append=>(match c.args.toList,c.argTypes.toList with
    |[x,y],[t,t']=>(match Nat.beq t t',(au TY t).d with
     |true,.slice e=>bL (kz (au TY e).zero)<|bk T x λa=>bk T y λb=>Ky S b λsrc=>(match a,src with
      |.ar,some r=>bL (eF TY t r)<|jO r λn=>GA (au TY e).bytes n<|iV d T S λT S=>K (.vec d) T ((d,.vec 0 r [])::S)
      |.vec k,some r'=>(match an S k with
       |some (.vec wm r [])=>bL (eF TY t r)<|Ep r r' λr''=>jO r'' λn=>GA (au TY e).bytes n<|
         (iV k T S λT S=>K (.vec k) T ((k,.vec wm r'' [])::S))
       |some (.dK n0 r)=>bL (eF TY t r)<|Ep r r' λr''=>jO r'' λn=>GA (au TY e).bytes n<|s8 k (.dK n0 r'') T S K
       |_=>False)
      |.full r,some r'=>bL (eF TY t r)<|Ep r r' λr''=>jO r' λn'=>jO r'' λn=>GA (au TY e).bytes n<|
        (n'=0->K (.ro r) T S)/\(n'≠0->iV d T S λT S=>K (.vec d) T ((d,.vec 0 r'' [])::S))
      |.full r,none=>K (.ro r) T S
      |.vec k,none=>K (.vec k) T S
      |.ar,none=>K .ar T S
      |_,_=>False)
     |_,_=>False)
    |_,_=>False)
   |.builtin .clear=>(match c.args.toList,c.argTypes.toList with
    |[x],[t]=>bk T x λa=>(match a with
     |.gD k i=>(match an S k with
      |some (.vec wm (.ints kk l) [])=>bL (eF TY t (.ints kk l))<|(match (au TY t).d with
       |.slice e=>Qn TY e λk'=>bL (kq kk k')<|bL (kz (au TY e).zero)<|((wm:Int)<=i/\i<=(l.length:Int))/\kL S k (.vec wm (.ints kk (l.take i.toNat++List.replicate (l.length - i.toNat) 0)) []) λS=>K .any T S
       |_=>False)
      |_=>False)
     |_=>False)
    |_,_=>False)
   |.builtin .copy=>(match c.args.toList,c.argTypes.toList with
    |[x,y],[t,t']=>(match Nat.beq t t' with
     |true=>bk T x λa=>bk T y λb=>Ky S b λsrc=>(match a,src with
      |.vec k,some r'=>(match an S k with
       |some (.vec wm r [])=>bL (Nat.beq wm 0)<|bL (eF TY t r)<|bL (eF TY t r')<|bL (Nat.beq r.sz 1)<|r.len=r'.len/\kL S k (.vec 0 r' []) λS=>K .any T S
       |_=>False)
      |_,_=>False)
     |false=>False)
    |_,_=>False)
   |_=>False)
  |_=>False
def VO(o:Op)(T:List AV)(S:ak):Bool:=
 match o with
 |.load _ (.tmp t)=>(match nth T t with|.dY k _=>(match an S k with|some (.deep _ _)=>true|_=>false)|_=>false)
 |_=>false
def Mh(TY:List cV)(d:Nat)(o:Op)(T:List AV)(S:ak)(K:AV->List AV->ak->Prop):Prop:=
 match o with
 |.load t x=>iV d T S λT S=>bk T x λa=>(match a with
  |.dY k i=>(match an S k with
   |some (.deep r none)=>bL (yj TY t r)<|bL (loc k)<|OK r i λs=>kL S k (.deep r (some i)) λS=>K (.vec d) T ((d,.vec 0 s [])::S)
   |_=>False)
  |_=>False)
 |_=>False
def Pe(TY:List cV)(F:Spec)(d:Nat)(o:Op)(T:List AV)(S:ak)(K:AV->List AV->ak->Prop):Prop:=
 match VO o T S with
 |true=>Mh TY d o T S K
 |false=>xW TY F d o T S K
def fY(ops:List Oper)(g:Option (Nat × Bool))(T:List AV)(yes no:List AV->Prop):Prop:=
 match g with
 |none=>yes T
 |some (j,want)=>
  match (ops.getD j default).dst with
  |some d=>(match nth T d with
   |.bool e=>mo e λt=>xo T d (.bool (.lit t)) λT'=>match t,want with|true,true=>yes T'|false,false=>yes T'|_,_=>no T'
   |.cL []=>no T
   |_=>False)
  |none=>False
noncomputable def Jm(TY:List cV)(F:Spec)(ops:List Oper)(l:List Oper):List AV->ak->(List AV->ak->Prop)->Prop:=
 List.rec (motive:=λ_=>List AV->ak->(List AV->ak->Prop)->Prop) (λT S K=>K T S)
  (λo _ ih T S K=>fY ops o.guard T
   (λT=>dN o.dst λd=>Pe TY F d o.op T S λv T S=>ja o.dst T v λT=>ih T S K)
   (λT=>ja o.dst T (.cL []) λT=>ih T S K)) l
theorem Jn{TY:List cV}{F:Spec}{ops rest:List Oper}{o:Oper}{T:List AV}{S:ak}{K:List AV->ak->Prop}:Jm TY F ops (o::rest) T S K=fY ops o.guard T
   (λT=>dN o.dst λd=>Pe TY F d o.op T S λv T S=>ja o.dst T v λT=>Jm TY F ops rest T S K)
   (λT=>ja o.dst T (.cL []) λT=>Jm TY F ops rest T S K):=rfl
def e7(e:Edge):Bool:=match e.ground with|.textOnly _=>false|.gcOnly _=>false|_=>true
def ON(C:List (List Nat)):List Edge->List Nat->List Nat
 |[],acc=>acc
 |e::l,acc=>if e7 e&& !(acc.contains e.on) then ON C l (((C.getD e.on []).filter λj=>!(acc.contains j))++(e.on::acc)) else ON C l acc
def uI:List Oper->List (List Nat)->List (List Nat)
 |[],C=>C
 |o::l,C=>uI l (C++[ON C o.after.toList []])
def bK(ops:Array Oper)(i:Nat):Option Nat:=(ops[i]?).bind (·.dst)
def AG(o:Oper):Bool:=
 (match o.guard with|none=>true|_=>false)&&(match o.op with|.move _=>true|.assign _=>true|.pick _ _ _=>true|.extract _ _=>true|_=>false)
def uH(ops:Array Oper)(j:Nat):Bool:=
 (match ops[j]? with|some o=>AG o|none=>false)&&Region.noSelect ops&&Region.free .any ops (List.replicate j true++List.replicate (ops.size - j) false).toArray j
def FA(ops:Array Oper)(g:List Bool)(C:List (List Nat))(i:Nat):Bool:=
 match ops[i]? with
 |none=>true
 |some o=>
  (o.after.toList.all λe=>!e7 e||decide (e.on<i))&&
  ((C.getD i []).all λj=>o.after.toList.any λe=>e7 e&&(e.on==j||(C.getD e.on []).contains j))&&
  ((o.looksAt ops).all λt=>(List.range ops.size).all λj=>!(bK ops j==some t)||(decide (j<i)&&(C.getD i []).contains j)||(g.getD j false&&decide (i<j)))&&
  (!(g.getD i false)||(List.range ops.size).all λj=>(decide (j<i)&&(C.getD i []).contains j)||j==i||(decide (i<j)&&(C.getD j []).contains i)||(decide (j<i)&&uH ops j))&&
  ((List.range ops.size).all λj=>i==j||bK ops i==none|| !(bK ops i==bK ops j))
def Fz(ops:Array Oper)(g:List Bool):Bool:=(List.range ops.size).all (FA ops g (uI ops.toList []))
def Fx(S:ak)(d:Nat)(K:Prop):Prop:=match an S d with|none=>bL (loc d) K|some _=>False
noncomputable def jv(TY:List cV)(F:Spec)(ops:List Oper)(gl:List Bool)(l:List Oper):List AV->ak->(List AV->ak->Prop)->Prop:=
 List.rec (motive:=λ_=>List Bool->List AV->ak->(List AV->ak->Prop)->Prop) (λ_ T S K=>K T S)
  (λo _ ih gl T S K=>match gl with
 |[]=>False
 |g::gs=>
  match g with
  |true=>fY ops o.guard T
   (λT=>dN o.dst λd=>Pe TY F d o.op T S λv T S=>ja o.dst T v λT=>ih gs T S K)
   (λT=>ja o.dst T (.cL []) λT=>ih gs T S K)
  |false=>fY ops o.guard T
   (λT=>match o.dst with
    |some d=>qK TY F d o.op T S λv b=>(match b with
     |none=>xo T d v λT=>ih gs T S K
     |some b=>Fx S d (xo T d v λT=>ih gs T ((d,b)::S) K))
    |none=>qK TY F 999 o.op T S λ_v b=>(match b with
     |none=>ih gs T S K
     |some _=>False))
   (λT=>ja o.dst T (.cL []) λT=>ih gs T S K)) l gl
theorem Js{TY:List cV}{F:Spec}{ops:List Oper}{gl:List Bool}{T:List AV}{S:ak}{K:List AV->ak->Prop}:jv TY F ops gl [] T S K=K T S:=rfl
theorem vT{TY:List cV}{F:Spec}{ops rest:List Oper}{o:Oper}{g:Bool}{gs:List Bool}{T:List AV}{S:ak}{K:List AV->ak->Prop}:jv TY F ops (g::gs) (o::rest) T S K=(match g with
  |true=>fY ops o.guard T
   (λT=>dN o.dst λd=>Pe TY F d o.op T S λv T S=>ja o.dst T v λT=>jv TY F ops gs rest T S K)
   (λT=>ja o.dst T (.cL []) λT=>jv TY F ops gs rest T S K)
  |false=>fY ops o.guard T
   (λT=>match o.dst with
    |some d=>qK TY F d o.op T S λv b=>(match b with
     |none=>xo T d v λT=>jv TY F ops gs rest T S K
     |some b=>Fx S d (xo T d v λT=>jv TY F ops gs rest T ((d,b)::S) K))
    |none=>qK TY F 999 o.op T S λ_v b=>(match b with
     |none=>jv TY F ops gs rest T S K
     |some _=>False))
   (λT=>ja o.dst T (.cL []) λT=>jv TY F ops gs rest T S K)):=rfl
inductive Ho where
 |done|fst (i:Nat) (s:Ho)|br (i:Nat) (s:Ho) (r:Ho)|no|UK|Y2 (N:List (Nat × List (Nat × Nat)))
def Da(o:Oper):Bool:=
 (match o.guard with|none=>true|_=>false)&&(match o.op with|.move _=>true|.assign _=>true|.slice _ _ _ _ none=>true|.fieldAddr _ _ _=>true|.nilCheck _=>true|_=>false)
def Ho.Ht:Ho->List Nat|.br i _ r=>i::r.Ht|_=>[]
def jx(n m:Nat):Array Bool:=((List.range n).map (Nat.testBit m)).toArray
def eC:List (Nat × List (Nat × Nat))->Nat->Nat × List (Nat × Nat)
 |[],_=>(0,[])|a::_,0=>a|_::l,n+1=>eC l n
def Hs(ops:Array Oper)(N:List (Nat × List (Nat × Nat)))(l:Array Bool):Bool:=
 decide (0<N.length)&&(jx ops.size (eC N 0).1==l)&&(List.range N.length).all λn=>
  ((Region.ready .any ops (jx ops.size (eC N n).1)).all λi=>(eC N n).2.any λe=>e.1==i)&&(eC N n).2.all λe=>
    (Region.ready .any ops (jx ops.size (eC N n).1)).contains e.1&&decide (e.2<N.length)&&(jx ops.size (eC N e.2).1==(jx ops.size (eC N n).1).setIfInBounds e.1 true)
def qI(ops:Array Oper):Ho->Array Bool->Bool->Bool
 |.done,l,c=>!c&&(Region.ready .any ops l).isEmpty
 |.no,_,c=>c
 |.UK,_,_=>false
 |.Y2 N,l,c=>!c&&Hs ops N l
 |.fst i s,l,c=>!c&&(match ops[i]? with|some o=>Da o|none=>false)&&(Region.ready .any ops l).contains i&&Region.free .any ops l i&&qI ops s (l.setIfInBounds i true) false
 |.br i s r,l,c=>(c||(!(Region.ready .any ops l).isEmpty&&(Region.ready .any ops l).all λj=>(i::r.Ht).contains j))&&(Region.ready .any ops l).contains i&&qI ops s (l.setIfInBounds i true) false&&qI ops r l true
def S9(ops:Array Oper):Bool:=Region.lexB .any ops&&ops.toList.all λo=>o.guard.isNone&&bS o.op&& !lX o.op
def FF(ops:Array Oper)(t:Ho):Bool:=(match t with|.UK=>true|_=>false)&&S9 ops||Region.noSelect ops&&qI ops t (Array.replicate ops.size false) false
noncomputable def QA(TY:List cV)(F:Spec)(l:List Oper):List AV->ak->(List AV->ak->Prop)->Prop:=
 List.rec (motive:=λ_=>List AV->ak->(List AV->ak->Prop)->Prop) (λT S K=>K T S)
  (λo _ ih T S K=>dN o.dst λd=>qK TY F d o.op T S λv b=>match b with|none=>ja o.dst T v λT=>ih T S K|some _=>False) l
theorem JB{TY:List cV}{F:Spec}{o:Oper}{l:List Oper}{T:List AV}{S:ak}{K:List AV->ak->Prop}:QA TY F (o::l) T S K=dN o.dst λd=>qK TY F d o.op T S λv b=>match b with|none=>ja o.dst T v λT=>QA TY F l T S K|some _=>False:=rfl
def Xw:List (List AV × ak)->Nat->(List AV->ak->Prop)->Prop
 |[],_,_=>False
 |(T,S)::_,0,K=>K T S
 |_::l,n+1,K=>Xw l n K
def Jy(st:List (List AV × ak))(n:Nat)(T:List AV)(S:ak):Prop:=Xw st n λT' S'=>T=T'/\S=S'
noncomputable def MB(TY:List cV)(F:Spec)(ops:List Oper)(st:List (List AV × ak))(T:List AV)(S:ak):List (Nat × Nat)->Prop
 |[]=>True
 |(i,m)::l=>(match ops.getD i default with
  |o=>fY ops o.guard T
   (λT=>dN o.dst λd=>Pe TY F d o.op T S λv T S=>ja o.dst T v λT=>Jy st m T S)
   (λT=>ja o.dst T (.cL []) λT=>Jy st m T S))/\MB TY F ops st T S l
noncomputable def Qz(TY:List cV)(F:Spec)(ops:List Oper)(st:List (List AV × ak))(K:List AV->ak->Prop):List (Nat × List (Nat × Nat))->Nat->Prop
 |[],_=>True
 |(_,nx)::N,n=>Xw st n (λT S=>match nx with|[]=>K T S|nx=>MB TY F ops st T S nx)/\Qz TY F ops st K N (n+1)
noncomputable def qD(TY:List cV)(F:Spec)(ops:List Oper):Ho->List AV->ak->(List AV->ak->Prop)->Prop
 |.done,T,S,K=>K T S
 |.no,_,_,_=>True
 |.UK,T,S,K=>QA TY F ops T S K
 |.Y2 N,T,S,K=>∃st,Jy st 0 T S/\Qz TY F ops st K N 0
 |.fst i s,T,S,K=>(match ops.getD i default with
  |o=>fY ops o.guard T
   (λT=>dN o.dst λd=>qK TY F d o.op T S λv b=>match b with|none=>ja o.dst T v λT=>qD TY F ops s T S K|some _=>False)
   (λ_=>False))
 |.br i s r,T,S,K=>(match ops.getD i default with
  |o=>fY ops o.guard T
   (λT=>dN o.dst λd=>Pe TY F d o.op T S λv T S=>ja o.dst T v λT=>qD TY F ops s T S K)
   (λT=>ja o.dst T (.cL []) λT=>qD TY F ops s T S K))/\qD TY F ops r T S K
def su:List Nat->List AV->ak->(List AV->ak->Prop)->Prop
 |[],T,S,K=>K T S
 |d::l,T,S,K=>match an S d with
  |none=>su l T S K
  |some _=>iV d T S λT S=>su l T S K
def makes:List Bool->List Oper->List Nat
 |g::gs,o::l=>(match g,lX o.op||(match o.op with|.call _=>true|_=>false),o.dst with|false,true,some d=>d::makes gs l|_,_,_=>makes gs l)
 |_,_=>[]
def UL(n:Nat):List Nat->Bool
 |[]=>false|m::l=>match Nat.beq n m with|true=>true|false=>UL n l
def VP:List Oper->List Nat->List Nat
 |[],acc=>acc
 |o::l,acc=>match o.dst with|some d=>VP l (d::acc)|none=>VP l acc
def writes:Code->List Nat->List Nat
 |.region _ ops _,acc=>VP ops.toList acc
 |.seq a b,acc=>writes a (writes b acc)|.cond _ a b,acc=>writes a (writes b acc)
 |.block _ b,acc=>writes b acc|.loop b,acc=>writes b acc|.scope b,acc=>writes b acc|_,acc=>acc
def uJ(W:List Nat):Nat->List AV->(List AV->Prop)->Prop
 |_,[],k=>k []
 |i,a::l,k=>uJ W (i+1) l λl'=>match UL i W with|true=>k (.any::l')|false=>k (a::l')
def De:List Nat->ak->(ak->Prop)->Prop
 |[],S,K=>K S
 |w::W,S,K=>match Nat.ble 10000 w with|true=>lh S (w - 10000) λS=>De W S K|false=>De W S K
def oH:List (Nat × AV)->List AV->(List AV->Prop)->Prop
 |[],T,k=>k T
 |(i,v)::u,T,k=>xo T i v λT'=>oH u T' k
def Wj(S S':ak)(T:List AV):List (Nat × AV)->Prop
 |[]=>True
 |(i,v)::u=>He S S' (nth T i) v/\Wj S S' T u
inductive EX where
 |normal|exit (id:Nat)|ret
def YA(W:List Nat):Bool:=match W with|[]=>false|w::_=>Nat.beq w 7777
def Hw(ex:List AV->ak->(EX->List AV->ak->Prop)->Prop)(wr:List Nat)(W:List Nat)(T:List AV)(St:ak)(Q:EX->List AV->ak->Prop):Prop:=
 De W St λS=>uJ (BJ W wr) 0 T λT0=>
   ∃(X:Type) (U:X->List (Nat × AV)) (V:X->ak) (ok:X->Prop) (μ:X->Nat) (x0:X),
    (ok x0/\(nc (V x0) S λS0=>bL (gJ S0 T0) (Wj St S0 T (U x0)/\KQ St S0 S0)))/\
    ∀x,ok x->oH (U x) T0 λT1=>nc (V x) S λS1=>ex T1 S1 λe T2 S2=>match e with
     |.normal=>uJ (BJ W wr) 0 T2 λT3=>∃x',(ok x'/\μ x'<μ x)/\T3=T0/\nc (V x') S λS3=>bL (gJ S3 T0) (Wj S2 S3 T2 (U x')/\KQ S2 S3 S3)
     |.exit i=>Q (.exit i) T2 S2
     |.ret=>Q .ret T2 S2
def yP(TY:List cV)(F:Spec):Code->List AV->ak->(EX->List AV->ak->Prop)->Prop
 |.skip,T,S,Q=>Q .normal T S
 |.region _ ops false,T,S,Q=>Jm TY F ops.toList ops.toList T S (Q .normal)
 |.region _ ops true,T,S,Q=>(∃g:List Bool,Fz ops g=true/\su (makes g ops.toList) T S λT S=>jv TY F ops.toList g ops.toList T S (Q .normal))\/
   ∃t:Ho,FF ops t=true/\qD TY F ops.toList t T S (Q .normal)
 |.seq a b,T,S,Q=>yP TY F a T S λe T S=>match e with|.normal=>yP TY F b T S Q|.exit i=>Q (.exit i) T S|.ret=>Q .ret T S
 |.cond c a b,T,S,Q=>bk T c λc=>match c with
  |.bool e=>mo e λt=>match t with|true=>yP TY F a T S Q|false=>yP TY F b T S Q
  |.may t n=>(match t with|true=>(n=0->yP TY F a T S Q)/\yP TY F b T S Q|false=>yP TY F a T S Q/\(n=0->yP TY F b T S Q))
  |_=>False
 |.block id b,T,S,Q=>yP TY F b T S λe T S=>match e with
  |.exit j=>(match Nat.beq j id with|true=>Q .normal T S|false=>Q (.exit j) T S)
  |.normal=>Q .normal T S|.ret=>Q .ret T S
 |.loop b,T,St,Q=>∃W:List Nat,match YA W with
  |true=>yP TY F b T St λe T2 S2=>match e with
    |.normal=>∃W:List Nat,Hw (yP TY F b) (writes b []) W T2 S2 Q
    |.exit i=>Q (.exit i) T2 S2
    |.ret=>Q .ret T2 S2
  |false=>Hw (yP TY F b) (writes b []) W T St Q
 |.exit id,T,S,Q=>Q (.exit id) T S
 |.scope b,T,S,Q=>yP TY F b T S Q
 |.ret,T,S,Q=>Q .ret T S
 |_,_,_,_=>False
def ga:List AV->List AV->ak
 |.vec k::l,.new _::m=>match ga l m with|[]=>[(k,.box [])]|S=>(k,.box [])::S
 |_::l,_::m=>ga l m
 |_,_=>[]
def Y4(S S':ak)(a b:AV):Prop:=
 match b with
 |.new r'=>(match a with
  |.vec k=>(match an S k with|some (.vec wm r [])=>wm=0/\Zx r=r'|_=>False)
  |.ar=>r'.len=0
  |_=>False)
 |b=>He S S' a b
def MC(S S':ak):List AV->List AV->Prop
 |[],[]=>True
 |a::l,b::m=>Y4 S S' a b/\MC S S' l m
 |_,_=>False
def sy:AV->Bool
 |.vec _=>false|.ptr _ _=>false|.dY _ _=>false|.gA _ _ _=>false|.gD _ _=>false|.full _=>false|.cL _=>false|.fn _ (_::_)=>false|_=>true
def wa:List AV->Bool
 |[]=>true|a::l=>match sy a with|true=>wa l|false=>false
def jy:List AV->Bool
 |[]=>true
 |a::l=>match a with
  |.agg m=>(match wa m with|true=>jy l|false=>false)
  |a=>(match sy a with|true=>jy l|false=>false)
def mF(S:ak)(as rs:List AV):Prop:=
 match ga as rs with
 |[]=>bL (jy rs) (MC S [] as rs)
 |[x]=>bL (jy rs) (MC S [x] as rs)
 |_=>False
def uh(TY:List cV)(T:List AV)(S:ak):List ResultVar->(List AV->Prop)->Prop
 |[],K=>K []
 |.tmp t::l,K=>kS (nth T t) λa=>uh TY T S l λm=>K (a::m)
 |.cell t ty::l,K=>(match nth T t with
  |.ptr k off=>(match an S k with
   |some (.box b)=>yQ TY ty b off λa=>uh TY T S l λm=>K (a::m)
   |_=>False)
  |_=>False)
def Dg:Nat->List AV
 |0=>[]|n+1=>.any::Dg n
def qO:Nat->List AV->Nat
 |n,[]=>n|0,_::_=>0|n+1,_::l=>qO n l
def MD:RO->Prop
 |.ints k l=>l.length<=140737488355328/\∀x∈l,gb k x
 |.aI l=>l.length<=140737488355328
 |.rows k l=>l.length<=140737488355328/\∀m∈l,m.length<=140737488355328/\∀x∈m,gb k x
 |.bC l=>l.length<=140737488355328/\∀m∈l,m.length<=140737488355328
 |.bH l=>l.length<=140737488355328/\∀n∈l,n.length<=140737488355328/\∀m∈n,m.length<=140737488355328/\∀x∈m,gb .i64 x
 |.aW l=>l.length<=140737488355328/\∀p∈l,gb .i64 p.1/\gb .i64 p.2
 |.fb _ _ l=>l.length<=140737488355328
 |.strs l=>l.length<=140737488355328
 |.dS l=>l.length<=140737488355328
 |.ec l=>l.length<=140737488355328
 |.cY k l=>l.length<=140737488355328/\∀m∈l,m.length<=140737488355328/\∀x∈m,gb k x
 |.cN l=>l.length<=140737488355328/\∀m∈l,m.length<=140737488355328/\∀p∈m,gb .i64 p.1/\gb .i64 p.2
def OO(a:AV):Prop:=match a with|.int k n=>gb k n|.ro r=>MD r|_=>True
def FH:List AV->Prop
 |[]=>True|a::l=>OO a/\FH l
def kO:List AV->Prop
 |[]=>True|a::l=>(match a with|.agg m=>FH m|a=>OO a)/\kO l
def P7(TY:List cV)(F:Spec)(fn:Func)(args:List AV)(ret:AV):Prop:=
 match fn.body with
 |some c=>yP TY F c (kI args (Dg (qO fn.ntmps args))) [] λe T S=>match e with
  |.exit _=>False
  |_=>uh TY T S fn.results.toList λas=>match as,ret with
   |[a],r=>mF S [a] [r]
   |as,.cL rs=>mF S as rs
   |_,_=>False
 |none=>False
def Mq(TY:List cV)(F:Spec)(fn:Func)(args:List AV){X:Type}(out:X->AV)(ok:X->Prop):Prop:=
 match fn.body with
 |some c=>yP TY F c (kI args (Dg (qO fn.ntmps args))) [] λe T S=>match e with
  |.exit _=>False
  |_=>uh TY T S fn.results.toList λas=>∃x,ok x/\match as,out x with
   |[a],r=>mF S [a] [r]
   |as,.cL rs=>mF S as rs
   |_,_=>False
 |none=>False
def l8:ak->List AV->ak->(List AV->ak->Prop)->Prop
 |[],T,S,K=>K T S
 |(k,b)::R,T,S,K=>match b with
  |.mA _ _=>(match an S k with
   |some (.dK n r)=>lh S k λS=>c6 k .any T λT=>cf k .any S λS=>l8 R T ((k,.mA n r.sz)::S) K
   |_=>l8 R T S K)
  |_=>l8 R T S K
def JH(TY:List cV)(F:Spec)(fn:Func)(args:List AV)(S1:ak)(ret:AV)(S2:ak):Prop:=
 match fn.body with
 |some c=>yP TY F c (kI args (Dg (qO fn.ntmps args))) S1 λe T S=>match e with
  |.exit _=>False
  |_=>l8 S2 T S λT S=>uh TY T S fn.results.toList λas=>KQ S S2 S2/\match as,ret with
   |[a],r=>He S S2 a r
   |as,.cL rs=>SQ S S2 as rs
   |_,_=>False
 |none=>False
def QE(TY:List cV)(F:Spec)(fn:Func)(args:List AV)(S1:ak)(X:Type)(ret:X->AV)(S2:X->ak)(ok:X->Prop):Prop:=
 match fn.body with
 |some c=>yP TY F c (kI args (Dg (qO fn.ntmps args))) S1 λe T S=>match e with
  |.exit _=>False
  |_=>∃z,ok z/\l8 (S2 z) T S λT S=>uh TY T S fn.results.toList λas=>KQ S (S2 z) (S2 z)/\match as,ret z with
   |[a],r=>He S (S2 z) a r
   |as,.cL rs=>SQ S (S2 z) as rs
   |_,_=>False
 |none=>False
abbrev LB:Nat:=140737488355328
structure Sl where
 aZ:Option Nat
 len:Nat
 cap:Nat
 sz:Nat
inductive b6 where
 |sl (o:Sl)|bx (b:Nat)|mp (b:Nat)|dp (o:Sl) (rows:List Sl)|st (o cur:Sl)
def Sl.val(o:Sl):Value:=.slice (o.aZ.map λb=>⟨b,0,none⟩) o.len o.cap
def Sl.Uz(o:Sl)(i:Nat):Value:=.slice (if o.cap=i then (o.aZ.map λb=>⟨b,0,none⟩) else (o.aZ.map λb=>(⟨b,0,none⟩:Addr)).map (·.add (i*o.sz))) (o.len - i) (o.cap - i)
def b6.ref:b6->Nat->Option Value
 |.bx b,off=>some (.pointer (some ⟨b,off,none⟩))|.mp b,_=>some (.map (some b))|_,_=>none
def b6.yM:b6->Option Sl
 |.sl o=>some o|.dp o _=>some o|.st _ o=>some o|_=>none
def b6.base:b6->b6
 |.st o _=>.sl o|o=>o
abbrev Env:=Nat->Option b6
abbrev a7:=Nat->Nat->Prop
def aO:Value->Prop
 |.agg _=>False|.tuple _=>False|_=>True
def kN(w:World)(M:a7)(n:Nat)(C:Nat->Value->Prop)(m:Nat)(v:Value):Prop:=
 ∃a cap,v= .slice a m cap/\m<=cap/\(n=0\/∃b off,a=some ⟨b,off,none⟩/\∀q,q<n->∃c,w.cell? ⟨b,off+q,none⟩=some c/\¬M b (off+q)/\C q c)
def RO.cells(r:RO):Nat:=r.len*r.sz
def Jc(w:World)(M:a7)(k:IntKind)(l:List Int)(v:Value):Prop:=
 l.length<=LB/\kN w M l.length (λq c=>c= .int k (l.getD q 0)/\eO k (l.getD q 0)) l.length v
def Pp(w:World)(M:a7)(l:List Bool)(v:Value):Prop:=
 l.length<=LB/\kN w M l.length (λq c=>c= .bool (l.getD q false)) l.length v
def Ph(w:World)(M:a7)(k:IntKind)(l:List (List Int))(v:Value):Prop:=
 l.length<=LB/\kN w M l.length (λq c=>Jc w M k (l.getD q []) c) l.length v
def UN(w:World)(M:a7)(l:List (Int × Int))(v:Value):Prop:=
 l.length<=LB/\kN w M (l.length*2) (λq c=>if q % 2=0 then c= .int .i64 (l.getD (q / 2) (0,0)).1/\eO .i64 (l.getD (q / 2) (0,0)).1 else c= .int .i64 (l.getD (q / 2) (0,0)).2/\eO .i64 (l.getD (q / 2) (0,0)).2) l.length v
def cv(l:List Int):ByteArray:=⟨(l.map λx=>UInt8.ofNat x.toNat).toArray⟩
def cz(x:Int):Prop:=0<=x/\x<=255
def VQ(l:List Int)(v:Value):Prop:=v= .string (cv l)/\∀x∈l,cz x
def ay(w:World)(M:a7):RO->Nat->Value->Prop
 |.ints k l,q,c=>c= .int k (l.getD q 0)/\eO k (l.getD q 0)
 |.aI l,q,c=>c= .bool (l.getD q false)
 |.rows k l,q,c=>Jc w M k (l.getD q []) c
 |.bC l,q,c=>Pp w M (l.getD q []) c
 |.bH l,q,c=>Ph w M .i64 (l.getD q []) c
 |.aW l,q,c=>if q % 2=0 then c= .int .i64 (l.getD (q / 2) (0,0)).1/\eO .i64 (l.getD (q / 2) (0,0)).1 else c= .int .i64 (l.getD (q / 2) (0,0)).2/\eO .i64 (l.getD (q / 2) (0,0)).2
 |.fb n k l,q,c=>c= .int k ((l.getD (q / (n+2)) []).getD (q % (n+2)) 0)/\eO k ((l.getD (q / (n+2)) []).getD (q % (n+2)) 0)
 |.cY k l,q,c=>Jc w M k (l.getD q []) c/\(l.getD q []=[]->c= .slice none 0 0)
 |.cN l,q,c=>UN w M (l.getD q []) c
 |.strs l,q,c=>VQ (l.getD q []) c
 |.dS l,q,c=>if q % 2=0 then VQ (l.getD (q / 2) ([],[])).1 c else VQ (l.getD (q / 2) ([],[])).2 c
 |.ec l,q,c=>if q % 3=0 then c= .int .i64 (l.getD (q / 3) (0,[],0)).1/\eO .i64 (l.getD (q / 3) (0,[],0)).1 else if q % 3=1 then Pp w M (l.getD (q / 3) (0,[],0)).2.1 c else c= .int .i64 (l.getD (q / 3) (0,[],0)).2.2/\eO .i64 (l.getD (q / 3) (0,[],0)).2.2
def bd(w:World)(M:a7)(r:RO)(v:Value):Prop:=r.len<=LB/\kN w M r.cells (ay w M r) r.len v
theorem kB{α β:Type}{x:Option α}{f:α->Option β}{b:β}(h:x.bind f=some b):x.isSome=true:=by cases x with|none=>cases h|some a=>rfl
theorem vX{O:Env}{k off:Nat}{v:Value}(h:(O k).bind (b6.ref · off)=some v):∃b,(O k=some (.bx b)/\v= .pointer (some ⟨b,off,none⟩))\/(O k=some (.mp b)/\v= .map (some b)):=by
 cases ho:O k with
 |none=>rw [ho]at h;cases h
 |some o=>
  rw [ho]at h;cases o with
  |bx b=>cases h;exact⟨b,.inl ⟨rfl,rfl⟩⟩
  |mp b=>cases h;exact⟨b,.inr ⟨rfl,rfl⟩⟩
  |_=>cases h
theorem sw{O:Env}{k off b:Nat}{v:Value}(hk:O k=some (.bx b))(h:(O k).bind (b6.ref · off)=some v):v= .pointer (some ⟨b,off,none⟩):=by rw [hk]at h;cases h;rfl
theorem Av{O:Env}{k off b:Nat}{v:Value}(hk:O k=some (.mp b))(h:(O k).bind (b6.ref · off)=some v):v= .map (some b):=by rw [hk]at h;cases h;rfl
theorem Db{O:Env}{k b:Nat}(off:Nat)(hk:O k=some (.bx b)):(O k).bind (b6.ref · off)=some (.pointer (some ⟨b,off,none⟩)):=by rw [hk];rfl
theorem TN{O:Env}{k b:Nat}(off:Nat)(hk:O k=some (.mp b)):(O k).bind (b6.ref · off)=some (.map (some b)):=by rw [hk];rfl
theorem cC{O:Env}{k:Nat}{o o':Sl}(hk:O k=some (.sl o))(h:(O k).bind b6.yM=some o'):o'=o:=by rw [hk]at h;cases h;rfl
theorem iR{O:Env}{k:Nat}{o:Sl}(hk:O k=some (.sl o)):(O k).bind b6.yM=some o:=by rw [hk];rfl
theorem mD{O:Env}{k:Nat}{o cur:Sl}(hk:O k=some (.st o cur)):(O k).bind b6.yM=some cur:=by rw [hk];rfl
theorem oV{O:Env}{k:Nat}{o:Sl}{rows:List Sl}(hk:O k=some (.dp o rows)):(O k).bind b6.yM=some o:=by rw [hk];rfl
def aJ(O:Env)(w:World)(M:a7):AV->Value->Prop
 |.int k n,v=>v= .int k n/\eO k n
 |.bool e,v=>v= .bool e.val
 |.ro r,v=>bd w M r v
 |.vec k,v=>∃o,(O k).bind b6.yM=some o/\v=o.val
 |.ptr k off,v=>(O k).bind (b6.ref · off)=some v
 |.ar,v=>v= .slice none 0 0
 |.bO,v=>v= .map none
 |.may b n,v=>∃x,v= .bool x/\(x=b->n=0)
 |.any,v=>aO v
 |.fn f [],v=>v= .func (.func f) #[] #[]
 |.eZ r i,v=>∃b off cap,bd w M r (.slice (some ⟨b,off,none⟩) r.len cap)/\0<=i/\i<r.len/\v= .pointer (some ⟨b,off+i.toNat*r.sz,none⟩)
 |.dY k i,v=>∃o b,(O k).bind b6.yM=some o/\o.aZ=some b/\0<=i/\i<o.len/\v= .pointer (some ⟨b,i.toNat*o.sz,none⟩)
 |.gA k i j,v=>∃o b,(O k).bind b6.yM=some o/\o.aZ=some b/\0<=i/\i<o.len/\v= .pointer (some ⟨b,i.toNat*o.sz+j,none⟩)
 |.gD k i,v=>∃o,(O k).bind b6.yM=some o/\0<=i/\i<=o.len/\v=o.Uz i.toNat
 |.full r,v=>bd w M r v/\∃a,v= .slice a r.len r.len
 |.str l,v=>v= .string (cv l)/\∀x∈l,cz x
 |.uD f r i,v=>∃b off cap,bd w M r (.slice (some ⟨b,off,none⟩) r.len cap)/\0<=i/\i<r.len/\v= .func (.func f) #[] #[.pointer (some ⟨b,off+i.toNat*r.sz,none⟩)]
 |_,_=>False
def aM(R:AV->Value->Prop):List AV->List Value->Prop
 |[],[]=>True
 |a::l,v::m=>R a v/\aM R l m
 |_,_=>False
def cx(O:Env)(w:World)(M:a7):AV->Value->Prop
 |.agg l,v=>∃cs,v= .agg cs/\aM (aJ O w M) l cs.toList
 |.any,_=>True
 |a,v=>aJ O w M a v
def aC(O:Env)(w:World)(M:a7):AV->Value->Prop
 |.agg l,v=>∃cs,v= .agg cs/\aM (aJ O w M) l cs.toList
 |.cL l,v=>∃cs,v= .tuple cs/\aM (cx O w M) l cs.toList
 |.fn f l,v=>∃cs,v= .func (.func f) #[] cs/\aM (aJ O w M) l cs.toList
 |.any,_=>True
 |a,v=>aJ O w M a v
def fp(O:Env)(w:World)(M:a7)(o:Sl)(wm:Nat)(r:RO)(ov:List (Int × Nat)):Prop:=
 o.len=r.len/\o.sz=r.sz/\r.len<=LB/\wm<=r.len/\
 match o.aZ with
 |none=>r.len=0/\o.cap=0
 |some b=>o.len<=o.cap/\∃cs ty,w.heap[b]? =some (.cells cs ty (0,0))/\cs.size=o.cap*o.sz/\
   (∀off,M b off↔wm*o.sz<=off/\off<cs.size)/\
   ∀q,q<r.cells->∃c,cs[q]? =some c/\match ov with
    |[]=>ay w M r q c
    |(i,j)::_=>if (q:Int)=i then aJ O w M (.vec j) c else ay w M r q c
def iH:iQ->List Int->Value->Prop
 |.int k,l,v=>∃n,l=[n]/\v= .int k n/\eO k n
 |.arr n k,l,v=>l.length=n/\v= .agg (l.map λx=>Value.int k x).toArray/\∀x∈l,eO k x
 |.str,l,v=>v= .string (cv l)/\∀x∈l,cz x
def pR:Option IntKind->Int->Value->Prop
 |some k,n,v=>v= .int k n/\eO k n
 |none,n,v=>v= .bool (decide (n≠0))/\(n=0\/n=1)
def lH(kd:iQ)(vk:Option IntKind):List (List Int × Int)->List MapEntry->Prop
 |[],[]=>True
 |p::m,e::es=>(iH kd p.1 e.key/\pR vk p.2 e.val)/\lH kd vk m es
 |_,_=>False
def RO.row:RO->Nat->RO
 |.rows k l,q=>.ints k (l.getD q [])|.bC l,q=>.aI (l.getD q [])|.bH l,q=>.rows .i64 (l.getD q [])|r,_=>r
def cG:Sl:=⟨none,0,0,1⟩
structure o4(w:World)(M:a7)(o:Sl)(rows:List Sl)(r:RO)(hole:Option Int):Prop where
 rq:nL r=true
 len:o.len=r.len
 Pd:o.sz=1
 lb:r.len<=LB
 Gx:rows.length=r.len
 outer:match o.aZ with
  |none=>r.len=0/\o.cap=0
  |some b=>o.len<=o.cap/\∃cs ty,w.heap[b]? =some (.cells cs ty (0,0))/\cs.size=o.cap/\(∀off,M b off↔off<cs.size)/\∀q,q<r.len->∃c,cs[q]? =some c/\(hole=some (q:Int)\/c=(rows.getD q cG).val)
 row:∀q,q<r.len->hole≠some (q:Int)->fp (λ_=>none) w M (rows.getD q cG) 0 (r.row q) []
 M4:∀i,hole=some i->(0<=i/\i<r.len)/\(rows.getD i.toNat cG).aZ=none
 out:∀q b,(rows.getD q cG).aZ=some b->o.aZ≠some b
 apart:∀q q' b,(rows.getD q cG).aZ=some b->(rows.getD q' cG).aZ=some b->q=q'
def xq(w:World)(M:a7)(o:Sl)(n z:Nat):Prop:=
 o.len=n/\o.sz=z/\n<=LB/\
 match o.aZ with
 |none=>n=0/\o.cap=0
 |some b=>o.len<=o.cap/\∃cs ty,w.heap[b]? =some (.cells cs ty (0,0))/\cs.size=o.cap*o.sz/\∀off,M b off↔off<cs.size
def eR(O:Env)(w:World)(M:a7)(k:Nat):dQ->Prop
 |.map kd vk m=>∃b,O k=some (.mp b)/\∃es n,w.heap[b]? =some (.map es n)/\(∀off,M b off↔off=0)/\lH kd vk m es.toList
 |.deep r hole=>∃o rows,O k=some (.dp o rows)/\o4 w M o rows r hole
 |.vec wm r ov=>(∃o,O k=some (.sl o)/\fp O w M o wm r ov)/\(ov=[]\/∃i j,ov=[(i,j)]/\Zy r=true/\wm=0/\0<=i/\i<r.len)
 |.dK n r=>∃o cur,O k=some (.st o cur)/\fp O w M cur 0 r []/\xq w M o n r.sz
 |.mA n z=>∃o,O k=some (.sl o)/\xq w M o n z
 |.box l=>∃b,O k=some (.bx b)/\∃cs ty,w.heap[b]? =some (.cells cs ty (0,0))/\(∀off,M b off↔off<cs.size)/\aM (aJ O w M) l cs.toList
def b6.has:b6->Nat->Prop
 |.sl o,b=>o.aZ=some b|.bx b',b=>b'=b|.mp b',b=>b'=b
 |.dp o rows,b=>o.aZ=some b\/∃q,(rows.getD q cG).aZ=some b
 |.st o cur,b=>o.aZ=some b\/cur.aZ=some b
def hasB(O:Env)(k b:Nat):Prop:=match O k with|some o=>o.has b|none=>False
def kg(w w':World):Prop:=(w'.os=w.os/\w'.output=w.output)/\w'.tape=w.tape/\w.drawn<=w'.drawn
theorem kg.refl(w:World):kg w w:=⟨⟨rfl,rfl⟩,rfl,ajl _⟩
theorem kg.trans{w w' w'':World}(h:kg w w')(h':kg w' w''):kg w w'':=⟨⟨h'.1.1.trans h.1.1,h'.1.2.trans h.1.2⟩,h'.2.1.trans h.2.1,ajW h.2.2 h'.2.2⟩
structure gH(M:a7)(w w':World):Prop where
 size:w.heap.size<=w'.heap.size
 blocks:∀b,b<w.heap.size->w'.heap[b]? =w.heap[b]?\/
  (∃cs cs' ty,w.heap[b]? =some (.cells cs ty (0,0))/\w'.heap[b]? =some (.cells cs' ty (0,0))/\cs'.size=cs.size/\∀off,¬M b off->cs'[off]? =cs[off]?)\/
  ∃es es' n n',w.heap[b]? =some (.map es n)/\w'.heap[b]? =some (.map es' n')/\M b 0
 io:kg w w'
def AQ(w:World):Prop:=∀j,j<Lib.deBruijn64tab.length->w.cell? ⟨0,j,none⟩=some (.int .u8 (Lib.deBruijn64tab.getD j 0))
structure eE(w0:World) where
 mask:a7
 pe:Nat->Prop
 env:Env
 hw:∀w',gH (λb off=>pe b/\mask b off) w0 w'->AQ w'
structure St{w0:World}(M0:eE w0)(O:Env)(M:a7)(S:ak)(w:World):Prop where
 gq:∀k,(O k).isSome=(an S k).isSome
 aZ:∀k B,an S k=some B->eR O w M k B
 inj:∀k k' b,hasB O k b->hasB O k' b->k=k'
 mlt:∀b off,M b off->b<w.heap.size
 lS:gH (λb off=>M0.pe b/\M0.mask b off) w0 w
 sub:∀b off,b<w0.heap.size->M b off->M0.mask b off
 eI:∀b off,b<w0.heap.size->¬M0.pe b->M0.mask b off->M b off
 fresh:∀k b,hasB O k b->w0.heap.size<=b\/M0.pe b
 tV:∀k o,loc k=false->O k=some o->M0.env k=some o.base
theorem St.iv{w0 w:World}{M0:eE w0}{O:Env}{M:a7}{S:ak}(st:St M0 O M S w){k b:Nat}(hb:b<w0.heap.size)(hl:¬M0.pe b):¬hasB O k b:=
 λh=>(st.fresh k b h).elim (λh=>absurd hb (Nat.not_lt_of_le h)) hl
structure Tm(O:Env)(w:World)(M:a7)(T:List AV)(a:Act):Prop where
 defers:a.defers=[]
 size:a.tmps.size=T.length
 tmp:∀i,aC O w M (nth T i) (a.tmps.getD i undef)
def bE(w:World)(M:a7)(w':World)(M':a7):Prop:=
 ∀b off c,w.cell? ⟨b,off,none⟩=some c->¬M b off->w'.cell? ⟨b,off,none⟩=some c/\¬M' b off
section
variable{w w':World}{M M':a7}
theorem bE.refl(w:World)(M:a7):bE w M w M:=λ_ _ _ h h'=>⟨h,h'⟩
theorem kN.keep{n m:Nat}{C C':Nat->Value->Prop}{v:Value}(hk:bE w M w' M')(hC:∀q c,C q c->C' q c)
  (h:kN w M n C m v):kN w' M' n C' m v:=by
 obtain⟨a,cap,rfl,dZ,h⟩:=h;refine⟨a,cap,rfl,dZ,?_⟩;rcases h with h|⟨b,off,rfl,h⟩
 ·exact .inl h
 ·refine .inr ⟨b,off,rfl,λq hq=>?_⟩
  obtain⟨c,h1,h2,h3⟩:=h q hq;obtain⟨h4,h5⟩:=hk _ _ _ h1 h2;exact⟨c,h4,h5,hC _ _ h3⟩
theorem Jc.keep{k:IntKind}{l:List Int}{v:Value}(hk:bE w M w' M')(h:Jc w M k l v):Jc w' M' k l v:=⟨h.1,h.2.keep hk λ_ _ h=>h⟩
theorem Pp.keep{l:List Bool}{v:Value}(hk:bE w M w' M')(h:Pp w M l v):Pp w' M' l v:=⟨h.1,h.2.keep hk λ_ _ h=>h⟩
theorem UN.keep{l:List (Int × Int)}{v:Value}(hk:bE w M w' M')(h:UN w M l v):UN w' M' l v:=⟨h.1,h.2.keep hk λ_ _ h=>h⟩
theorem Ph.keep{k:IntKind}{l:List (List Int)}{v:Value}(hk:bE w M w' M')(h:Ph w M k l v):Ph w' M' k l v:=⟨h.1,h.2.keep hk λ_ _ h=>h.keep hk⟩
theorem ay.keep{r:RO}{q:Nat}{c:Value}(hk:bE w M w' M')(h:ay w M r q c):ay w' M' r q c:=by
 cases r<;>first|exact h|exact Jc.keep hk h|exact Pp.keep hk h|exact Ph.keep hk h|exact UN.keep hk h|exact⟨Jc.keep hk h.1,h.2⟩|skip
 ·simp only [ay]at h ⊢
  split at h
  ·rename_i h0;rw [ajq h0];exact h
  ·rename_i h0
   rw [ajm h0];split at h
   ·rename_i h1;rw [ajq h1];exact Pp.keep hk h
   ·rename_i h1;rw [ajm h1];exact h
theorem bd.keep{r:RO}{v:Value}(hk:bE w M w' M')(h:bd w M r v):bd w' M' r v:=⟨h.1,h.2.keep hk λ_ _ h=>h.keep hk⟩
theorem ba{α β:Type}{x y:Option α}{f:α->Option β}{b:β}(h:∀o,x=some o->y=some o)(hx:x.bind f=some b):y.bind f=some b:=by
 cases x with
 |none=>cases hx
 |some a=>rw [h a rfl];exact hx
theorem aJ.keep{O O':Env}{a:AV}{v:Value}(hk:bE w M w' M')(hρ:∀k o,O k=some o->O' k=some o)(h:aJ O w M a v):aJ O' w' M' a v:=by
 cases a with
 |ro r=>exact bd.keep hk h
 |vec k=>obtain⟨o,h1,h2⟩:=h;exact⟨o,ba (hρ k) h1,h2⟩
 |ptr k off=>exact ba (hρ k) h
 |eZ r i=>obtain⟨b,off,cap,h1,h2⟩:=h;exact⟨b,off,cap,h1.keep hk,h2⟩
 |dY k i=>obtain⟨o,b,h1,h2⟩:=h;exact⟨o,b,ba (hρ k) h1,h2⟩
 |gA k i j=>obtain⟨o,b,h1,h2⟩:=h;exact⟨o,b,ba (hρ k) h1,h2⟩
 |gD k i=>obtain⟨o,h1,h2⟩:=h;exact⟨o,ba (hρ k) h1,h2⟩
 |full r=>exact⟨bd.keep hk h.1,h.2⟩
 |uD f r i=>obtain⟨b,off,cap,h1,h2⟩:=h;exact⟨b,off,cap,h1.keep hk,h2⟩
 |fn f l=>cases l<;>exact h
 |_=>exact h
theorem aM.imp{R R':AV->Value->Prop}(hR:∀a v,R a v->R' a v):∀{l:List AV} {m:List Value},aM R l m->aM R' l m
 |[],[],_=>trivial
 |_::_,_::_,h=>⟨hR _ _ h.1,aM.imp hR h.2⟩
 |[],_::_,h=>h.elim
 |_::_,[],h=>h.elim
theorem aM.length{R:AV->Value->Prop}:∀{l:List AV} {m:List Value},aM R l m->l.length=m.length
 |[],[],_=>rfl
 |_::_,_::_,h=>by simp [aM.length h.2]
 |[],_::_,h=>h.elim
 |_::_,[],h=>h.elim
theorem cx.keep{O O':Env}{a:AV}{v:Value}(hk:bE w M w' M')(hρ:∀k o,O k=some o->O' k=some o)(h:cx O w M a v):cx O' w' M' a v:=by
 cases a with
 |agg l=>obtain⟨cs,h1,h2⟩:=h;exact⟨cs,h1,h2.imp λ_ _=>aJ.keep hk hρ⟩
 |any=>trivial
 |_=>simp only [cx]at h ⊢;exact aJ.keep hk hρ h
theorem aC.keep{O O':Env}{a:AV}{v:Value}(hk:bE w M w' M')(hρ:∀k o,O k=some o->O' k=some o)(h:aC O w M a v):aC O' w' M' a v:=by
 cases a with
 |agg l=>obtain⟨cs,h1,h2⟩:=h;exact⟨cs,h1,h2.imp λ_ _=>aJ.keep hk hρ⟩
 |cL l=>obtain⟨cs,h1,h2⟩:=h;exact⟨cs,h1,h2.imp λ_ _=>cx.keep hk hρ⟩
 |fn f l=>obtain⟨cs,h1,h2⟩:=h;exact⟨cs,h1,h2.imp λ_ _=>aJ.keep hk hρ⟩
 |any=>trivial
 |_=>simp only [aC]at h ⊢;exact aJ.keep hk hρ h
theorem cell_of_heap{b:Nat}{cs:Array Value}{ty:TypeId}{fz:Nat × Nat}(h:w.heap[b]? =some (.cells cs ty fz))(off:Nat):w.cell? ⟨b,off,none⟩=cs[off]? :=by
 simp [World.cell?,h]
theorem Kz{b:Nat}(h:w.heap.size<=b)(off:Nat):w.cell? ⟨b,off,none⟩=none:=by
 simp [World.cell?,Array.getElem?_eq_none h]
theorem n6{b off:Nat}{c:Value}(h:w.cell? ⟨b,off,none⟩=some c):b<w.heap.size:=by
 rcases ajF b w.heap.size with h'|h'
 ·exact h'
 ·rw [Kz h']at h;cases h
theorem gH.weaken{M1 M2:a7}(h:gH M1 w w')(hm:∀b off,M1 b off->M2 b off):gH M2 w w':=
 ⟨h.1,λb hb=>(h.2 b hb).imp id λhh=>hh.imp (λ⟨c1,c2,t,h1,h2,h3,h4⟩=>⟨c1,c2,t,h1,h2,h3,λoff hn=>h4 off λhh=>hn (hm b off hh)⟩) (λ⟨e1,e2,n1,n2,h1,h2,h3⟩=>⟨e1,e2,n1,n2,h1,h2,hm b 0 h3⟩),h.3⟩
theorem gH.refl(M:a7)(w:World):gH M w w:=⟨ajl _,λ_ _=>.inl rfl,kg.refl _⟩
theorem gH.cell(h:gH M w w'){b off:Nat}{c:Value}(hc:w.cell? ⟨b,off,none⟩=some c)(hm:¬M b off):w'.cell? ⟨b,off,none⟩=some c:=by
 rcases h.2 b (n6 hc)with h1|⟨cs,cs',ty,h1,h2,_,h3⟩|⟨es,es',n,n',h1,h2,h3⟩
 ·simpa [World.cell?,h1]using hc
 ·rw [cell_of_heap h1]at hc;rw [cell_of_heap h2,h3 off hm,hc]
 ·simp [World.cell?,h1]at hc
theorem gH.keep(h:gH M w w')(hm:∀b off,b<w.heap.size->M' b off->M b off):bE w M w' M':=
 λb off _ hc hn=>⟨h.cell hc hn,λhM=>hn (hm b off (n6 hc) hM)⟩
theorem gH.trans{w'':World}(h:gH M w w')(h':gH M' w' w'')(hm:∀b off,b<w.heap.size->M' b off->M b off):gH M w w'':=by
 refine⟨ajW h.1 h'.1,λb hb=>?_,h.3.trans h'.3⟩;have cy:b<w'.heap.size:=ajT hb h.1;rcases h.2 b hb with h1|⟨cs,cs',ty,h1,h2,h3,h4⟩|⟨es,es',n,n',h1,h2,h3⟩
 ·rcases h'.2 b cy with h5|⟨ds,ds',ty,h5,h6,h7,h8⟩|⟨ds,ds',m,m',h5,h6,h7⟩
  ·exact .inl (h5.trans h1)
  ·exact .inr (.inl ⟨ds,ds',ty,h1▸h5,h6,h7,λoff hn=>h8 off λhM=>hn (hm b off hb hM)⟩)
  ·exact .inr (.inr ⟨ds,ds',m,m',h1▸h5,h6,hm b 0 hb h7⟩)
 ·rcases h'.2 b cy with h5|⟨ds,ds',ty',h5,h6,h7,h8⟩|⟨ds,ds',m,m',h5,h6,h7⟩
  ·exact .inr (.inl ⟨cs,cs',ty,h1,h5.trans h2,h3,h4⟩)
  ·rw [h2]at h5
   cases h5;exact .inr (.inl ⟨cs,ds',ty,h1,h6,h7.trans h3,λoff hn=>(h8 off λhM=>hn (hm b off hb hM)).trans (h4 off hn)⟩)
  ·rw [h2]at h5;cases h5
 ·rcases h'.2 b cy with h5|⟨ds,ds',ty',h5,h6,h7,h8⟩|⟨ds,ds',m,m',h5,h6,h7⟩
  ·exact .inr (.inr ⟨es,es',n,n',h1,h5.trans h2,h3⟩)
  ·rw [h2]at h5;cases h5
  ·exact .inr (.inr ⟨es,ds',n,m',h1,h6,h3⟩)
theorem gH.heap(M:a7){w w':World}(h:w'.heap=w.heap)(oK:kg w w':=by exact kg.refl _):gH M w w':=⟨by rw [h];exact ajl _,λb _=>.inl (by rw [h]),oK⟩
theorem gH.alloc(M:a7)(w:World)(o:Obj):gH M w { w with heap:=w.heap.push o }:=
 ⟨by simp,λb hb=>.inl (by simp [Array.getElem?_push,Nat.ne_of_lt hb]),kg.refl _⟩
theorem fp.Je{O O':Env}{o:Sl}{wm:Nat}{r:RO}(hk:bE w M w' M')(hb:∀b,o.aZ=some b->w'.heap[b]? =w.heap[b]?/\∀off,M' b off↔M b off)(h:fp O w M o wm r []):fp O' w' M' o wm r []:=by
 obtain⟨h1,h2,h3,h4,h5⟩:=h;refine⟨h1,h2,h3,h4,?_⟩;cases ho:o.aZ with
 |none=>simp only [ho]at h5 ⊢;exact h5
 |some b=>
  simp only [ho]at h5 ⊢;obtain⟨h6,cs,ty,h7,h8,h9,cA⟩:=h5;have:=hb b ho;refine⟨h6,cs,ty,by rw [this.1];exact h7,h8,λoff=>(this.2 off).trans (h9 off),λq hq=>?_⟩;obtain⟨c,lP,oP⟩:=cA q hq;exact⟨c,lP,oP.keep hk⟩
theorem xq.ext{o:Sl}{n z:Nat}(hb:∀b,o.aZ=some b->w'.heap[b]? =w.heap[b]?/\∀off,M' b off↔M b off)(h:xq w M o n z):xq w' M' o n z:=by
 obtain⟨h1,h2,h3,h5⟩:=h;refine⟨h1,h2,h3,?_⟩;cases ho:o.aZ with
 |none=>simp only [ho]at h5 ⊢;exact h5
 |some b=>
  simp only [ho]at h5 ⊢;obtain⟨h6,cs,ty,h7,h8,h9⟩:=h5;have:=hb b ho;exact⟨h6,cs,ty,by rw [this.1];exact h7,h8,λoff=>(this.2 off).trans (h9 off)⟩
theorem xq.cells{o:Sl}{n z:Nat}(h:xq w M o n z){b:Nat}(hb:o.aZ=some b):∃cs ty,w.heap[b]? =some (.cells cs ty (0,0)):=by
 obtain⟨_,_,_,h5⟩:=h;simp only [hb]at h5;obtain⟨_,cs,ty,h7,_⟩:=h5;exact⟨cs,ty,h7⟩
theorem fp.cells{O:Env}{o:Sl}{wm:Nat}{r:RO}{ov:List (Int × Nat)}(h:fp O w M o wm r ov){b:Nat}(hb:o.aZ=some b):∃cs ty,w.heap[b]? =some (.cells cs ty (0,0)):=by
 obtain⟨_,_,_,_,h5⟩:=h;simp only [hb]at h5;obtain⟨_,cs,ty,h7,_⟩:=h5;exact⟨cs,ty,h7⟩
theorem fp.mA{O:Env}{o:Sl}{r:RO}(h:fp O w M o 0 r []):xq w M o r.len r.sz:=by
 obtain⟨h1,h2,h3,_,h5⟩:=h;refine⟨h1,h2,h3,?_⟩;cases ho:o.aZ with
 |none=>simp only [ho]at h5 ⊢;exact h5
 |some b=>
  simp only [ho]at h5 ⊢;obtain⟨h6,cs,ty,h7,h8,h9,_⟩:=h5;exact⟨h6,cs,ty,h7,h8,λoff=>(h9 off).trans (by simp)⟩
theorem o4.ext{o:Sl}{rows:List Sl}{r:RO}{hole:Option Int}(hk:bE w M w' M')(hb:∀b,(b6.dp o rows).has b->w'.heap[b]? =w.heap[b]?/\∀off,M' b off↔M b off)(h:o4 w M o rows r hole):o4 w' M' o rows r hole:=by
 refine⟨h.rq,h.len,h.Pd,h.lb,h.Gx,?_,λq hq hh=>(h.row q hq hh).Je hk λb cy=>hb b (.inr ⟨q,cy⟩),h.M4,h.out,h.apart⟩;have h5:=h.outer;cases ho:o.aZ with
 |none=>simp only [ho]at h5 ⊢;exact h5
 |some b=>
  simp only [ho]at h5 ⊢;obtain⟨h6,cs,ty,h7,h8,h9,cA⟩:=h5;have:=hb b (.inl ho);exact⟨h6,cs,ty,by rw [this.1];exact h7,h8,λoff=>(this.2 off).trans (h9 off),cA⟩
theorem o4.in{o:Sl}{rows:List Sl}{r:RO}{hole:Option Int}(h:o4 w M o rows r hole){q b:Nat}(hb:(rows.getD q cG).aZ=some b):q<r.len/\hole≠some (q:Int):=by
 have h1:q<r.len:=by
  rcases ajF q r.len with h'|h'
  ·exact h'
  ·have h2:rows[q]? =none:=aj0 (by rw [h.Gx];exact h')
   rw [List.getD,h2]at hb;cases hb
 exact⟨h1,λhh=>by have:=(h.M4 _ hh).2;rw [ajr,hb]at this;cases this⟩
theorem o4.cells{o:Sl}{rows:List Sl}{r:RO}{hole:Option Int}(h:o4 w M o rows r hole){b:Nat}(hb:(b6.dp o rows).has b):∃cs ty,w.heap[b]? =some (.cells cs ty (0,0)):=by
 rcases hb with hb|⟨q,hb⟩
 ·have h5:=h.outer
  simp only [hb]at h5;obtain⟨_,cs,ty,h7,_⟩:=h5;exact⟨cs,ty,h7⟩
 ·obtain⟨h1,h2⟩:=h.in hb
  obtain⟨_,_,_,_,h5⟩:=h.row q h1 h2;simp only [hb]at h5;obtain⟨_,cs,ty,h7,_⟩:=h5;exact⟨cs,ty,h7⟩
end
theorem aq{b:Bool}{p:Prop}:bL b p↔b=true/\p:=by cases b<;>simp [bL]
theorem b8{k k':IntKind}(h:kq k k'=true):k=k':=by cases k<;>cases k'<;>simp_all [kq]
theorem gO{a:AV}{K:AV->Prop}:kS a K↔K a:=by
 cases a<;>first|exact Iff.rfl|(rename_i e;cases e<;>exact Iff.rfl)
def aT(T:List AV):Operand->AV
 |.tmp t=>nth T t|.const v=>BD v|.func f=>.fn f []|.global _=>.any
theorem aD{T:List AV}{x:Operand}{K:AV->Prop}:bk T x K↔K (aT T x):=by
 cases x<;>simp [bk,aT,gO]
theorem dA{T:List AV}:∀{l:List Operand} {K:List AV->Prop},gU T l K↔K (l.map (aT T))
 |[],_=>Iff.rfl
 |x::l,K=>by simp [gU,aD,dA]
theorem bV{r:RO}{K:Nat->Prop}:jO r K↔K r.len:=by cases r<;>exact Iff.rfl
theorem Et:∀{n:Nat} {k:IntKind} {m:List Int} {j:Nat} {K:List AV->Prop},VJ n k m j K↔K (R8 n k m j)
 |0,_,_,_,_=>Iff.rfl
 |n+1,k,m,j,_=>Et (n:=n) (k:=k) (m:=m) (j:=j+1)
theorem uZ{r:RO}{i:Int}{K:AV->Prop}:Kw r i K↔K (r.get i.toNat):=by cases r<;>first|exact Iff.rfl|exact Et|(simp only [Kw,RO.get];split<;>simp_all)
theorem BK:∀{n j:Nat} {i:Int} {K:Nat->Prop},Sb n j i K->(j:Int)<=i->i<((j+n:Nat):Int)->K i.toNat
 |0,j,i,K,_,h1,h2=>by omega
 |n+1,j,i,K,h,h1,h2=>by
  by_cases e:i=(j:Int)
  ·have:=h.1 e
   rw [e];exact this
  ·exact BK h.2 aa aa
theorem zG{k:IntKind}:∀{l:List AV} {K:List Int->Prop},xp k l K->∃m,K m/\l=m.map (AV.int k)
 |[],K,h=>⟨[],h,rfl⟩
 |a::l,K,h=>by
  cases a<;>try exact h.elim
  rename_i k' n;simp only [xp,aq]at h;obtain⟨h1,h2⟩:=h;obtain rfl:=b8 h1;obtain⟨m,h3,rfl⟩:=zG h2;exact⟨n::m,h3,rfl⟩
theorem sq{e:BE}{K:Bool->Prop}(h:mo e K):K e.val:=by
 cases e with
 |lit b=>cases b<;>exact h
 |v b=>cases b<;>simp_all [mo,BE.val]
 |lt x y=>simp only [mo,BE.val]at*;by_cases hx:x<y<;>simp [hx];exact h.1 hx;exact h.2 aa
 |le x y=>simp only [mo,BE.val]at*;by_cases hx:x<=y<;>simp [hx];exact h.1 hx;exact h.2 aa
 |eq x y=>simp only [mo,BE.val]at*;by_cases hx:x=y<;>simp [hx];exact h.1 hx;exact h.2 hx
 |ne x y=>simp only [mo,BE.val]at*;by_cases hx:x=y<;>simp [hx];exact h.2 hx;exact h.1 hx
theorem R5{e:BE}{K:BE->Prop}(h:Yy e K):∃e',K e'/\e'.val= !e.val:=by
 cases e with
 |lit b=>cases b<;>exact⟨_,h,rfl⟩
 |v b=>exact⟨_,h,rfl⟩
 |lt x y=>exact⟨_,h,by simp [BE.val];rw [<-decide_not];congr 1;simp⟩
 |le x y=>exact⟨_,h,by simp [BE.val];rw [<-decide_not];congr 1;simp⟩
 |eq x y=>exact⟨_,h,by simp [BE.val]⟩
 |ne x y=>exact⟨_,h,by simp [BE.val]⟩
theorem dU{a:AV}{K:Int->Prop}(h:kJ a K):∃k n,a= .int k n/\K n:=by
 cases a<;>first|exact⟨_,_,rfl,h⟩|exact h.elim
theorem jN{k:IntKind}{n:Int}{K:Prop}:sV k n K↔eO k n/\K:=by cases k<;>exact Iff.rfl
theorem rK{b:Nat}{n:Int}{K:Prop}(h:GA b n K)(h0:0<=n):n*(b:Int)<=140737488355328/\n<=17592186044416/\K:=by
 unfold GA at h;cases hb:Nat.ble b 8 with
 |true=>
  simp only [hb]at h;rw [Nat.ble_eq]at hb;have h1:n*(b:Int)<=n*8:=Int.mul_le_mul_of_nonneg_left aa h0;exact⟨aa,h.1,h.2⟩
 |false=>
  simp only [hb,aq]at h;obtain⟨h2,h3,h4⟩:=h;rw [Nat.ble_eq]at h2;have h1:n*(b:Int)<=n*64:=Int.mul_le_mul_of_nonneg_left aa h0;exact⟨aa,aa,h4⟩
theorem cH{α:Type}:∀{l:List α} {x:α} {K:List α->Prop},iF l x K↔K (l++[x])
 |[],_,_=>Iff.rfl
 |_::l,_,_=>cH (l:=l)
theorem sr{d:Option Nat}{K:Nat->Prop}:dN d K↔K (d.getD 999):=by cases d<;>exact Iff.rfl
theorem rB{k:IntKind}{n:Int}(h:eO k n):k.wrap n=n:=by
 unfold eO at h;cases k<;>simp [IntKind.wrap,IntKind.min,IntKind.max,IntKind.bits,IntKind.signed]at* <;>omega
theorem mb(k:IntKind)(n:Int):eO k (k.wrap n):=by
 unfold eO;cases k<;>simp [IntKind.wrap,IntKind.min,IntKind.max,IntKind.bits,IntKind.signed]at* <;>(try split)<;>omega
theorem GD{n:Int}(h1: -9223372036854775808<=n)(h2:n<=9223372036854775807):eO .i64 n:=⟨h1,h2⟩
theorem kA(k:IntKind):eO k 0:=by cases k<;>simp [eO,IntKind.min,IntKind.max,IntKind.bits,IntKind.signed]
theorem OP{k:IntKind}{n:Int}(h1:0<=n)(h2:n<=127):eO k n:=by
 cases k<;>simp [eO,IntKind.min,IntKind.max,IntKind.bits,IntKind.signed]<;>omega
theorem wN{k:IntKind}{n:Int}(h:yd k n=true):eO k n:=by
 cases n with
 |ofNat m=>
  have hm:(0:Int)<=Int.ofNat m:=aku m
  cases k<;>simp only [yd,Nat.ble_eq]at h<;>
   first
    |exact OP hm (by simp;omega)
    |(simp [eO,IntKind.min,IntKind.max,IntKind.bits,IntKind.signed];omega)
 |negSucc m=>
  cases k<;>simp only [yd,Nat.ble_eq]at h<;>
   first
    |(simp at h;done)
    |(simp [eO,IntKind.min,IntKind.max,IntKind.bits,IntKind.signed];omega)
theorem IG:∀(l:List AV) (i:Nat),i<l.length->l[i]? =some (nth l i)
 |[],_,h=>by simp at h
 |_::_,0,_=>rfl
 |_::l,i+1,h=>by simpa [nth]using IG l i (by simpa using h)
theorem AD:∀(l:List AV) (i:Nat),l.length<=i->nth l i= .any
 |[],_,_=>rfl
 |_::_,0,h=>by simp at h
 |_::l,i+1,h=>AD l i (by simpa using h)
theorem fZ:∀{T:List AV} {d:Nat} {v:AV} {K:List AV->Prop},xo T d v K↔K (T.set d v)
 |[],_,_,_=>by simp [xo]
 |_::_,0,_,_=>Iff.rfl
 |_::l,d+1,v,K=>by simp [xo,fZ (T:=l)]
theorem iZ:∀(T:List AV) (d i:Nat) (v:AV),nth (T.set d v) i=if i=d/\d<T.length then v else nth T i
 |[],_,_,_=>by simp [nth]
 |_::_,0,0,_=>by simp [nth]
 |_::_,0,i+1,_=>by simp [nth]
 |_::_,d+1,0,_=>by simp [nth]
 |_::l,d+1,i+1,v=>by simp [nth,iZ l d i v]
theorem dD:∀{l:List AV} {n:Nat},df l n=true->l.length=n
 |[],0,_=>rfl
 |_::l,n+1,h=>by simp [dD (l:=l) (n:=n) h]
 |[],_+1,h=>by cases h
 |_::_,0,h=>by cases h
theorem sj:∀{l:List Operand} {n:Nat},rL l n=true->l.length=n
 |[],0,_=>rfl
 |_::l,n+1,h=>by simp [sj (l:=l) (n:=n) h]
 |[],_+1,h=>by cases h
 |_::_,0,h=>by cases h
theorem Em:∀{l:List AV} {n:Nat} {K:List AV->Prop},El l n K->n<=l.length/\K (l.take n)
 |[],0,_,h=>⟨ajl _,h⟩
 |_::_,0,_,h=>⟨ajk _,h⟩
 |[],_+1,_,h=>h.elim
 |_::l,n+1,_,h=>by have:=Em (l:=l) (n:=n) h;exact⟨by simpa using this.1,this.2⟩
theorem rH:∀{l:List AV} {n:Nat} {K:List AV->Prop},tD l n K->n<=l.length/\K (l.drop n)
 |[],0,_,h=>⟨ajl _,h⟩
 |_::_,0,_,h=>⟨ajk _,h⟩
 |[],_+1,_,h=>h.elim
 |_::l,n+1,_,h=>by have:=rH (l:=l) (n:=n) h;exact⟨by simpa using this.1,this.2⟩
theorem Eu:∀{l m:List AV} {K:List AV->Prop},OH l m K->m.length<=l.length/\K (m++l.drop m.length)
 |l,[],_,h=>⟨ajk _,by simpa using (show _ from(by cases l<;>exact h))⟩
 |[],_::_,_,h=>h.elim
 |_::l,b::m,_,h=>by
  have:=Eu (l:=l) (m:=m) h;exact⟨by simpa using this.1,by simpa using this.2⟩
theorem pP:∀{l:List AV} {n:Nat} {m:List AV} {K:List AV->Prop},mn l n m K->n+m.length<=l.length/\K (l.take n++(m++l.drop (n+m.length)))
 |l,0,m,_,h=>by
  have:=Eu (l:=l) (m:=m) (by cases l<;>exact h);exact⟨by simpa using this.1,by simpa using this.2⟩
 |[],_+1,_,_,h=>h.elim
 |a::l,n+1,m,_,h=>by
  have:=pP (l:=l) (n:=n) (m:=m) h;refine⟨by simp;omega,?_⟩;have h2:=this.2;rw [show n+1+m.length=(n+m.length)+1 from by omega]
  simpa using h2
theorem aA {a b:Nat}:Nat.beq a b=true↔a=b:=⟨Nat.eq_of_beq_eq_true,λh=>by subst h;exact Nat.beq_refl a⟩
theorem beq_false{a b:Nat}(h:Nat.beq a b=false):a≠b:=λe=>by rw [aA.2 e]at h;cases h
theorem aF{j k:Nat}{b:dQ}{S:ak}:an ((j,b)::S) k=if j=k then some b else an S k:=by
 simp only [an];cases h:Nat.beq j k with
 |true=>simp [aA.1 h]
 |false=>simp [beq_false h]
theorem cO:∀{S:ak} {k:Nat} {c:dQ} {K:ak->Prop},kL S k c K->∃S',K S'/\∀j,an S' j=if j=k then (an S k).map λ_=>c else an S j
 |[],_,_,_,h=>⟨[],h,λj=>by simp [an]⟩
 |(i,b)::S,k,c,K,h=>by
  simp only [kL]at h;cases hb:Nat.beq i k with
  |true=>
   have yG:=aA.1 hb;subst yG;simp only [hb]at h;refine⟨_,h,λj=>?_⟩
   by_cases hj:j=i
   ·subst hj;simp [aF]
   ·simp [aF,hj,Ne.symm hj]
  |false=>
   have yG:=beq_false hb;simp only [hb]at h;obtain⟨S',h1,h2⟩:=cO (K:=λS'=>K ((i,b)::S')) h;refine⟨_,h1,λj=>?_⟩
   by_cases hj:j=k
   ·subst hj;simp [aF,yG,h2]
   ·by_cases mR:i=j
    ·subst mR;simp [aF,hj]
    ·simp [aF,mR,hj,h2]
theorem gK:∀{S:ak} {k:Nat} {K:ak->Prop},lh S k K->∃S',K S'/\∀j,an S' j=if j=k then none else an S j
 |[],_,_,h=>⟨[],h,λj=>by simp [an]⟩
 |(i,b)::S,k,K,h=>by
  simp only [lh]at h;cases hb:Nat.beq i k with
  |true=>
   have yG:=aA.1 hb;subst yG;simp only [hb]at h;obtain⟨S',h1,h2⟩:=gK (K:=K) h;refine⟨_,h1,λj=>?_⟩
   by_cases hj:j=i
   ·simp [hj,h2]
   ·simp [aF,hj,Ne.symm hj,h2]
  |false=>
   have yG:=beq_false hb;simp only [hb]at h;obtain⟨S',h1,h2⟩:=gK (K:=λS'=>K ((i,b)::S')) h;refine⟨_,h1,λj=>?_⟩
   by_cases hj:j=k
   ·subst hj;simp [aF,yG,h2]
   ·by_cases mR:i=j
    ·subst mR;simp [aF,hj]
    ·simp [aF,mR,hj,h2]
section
variable{w:World}{M:a7}{O:Env}
theorem kN.aO{n m:Nat}{C:Nat->Value->Prop}{v:Value}(h:kN w M n C m v):aO v:=by
 obtain⟨a,cap,rfl,_⟩:=h;trivial
theorem ay.aO{r:RO}{q:Nat}{c:Value}(h:ay w M r q c):aO c:=by
 cases r with
 |ints k l=>rw [h.1];trivial
 |aI l=>rw [show c=_ from h];trivial
 |rows k l=>exact kN.aO h.2
 |bC l=>exact kN.aO h.2
 |bH l=>exact kN.aO h.2
 |aW l=>simp only [ay]at h;split at h<;>(rw [h.1];trivial)
 |fb n k l=>rw [h.1];trivial
 |cY k l=>exact kN.aO h.1.2
 |cN l=>exact kN.aO h.2
 |strs l=>rw [h.1];trivial
 |ec l=>
  simp only [ay]at h;split at h
  ·rw [h.1];trivial
  ·split at h
   ·exact kN.aO h.2
   ·rw [h.1];trivial
 |dS l=>simp only [ay]at h;split at h<;>(rw [h.1];trivial)
theorem aJ.aO{a:AV}{v:Value}(h:aJ O w M a v):aO v:=by
 cases a with
 |int k n=>rw [h.1];trivial
 |bool e=>rw [show v=_ from h];trivial
 |ro r=>exact kN.aO h.2
 |vec k=>obtain⟨o,_,rfl⟩:=h;trivial
 |ptr k off=>obtain⟨b,⟨_,rfl⟩|⟨_,rfl⟩⟩:=vX h<;>trivial
 |eZ r i=>obtain⟨b,off,cap,_,_,_,rfl⟩:=h;trivial
 |uD f r i=>obtain⟨b,off,cap,_,_,_,rfl⟩:=h;trivial
 |dY k i=>obtain⟨o,b,_,_,_,_,rfl⟩:=h;trivial
 |gA k i j=>obtain⟨o,b,_,_,_,_,rfl⟩:=h;trivial
 |gD k i=>obtain⟨o,_,_,_,rfl⟩:=h;trivial
 |ar=>rw [show v=_ from h];trivial
 |bO=>rw [show v=_ from h];trivial
 |may b n=>obtain⟨x,rfl,_⟩:=h;trivial
 |full r=>exact kN.aO h.1.2
 |str l=>rw [h.1];trivial
 |any=>exact h
 |fn f l=>cases l with
  |nil=>rw [show v=_ from h];trivial
  |cons=>exact h.elim
 |_=>exact h.elim
theorem AP(r:RO):(Zx r).len=r.len:=by cases r<;>rfl
theorem Ta(r:RO):(Zx r).sz=r.sz:=by cases r<;>rfl
theorem QD{r:RO}{q:Nat}{c:Value}(h:ay w M r q c):ay w M (Zx r) q c:=by cases r<;>first|exact h|exact h.1
theorem RO.e9(r:RO):0<r.sz:=by cases r<;>simp [RO.sz]
theorem iw{k:IntKind}{l:List Int}{v:Value}:bd w M (.ints k l) v↔Jc w M k l v:=by
 unfold bd Jc;simp only [RO.cells,RO.len,RO.sz,ajV];exact Iff.rfl
theorem gV{l:List Bool}{v:Value}:bd w M (.aI l) v↔Pp w M l v:=by
 unfold bd Pp;simp only [RO.cells,RO.len,RO.sz,ajV];exact Iff.rfl
theorem jB{k:IntKind}{l:List (List Int)}{v:Value}:bd w M (.rows k l) v↔Ph w M k l v:=by
 unfold bd Ph;simp only [RO.cells,RO.len,RO.sz,ajV];exact Iff.rfl
theorem zH{l:List (Int × Int)}{v:Value}:bd w M (.aW l) v↔UN w M l v:=Iff.rfl
theorem Ix{r:RO}{i:Nat}{c:Value}(hs:r.sz=1)(h:ay w M r i c)(hl:i<r.len):aC O w M (r.get i) c:=by
 cases r with
 |ints k l=>exact h
 |aI l=>exact h
 |rows k l=>exact iw.2 h
 |bC l=>exact gV.2 h
 |bH l=>exact jB.2 h
 |aW l=>simp [RO.sz]at hs
 |dS l=>simp [RO.sz]at hs
 |ec l=>simp [RO.sz]at hs
 |strs l=>exact h
 |fb n k l=>simp [RO.sz]at hs
 |cN l=>exact zH.2 h
 |cY k l=>
  simp only [RO.get];split
  ·rename_i he;exact h.2 he
  ·exact iw.2 h.1
theorem RX{l:List (Int × Int)}{i:Nat}{c d:Value}(h:ay w M (.aW l) (i*2) c)(h':ay w M (.aW l) (i*2+1) d):
  aC O w M ((RO.aW l).get i) (.agg #[c,d]):=by
 simp only [ay,Nat.mul_mod_left,if_true,Nat.mul_div_cancel _ (ako 1),show(i*2+1) % 2=1 from by omega,show(i*2+1) / 2=i from by omega,Nat.one_ne_zero,if_false]at h h';exact⟨_,rfl,h,h',ag⟩
theorem RZ{l:List (List Int × List Int)}{i:Nat}{c d:Value}(h:ay w M (.dS l) (i*2) c)(h':ay w M (.dS l) (i*2+1) d):
  aC O w M ((RO.dS l).get i) (.agg #[c,d]):=by
 simp only [ay,Nat.mul_mod_left,if_true,Nat.mul_div_cancel _ (ako 1),show(i*2+1) % 2=1 from by omega,show(i*2+1) / 2=i from by omega,Nat.one_ne_zero,if_false]at h h';exact⟨_,rfl,h,h',ag⟩
theorem RY{l:List (Int × List Bool × Int)}{i:Nat}{c d e:Value}(h0:ay w M (.ec l) (i*3) c)(h1:ay w M (.ec l) (i*3+1) d)(h2:ay w M (.ec l) (i*3+2) e):
  aC O w M ((RO.ec l).get i) (.agg #[c,d,e]):=by
 simp only [ay]at h0 h1 h2;rw [ajq aa,show i*3 / 3=i from by omega]at h0;rw [ajm aa,ajq aa,show(i*3+1) / 3=i from by omega]at h1;rw [ajm aa,ajm aa,show(i*3+2) / 3=i from by omega]at h2;exact⟨_,rfl,h0,gV.2 h1,h2,ag⟩
theorem Ew{R:AV->Value->Prop}{k:IntKind}{m:List Int}:∀{n j:Nat} {cs:List Value},cs.length=n->(∀q c,cs[q]? =some c->R (.int k (m.getD (j+q) 0)) c)->aM R (R8 n k m j) cs
 |0,_,[],_,_=>trivial
 |n+1,j,c::cs,hl,h=>⟨h 0 c rfl,Ew (by simpa using hl) λq d hq=>by
   have:=h (q+1) d (by simpa using hq)
   rwa [show j+(q+1)=j+1+q from by omega]at this⟩
 |0,_,_::_,hl,_=>by simp at hl
 |_+1,_,[],hl,_=>by simp at hl
theorem R0{n:Nat}{k:IntKind}{l:List (List Int)}{i:Nat}{cs:List Value}(hl:cs.length=n+2)(h:∀q c,cs[q]? =some c->ay w M (.fb n k l) (i*(n+2)+q) c):
  aC O w M ((RO.fb n k l).get i) (.agg cs.toArray):=by
 refine⟨_,rfl,Ew hl λq c hq=>?_⟩
 have K5:q<n+2:=by
  rw [<-hl];rcases ajF q cs.length with h'|h'
  ·exact h'
  ·rw [aj0 h']at hq;cases hq
 have:=h q c hq;simp only [ay]at this;rw [show(i*(n+2)+q) / (n+2)=i from by rw [aki,Nat.mul_add_div (ako _),Nat.div_eq_of_lt K5,akb],show(i*(n+2)+q) % (n+2)=q from by rw [aki,Nat.mul_add_mod,Nat.mod_eq_of_lt K5]]at this;rw [ajQ];exact this
theorem bc{α:Type}(l:List α)(i j:Nat)(a d:α)(h:i<l.length):(l.set i a).getD j d=if j=i then a else l.getD j d:=by
 by_cases hj:j=i
 ·subst hj;simp [List.getD,h]
 ·simp [List.getD,hj,List.getElem?_set_ne (Ne.symm hj)]
theorem KA{r:RO}{i:Int}{v:AV}{K:RO->Prop}(h:R9 r i v K)(hi:i.toNat<r.len):
  ∃r',K r'/\r'.len=r.len/\r'.sz=r.sz/\∀(O:Env) (w:World) (M:a7) (u:Value),aC O w M v u->u.cells.size=r.sz/\
   (∀j c,u.cells[j]? =some c->Go.AM.aO c/\ay w M r' (i.toNat*r.sz+j) c)/\∀q c,q / r.sz≠i.toNat->ay w M r q c->ay w M r' q c:=by
 cases r with
 |ints k l=>
  cases v<;>try exact h.elim
  rename_i k' n;simp only [R9,aq]at h;obtain⟨hk,h⟩:=h;obtain rfl:=b8 hk;refine⟨_,h,by simp [RO.len],rfl,λO w M u hu=>?_⟩;obtain⟨rfl,hr⟩:=hu;refine⟨rfl,λj c hj=>?_,λq c hq hc=>?_⟩
  ·have EW:j=0:=by rcases j with _|j;rfl;simp [Value.cells]at hj
   subst EW;simp [Value.cells]at hj;subst hj;simp only [RO.len]at hi;refine⟨ag,?_⟩;simp only [ay,RO.sz,ajV,akb,bc _ _ _ _ _ hi,if_true];exact⟨ag,hr⟩
  ·simp only [RO.sz,Nat.div_one]at hq
   simp only [ay,bc _ _ _ _ _ hi,hq,if_false]at hc ⊢;exact hc
 |aI l=>
  cases v<;>try exact h.elim
  rename_i e;have h':K (.aI (l.set i.toNat e.val)):=by cases e<;>exact h
  refine⟨_,h',by simp [RO.len],rfl,λO w M u hu=>?_⟩;have AK:u= .bool e.val:=hu;subst AK;refine⟨rfl,λj c hj=>?_,λq c hq hc=>?_⟩
  ·have EW:j=0:=by rcases j with _|j;rfl;simp [Value.cells]at hj
   subst EW;simp [Value.cells]at hj;subst hj;refine⟨ag,?_⟩;simp only [ay,RO.sz,ajV,akb,bc _ _ _ _ _ hi,if_true]
  ·simp only [RO.sz,Nat.div_one]at hq
   simp only [ay,bc _ _ _ _ _ hi,hq,if_false]at hc ⊢;exact hc
 |rows k l=>
  have main:∀(m:List Int),K (.rows k (l.set i.toNat m))->(∀(O:Env) (w:World) (M:a7) (u:Value),aC O w M v u->Jc w M k m u)->
    ∃r',K r'/\r'.len=(RO.rows k l).len/\r'.sz=(RO.rows k l).sz/\∀(O:Env) (w:World) (M:a7) (u:Value),aC O w M v u->u.cells.size=(RO.rows k l).sz/\
     (∀j c,u.cells[j]? =some c->Go.AM.aO c/\ay w M r' (i.toNat*(RO.rows k l).sz+j) c)/\∀q c,q / (RO.rows k l).sz≠i.toNat->ay w M (.rows k l) q c->ay w M r' q c:=by
   intro m hK hm;refine⟨_,hK,by simp [RO.len],rfl,λO w M u hu=>?_⟩;have hs:=hm O w M u hu;have xU:=hs;obtain⟨_,a,cap,rfl,_⟩:=hs;refine⟨rfl,λj c hj=>?_,λq c hq hc=>?_⟩
   ·have EW:j=0:=by rcases j with _|j;rfl;simp [Value.cells]at hj
    subst EW;simp [Value.cells]at hj;subst hj;refine⟨ag,?_⟩;simp only [ay,RO.sz,ajV,akb,bc _ _ _ _ _ hi,if_true];exact xU
   ·simp only [RO.sz,Nat.div_one]at hq
    simp only [ay,bc _ _ _ _ _ hi,hq,if_false]at hc ⊢;exact hc
  cases v<;>try exact h.elim
  ·rename_i s
   cases s<;>try exact h.elim
   rename_i k' m;simp only [R9,aq]at h;obtain⟨hk,h⟩:=h;obtain rfl:=b8 hk;exact main m h λO w M u hu=>iw.1 hu
  ·exact main [] h λO w M u hu=>⟨ajk _,⟨none,0,hu,ajl _,.inl rfl⟩⟩
 |bC l=>
  have main:∀(m:List Bool),K (.bC (l.set i.toNat m))->(∀(O:Env) (w:World) (M:a7) (u:Value),aC O w M v u->Pp w M m u)->
    ∃r',K r'/\r'.len=(RO.bC l).len/\r'.sz=(RO.bC l).sz/\∀(O:Env) (w:World) (M:a7) (u:Value),aC O w M v u->u.cells.size=(RO.bC l).sz/\
     (∀j c,u.cells[j]? =some c->Go.AM.aO c/\ay w M r' (i.toNat*(RO.bC l).sz+j) c)/\∀q c,q / (RO.bC l).sz≠i.toNat->ay w M (.bC l) q c->ay w M r' q c:=by
   intro m hK hm;refine⟨_,hK,by simp [RO.len],rfl,λO w M u hu=>?_⟩;have hs:=hm O w M u hu;have xU:=hs;obtain⟨_,a,cap,rfl,_⟩:=hs;refine⟨rfl,λj c hj=>?_,λq c hq hc=>?_⟩
   ·have EW:j=0:=by rcases j with _|j;rfl;simp [Value.cells]at hj
    subst EW;simp [Value.cells]at hj;subst hj;refine⟨ag,?_⟩;simp only [ay,RO.sz,ajV,akb,bc _ _ _ _ _ hi,if_true];exact xU
   ·simp only [RO.sz,Nat.div_one]at hq
    simp only [ay,bc _ _ _ _ _ hi,hq,if_false]at hc ⊢;exact hc
  cases v<;>try exact h.elim
  ·rename_i s
   cases s<;>try exact h.elim
   rename_i m;exact main m h λO w M u hu=>gV.1 hu
  ·exact main [] h λO w M u hu=>⟨ajk _,⟨none,0,hu,ajl _,.inl rfl⟩⟩
 |bH l=>
  have main:∀(m:List (List Int)),K (.bH (l.set i.toNat m))->(∀(O:Env) (w:World) (M:a7) (u:Value),aC O w M v u->Ph w M .i64 m u)->
    ∃r',K r'/\r'.len=(RO.bH l).len/\r'.sz=(RO.bH l).sz/\∀(O:Env) (w:World) (M:a7) (u:Value),aC O w M v u->u.cells.size=(RO.bH l).sz/\
     (∀j c,u.cells[j]? =some c->Go.AM.aO c/\ay w M r' (i.toNat*(RO.bH l).sz+j) c)/\∀q c,q / (RO.bH l).sz≠i.toNat->ay w M (.bH l) q c->ay w M r' q c:=by
   intro m hK hm;refine⟨_,hK,by simp [RO.len],rfl,λO w M u hu=>?_⟩;have hs:=hm O w M u hu;have xU:=hs;obtain⟨_,a,cap,rfl,_⟩:=hs;refine⟨rfl,λj c hj=>?_,λq c hq hc=>?_⟩
   ·have EW:j=0:=by rcases j with _|j;rfl;simp [Value.cells]at hj
    subst EW;simp [Value.cells]at hj;subst hj;refine⟨ag,?_⟩;simp only [ay,RO.sz,ajV,akb,bc _ _ _ _ _ hi,if_true];exact xU
   ·simp only [RO.sz,Nat.div_one]at hq
    simp only [ay,bc _ _ _ _ _ hi,hq,if_false]at hc ⊢;exact hc
  cases v<;>try exact h.elim
  ·rename_i s
   cases s<;>try exact h.elim
   rename_i k' m;cases k'<;>try exact h.elim
   exact main m h λO w M u hu=>jB.1 hu
  ·exact main [] h λO w M u hu=>⟨ajk _,⟨none,0,hu,ajl _,.inl rfl⟩⟩
 |aW l=>
  cases v<;>try exact h.elim
  rename_i m
  match m,h with
  |[.int .i64 a,.int .i64 b],h=>
   refine⟨_,h,by simp [RO.len],rfl,λO w M u hu=>?_⟩;obtain⟨cs,rfl,bU⟩:=hu
   match da:cs.toList,bU with
   |[c,d],bU=>
    obtain⟨⟨rfl,ha⟩,⟨rfl,hb⟩,_⟩:=bU
    have qx:cs= #[.int .i64 a,.int .i64 b]:=by
     have:=ajs List.toArray da;simpa using this
    subst qx;refine⟨rfl,λj c hj=>?_,λq c hq hc=>?_⟩
    ·match j,hj with
     |0,hj=>
      simp [Value.cells]at hj;subst hj;refine⟨ag,?_⟩;simp only [ay,RO.sz,akb,Nat.mul_mod_left,if_true,Nat.mul_div_cancel _ (ako 1),bc _ _ _ _ _ hi];exact⟨ag,ha⟩
     |1,hj=>
      simp [Value.cells]at hj;subst hj;refine⟨ag,?_⟩;simp only [ay,RO.sz,show(i.toNat*2+1) % 2=1 from by omega,show(i.toNat*2+1) / 2=i.toNat from by omega,Nat.one_ne_zero,if_false,bc _ _ _ _ _ hi,if_true];exact⟨ag,hb⟩
     |j+2,hj=>simp [Value.cells]at hj
    ·simp only [RO.sz]at hq
     simp only [ay,bc _ _ _ _ _ hi,hq,if_false]at hc ⊢;exact hc
 |fb n k l=>cases v<;>exact h.elim
 |dS l=>cases v<;>exact h.elim
 |ec l=>cases v<;>exact h.elim
 |strs l=>
  cases v<;>try exact h.elim
  rename_i m;refine⟨_,h,by simp [RO.len],rfl,λO w M u hu=>?_⟩;obtain⟨rfl,hr⟩:=hu;refine⟨rfl,λj c hj=>?_,λq c hq hc=>?_⟩
  ·have EW:j=0:=by rcases j with _|j;rfl;simp [Value.cells]at hj
   subst EW;simp [Value.cells]at hj;subst hj;simp only [RO.len]at hi;refine⟨ag,?_⟩;simp only [ay,RO.sz,ajV,akb,bc _ _ _ _ _ hi,if_true];exact⟨rfl,hr⟩
  ·simp only [RO.sz,Nat.div_one]at hq
   simp only [ay,bc _ _ _ _ _ hi,hq,if_false]at hc ⊢;exact hc
 |cN l=>cases v<;>exact h.elim
 |cY k l=>
  cases v<;>try exact h.elim
  refine⟨_,h,by simp [RO.len],rfl,λO w M u hu=>?_⟩;have hu:u= .slice none 0 0:=hu;subst hu;refine⟨rfl,λj c hj=>?_,λq c hq hc=>?_⟩
  ·have EW:j=0:=by rcases j with _|j;rfl;simp [Value.cells]at hj
   subst EW;simp [Value.cells]at hj;subst hj;refine⟨ag,?_⟩;simp only [ay,RO.sz,ajV,akb,bc _ _ _ _ _ hi,if_true];exact⟨⟨ajk _,none,0,rfl,ajl _,.inl rfl⟩,λ_=>by trivial⟩
  ·simp only [RO.sz,Nat.div_one]at hq
   simp only [ay,bc _ _ _ _ _ hi,hq,if_false]at hc ⊢;exact hc
theorem eV{α:Type}(l m:List α)(q:Nat)(d:α):(l++m).getD q d=if q<l.length then l.getD q d else m.getD (q - l.length) d:=by
 simp only [List.getD,List.getElem?_append];split<;>rfl
theorem oy{r s:RO}{K:RO->Prop}(h:Ep r s K):∃t,K t/\t.len=r.len+s.len/\t.sz=r.sz/\s.sz=r.sz/\
  ∀(w:World) (M:a7) q c,(if q<r.cells then ay w M r q c else ay w M s (q - r.cells) c)->ay w M t q c:=by
 cases r<;>cases s<;>try exact h.elim
 case ints.ints k l k' m=>
  simp only [Ep,aq]at h;obtain⟨hk,h⟩:=h;obtain rfl:=b8 hk;refine⟨_,h,by simp [RO.len],rfl,rfl,λw M q c hc=>?_⟩;simp only [RO.cells,RO.len,RO.sz,ajV,ay,eV]at hc ⊢
  by_cases hq:q<l.length<;>simp only [hq,if_true,if_false]at hc ⊢<;>exact hc
 case aI.aI l m=>
  refine⟨_,h,by simp [RO.len],rfl,rfl,λw M q c hc=>?_⟩;simp only [RO.cells,RO.len,RO.sz,ajV,ay,eV]at hc ⊢
  by_cases hq:q<l.length<;>simp only [hq,if_true,if_false]at hc ⊢<;>exact hc
 case rows.rows k l k' m=>
  simp only [Ep,aq]at h;obtain⟨hk,h⟩:=h;obtain rfl:=b8 hk;refine⟨_,h,by simp [RO.len],rfl,rfl,λw M q c hc=>?_⟩;simp only [RO.cells,RO.len,RO.sz,ajV,ay,eV]at hc ⊢
  by_cases hq:q<l.length<;>simp only [hq,if_true,if_false]at hc ⊢<;>exact hc
 case bC.bC l m=>
  refine⟨_,h,by simp [RO.len],rfl,rfl,λw M q c hc=>?_⟩;simp only [RO.cells,RO.len,RO.sz,ajV,ay,eV]at hc ⊢
  by_cases hq:q<l.length<;>simp only [hq,if_true,if_false]at hc ⊢<;>exact hc
 case bH.bH l m=>
  refine⟨_,h,by simp [RO.len],rfl,rfl,λw M q c hc=>?_⟩;simp only [RO.cells,RO.len,RO.sz,ajV,ay,eV]at hc ⊢
  by_cases hq:q<l.length<;>simp only [hq,if_true,if_false]at hc ⊢<;>exact hc
 case strs.strs l m=>
  refine⟨_,h,by simp [RO.len],rfl,rfl,λw M q c hc=>?_⟩;simp only [RO.cells,RO.len,RO.sz,ajV,ay,eV]at hc ⊢
  by_cases hq:q<l.length<;>simp only [hq,if_true,if_false]at hc ⊢<;>exact hc
 case ec.ec l m=>
  refine⟨_,h,by simp [RO.len],rfl,rfl,λw M q c hc=>?_⟩;simp only [RO.cells,RO.len,RO.sz,ay,eV]at hc ⊢
  by_cases hq:q<l.length*3
  ·have h2:q / 3<l.length:=aa
   simp only [hq,if_true,h2]at hc ⊢;exact hc
  ·have h2:¬q / 3<l.length:=aa
   have h3:(q - l.length*3) % 3=q % 3:=aa;have h4:(q - l.length*3) / 3=q / 3 - l.length:=aa;simp only [hq,if_false,h2,h3,h4]at hc ⊢;exact hc
 case dS.dS l m=>
  refine⟨_,h,by simp [RO.len],rfl,rfl,λw M q c hc=>?_⟩;simp only [RO.cells,RO.len,RO.sz,ay,eV]at hc ⊢
  by_cases hq:q<l.length*2
  ·have h2:q / 2<l.length:=aa
   simp only [hq,if_true,h2]at hc ⊢;exact hc
  ·have h2:¬q / 2<l.length:=aa
   have h3:(q - l.length*2) % 2=q % 2:=aa;have h4:(q - l.length*2) / 2=q / 2 - l.length:=aa;simp only [hq,if_false,h2,h3,h4]at hc ⊢;exact hc
 case cN.cN l m=>
  refine⟨_,h,by simp [RO.len],rfl,rfl,λw M q c hc=>?_⟩;simp only [RO.cells,RO.len,RO.sz,ajV,ay,eV]at hc ⊢
  by_cases hq:q<l.length<;>simp only [hq,if_true,if_false]at hc ⊢<;>exact hc
 case aW.aW l m=>
  refine⟨_,h,by simp [RO.len],rfl,rfl,λw M q c hc=>?_⟩;simp only [RO.cells,RO.len,RO.sz,ay,eV]at hc ⊢
  by_cases hq:q<l.length*2
  ·have h2:q / 2<l.length:=aa
   simp only [hq,if_true,h2]at hc ⊢;exact hc
  ·have h2:¬q / 2<l.length:=aa
   have h3:(q - l.length*2) % 2=q % 2:=aa;have h4:(q - l.length*2) / 2=q / 2 - l.length:=aa;simp only [hq,if_false,h2,h3,h4]at hc ⊢;exact hc
 case fb.fb n k l n' k' m=>
  simp only [Ep,aq]at h;obtain⟨hn,hk,h⟩:=h;obtain rfl:=b8 hk;obtain rfl:=Nat.eq_of_beq_eq_true hn;refine⟨_,h,by simp [RO.len],rfl,rfl,λw M q c hc=>?_⟩;simp only [RO.cells,RO.len,RO.sz,ay,eV]at hc ⊢
  by_cases hq:q<l.length*(n+2)
  ·have h2:q / (n+2)<l.length:=(Nat.div_lt_iff_lt_mul (ako _)).2 hq
   simp only [hq,if_true,h2]at hc ⊢;exact hc
  ·have h2:¬q / (n+2)<l.length:=λh=>hq ((Nat.div_lt_iff_lt_mul (ako _)).1 h)
   have h3:(q - l.length*(n+2)) % (n+2)=q % (n+2):=by
    rw [aki];exact Nat.sub_mul_mod (by rw [aki];omega)
   have h4:(q - l.length*(n+2)) / (n+2)=q / (n+2) - l.length:=by
    rw [aki];exact Nat.sub_mul_div q (n+2) l.length
   simp only [hq,if_false,h2,h3,h4]at hc ⊢;exact hc
theorem nM{α:Type}(l:List α)(a b q:Nat)(d:α)(h:a+q<b):((l.take b).drop a).getD q d=l.getD (a+q) d:=by
 simp [List.getD,h]
theorem gM{r:RO}{a b:Nat}{K:RO->Prop}(h:CJ r a b K)(mP:a<=b)(hb:b<=r.len):∃t,K t/\t.len=b - a/\t.sz=r.sz/\
  ∀(w:World) (M:a7) q c,q<t.cells->(ay w M r (a*r.sz+q) c->ay w M t q c):=by
 cases r with
 |ec l=>exact h.elim
 |dS l=>
  simp only [RO.len]at hb;refine⟨_,h,by simp [RO.len];omega,rfl,λw M q c hq hc=>?_⟩;simp only [RO.cells,RO.len,RO.sz,aks,ajA]at hq;have h1:(a*2+q) / 2=a+q / 2:=aa;have h2:(a*2+q) % 2=q % 2:=aa;simp only [ay,RO.sz,h1,h2,nM _ _ _ _ _ (show a+q / 2<b from by omega)]at hc ⊢;exact hc
 |aW l=>
  simp only [RO.len]at hb;refine⟨_,h,by simp [RO.len];omega,rfl,λw M q c hq hc=>?_⟩;simp only [RO.cells,RO.len,RO.sz,aks,ajA]at hq;have h1:(a*2+q) / 2=a+q / 2:=aa;have h2:(a*2+q) % 2=q % 2:=aa;simp only [ay,RO.sz,h1,h2,nM _ _ _ _ _ (show a+q / 2<b from by omega)]at hc ⊢;exact hc
 |fb n k l=>
  simp only [RO.len]at hb;refine⟨_,h,by simp [RO.len];omega,rfl,λw M q c hq hc=>?_⟩;simp only [RO.cells,RO.len,RO.sz,aks,ajA]at hq;have h0:q / (n+2)<min b l.length - a:=(Nat.div_lt_iff_lt_mul (ako _)).2 hq;have h1:(a*(n+2)+q) / (n+2)=a+q / (n+2):=by rw [aki];exact Nat.mul_add_div (ako _) _ _
  have h2:(a*(n+2)+q) % (n+2)=q % (n+2):=by rw [aki];exact Nat.mul_add_mod _ _ _
  simp only [ay,RO.sz,h1,h2,nM _ _ _ _ _ (show a+q / (n+2)<b from by omega)]at hc ⊢;exact hc
 |cY k l=>
  simp only [RO.len]at hb;refine⟨_,h,by simp [RO.len];omega,rfl,λw M q c hq hc=>?_⟩;simp only [RO.cells,RO.len,RO.sz,ajV,aks,ajA]at hq;simp only [ay,RO.sz,ajV,nM _ _ _ _ _ (show a+q<b from by omega)]at hc ⊢;exact hc
 |_ l=>
  simp only [RO.len]at hb;refine⟨_,h,by simp [RO.len];omega,rfl,λw M q c hq hc=>?_⟩;simp only [RO.cells,RO.len,RO.sz,ajV,aks,ajA]at hq;simp only [ay,RO.sz,ajV,nM _ _ _ _ _ (show a+q<b from by omega)]at hc ⊢;exact hc
theorem ju{w:World}{b off n:Nat}{C:Nat->Value->Prop}(h:∀q,q<n->∃c,w.cell? ⟨b,off+q,none⟩=some c/\C q c):
  ∃l:List Value,l.length=n/\(∀j v,l[j]? =some v->w.cell? ⟨b,off+j,none⟩=some v)/\∀q,q<n->∃c,l[q]? =some c/\C q c:=by
 induction n with
 |zero=>exact⟨[],rfl,by simp,by simp⟩
 |succ n ih=>
  obtain⟨l,h1,h2,h3⟩:=ih λq hq=>h q aa;obtain⟨c,h4,h5⟩:=h n aa;refine⟨l++[c],by simp [h1],λj v hj=>?_,λq hq=>?_⟩
  ·by_cases Zd:j<n
   ·rw [ajI aa]at hj;exact h2 j v hj
   ·by_cases abA:j=n
    ·subst abA;rw [aj2 aa]at hj;simp [h1]at hj;subst hj;exact h4
    ·rw [aj0 (by simp;omega)]at hj;cases hj
  ·by_cases K5:q<n
   ·obtain⟨c',h6,h7⟩:=h3 q K5
    exact⟨c',by rw [ajI aa];exact h6,h7⟩
   ·have:q=n:=aa
    subst this;exact⟨c,by rw [aj2 aa];simp [h1],h5⟩
end
structure Conv(k:Nat)(to:AV)(O:Env)(w:World)(M:a7)(O':Env)(w':World)(M':a7):Prop where
 keep:bE w M w' M'
 other:∀j,j≠k->∀o,O j=some o->O' j=some o
 self:∀v,aJ O w M (.vec k) v->aJ O' w' M' to v
section
variable{k:Nat}{to:AV}
theorem BL{a:AV}{K:AV->Prop}(h:fC k to a K):
  ∃a',K a'/\∀O w M O' w' M',Conv k to O w M O' w' M'->∀v,aJ O w M a v->aJ O' w' M' a' v:=by
 cases a with
 |vec j=>
  simp only [fC]at h;cases hb:Nat.beq j k with
  |true=>simp only [hb]at h;obtain rfl:=aA.1 hb;exact⟨_,h,λO w M O' w' M' hc v hv=>hc.self v hv⟩
  |false=>simp only [hb]at h;exact⟨_,h,λO w M O' w' M' hc v ⟨o,h1,h2⟩=>⟨o,ba (hc.other _ (beq_false hb)) h1,h2⟩⟩
 |ptr j off=>
  simp only [fC]at h;cases hb:Nat.beq j k with
  |true=>simp only [hb]at h;exact⟨_,h,λO w M O' w' M' hc v hv=>aJ.aO hv⟩
  |false=>simp only [hb]at h;exact⟨_,h,λO w M O' w' M' hc v h1=>ba (hc.other _ (beq_false hb)) h1⟩
 |dY j i=>
  simp only [fC]at h;cases hb:Nat.beq j k with
  |true=>simp only [hb]at h;exact⟨_,h,λO w M O' w' M' hc v hv=>aJ.aO hv⟩
  |false=>simp only [hb]at h;exact⟨_,h,λO w M O' w' M' hc v ⟨o,b,h1,h2⟩=>⟨o,b,ba (hc.other _ (beq_false hb)) h1,h2⟩⟩
 |gA j i c=>
  simp only [fC]at h;cases hb:Nat.beq j k with
  |true=>simp only [hb]at h;exact⟨_,h,λO w M O' w' M' hc v hv=>aJ.aO hv⟩
  |false=>simp only [hb]at h;exact⟨_,h,λO w M O' w' M' hc v ⟨o,b,h1,h2⟩=>⟨o,b,ba (hc.other _ (beq_false hb)) h1,h2⟩⟩
 |gD j i=>
  simp only [fC]at h;cases hb:Nat.beq j k with
  |true=>simp only [hb]at h;exact⟨_,h,λO w M O' w' M' hc v hv=>aJ.aO hv⟩
  |false=>simp only [hb]at h;exact⟨_,h,λO w M O' w' M' hc v ⟨o,h1,h2⟩=>⟨o,ba (hc.other _ (beq_false hb)) h1,h2⟩⟩
 |ro r=>exact⟨_,h,λO w M O' w' M' hc v hv=>bd.keep hc.keep hv⟩
 |eZ r i=>exact⟨_,h,λO w M O' w' M' hc v ⟨b,off,cap,h1,h2⟩=>⟨b,off,cap,h1.keep hc.keep,h2⟩⟩
 |uD f r i=>exact⟨_,h,λO w M O' w' M' hc v ⟨b,off,cap,h1,h2⟩=>⟨b,off,cap,h1.keep hc.keep,h2⟩⟩
 |fn f l=>
  cases l with
  |nil=>exact⟨_,h,λO w M O' w' M' hc v hv=>hv⟩
  |cons x l=>exact⟨_,h,λO w M O' w' M' hc v hv=>aJ.aO hv⟩
 |int k n=>exact⟨_,h,λO w M O' w' M' hc v hv=>hv⟩
 |bool e=>exact⟨_,h,λO w M O' w' M' hc v hv=>hv⟩
 |ar=>exact⟨_,h,λO w M O' w' M' hc v hv=>hv⟩
 |bO=>exact⟨_,h,λO w M O' w' M' hc v hv=>hv⟩
 |full r=>exact⟨_,h,λO w M O' w' M' hc v hv=>⟨bd.keep hc.keep hv.1,hv.2⟩⟩
 |str l=>exact⟨_,h,λO w M O' w' M' hc v hv=>hv⟩
 |_=>exact⟨_,h,λO w M O' w' M' hc v hv=>aJ.aO hv⟩
theorem gi:∀{l:List AV} {K:List AV->Prop},sT k to l K->
  ∃l',K l'/\∀O w M O' w' M',Conv k to O w M O' w' M'->∀vs,aM (aJ O w M) l vs->aM (aJ O' w' M') l' vs
 |[],_,h=>⟨[],h,λ_ _ _ _ _ _ _ vs hv=>by cases vs<;>exact hv⟩
 |a::l,K,h=>by
  obtain⟨a',h1,ha⟩:=BL h;obtain⟨l',h2,hl⟩:=gi h1;refine⟨_,h2,λO w M O' w' M' hc vs hv=>?_⟩;cases vs with
  |nil=>exact hv.elim
  |cons v vs=>exact⟨ha _ _ _ _ _ _ hc _ hv.1,hl _ _ _ _ _ _ hc _ hv.2⟩
theorem Ex{a:AV}{K:AV->Prop}(ha:(∀l,a≠.agg l)/\(∀l,a≠.cL l)/\∀f l,a≠.fn f l)(h:fC k to a K):
  ∃a',K a'/\∀O w M O' w' M',Conv k to O w M O' w' M'->(∀v,aJ O w M (.vec k) v->aC O' w' M' to v/\cx O' w' M' to v)->∀v,(aC O w M a v->aC O' w' M' a' v)/\(cx O w M a v->cx O' w' M' a' v):=by
 cases a with
 |agg l=>exact absurd rfl (ha.1 l)
 |cL l=>exact absurd rfl (ha.2.1 l)
 |fn f l=>exact absurd rfl (ha.2.2 f l)
 |vec j=>
  simp only [fC]at h;cases hb:Nat.beq j k with
  |true=>simp only [hb]at h;obtain rfl:=aA.1 hb;exact⟨_,h,λO w M O' w' M' hc zI v=>⟨λhv=>(zI v hv).1,λhv=>(zI v hv).2⟩⟩
  |false=>
   simp only [hb]at h;refine⟨_,h,λO w M O' w' M' hc zI v=>⟨λhv=>?_,λhv=>?_⟩⟩<;>(obtain⟨o,h1,h2⟩:=hv;exact⟨o,ba (hc.other _ (beq_false hb)) h1,h2⟩)
 |ptr j off=>
  simp only [fC]at h;cases hb:Nat.beq j k with
  |true=>simp only [hb]at h;exact⟨_,h,λO w M O' w' M' hc _ v=>⟨λ_=>trivial,λ_=>trivial⟩⟩
  |false=>
   simp only [hb]at h;refine⟨_,h,λO w M O' w' M' hc _ v=>⟨λhv=>?_,λhv=>?_⟩⟩<;>exact ba (hc.other _ (beq_false hb)) hv
 |dY j i=>
  simp only [fC]at h;cases hb:Nat.beq j k with
  |true=>simp only [hb]at h;exact⟨_,h,λO w M O' w' M' hc _ v=>⟨λ_=>trivial,λ_=>trivial⟩⟩
  |false=>
   simp only [hb]at h;refine⟨_,h,λO w M O' w' M' hc _ v=>⟨λhv=>?_,λhv=>?_⟩⟩<;>(obtain⟨o,b,h1,h2⟩:=hv;exact⟨o,b,ba (hc.other _ (beq_false hb)) h1,h2⟩)
 |gA j i c=>
  simp only [fC]at h;cases hb:Nat.beq j k with
  |true=>simp only [hb]at h;exact⟨_,h,λO w M O' w' M' hc _ v=>⟨λ_=>trivial,λ_=>trivial⟩⟩
  |false=>
   simp only [hb]at h;refine⟨_,h,λO w M O' w' M' hc _ v=>⟨λhv=>?_,λhv=>?_⟩⟩<;>(obtain⟨o,b,h1,h2⟩:=hv;exact⟨o,b,ba (hc.other _ (beq_false hb)) h1,h2⟩)
 |gD j i=>
  simp only [fC]at h;cases hb:Nat.beq j k with
  |true=>simp only [hb]at h;exact⟨_,h,λO w M O' w' M' hc _ v=>⟨λ_=>trivial,λ_=>trivial⟩⟩
  |false=>
   simp only [hb]at h;refine⟨_,h,λO w M O' w' M' hc _ v=>⟨λhv=>?_,λhv=>?_⟩⟩<;>(obtain⟨o,h1,h2⟩:=hv;exact⟨o,ba (hc.other _ (beq_false hb)) h1,h2⟩)
 |ro r=>exact⟨_,h,λO w M O' w' M' hc _ v=>⟨λhv=>bd.keep hc.keep hv,λhv=>bd.keep hc.keep hv⟩⟩
 |eZ r i=>
  refine⟨_,h,λO w M O' w' M' hc _ v=>⟨λhv=>?_,λhv=>?_⟩⟩<;>(obtain⟨b,off,cap,h1,h2⟩:=hv;exact⟨b,off,cap,h1.keep hc.keep,h2⟩)
 |uD f r i=>
  refine⟨_,h,λO w M O' w' M' hc _ v=>⟨λhv=>?_,λhv=>?_⟩⟩<;>(obtain⟨b,off,cap,h1,h2⟩:=hv;exact⟨b,off,cap,h1.keep hc.keep,h2⟩)
 |int k n=>exact⟨_,h,λO w M O' w' M' hc _ v=>⟨λhv=>hv,λhv=>hv⟩⟩
 |bool e=>exact⟨_,h,λO w M O' w' M' hc _ v=>⟨λhv=>hv,λhv=>hv⟩⟩
 |ar=>exact⟨_,h,λO w M O' w' M' hc _ v=>⟨λhv=>hv,λhv=>hv⟩⟩
 |bO=>exact⟨_,h,λO w M O' w' M' hc _ v=>⟨λhv=>hv,λhv=>hv⟩⟩
 |full r=>exact⟨_,h,λO w M O' w' M' hc _ v=>⟨λhv=>⟨bd.keep hc.keep hv.1,hv.2⟩,λhv=>⟨bd.keep hc.keep hv.1,hv.2⟩⟩⟩
 |str l=>exact⟨_,h,λO w M O' w' M' hc _ v=>⟨λhv=>hv,λhv=>hv⟩⟩
 |_=>exact⟨_,h,λO w M O' w' M' hc _ v=>⟨λ_=>trivial,λ_=>trivial⟩⟩
theorem rM:∀{l:List AV} {K:List AV->Prop},sU k to l K->
  ∃l',K l'/\∀O w M O' w' M',Conv k to O w M O' w' M'->(∀v,aJ O w M (.vec k) v->aC O' w' M' to v/\cx O' w' M' to v)->∀vs,aM (cx O w M) l vs->aM (cx O' w' M') l' vs
 |[],_,h=>⟨[],h,λ_ _ _ _ _ _ _ _ vs hv=>by cases vs<;>exact hv⟩
 |a::l,K,h=>by
  have go:∃a',(sU k to l λl'=>K (a'::l'))/\∀O w M O' w' M',Conv k to O w M O' w' M'->(∀v,aJ O w M (.vec k) v->aC O' w' M' to v/\cx O' w' M' to v)->∀v,cx O w M a v->cx O' w' M' a' v:=by
   cases a with
   |agg m=>
    obtain⟨m',h1,hm⟩:=gi h;exact⟨_,h1,λO w M O' w' M' hc _ v ⟨cs,h2,h3⟩=>⟨cs,h2,hm _ _ _ _ _ _ hc _ h3⟩⟩
   |cL m=>exact⟨.any,h,λO w M O' w' M' hc _ v _=>trivial⟩
   |fn f m=>
    cases m with
    |nil=>exact⟨_,h,λO w M O' w' M' hc _ v hv=>hv⟩
    |cons x m=>exact⟨.any,h,λO w M O' w' M' hc _ v _=>trivial⟩
   |_=>
    simp only [sU]at h;obtain⟨a',h1,ha⟩:=Ex (by simp) h;exact⟨a',h1,λO w M O' w' M' hc zI v hv=>(ha _ _ _ _ _ _ hc zI v).2 hv⟩
  obtain⟨a',h1,ha⟩:=go;obtain⟨l',h2,hl⟩:=rM h1;refine⟨_,h2,λO w M O' w' M' hc zI vs hv=>?_⟩;cases vs with
  |nil=>exact hv.elim
  |cons v vs=>exact⟨ha _ _ _ _ _ _ hc zI _ hv.1,hl _ _ _ _ _ _ hc zI _ hv.2⟩
theorem fT:∀{l:List AV} {K:List AV->Prop},c6 k to l K->
  ∃l',K l'/\l'.length=l.length/\∀O w M O' w' M',Conv k to O w M O' w' M'->(∀v,aJ O w M (.vec k) v->aC O' w' M' to v/\cx O' w' M' to v)->∀i v,aC O w M (nth l i) v->aC O' w' M' (nth l' i) v
 |[],_,h=>⟨[],h,rfl,λ_ _ _ _ _ _ _ _ _ _ _=>trivial⟩
 |a::l,K,h=>by
  have go:∃a',(c6 k to l λl'=>K (a'::l'))/\∀O w M O' w' M',Conv k to O w M O' w' M'->(∀v,aJ O w M (.vec k) v->aC O' w' M' to v/\cx O' w' M' to v)->∀v,aC O w M a v->aC O' w' M' a' v:=by
   cases a with
   |agg m=>
    obtain⟨m',h1,hm⟩:=gi h;exact⟨_,h1,λO w M O' w' M' hc _ v ⟨cs,h2,h3⟩=>⟨cs,h2,hm _ _ _ _ _ _ hc _ h3⟩⟩
   |cL m=>
    obtain⟨m',h1,hm⟩:=rM h;exact⟨_,h1,λO w M O' w' M' hc zI v ⟨cs,h2,h3⟩=>⟨cs,h2,hm _ _ _ _ _ _ hc zI _ h3⟩⟩
   |fn f m=>
    obtain⟨m',h1,hm⟩:=gi h;exact⟨_,h1,λO w M O' w' M' hc _ v ⟨cs,h2,h3⟩=>⟨cs,h2,hm _ _ _ _ _ _ hc _ h3⟩⟩
   |_=>
    simp only [c6]at h;obtain⟨a',h1,ha⟩:=Ex (by simp) h;exact⟨a',h1,λO w M O' w' M' hc zI v hv=>(ha _ _ _ _ _ _ hc zI v).1 hv⟩
  obtain⟨a',h1,ha⟩:=go;obtain⟨l',h2,hlen,hl⟩:=fT h1;refine⟨_,h2,by simp [hlen],λO w M O' w' M' hc zI i v hv=>?_⟩;cases i with
  |zero=>exact ha _ _ _ _ _ _ hc zI _ hv
  |succ i=>exact hl _ _ _ _ _ _ hc zI i _ hv
theorem qo{r s:RO}{i:Int}{K:RO->Prop}(h:setRow r i s K)(hi:i.toNat<r.len):∃r',K r'/\r'.len=r.len/\r'.sz=r.sz/\Zy r=true/\
  ∀(w:World) (M:a7),(∀c,bd w M s c->ay w M r' i.toNat c)/\∀q c,q≠i.toNat->ay w M r q c->ay w M r' q c:=by
 cases r<;>cases s<;>try exact h.elim
 case rows.ints k l k' m=>
  simp only [setRow,aq]at h;obtain⟨hk,h⟩:=h;obtain rfl:=b8 hk;simp only [RO.len]at hi;refine⟨_,h,by simp [RO.len],rfl,rfl,λw M=>⟨λc hc=>?_,λq c hq hc=>?_⟩⟩
  ·simp only [ay,bc _ _ _ _ _ hi,if_true];exact iw.1 hc
  ·simp only [ay,bc _ _ _ _ _ hi,hq,if_false]at hc ⊢;exact hc
 case bC.aI l m=>
  simp only [RO.len]at hi;refine⟨_,h,by simp [RO.len],rfl,rfl,λw M=>⟨λc hc=>?_,λq c hq hc=>?_⟩⟩
  ·simp only [ay,bc _ _ _ _ _ hi,if_true];exact gV.1 hc
  ·simp only [ay,bc _ _ _ _ _ hi,hq,if_false]at hc ⊢;exact hc
 case bH.rows l k' m=>
  cases k'<;>try exact h.elim
  simp only [RO.len]at hi;refine⟨_,h,by simp [RO.len],rfl,rfl,λw M=>⟨λc hc=>?_,λq c hq hc=>?_⟩⟩
  ·simp only [ay,bc _ _ _ _ _ hi,if_true];exact jB.1 hc
  ·simp only [ay,bc _ _ _ _ _ hi,hq,if_false]at hc ⊢;exact hc
 case cY.ints k l k' m=>
  simp only [setRow,aq]at h;obtain⟨hk,hm,h⟩:=h;obtain rfl:=b8 hk;simp only [RO.len]at hi;refine⟨_,h,by simp [RO.len],rfl,rfl,λw M=>⟨λc hc=>?_,λq c hq hc=>?_⟩⟩
  ·simp only [ay,bc _ _ _ _ _ hi,if_true];exact⟨iw.1 hc,λh=>absurd h hm⟩
  ·simp only [ay,bc _ _ _ _ _ hi,hq,if_false]at hc ⊢;exact hc
theorem Gr{r:RO}(h:Zy r=true):r.sz=1:=by cases r<;>first|rfl|cases h
theorem lq{r:RO}(h:nL r=true):r.sz=1:=by cases r<;>first|rfl|cases h
def SwB(k:Nat)(to:AV)(B B':dQ):Prop:=
 ∀(O:Env) (w:World) (M:a7) (O':Env) (M':a7) (j:Nat),Conv k to O w M O' w M'->O' j=O j->(∀b,hasB O j b->∀off,M' b off↔M b off)->eR O w M j B->eR O' w M' j B'
theorem fU:∀{S:ak} {K:ak->Prop},cf k to S K->
  ∃S',K S'/\∀j,match an S j with|none=>an S' j=none|some B=>∃B',an S' j=some B'/\SwB k to B B'
 |[],_,h=>⟨[],h,λ_=>rfl⟩
 |(i,b)::S,K,h=>by
  have go:∃b',(cf k to S λS'=>K ((i,b')::S'))/\SwB k to b b':=by
   cases b with
   |box m=>
    obtain⟨m',h1,hm⟩:=gi h;refine⟨_,h1,λO w M O' M' j hc hρ hM hB=>?_⟩;obtain⟨b,h2,cs,ty,h3,h4,h5⟩:=hB;refine⟨b,by rw [hρ];exact h2,cs,ty,h3,λoff=>?_,hm _ _ _ _ _ _ hc _ h5⟩;rw [hM b (by simp [hasB,h2,b6.has]) off,h4]
   |map kd vk m=>
    refine⟨_,h,λO w M O' M' j hc hρ hM hB=>?_⟩;obtain⟨b,h2,es,n,h3,h4,h5⟩:=hB;refine⟨b,by rw [hρ];exact h2,es,n,h3,λoff=>?_,h5⟩;rw [hM b (by simp [hasB,h2,b6.has]) off,h4]
   |deep r hole=>
    refine⟨_,h,λO w M O' M' j hc hρ hM hB=>?_⟩;obtain⟨o,rows,h2,h3⟩:=hB;exact⟨o,rows,by rw [hρ];exact h2,h3.ext hc.keep λb hb=>⟨rfl,hM b (by simp only [hasB,h2];exact hb)⟩⟩
   |dK n r=>
    refine⟨_,h,λO w M O' M' j hc hρ hM hB=>?_⟩;obtain⟨o,cur,h2,h3,h4⟩:=hB;exact⟨o,cur,by rw [hρ];exact h2,h3.Je hc.keep λb hb=>⟨rfl,hM b (by simp only [hasB,h2];exact .inr hb)⟩,h4.ext λb hb=>⟨rfl,hM b (by simp only [hasB,h2];exact .inl hb)⟩⟩
   |mA n z=>
    refine⟨_,h,λO w M O' M' j hc hρ hM hB=>?_⟩;obtain⟨o,h2,h4⟩:=hB;exact⟨o,by rw [hρ];exact h2,h4.ext λb hb=>⟨rfl,hM b (by simp only [hasB,h2];exact hb)⟩⟩
   |vec wm r ov=>
    match ov,h with
    |[],h=>
     refine⟨_,h,λO w M O' M' j hc hρ hM hB=>?_⟩;obtain⟨⟨o,h2,h3,h4,h5,h6,h7⟩,_⟩:=hB;refine⟨⟨o,by rw [hρ];exact h2,h3,h4,h5,h6,?_⟩,.inl rfl⟩;cases hb:o.aZ with
     |none=>simp only [hb]at h7 ⊢;exact h7
     |some b=>
      simp only [hb]at h7 ⊢;obtain⟨h8,cs,ty,h9,cA,oP,oQ⟩:=h7;refine⟨h8,cs,ty,h9,cA,λoff=>?_,λq hq=>?_⟩
      ·rw [hM b (by simp [hasB,h2,b6.has,hb]) off,oP]
      ·obtain⟨c,xg,mg⟩:=oQ q hq;exact⟨c,xg,mg.keep hc.keep⟩
    |[(x,y)],h=>
     simp only [cf]at h;cases hb:Nat.beq y k with
     |false=>
      simp only [hb]at h;refine⟨_,h,λO w M O' M' j hc hρ hM hB=>?_⟩;obtain⟨⟨o,h2,h3,h4,h5,h6,h7⟩,ig⟩:=hB;refine⟨⟨o,by rw [hρ];exact h2,h3,h4,h5,h6,?_⟩,ig⟩;cases cy:o.aZ with
      |none=>simp only [cy]at h7 ⊢;exact h7
      |some b=>
       simp only [cy]at h7 ⊢;obtain⟨h8,cs,ty,h9,cA,oP,oQ⟩:=h7;refine⟨h8,cs,ty,h9,cA,λoff=>?_,λq hq=>?_⟩
       ·rw [hM b (by simp [hasB,h2,b6.has,cy]) off,oP]
       ·obtain⟨c,xg,mg⟩:=oQ q hq
        refine⟨c,xg,?_⟩;split at mg
        ·rename_i he;simp only [he,if_true]
         obtain⟨o',Ks,Gq⟩:=mg;exact⟨o',ba (hc.other _ (beq_false hb)) Ks,Gq⟩
        ·rename_i he;simp only [he,if_false];exact mg.keep hc.keep
     |true=>
      obtain rfl:=aA.1 hb;simp only [hb]at h;cases to with
      |ro s=>
       by_cases hx:x.toNat<r.len
       ·obtain⟨r',h1,hl,hz,hq,cT⟩:=qo h hx
        refine⟨_,h1,λO w M O' M' j hc hρ hM hB=>?_⟩;obtain⟨⟨o,h2,h3,h4,h5,h6,h7⟩,ig⟩:=hB;refine⟨⟨o,by rw [hρ];exact h2,by rw [h3,hl],by rw [h4,hz],by rw [hl];exact h5,by rw [hl];exact h6,?_⟩,.inl rfl⟩;have wW:r'.cells=r.cells:=by simp [RO.cells,hl,hz]
        cases cy:o.aZ with
        |none=>simp only [cy]at h7 ⊢;rw [hl];exact h7
        |some b=>
         simp only [cy]at h7 ⊢;obtain⟨h8,cs,ty,h9,cA,oP,oQ⟩:=h7;refine⟨h8,cs,ty,h9,cA,λoff=>?_,λq hq=>?_⟩
         ·rw [hM b (by simp [hasB,h2,b6.has,cy]) off,oP]
         ·rw [wW]at hq
          obtain⟨c,xg,mg⟩:=oQ q hq;refine⟨c,xg,?_⟩;split at mg
          ·rename_i he
           have:q=x.toNat:=aa;rw [this];exact(cT w M').1 c (hc.self _ mg)
          ·rename_i he
           rcases ig with ig|⟨i',j',ig,_,_,Wa,_⟩
           ·cases ig
           ·cases ig
            exact(cT w M').2 q c aa (mg.keep hc.keep)
       ·have hK:∃r',cf y (.ro s) S λS'=>K ((i,.vec wm r' [])::S'):=by
         cases r<;>cases s<;>first
          |exact h.elim
          |(simp only [setRow,aq]at h;exact⟨_,h.2⟩)
          |(simp only [setRow,aq]at h;exact⟨_,h.2.2⟩)
          |exact⟨_,h⟩
          |(rename_i k' m _;cases k'<;>first|exact⟨_,h⟩|exact h.elim)
        obtain⟨r',h1⟩:=hK;refine⟨_,h1,λO w M O' M' j hc hρ hM hB=>?_⟩;obtain⟨_,ig⟩:=hB;rcases ig with ig|⟨i',j',ig,_,_,Wa,OZ⟩
        ·cases ig
        ·cases ig;omega
      |_=>exact h.elim
    |_::_::_,h=>exact h.elim
  obtain⟨b',h1,hb⟩:=go;obtain⟨S',h2,hS⟩:=fU h1;refine⟨_,h2,λj=>?_⟩
  by_cases hj:i=j
  ·subst hj;simp only [aF,if_true];exact⟨b',rfl,hb⟩
  ·simp only [aF,hj,if_false];exact hS j
def aV(O:Env)(k:Nat):Env:=λj=>if j=k then none else O j
def dB(M:a7)(O:Env)(k:Nat):a7:=λb off=>M b off/\¬hasB O k b
theorem jg(w:World)(M:a7)(O:Env)(k:Nat):bE w M w (dB M O k):=λ_ _ _ h h'=>⟨h,λhm=>h' hm.1⟩
theorem xr{w0 w:World}{M0:eE w0}{O:Env}{M:a7}{T:List AV}{S:ak}{a:Act}{K:List AV->ak->Prop}
  (h:lh S k λS=>c6 k to T λT=>cf k to S λS=>K T S) (st:St M0 O M S w) (tm:Tm O w M T a)
  (TO:∀v,aJ O w M (.vec k) v->aJ (aV O k) w (dB M O k) to v/\aC (aV O k) w (dB M O k) to v/\cx (aV O k) w (dB M O k) to v):
  ∃T' S',K T' S'/\St M0 (aV O k) (dB M O k) S' w/\Tm (aV O k) w (dB M O k) T' a/\T'.length=T.length/\an S' k=none/\
   (∀i v,aC O w M (nth T i) v->aC (aV O k) w (dB M O k) (nth T' i) v):=by
 obtain⟨S1,h1,xN⟩:=gK h;obtain⟨T',h2,hlen,hT⟩:=fT h1;obtain⟨S',h3,Hf⟩:=fU h2;have m8:Conv k to O w M (aV O k) w (dB M O k):=⟨jg _ _ _ _,λj hj o ho=>by simpa [aV,hj]using ho,λv hv=>(TO v hv).1⟩;have zI:∀v,aJ O w M (.vec k) v->aC (aV O k) w (dB M O k) to v/\cx (aV O k) w (dB M O k) to v:=λv hv=>(TO v hv).2
 have dF:an S' k=none:=by
  have:=Hf k;rw [xN k]at this;simpa using this
 refine⟨T',S',h3,⟨λj=>?_,λj B hB=>?_,λi j b hi hj=>?_,λb off hm=>st.mlt b off hm.1,st.lS,λb off hb hm=>st.sub b off hb hm.1,λb off hb hl hm=>⟨st.eI b off hb hl hm,st.iv hb hl⟩,λx b hx=>?_,λx o hx ho=>?_⟩,
  ⟨tm.defers,by rw [hlen];exact tm.size,λi=>hT _ _ _ _ _ _ m8 zI i _ (tm.tmp i)⟩,hlen,dF,λi v=>hT _ _ _ _ _ _ m8 zI i v⟩
 ·by_cases hj:j=k
  ·subst hj;simp [aV,dF]
  ·have:=Hf j
   rw [xN j]at this;simp only [hj,if_false]at this;simp only [aV,hj,if_false,st.gq j];cases hf:an S j with
   |none=>simp only [hf]at this;simp [this]
   |some B=>simp only [hf]at this;obtain⟨B',h4,_⟩:=this;simp [h4]
 ·have hj:j≠k:=λe=>by subst e;rw [dF]at hB;cases hB
  have:=Hf j;rw [xN j]at this;simp only [hj,if_false]at this;cases hf:an S j with
  |none=>simp only [hf]at this;rw [this]at hB;cases hB
  |some B0=>
   simp only [hf]at this;obtain⟨B',h4,h5⟩:=this;rw [h4]at hB;cases hB;refine h5 O w M _ _ j m8 (by simp [aV,hj]) (λb hb off=>?_) (st.aZ j B0 hf);exact⟨λhm=>hm.1,λhm=>⟨hm,λhk=>hj (st.inj _ _ _ hb hk)⟩⟩
 ·have h1:∀x,hasB (aV O k) x b->hasB O x b:=λx hx=>by
   by_cases kU:x=k
   ·subst kU;simp [hasB,aV]at hx
   ·simpa [hasB,aV,kU]using hx
  exact st.inj _ _ _ (h1 _ hi) (h1 _ hj)
 ·by_cases kU:x=k
  ·subst kU;simp [hasB,aV]at hx
  ·exact st.fresh x b (by simpa [hasB,aV,kU]using hx)
 ·by_cases kU:x=k
  ·subst kU;simp [aV]at ho
  ·exact st.tV x o hx (by simpa [aV,kU]using ho)
theorem lY{w0 w:World}{M0:eE w0}{O:Env}{M:a7}{T:List AV}{S:ak}{a:Act}{K:List AV->ak->Prop}
  (h:iV k T S K) (st:St M0 O M S w) (tm:Tm O w M T a):
  ∃T' S',K T' S'/\St M0 (aV O k) (dB M O k) S' w/\Tm (aV O k) w (dB M O k) T' a/\T'.length=T.length/\an S' k=none/\loc k=true:=by
 obtain⟨fV,h⟩:=aq.1 h;obtain⟨T',S',h1,h2,h3,h4,h5,_⟩:=xr h st tm λv hv=>⟨aJ.aO hv,ag,ag⟩;exact⟨T',S',h1,h2,h3,h4,h5,fV⟩
theorem vr{w:World}{O':Env}{M M':a7}{o:Sl}{wm:Nat}{r:RO}(hM:∀b off,M' b off->M b off)(dj:∀b off,o.aZ=some b->off<r.cells->¬M' b off)(hB:fp O' w M o wm r []):bd w M' r o.val:=by
 have hk:bE w M w M':=λ_ _ _ h h'=>⟨h,λhm=>h' (hM _ _ hm)⟩;obtain⟨h3,h4,h5,h6,h7⟩:=hB;refine⟨h5,o.aZ.map λb=>⟨b,0,none⟩,o.cap,by rw [Sl.val,h3],?_⟩;cases hb:o.aZ with
 |none=>simp only [hb]at h7;exact⟨by rw [h7.1];exact ajk _,.inl (by simp [RO.cells,h7.1])⟩
 |some b=>
  simp only [hb]at h7;obtain⟨h8,cs,ty,h9,cA,oP,oQ⟩:=h7;refine⟨h3▸h8,.inr ⟨b,0,rfl,λq hq=>?_⟩⟩;obtain⟨c,xg,mg⟩:=oQ q hq;exact⟨c,by rw [cell_of_heap h9,ajQ];exact xg,dj _ _ hb aa,mg.keep hk⟩
theorem xt {w:World}{O':Env}{M M':a7}{o:Sl}{wm:Nat}{r:RO}(hM:∀b off,M' b off->M b off)(dj:∀b off,o.aZ=some b->¬M' b off)(hB:fp O' w M o wm r []):bd w M' r o.val:=vr hM (λb off h _=>dj b off h) hB
theorem OQ{w:World}{M:a7}{r:RO}{q:Nat}{c:Value}(hr:nL r=true):bd w M (r.row q) c↔ay w M r q c:=by
 cases r<;>try (cases hr;done)
 ·exact iw
 ·exact gV
 ·exact jB
theorem rZ{w:World}{O:Env}{M M':a7}{B:dQ}{r:RO}{v:Value}(hM:∀b off,M' b off->M b off)(dj:∀b off,hasB O k b->¬M' b off)(hB:eR O w M k B)(hf:oD B=some r)(hv:aJ O w M (.vec k) v):bd w M' r v:=by
 obtain⟨o,h8,rfl⟩:=hv;cases B with
 |vec wm r' ov=>
  cases ov<;>simp only [oD]at hf<;>try (cases hf;done)
  cases hf;obtain⟨⟨o',h2,h3⟩,_⟩:=hB;obtain rfl:=cC h2 h8;exact xt hM (λb off hb=>dj b off (by simp [hasB,h2,b6.has,hb])) h3
 |deep r' hole=>
  cases hole<;>simp only [oD]at hf<;>try (cases hf;done)
  cases hf;obtain⟨o',rows,h2,h3⟩:=hB;rw [oV h2]at h8;cases h8;have hk:bE w M w M':=λ_ _ _ h h'=>⟨h,λhm=>h' (hM _ _ hm)⟩;refine⟨h3.lb,o.aZ.map λb=>⟨b,0,none⟩,o.cap,by rw [Sl.val,h3.len],?_⟩;have h7:=h3.outer;have bu:=lq h3.rq;cases hb:o.aZ with
  |none=>simp only [hb]at h7;exact⟨by rw [h7.1];exact ajk _,.inl (by simp [RO.cells,h7.1])⟩
  |some b=>
   simp only [hb]at h7;obtain⟨h8,cs,ty,h9,cA,oP,oQ⟩:=h7;refine⟨h3.len▸h8,.inr ⟨b,0,rfl,λq hq=>?_⟩⟩;have hq:q<r.len:=by simpa [RO.cells,bu]using hq
   obtain⟨c,xg,mg⟩:=oQ q hq;refine⟨c,by rw [cell_of_heap h9,ajQ];exact xg,dj _ _ (by simp [hasB,h2,b6.has,hb]),?_⟩;rcases mg with mg|mg
   ·cases mg
   ·rw [mg]
    exact(OQ h3.rq).1 (xt hM (λb' off cy=>dj b' off (by simp only [hasB,h2];exact .inr ⟨q,cy⟩)) (h3.row q hq (by simp)))
 |box|map|dK|mA=>simp [oD]at hf
theorem qu{w0 w:World}{M0:eE w0}{O:Env}{M:a7}{T:List AV}{S:ak}{a:Act}{K:List AV->ak->Prop}
  (h:u3 k T S K) (st:St M0 O M S w) (tm:Tm O w M T a):
  ∃B r,(an S k=some B/\oD B=some r)/\∃T' S',K T' S'/\St M0 (aV O k) (dB M O k) S' w/\Tm (aV O k) w (dB M O k) T' a/\T'.length=T.length/\
   (∀v,aJ O w M (.vec k) v->bd w (dB M O k) r v):=by
 have go:∀B r,an S k=some B->oD B=some r->(lh S k λS=>c6 k (.ro r) T λT=>cf k (.ro r) S λS=>K T S)->∃B r,(an S k=some B/\oD B=some r)/\∃T' S',K T' S'/\St M0 (aV O k) (dB M O k) S' w/\Tm (aV O k) w (dB M O k) T' a/\T'.length=T.length/\
   (∀v,aJ O w M (.vec k) v->bd w (dB M O k) r v):=λB r hf hr h=>by
  have hB:=st.aZ k _ hf;have rd:∀v,aJ O w M (.vec k) v->bd w (dB M O k) r v:=λv hv=>rZ (λ_ _ h=>h.1) (λ_ _ h h'=>h'.2 h) hB hr hv;obtain⟨T',S',h1,h2,h3,h4,h5,_⟩:=xr h st tm λv hv=>⟨rd v hv,rd v hv,rd v hv⟩;exact⟨B,r,⟨hf,hr⟩,T',S',h1,h2,h3,h4,rd⟩
 unfold u3 at h;split at h
 ·rename_i wm r hf
  exact go _ r hf rfl h
 ·rename_i r hf
  exact go _ r hf rfl h
 ·exact h.elim
end
end Go.AM
end
theorem ab{a:Prop}(h:a:=by repeat' first|refine And.intro ?_ ?_|exact True.intro|(show (_:Int)=(_:Int);omega)|omega|exact rfl|(simp only [Go.AM.RO.len];omega)):a:=h
