import Derived.Test.YtgailjhnfghkgaaGreatDoorAmQAll2
import Derived.MapKept
import Derived.WideKeyArr
import Derived.Carry
import Derived.Laws.BytesString
import Derived.Laws.CopyRow
section
namespace Go.AM
open Go Go.MapKept
section
variable{P:Program}{w:World}{vk:Option IntKind}
theorem bytes_inj{a b:List Int}(ha:∀x∈a,c6 x)(hb:∀x∈b,c6 x)(h:a.map (λ x=>UInt8.ofNat x.toNat)=b.map (λ x=>UInt8.ofNat x.toNat)):a=b:=by
 induction a generalizing b with
 |nil=>cases b with
  |nil=>rfl
  |cons y b=>simp at h
 |cons x a ih=>cases b with
  |nil=>simp at h
  |cons y b=>
   simp only [List.map_cons,List.cons.injEq]at h;have h1:=congrArg UInt8.toNat h.1;have hx:=ha x (by simp);have hy:=hb y (by simp);unfold c6 at hx hy;simp only [UInt8.toNat_ofNat']at h1;rw [ih (λ z hz=>ha z (List.mem_cons_of_mem _ hz)) (λ z hz=>hb z (List.mem_cons_of_mem _ hz)) h.2,show x=y by omega]
theorem Nz{a b:List Int}(ha:∀x∈a,c6 x)(hb:∀x∈b,c6 x)(h:ca a=ca b):a=b:=by
 refine bytes_inj ha hb ?_;have:=congrArg (λ s=>s.data.toList) h
 simpa [ca]using this
theorem Jv(l:List Int):l.foldl (λ r n=>r.push (UInt8.ofNat n.toNat)) ByteArray.empty=ca l:=by
 have key:∀(l:List Int) (s:ByteArray),(l.foldl (λ r n=>r.push (UInt8.ofNat n.toNat)) s).data=s.data++(l.map λ x=>UInt8.ofNat x.toNat).toArray:=by
  intro l
  induction l with
  |nil=>intro s;simp
  |cons x l ih=>intro s;simp only [List.foldl_cons,ih];simp [ByteArray.push]
 have h:=key l ByteArray.empty;have e:∀s:ByteArray,s=⟨s.data⟩:=λ s=>by cases s;rfl
 rw [e (l.foldl _ _),h];simp [ca,ByteArray.empty,ByteArray.emptyWithCapacity]
 rfl
theorem key_inj{kd:iC}{a b:List Int}{v:Value}(ha:iv kd a v)(hb:iv kd b v):a=b:=by
 cases kd with
 |int k=>
  obtain⟨n,rfl,h1,_⟩:=ha;obtain⟨m,rfl,h2,_⟩:=hb;rw [h1]at h2;cases h2;rfl
 |arr n k=>
  obtain⟨_,h1,_⟩:=ha;obtain⟨_,h2,_⟩:=hb;rw [h1]at h2;simp only [Value.agg.injEq]at h2
  have h3:a.map (λ x=>Value.int k x)=b.map (λ x=>Value.int k x):=by
   have:=congrArg Array.toList h2
   simpa using this
  exact List.map_inj_right (λ x y h=>by cases h;rfl) |>.1 h3
 |str=>
  obtain⟨h1,ha⟩:=ha;obtain⟨h2,hb⟩:=hb;rw [h1]at h2;exact Nz ha hb (by injection h2)
theorem QG{kd:iC}{a:List Int}{v v':Value}(ha:iv kd a v)(hb:iv kd a v'):v=v':=by
 cases kd with
 |int k=>
  obtain⟨n,rfl,h1,_⟩:=ha;obtain⟨m,h,h2,_⟩:=hb;cases h;rw [h1,h2]
 |arr n k=>rw [ha.2.1,hb.2.1]
 |str=>rw [ha.1,hb.1]
def Found(_P:Program)(_kt:TypeId)(w:World)(vk:Option IntKind)(key:List Int)(kv:Value)(m:List (List Int × Int))(es:List MapEntry)(i:Nat)(run:Result (Option (Nat × Value))):Prop:=
 (run= .ok none w/\getM m key=none/\kI m key=λ v=>m++[(key,v)])\/
  ∃j e n,run= .ok (some (i+j,e.val)) w/\es[j]? =some e/\e.key=kv/\getM m key=some n/\px vk n e.val/\∀v,kI m key v=m.set j (key,v)
structure FI(P:Program)(kd:iC)(kt:TypeId):Prop where
 check:∀(w:World) (em:Bool) {l:List Int} {v:Value},iv kd l v->(Instr.checkKey em 10000 kt v).run P w= .ok () w
 find:∀(w:World) (vk:Option IntKind) {key:List Int} {kv:Value} {m:List (List Int × Int)} {es:List MapEntry},iv kd key kv->lj kd vk m es->Found P kt w vk key kv m es 0 ((Instr.findKey kt kv es).run P w)
 stays:∀(w:World) {l:List Int} {v:Value},iv kd l v->(Instr.keyThatStays v v).run P w= .ok v w
theorem py{kd:iC}{kt:TypeId}{key:List Int}{kv:Value}{p:List Int × Int}{m:List (List Int × Int)}{e:MapEntry}{es:List MapEntry}{i:Nat}{run:Result (Option (Nat × Value))}(hk:iv kd key kv)(hp:iv kd p.1 e.key)(bm:e.key≠kv)(h:Found P kt w vk key kv m es (i+1) run):
  Found P kt w vk key kv (p::m) (e::es) i run:=by
 have bm:p.1≠key:=λ he=>bm (QG hp (he▸hk));rcases h with ⟨h1,h2,h3⟩|⟨j,e',x,h1,h2,h3,h4,h5,h6⟩
 ·exact .inl ⟨h1,by simp [getM,bm,h2],by funext v;simp [kI,bm,h3]⟩
 ·exact .inr ⟨j+1,e',x,by rw [h1];simp;omega,by simpa using h2,h3,by simp [getM,bm,h4],h5,λ v=>by simp [kI,bm,h6]⟩
theorem pz{kd:iC}{kt:TypeId}{key:List Int}{kv:Value}{p:List Int × Int}{m:List (List Int × Int)}{e:MapEntry}{es:List MapEntry}{i:Nat}(hk:iv kd key kv)(hp:iv kd p.1 e.key)(hv:px vk p.2 e.val)(he:e.key=kv):
  Found P kt w vk key kv (p::m) (e::es) i (.ok (some (i,e.val)) w):=by
 have:p.1=key:=key_inj (he▸hp) hk;exact .inr ⟨0,e,p.2,by simp,rfl,he,by simp [getM,this],hv,λ v=>by simp [kI,this]⟩
theorem DD{k:IntKind}{kt:TypeId}{key:List Int}{kv:Value}(w:World)(kE:iv (.int k) key kv):∀{m:List (List Int × Int)} {es:List MapEntry} (i:Nat),lj (.int k) vk m es->
  ∃r,Instr.findNow (.int k) kv es i=some r/\Found P kt w vk key kv m es i (.ok r w)
 |[],[],i,_=>⟨none,rfl,.inl ⟨rfl,rfl,rfl⟩⟩
 |p::m,e::es,i,h=>by
  obtain⟨n,rfl,rfl,hn⟩:=id kE;obtain⟨n',hn',n6,_⟩:=h.1.1
  by_cases he:n=n'
  ·subst he
   exact⟨_,by simp [Instr.findNow,n6,Instr.sameNow],pz kE h.1.1 h.1.2 n6⟩
  ·have hs:Instr.sameNow (.int k) (.int k n) e.key=some false:=by simp [Instr.sameNow,n6,he]
   obtain⟨r,h1,h2⟩:=DD w kE (i+1) h.2;exact⟨r,by simp [Instr.findNow,hs,h1],py kE h.1.1 (by rw [n6];simp;exact λ e=>he e.symm) h2⟩
 |[],_::_,_,h=>h.elim
 |_::_,[],_,h=>h.elim
theorem QH{k:IntKind}{kt:TypeId}(hk:P.underlying kt=some (.int k)):FI P (.int k) kt where
 check w em l v h:=run_checkKey hk (by obtain⟨y,_,rfl,_⟩:=h;simp [IsKey]) em 9999
 find w vk key kv m es kE hr:=by
  obtain⟨r,h1,h2⟩:=DD (P:=P) (kt:=kt) w kE 0 hr;rw [run_findKey hk h1];exact h2
 stays w l v h:=run_keyThatStays (d:=.int k) (by obtain⟨y,_,rfl,_⟩:=h;simp [IsKey])
theorem DE{kt:TypeId}{key:List Int}{kv:Value}(w:World)(kE:iv .str key kv):∀{m:List (List Int × Int)} {es:List MapEntry} (i:Nat),lj .str vk m es->
  ∃r,Instr.findNow .string kv es i=some r/\Found P kt w vk key kv m es i (.ok r w)
 |[],[],i,_=>⟨none,rfl,.inl ⟨rfl,rfl,rfl⟩⟩
 |p::m,e::es,i,h=>by
  obtain⟨h1,h2⟩:=id kE;obtain⟨n6,h3⟩:=h.1.1
  by_cases he:ca key=ca p.1
  ·have WE:=(bytes_beq _ _).2 he
   exact⟨_,by simp [Instr.findNow,n6,h1,Instr.sameNow,WE],pz kE h.1.1 h.1.2 (by rw [n6,h1,he])⟩
  ·have WE:(ca key==ca p.1)=false:=by rw [<-Bool.not_eq_true,bytes_beq];exact he
   have hs:Instr.sameNow .string kv e.key=some false:=by simp [Instr.sameNow,n6,h1,WE]
   obtain⟨r,h4,h5⟩:=DE w kE (i+1) h.2;exact⟨r,by simp [Instr.findNow,hs,h4],py kE h.1.1 (by rw [n6,h1];simp;exact λ e=>he e.symm) h5⟩
 |[],_::_,_,h=>h.elim
 |_::_,[],_,h=>h.elim
theorem QI{kt:TypeId}(hk:P.underlying kt=some .string):FI P .str kt where
 check w em l v h:=run_checkKey hk (by obtain⟨rfl,_⟩:=h;simp [IsKey]) em 9999
 find w vk key kv m es kE hr:=by
  obtain⟨r,h1,h2⟩:=DE (P:=P) (kt:=kt) w kE 0 hr;rw [run_findKey hk h1];exact h2
 stays w l v h:=run_keyThatStays (d:=.string) (by obtain⟨rfl,_⟩:=h;simp [IsKey])
theorem sZ{kd:iC}{kt:TypeId}{key:List Int}{kv:Value}(w:World)(heq:∀{lx ly:List Int} {x y:Value},iv kd lx x->iv kd ly y->∃r:Bool,(Op.equal kt x y).run P w= .ok r w/\(r=true↔x=y))(kE:iv kd key kv):
  ∀{m:List (List Int × Int)} {es:List MapEntry} (i:Nat),lj kd vk m es->Found P kt w vk key kv m es i ((Instr.findAsking kt kv es i).run P w)
 |[],[],i,_=>.inl ⟨rfl,rfl,rfl⟩
 |p::m,e::es,i,h=>by
  obtain⟨r,hr,Xa⟩:=heq kE h.1.1;cases r
  ·have bm:e.key≠kv:=λ he=>by cases Xa.2 he.symm
   have:=sZ w heq kE (i+1) h.2;have e1:(Instr.findAsking kt kv (e::es) i).run P w=(Instr.findAsking kt kv es (i+1)).run P w:=by simp [Instr.findAsking,hr]
   rw [e1];exact py kE h.1.1 bm this
  ·have e1:(Instr.findAsking kt kv (e::es) i).run P w= .ok (some (i,e.val)) w:=by simp [Instr.findAsking,hr]
   rw [e1];exact pz kE h.1.1 h.1.2 (Xa.1 rfl).symm
 |[],_::_,_,h=>h.elim
 |_::_,[],_,h=>h.elim
theorem Xb{k:IntKind}{n:Int}(h:eD k n):(Lit.int k n).wf=true:=by
 unfold eD at h;simp only [Lit.wf,decide_eq_true_eq,Bool.and_eq_true];exact h
theorem DF{α β:Type}{f:α->Option β}:∀{l:List α},(∀x∈l,∃y,f x=some y)->∃r,l.mapM f=some r
 |[],_=>⟨[],rfl⟩
 |a::as,h=>by
  obtain⟨b,hb⟩:=h a (.head _);obtain⟨r,hr⟩:=DF (l:=as) λ x hx=>h x (.tail _ hx);exact⟨b::r,by simp [List.mapM_cons,hb,hr]⟩
theorem QJ{n:Nat}{k:IntKind}{kt e:TypeId}(A:WideMaps.ArrKey P kt e n)(he:P.underlying e=some (.int k))(bk:∃m,P.types.size=m+1):FI P (.arr n k) kt:=by
 have lit:∀{l:List Int} {v:Value},iv (.arr n k) l v->∃x,keyOf P kt v=some x:=by
  intro l v h;obtain⟨h1,rfl,h2⟩:=h;have hf:(Value.agg (l.map λ x=>Value.int k x).toArray).formed P kt=true:=by simp [Value.formed,A.hu,A.size,h1]
  have hl:∃L,P.keyLits (P.types.size+1) kt (l.map λ x=>Value.int k x)=some L:=by
   obtain⟨m,hm⟩:=bk;rw [hm];unfold Program.keyLits;simp only [A.hu,A.size,A.one];rw [if_pos (by simpa using h1)]
   have:∃r,((List.range n).mapM λ i=>P.keyLits (m+1) e (((l.map λ x=>Value.int k x).drop (i*1)).take 1))=some r:=by
    refine DF λ i hi=>?_;have hi:i<l.length:=by rw [h1];simpa using hi
    have e1:((l.map λ x=>Value.int k x).drop (i*1)).take 1=[.int k l[i]]:=by
     rw [Nat.mul_one];apply List.ext_getElem?;intro j;rcases j with _|j
     ·simp [hi]
     ·simp [List.getElem?_take]
    refine⟨[.int k l[i]],?_⟩;rw [e1];unfold Program.keyLits;simp only [he];simp [Xb (h2 _ (List.getElem_mem hi))]
   obtain⟨r,hr⟩:=this;exact⟨_,by rw [hr];rfl⟩
  obtain⟨L,hL⟩:=hl;refine⟨.string (keyBytes L),?_⟩;unfold keyOf;rw [A.hu];simp only [A.keyType bk,hf,Bool.and_self,if_true];show(P.keyLits (P.types.size+1) kt (l.map λ x=>Value.int k x)).map _=_;rw [hL];rfl
 have heq:∀(w:World) {lx ly:List Int} {x y:Value},iv (.arr n k) lx x->iv (.arr n k) ly y->∃r:Bool,(Op.equal kt x y).run P w= .ok r w/\(r=true↔x=y):=λ w lx ly x y hx hy=>by
  obtain⟨a,ha⟩:=lit hx;obtain⟨b,hb⟩:=lit hy;obtain⟨r,h1,h2⟩:=run_equal_deep w (m:=2) aa (A.at 0) A.wide ha hb;refine⟨r,h1,h2.trans ⟨λ e=>keyOf_inj_deep A.tiled A.wide ha (e▸hb),λ e=>?_⟩⟩;subst e;rw [ha]at hb;exact Option.some.inj hb
 exact {
  check:=λ w em l v h=>by obtain⟨x,hx⟩:=lit h;exact A.law.check w em hx
  find:=λ w vk key kv m es kE hr=>by rw [run_findKey_eq w A.wide];exact sZ w (heq w) kE 0 hr
  stays:=λ w l v h=>by obtain⟨x,hx⟩:=lit h;exact A.law.stays w hx }
theorem lj.set{kd:iC}{key:List Int}{v:Int}:∀{m:List (List Int × Int)} {es:List MapEntry} {j:Nat} {e e':MapEntry},lj kd vk m es->es[j]? =some e->iv kd key e'.key->px vk v e'.val->lj kd vk (m.set j (key,v)) (es.set j e')
 |_::_,_::_,0,_,_,h,_,hk,hv=>⟨⟨hk,hv⟩,h.2⟩
 |_::_,_::_,j+1,_,_,h,he,hk,hv=>⟨h.1,lj.set (j:=j) h.2 (by simpa using he) hk hv⟩
 |[],[],_,_,_,_,he,_,_=>by simp at he
 |[],_::_,_,_,_,h,_,_,_=>h.elim
 |_::_,[],_,_,_,h,_,_,_=>h.elim
theorem lj.push{kd:iC}{key:List Int}{v:Int}{e':MapEntry}:∀{m:List (List Int × Int)} {es:List MapEntry},lj kd vk m es->iv kd key e'.key->px vk v e'.val->lj kd vk (m++[(key,v)]) (es++[e'])
 |[],[],_,hk,hv=>⟨⟨hk,hv⟩,ag⟩
 |_::_,_::_,h,hk,hv=>⟨h.1,lj.push h.2 hk hv⟩
 |[],_::_,h,_,_=>h.elim
 |_::_,[],h,_,_=>h.elim
theorem lj.length{kd:iC}:∀{m:List (List Int × Int)} {es:List MapEntry},lj kd vk m es->m.length=es.length
 |[],[],_=>rfl
 |_::_,_::_,h=>by simp [lj.length h.2]
 |[],_::_,h=>h.elim
 |_::_,[],h=>h.elim
theorem xw{kd:iC}{mty kt et:TypeId}{b n:Nat}{es:Array MapEntry}{m:List (List Int × Int)}{key:List Int}{kv value:Value}{x:Int}(hm:P.underlying mty=some (.map kt et))(hk:FI P kd kt)(hb:w.heap[b]? =some (.map es n))(hr:lj kd vk m es.toList)(kE:iv kd key kv)(hv:px vk x value):
  ∃es' n',(Instr.mapUpdate mty (.map (some b)) kv value).run P w= .ok () { w with heap:=w.heap.setIfInBounds b (.map es' n') }/\lj kd vk (kI m key x) es'.toList:=by
 have hc:=hk.check w false kE;rcases hk.find w vk kE hr with ⟨h1,_,h3⟩|⟨j,e,y,h1,h2,h3,_,_,h6⟩
 ·refine⟨es.push { key:=kv,val:=value,born:=n },n+1,?_,?_⟩
  ·simp [Instr.mapUpdate,run_underlying hm,MapKept.run_getObj_map hb,hc,h1,run_setObj_map _ hb,Result.andThen]
  ·rw [h3];simpa using hr.push kE hv
 ·rw [Nat.zero_add]at h1
  have hj:es[j]? =some e:=by simpa using h2
  refine⟨es.modify j λ e=>{ e with key:=kv,val:=value },n,?_,?_⟩
  ·simp [Instr.mapUpdate,run_underlying hm,MapKept.run_getObj_map hb,hc,h1,hj,h3,hk.stays w kE,run_setObj_map _ hb,Result.andThen]
  ·have hl:(es.modify j λ e=>{ e with key:=kv,val:=value }).toList=es.toList.set j { e with key:=kv,val:=value }:=by
    apply List.ext_getElem?;intro i;rw [Array.getElem?_toList,Array.getElem?_modify,List.getElem?_set]
    by_cases mo:j=i
    ·subst mo
     have aS:j<es.toList.length:=by
      rcases Nat.lt_or_ge j es.toList.length with h|h
      ·exact h
      ·rw [List.getElem?_eq_none h]at h2;cases h2
     simp [hj]
     simpa using aS
    ·simp [mo]
   rw [h6,hl];exact hr.set h2 kE hv
theorem FJ{kd:iC}{mty kt et:TypeId}{b n:Nat}{es:Array MapEntry}{m:List (List Int × Int)}{key:List Int}{kv z:Value}(hm:P.underlying mty=some (.map kt et))(hk:FI P kd kt)(hb:w.heap[b]? =some (.map es n))(hr:lj kd vk m es.toList)(kE:iv kd key kv)
  (hz:(zeroValue et).run P w= .ok z w) (mr:px vk 0 z) (ok:Bool):
  ∃v,(Instr.lookup mty (.map (some b)) kv ok).run P w= .ok (if ok then .tuple #[v,.bool (getM m key).isSome] else v) w/\px vk ((getM m key).getD 0) v:=by
 have hc:=hk.check w es.isEmpty kE;rcases hk.find w vk kE hr with ⟨h1,h2,_⟩|⟨j,e,y,h1,h2,h3,h4,h5,_⟩
 ·refine⟨z,?_,by rw [h2];exact mr⟩
  simp [Instr.lookup,run_underlying hm,MapKept.run_getObj_map hb,hc,h1,hz,h2,Result.andThen]
 ·refine⟨e.val,?_,by rw [h4];exact h5⟩
  simp [Instr.lookup,run_underlying hm,MapKept.run_getObj_map hb,hc,h1,h4,Result.andThen]
theorem xJ{kd:iC}{mty kt et:TypeId}{key:List Int}{kv z:Value}(hm:P.underlying mty=some (.map kt et))(hk:FI P kd kt)(kE:iv kd key kv)
  (hz:(zeroValue et).run P w= .ok z w) (mr:px vk 0 z):
  ∃v,(Instr.lookup mty (.map none) kv true).run P w= .ok (.tuple #[v,.bool false]) w/\px vk 0 v:=by
 have hc:=hk.check w true kE;rcases hk.find w vk kE (m:=[]) (es:=[]) trivial with ⟨h1,_,_⟩|⟨j,e,y,_,h2,_⟩
 ·refine⟨z,?_,mr⟩
  simp [Instr.lookup,run_underlying hm,hc,h1,hz,Result.andThen]
 ·simp at h2
end
section
variable{P:Program}{TY:List cP}{w0 w:World}{M0:ef w0}{ρ:Env}{M:aX}{S S0:ai}{d:Nat}
theorem Kx{a b:iC}(h:X7 a b=true):a=b:=by
 cases a<;>cases b<;>try (cases h;done)
 ·exact congrArg _ (bZ h)
 ·rename_i n k n' k'
  simp only [X7]at h;cases hn:Nat.beq n n' with
  |true=>simp only [hn]at h;rw [ay.1 hn,bZ h]
  |false=>simp only [hn]at h;cases h
 ·rfl
theorem Ky{a b:Option IntKind}(h:ZZ a b=true):a=b:=by
 cases a<;>cases b<;>try (cases h;done)
 ·rfl
 ·exact congrArg _ (bZ h)
theorem pW(aw:aO P TY){t:Nat}{K:iC->Option IntKind->Prop}(h:FF TY t K):
  ∃kt et kd vk,K kd vk/\P.underlying t=some (.map kt et)/\FI P kd kt/\∃z,(∀w,(zeroValue et).run P w= .ok z w)/\px vk 0 z:=by
 unfold FF at h;split at h
 ·rename_i kt et hd
  have hu:P.underlying t=some (.map kt et):=by
   obtain⟨i,u,_,hu,_,_,fe,_⟩:=(aw.at (t:=t) (.inr (by rw [hd];simp))).row;rw [hd]at fe;cases u<;>simp only [lT]at fe
   rw [hu,fe.1,fe.2]
  have ints:∀{e:Nat} {k:IntKind},(aq TY e).d= .int k->P.underlying e=some (.int k):=λ{e k} hd=>by
   obtain⟨i,u,_,hu,_,_,fe,_⟩:=(aw.at (t:=e) (.inr (by rw [hd];simp))).row;rw [hd]at fe;cases u<;>simp only [lT]at fe
   rw [hu,fe]
  have val:∀{K:Option IntKind->Prop},(Uf TY et λ vk=>bH (jW (aq TY et).zero) (K vk))->∃vk,K vk/\∃z,(∀w,(zeroValue et).run P w= .ok z w)/\px vk 0 z:=λ{K} h=>by
   unfold Uf at h
   have zv:jW (aq TY et).zero=true->(aq TY et).d≠.other->∃z,(∀w,(zeroValue et).run P w= .ok z w)/\Df (aq TY et).d z:=λ hz ho=>by
    obtain⟨i,u,hi,zX,_,_,_,hzero⟩:=(aw.at (t:=et) (.inr ho)).row;obtain⟨z,gg,tQ⟩:=hzero λ he=>by rw [he]at hz;cases hz
    exact⟨z,λ w=>by simp [zeroValue,typeInfo,hi,gg],tQ.2.2.2.1⟩
   split at h
   ·rename_i k hk
    rw [al]at h;obtain⟨z,h1,h2⟩:=zv h.1 (by rw [hk];simp);rw [hk]at h2;exact⟨_,h.2,z,h1,h2,jX k⟩
   ·rename_i hk
    rw [al]at h;obtain⟨z,h1,h2⟩:=zv h.1 (by rw [hk];simp);rw [hk]at h2;exact⟨_,h.2,z,h1,by rw [h2];simp,.inl rfl⟩
   ·exact h.elim
  unfold W8 at h;split at h
  ·rename_i k hk
   obtain⟨vk,h1,h2⟩:=val h;exact⟨kt,et,_,vk,h1,hu,QH (ints hk),h2⟩
  ·rename_i n e hk
   rw [al,al]at h;obtain⟨Pq,N1,h⟩:=h;unfold OP at h;split at h
   ·rename_i k he
    obtain⟨vk,h1,h2⟩:=val h
    have szc:∀{t:Nat},(aq TY t).d≠.other->P.cellsOf t=(aq TY t).sz:=λ{t} ho=>by
     obtain⟨i,u,hi,_,hs,_⟩:=(aw.at (t:=t) (.inr ho)).row;simp [Program.cellsOf,hi,hs]
    refine⟨kt,et,_,vk,h1,hu,QJ (e:=e) ⟨gO aw hk,?_,?_,?_⟩ (ints he) aw.pos,h2⟩
    ·simp [Program.plainKey,ints he]
    ·rw [szc (by rw [he];simp),ay.1 N1]
    ·rw [szc (by rw [hk];simp),ay.1 Pq]
   ·exact h.elim
  ·rename_i hk
   obtain⟨vk,h1,h2⟩:=val h
   have xf:P.underlying kt=some .string:=by
    obtain⟨i,u,_,hu,_,_,fe,_⟩:=(aw.at (t:=kt) (.inr (by rw [hk];simp))).row;rw [hk]at fe;cases u<;>simp only [lT]at fe
    exact hu
   exact⟨kt,et,_,vk,h1,hu,QI xf,h2⟩
  ·exact h.elim
 ·exact h.elim
def wW(k:IntKind):List AV->Option (List Int)
 |[]=>some []|.int k' n::l=>if kq k k'=true then (wW k l).map (n::·) else none|_::_=>none
def FK(kd:iC)(a:AV):Option (List Int):=
 match kd,a with
 |.int k,.int k' n=>if kq k k'=true then some [n] else none
 |.arr n k,.agg l=>if c5 l n=true then wW k l else none
 |.str,.str l=>some l
 |_,_=>none
def NA(vk:Option IntKind)(a:AV):Option Int:=
 match vk,a with
 |some k,.int k' n=>if kq k k'=true then some n else none
 |none,.bool e=>some (if e.val=true then 1 else 0)
 |_,_=>none
theorem y8{k:IntKind}:∀{l:List AV} {K:List Int->Prop},wS k l K->∃m,wW k l=some m/\K m
 |[],_,h=>⟨[],rfl,h⟩
 |a::l,K,h=>by
  cases a<;>try exact h.elim
  rename_i k' n;simp only [wS,al]at h;obtain⟨m,h1,h2⟩:=y8 h.2;exact⟨n::m,by simp [wW,h.1,h1],h2⟩
theorem zH{kd:iC}{a:AV}{K:List Int->Prop}(h:Jq kd a K):∃m,FK kd a=some m/\K m:=by
 cases kd with
 |int k=>
  cases a<;>try exact h.elim
  simp only [Jq,al]at h;exact⟨_,by simp [FK,h.1],h.2⟩
 |arr n k=>
  cases a<;>try exact h.elim
  simp only [Jq,al]at h;obtain⟨m,h1,h2⟩:=y8 h.2;exact⟨m,by simp [FK,h.1,h1],h2⟩
 |str=>
  cases a<;>try exact h.elim
  exact⟨_,rfl,h⟩
theorem OR{vk:Option IntKind}{a:AV}{K:Int->Prop}(h:Ug vk a K):∃m,NA vk a=some m/\K m:=by
 cases vk with
 |some k=>
  cases a<;>try exact h.elim
  simp only [Ug,al]at h;exact⟨_,by simp [NA,h.1],h.2⟩
 |none=>
  cases a<;>try exact h.elim
  rename_i e;cases e with
  |lit b=>cases b<;>exact⟨_,rfl,h⟩
  |_=>exact⟨_,rfl,h⟩
theorem DG{k:IntKind}:∀{l:List AV} {vs:List Value} {m:List Int},wW k l=some m->aJ (aH ρ w M) l vs->m.length=l.length/\vs=m.map (λ x=>Value.int k x)/\∀x∈m,eD k x
 |[],[],m,h,_=>by cases h;exact⟨rfl,rfl,by simp⟩
 |[],_::_,_,_,hv=>hv.elim
 |a::l,[],_,_,hv=>hv.elim
 |a::l,v::vs,m,h,hv=>by
  cases a<;>try (cases h;done)
  rename_i k' n;simp only [wW]at h;split at h
  ·rename_i hk
   obtain rfl:=bZ hk;cases hm:wW k l with
   |none=>rw [hm]at h;cases h
   |some m'=>
    rw [hm]at h;cases h;obtain⟨h2,h3,h4⟩:=DG hm hv.2;obtain⟨h5,h6⟩:=hv.1;exact⟨by simp [h2],by rw [h5,h3];rfl,λ x hx=>(List.mem_cons.1 hx).elim (λ e=>e▸h6) (h4 x)⟩
  ·cases h
theorem zJ{kd:iC}{a:AV}{v:Value}{l:List Int}(h:FK kd a=some l)(hv:az ρ w M a v):iv kd l v:=by
 cases kd with
 |int k=>
  cases a<;>simp only [FK]at h<;>try (cases h;done)
  split at h
  ·rename_i hk
   obtain rfl:=bZ hk;cases h;exact⟨_,rfl,hv⟩
  ·cases h
 |arr n k=>
  cases a<;>simp only [FK]at h<;>try (cases h;done)
  split at h
  ·rename_i hl
   obtain⟨cs,rfl,bR⟩:=hv;obtain⟨h2,h3,h4⟩:=DG h bR;exact⟨by rw [h2,dw hl],by rw [<-h3],h4⟩
  ·cases h
 |str=>
  cases a<;>simp only [FK]at h<;>try (cases h;done)
  cases h;exact hv
theorem OS{vk:Option IntKind}{a:AV}{v:Value}{n:Int}(h:NA vk a=some n)(hv:az ρ w M a v):px vk n v:=by
 cases vk with
 |some k=>
  cases a<;>simp only [NA]at h<;>try (cases h;done)
  split at h
  ·rename_i hk
   obtain rfl:=bZ hk;cases h;exact hv
  ·cases h
 |none=>
  cases a<;>simp only [NA]at h<;>try (cases h;done)
  rename_i e;cases h;have hv:v= .bool e.val:=hv;refine⟨?_,by split<;>simp⟩;rw [hv];cases e.val<;>simp
theorem wX{vk:Option IntKind}{n:Int}{v:Value}(h:px vk n v):aH ρ w M (QB vk n) v:=by
 cases vk with
 |some k=>exact h
 |none=>exact h.1
theorem xu(aw:aO P TY){F:Spec}{t:Nat}{r:Option Operand}{T:List AV}{K:AV->Option dH->Prop}(h:qK TY F d (.makeMap t r) T S0 K):
  ∃v B,K v B/\QS P d (.makeMap t r) T S0 v B:=by
 cases r with
 |some y=>
  simp only [qK,aB]at h;obtain⟨kt,et,kd,vk,h,hu,hk,z,hz,mr⟩:=pW aw h;split at h
  ·rename_i ky ny hy
   refine⟨_,_,h,λ w0 M0 ρ M w S' e oo ho hc st he hd=>?_,λ _ hb=>by first|(cases hb;done)|(subst_vars;simp_all)⟩;have q9:=he y (by simp [Op.operands]);rw [hy]at q9
   obtain⟨ρ',M',h1,h2,h3,h4⟩:=st.MR (w':={ w with heap:=w.heap.push (.map #[] 0) }) (ob:=.map #[] 0) (λ off=>off=0) (own:=.mp w.heap.size) (B:=.map kd vk []) (hd (by simp)).1 (hd (by simp)).2 rfl (by first|exact jT.refl _|exact⟨⟨rfl,rfl⟩,rfl,Nat.le_succ _⟩) (λ _ h=>h.symm)
    (λ ρ' M' hρ hM hk fa=>⟨w.heap.size,hρ,#[],0,by simp,hM,ag⟩)
   refine .val (v:=.map (some w.heap.size)) (w':={ w with heap:=w.heap.push (.map #[] 0) }) ?_ ⟨ρ',M',h1,RW 0 h2,h3,h4⟩;have b7:(underlying t).run P w= .ok (.map kt et) w:=by simp [underlying,hu]
   simp [execOp,ho,Instr.makeMap,b7,q9.1,asInt,asIntOf,newObj,Result.andThen,Sem.run]
  ·exact h.elim
 |none=>
  simp only [qK]at h;obtain⟨kt,et,kd,vk,h,hu,hk,z,hz,mr⟩:=pW aw h;refine⟨_,_,h,λ w0 M0 ρ M w S' e oo ho hc st he hd=>?_,λ _ hb=>by first|(cases hb;done)|(subst_vars;simp_all)⟩
  obtain⟨ρ',M',h1,h2,h3,h4⟩:=st.MR (w':={ w with heap:=w.heap.push (.map #[] 0) }) (ob:=.map #[] 0) (λ off=>off=0) (own:=.mp w.heap.size) (B:=.map kd vk []) (hd (by simp)).1 (hd (by simp)).2 rfl (by first|exact jT.refl _|exact⟨⟨rfl,rfl⟩,rfl,Nat.le_succ _⟩) (λ _ h=>h.symm)
   (λ ρ' M' hρ hM hk fa=>⟨w.heap.size,hρ,#[],0,by simp,hM,ag⟩)
  refine .val (v:=.map (some w.heap.size)) (w':={ w with heap:=w.heap.push (.map #[] 0) }) ?_ ⟨ρ',M',h1,RW 0 h2,h3,h4⟩;simp only [execOp,ho,Sem.run_bind,Sem.run_pure]
  rfl
theorem zG(aw:aO P TY){F:Spec}{t:Nat}{x k:Operand}{ok:Bool}{T:List AV}{K:AV->Option dH->Prop}(h:qK TY F d (.lookup t x k ok) T S0 K):
  ∃v B,K v B/\QS P d (.lookup t x k ok) T S0 v B:=by
 simp only [qK,aB]at h;obtain⟨kt,et,kd,vk,h,hu,hk,z,hz,mr⟩:=pW aw h;split at h
 ·rename_i j off hx
  split at h
  ·rename_i kd' vk' m hf
   rw [al,al]at h;obtain⟨h1,h2,h⟩:=h;obtain rfl:=Kx h1;obtain rfl:=Ky h2;obtain⟨key,xi,h⟩:=zH h
   have go:∀(w0:World) (M0:ef w0) (ρ:Env) (w:World) (M:aX) (S':ai) (e:Operand->Value) (oo:Oper),oo.op= .lookup t x k ok->JK S0 S'->St M0 ρ M S' w->(∀y∈(Op.lookup t x k ok).operands,az ρ w M (aP T y) (e y))->
     ∃v,(execOp e oo).run P w= .ok (.value (if ok then .tuple #[v,.bool (getM m key).isSome] else v)) w/\px vk ((getM m key).getD 0) v:=λ w0 M0 ρ w M S' e oo ho hc st he=>by
    have mA:=he x (by simp [Op.operands]);have n6:=he k (by simp [Op.operands]);rw [hx]at mA;have mA:(ρ j).bind (bY.ref · off)=some (e x):=mA;obtain⟨b,g1,es,n,g2,g3,g4⟩:=st.aW j _ (st.fB hc hf mA);have hex:=zI g1 mA;obtain⟨v,hr,hv⟩:=FJ (mty:=t) (kv:=e k) hu hk g2 g4 (zJ xi n6) (hz w) mr ok;exact⟨v,by simp [execOp,ho,hex,hr],hv⟩
   cases ok with
   |true=>
    refine bU h λ w0 M0 ρ w M S' e oo ho hc st he=>?_;obtain⟨v,h1,h2⟩:=go w0 M0 ρ w M S' e oo ho hc st he;refine⟨_,h1,_,rfl,?_,?_,ag⟩
    ·have:=wX (ρ:=ρ) (w:=w) (M:=M) h2
     cases vk<;>exact this
    ·show Value.bool _=Value.bool _;rfl
   |false=>
    refine bU h λ w0 M0 ρ w M S' e oo ho hc st he=>?_;obtain⟨v,h1,h2⟩:=go w0 M0 ρ w M S' e oo ho hc st he;refine⟨_,h1,?_⟩;have:=wX (ρ:=ρ) (w:=w) (M:=M) h2;cases vk<;>exact this
  ·exact h.elim
 ·rename_i hx
  obtain⟨key,xi,h⟩:=zH h;cases ok with
  |true=>
   refine cf h λ ρ w M e oo ho he=>?_;have mA:=he x (by simp [Op.operands]);have n6:=he k (by simp [Op.operands]);rw [hx]at mA;have mA:e x= .map none:=mA;obtain⟨v,hr,hv⟩:=xJ (mty:=t) (kv:=e k) hu hk (zJ xi n6) (hz w) mr;refine⟨.tuple #[v,.bool false],by simp [execOp,ho,mA,hr],#[v,.bool false],rfl,?_,?_,ag⟩
   ·have:=wX (ρ:=ρ) (w:=w) (M:=M) hv
    cases vk<;>exact this
   ·show Value.bool _=Value.bool _;rfl
  |false=>exact h.elim
 ·exact h.elim
end
end Go.AM
end
section
namespace Go.AM
open Go
section
variable{P:Program}{TY:List cP}{w0 w:World}{M0:ef w0}{ρ:Env}{M:aX}{S S0:ai}{d:Nat}
theorem tv(aw:aO P TY){F:Spec}{t:Nat}{x:Operand}{f:Nat}{T:List AV}{K:AV->Option dH->Prop}(h:qK TY F d (.fieldAddr t x f) T S0 K):
  ∃v B,K v B/\QS P d (.fieldAddr t x f) T S0 v B:=by
 simp only [qK,aB]at h;split at h
 ·rename_i k off fs hx hd
  split at h
  ·rename_i lb JO
   split at h
   ·rename_i o u oD
    split at h
    ·rename_i hz
     obtain⟨F',hu,tq⟩:=de aw hd;have hg:=b9 oD;rw [tq,List.getElem?_map]at hg;cases hF:F'.toList[f]? with
     |none=>rw [hF]at hg;cases hg
     |some g=>
      rw [hF]at hg;cases hg;rw [Array.getElem?_toList]at hF;have aI:=aw.at (t:=g.type) (.inl (λ e=>by rw [e]at hz;cases hz));refine bU h λ w0 M0 ρ w M S' e oo ho hc st he=>?_;have h1:=he x (by simp [Op.operands]);rw [hx]at h1;have h1:(ρ k).bind (bY.ref · off)=some (e x):=h1;obtain⟨b,h3,_⟩:=st.aW k _ (st.fB hc JO h1);have h2:=rO h3 h1;refine⟨.pointer (some ⟨b,off+g.offset,none⟩),?_,B9 _ h3⟩;have b7:(underlying t).run P w= .ok (.struct F') w:=by simp [underlying,hu]
      have bk:=aI.size w;have bm:(aq TY g.type).sz≠0:=λ e=>by rw [e]at hz;cases hz
      simp [execOp,ho,h2,Instr.fieldAt,b7,hF,Instr.sureAddr,fieldPlace,bk,bm,aQ]
    ·exact h.elim
   ·exact h.elim
  ·exact h.elim
 ·rename_i k i fs hx hd
  split at h
  ·rename_i o u oD
   split at h
   ·rename_i hz
    obtain⟨F',hu,tq⟩:=de aw hd;have hg:=b9 oD;rw [tq,List.getElem?_map]at hg;cases hF:F'.toList[f]? with
    |none=>rw [hF]at hg;cases hg
    |some g=>
     rw [hF]at hg;cases hg;rw [Array.getElem?_toList]at hF;have aI:=aw.at (t:=g.type) (.inl (λ e=>by rw [e]at hz;cases hz));refine bU h λ w0 M0 ρ w M S' e oo ho hc st he=>?_;have h1:=he x (by simp [Op.operands]);rw [hx]at h1;obtain⟨o',b,g1,g2,g3,g4,g5⟩:=h1;refine⟨.pointer (some ⟨b,i.toNat*o'.sz+g.offset,none⟩),?_,o',b,g1,g2,g3,g4,rfl⟩;have b7:(underlying t).run P w= .ok (.struct F') w:=by simp [underlying,hu]
     have bk:=aI.size w;have bm:(aq TY g.type).sz≠0:=λ e=>by rw [e]at hz;cases hz
     simp [execOp,ho,g5,Instr.fieldAt,b7,hF,Instr.sureAddr,fieldPlace,bk,bm,aQ]
   ·exact h.elim
  ·exact h.elim
 ·exact h.elim
theorem BL(aw:aO P TY){F:Spec}{t:Nat}{x:Operand}{f:Nat}{T:List AV}{K:AV->Option dH->Prop}(h:qK TY F d (.field t x f) T S0 K):
  ∃v B,K v B/\QS P d (.field t x f) T S0 v B:=by
 simp only [qK,aB]at h;split at h
 ·rename_i l fs hx hd
  split at h
  ·rename_i o u oD
   obtain⟨F',hu,tq⟩:=de aw hd;have hg:=b9 oD;rw [tq,List.getElem?_map]at hg;cases hF:F'.toList[f]? with
   |none=>rw [hF]at hg;cases hg
   |some g=>
    rw [hF]at hg;cases hg;rw [Array.getElem?_toList]at hF;obtain⟨a,hK,_⟩:=qa h;have Xc:=qa h;obtain⟨a,hK,hlen,ha⟩:=Xc;refine cf hK λ ρ w M e oo ho he=>?_;have:=he x (by simp [Op.operands]);rw [hx]at this;obtain⟨cs,h1,h2⟩:=this;have Ro:l.length=cs.size:=by rw [h2.length,Array.length_toList]
    have b7:(underlying t).run P w= .ok (.struct F') w:=by simp [underlying,hu]
    rcases ha with ⟨n9,rfl⟩|⟨n9,hs,rfl⟩
    ·have aI:=aw.at (t:=g.type) (.inr (λ e=>by rw [e]at n9;cases n9))
     refine⟨.agg (cs.extract g.offset (g.offset+(aq TY g.type).sz)),by simp [execOp,ho,h1,Instr.field,b7,hF,asAgg,part,aI.agg,n9,aI.size],_,rfl,?_⟩
     have:(cs.extract g.offset (g.offset+(aq TY g.type).sz)).toList=(cs.toList.drop g.offset).take (aq TY g.type).sz:=by
      rw [Array.toList_extract,List.extract_eq_take_drop];simp
     rw [this];exact(h2.drop _).take _
    ·have aI:=aw.at (t:=g.type) (.inl (by rw [hs];decide))
     obtain⟨c,h7,h8⟩:=h2.get g.offset aa;rw [Array.getElem?_toList]at h7;exact⟨c,by simp [execOp,ho,h1,Instr.field,b7,hF,asAgg,part,aI.agg,n9,h7],cE h8⟩
  ·exact h.elim
 ·exact h.elim
theorem xt(aw:aO P TY){F:Spec}{s t:Nat}{x:Operand}{T:List AV}{K:AV->Option dH->Prop}(h:qK TY F d (.convert s t x) T S0 K):
  ∃v B,K v B/\QS P d (.convert s t x) T S0 v B:=by
 simp only [qK,aB]at h
 have und:∀{t:Nat} {k:IntKind},(aq TY t).d= .int k->P.underlying t=some (.int k):=λ{t k} hd=>by
  obtain⟨u,h1,h2,_⟩:=(aw.at (t:=t) (.inr (by rw [hd];simp))).under;rw [hd]at h2;cases u<;>first|(cases h2;exact h1)|exact h2.elim
 split at h
 ·rename_i k k' k'' n hd iw hx
  rw [al,jB]at h;obtain⟨hk,hr,h⟩:=h;refine cf h λ ρ w M e oo ho he=>?_;have cX:=he x (by simp [Op.operands]);rw [hx]at cX;have us:(underlying s).run P w= .ok (.int k) w:=by simp [underlying,und hd]
  have ut:(underlying t).run P w= .ok (.int k') w:=by simp [underlying,und iw]
  exact⟨.int k' (k'.wrap n),by simp [execOp,ho,cX.1,convert,us,ut,Conv.intToInt],kZ hr⟩
 ·rename_i k k'' n hd iw hx
  rw [al]at h;obtain⟨hk,hr,h⟩:=h;refine cf h λ ρ w M e oo ho he=>?_;have cX:=he x (by simp [Op.operands]);rw [hx]at cX;have us:(underlying s).run P w= .ok (.int k) w:=by simp [underlying,und hd]
  have ut:(underlying t).run P w= .ok .string w:=by
   obtain⟨u,h1,h2,_⟩:=(aw.at (t:=t) (.inr (by rw [iw];simp))).under;rw [iw]at h2;cases u<;>first|(simp [underlying,h1];done)|exact h2.elim
  refine⟨.string (ca [n]),by simp [execOp,ho,cX.1,convert,us,ut,Conv.intToString,Fm hr.1 hr.2],rfl,λ z hz=>?_⟩;rw [List.mem_singleton.1 hz];exact⟨hr.1,aa⟩
 ·rename_i e a hd iw
  split at h
  ·rename_i he8
   have us:=bV aw hd;have ue:=und he8
   have ut:P.underlying t=some .string:=by
    obtain⟨u,h1,h2,_⟩:=(aw.at (t:=t) (.inr (by rw [iw];simp))).under;rw [iw]at h2;cases u<;>first|exact h1|exact h2.elim
   have key:∃l,K (.str l) none/\∀(w0:World) (M0:ef w0) (ρ:Env) (w:World) (M:aX) (S':ai) (v:Value),JK S0 S'->St M0 ρ M S' w->az ρ w M (aP T x) v->
     ∃ad cap,v= .slice ad l.length cap/\(l.length=0\/∃b off,ad=some ⟨b,off,none⟩/\∀q,q<l.length->∃c,w.cell? ⟨b,off+q,none⟩=some c/\c= .int .u8 (l.getD q 0)/\eD .u8 (l.getD q 0)):=by
    unfold Jr at h;split at h
    ·rename_i r hx
     split at h
     ·rename_i l hl
      cases hl;refine⟨l,h,λ w0 M0 ρ w M S' v hc st hv=>?_⟩;rw [hx]at hv;obtain⟨_,ad,cap,h2,_,h3⟩:=hv;refine⟨ad,cap,h2,?_⟩;rcases h3 with h3|⟨b,off,h4,h5⟩
      ·exact .inl (by simpa [RO.cells,RO.len,RO.sz]using h3)
      ·exact .inr ⟨b,off,h4,λ q hq=>by obtain⟨c,h6,_,h7⟩:=h5 q (by simpa [RO.cells,RO.len,RO.sz]using hq);exact⟨c,h6,h7⟩⟩
     ·exact h.elim
    ·exact h.elim
    ·rename_i j hx
     split at h
     ·rename_i wm r hf
      split at h
      ·rename_i l hl
       cases hl;refine⟨l,h,λ w0 M0 ρ w M S' v hc st hv=>?_⟩;rw [hx]at hv;obtain⟨o,g1,rfl⟩:=hv;obtain⟨⟨o',g2,g3,g4,g5,_,g6⟩,_⟩:=st.aW j _ (st.fB hc hf g1);obtain rfl:=cx g2 g1;refine⟨_,_,by rw [Sl.val,g3];rfl,?_⟩;cases hb:o.aW with
       |none=>simp only [hb]at g6;exact .inl g6.1
       |some b=>
        simp only [hb]at g6;obtain⟨_,cs,ty,g7,_,_,g8⟩:=g6;exact .inr ⟨b,0,rfl,λ q hq=>by obtain⟨c,g9,g10⟩:=g8 q (by simpa [RO.cells,RO.len,RO.sz]using hq);exact⟨c,by rw [cell_of_heap g7,Nat.zero_add];exact g9,g10⟩⟩
      ·exact h.elim
     ·exact h.elim
    ·exact h.elim
   obtain⟨l,h,bc⟩:=key;refine bU h λ w0 M0 ρ w M S' e oo ho hc st he=>?_;obtain⟨ad,cap,hv,bR⟩:=bc w0 M0 ρ w M S' _ hc st (he x (by simp [Op.operands]))
   have Bu:∀v w',(Conv.bytesToString (e x)).run P w= .ok v w'->(execOp e oo).run P w= .ok (.value v) w':=λ v w' hr=>by
    rw [hv]at hr;have:=run_convert_bytes_string (P:=P) w s t _ ad l.length cap us ue ut;simp [execOp,ho,hv,this,hr]
   have bX:∀z∈l,c6 z\/l.length=0:=λ z hz=>by
    rcases bR with h0|⟨b,off,_,hq⟩
    ·exact .inr h0
    ·obtain⟨q,zk,rfl⟩:=List.mem_iff_getElem.1 hz
     obtain⟨_,_,_,h9⟩:=hq q zk;refine .inl ?_;simp only [List.getD,List.getElem?_eq_getElem zk,Option.getD_some]at h9;exact h9
   have hbp:∀z∈l,c6 z:=λ z hz=>(bX z hz).elim id λ h0=>by rw [List.length_eq_zero_iff.1 h0]at hz;cases hz
   rcases bR with h0|⟨b,off,rfl,hq⟩
   ·have Gb:l=[]:=List.length_eq_zero_iff.1 h0
    subst Gb;refine⟨.string (ca []),Bu _ _ ?_,rfl,hbp⟩;rw [hv];cases ad with
    |none=>rfl
    |some a=>
     have:=run_bytesToString (P:=P) w a 0 cap [] rfl;exact this
   ·refine⟨.string (ca l),Bu _ _ ?_,rfl,hbp⟩
    rw [hv,run_bytesToString w _ _ cap l ?_,Jv]
    have:=run_loadCells_list (P:=P) (w:=w) (⟨b,off,none⟩:Addr) (l.map (Value.int .u8)) (λ j v hj=>by
     rw [List.getElem?_map]at hj;cases oy:l[j]? with
     |none=>rw [oy]at hj;cases hj
     |some n=>
      rw [oy]at hj;have hj:some (Value.int .u8 n)=some v:=hj
      have aS:j<l.length:=by
       rcases Nat.lt_or_ge j l.length with h'|h'
       ·exact h'
       ·rw [List.getElem?_eq_none h']at oy;cases oy
      obtain⟨c,h1,h2,_⟩:=hq j aS;rw [aQ,h1,h2];simp only [List.getD,oy,Option.getD_some];exact hj)
    rw [List.length_map]at this;exact this
  ·exact h.elim
 ·exact h.elim
theorem tw(aw:aO P TY){F:Spec}{t:Nat}{x i:Operand}{T:List AV}{K:AV->Option dH->Prop}(h:qK TY F d (.indexAddr t x i) T S0 K):
  ∃v B,K v B/\QS P d (.indexAddr t x i) T S0 v B:=by
 simp only [qK,aB]at h;obtain⟨k,n,hi,h⟩:=dO h;split at h
 ·rename_i r hx
  rw [al,bS]at h;obtain⟨aU,⟨h1,h2⟩,h⟩:=h;obtain⟨e',iw,hu,oz,aI⟩:=bT aw aU;refine cf h λ ρ w M e oo ho he=>?_;have cX:=he x (by simp [Op.operands]);have s3:=he i (by simp [Op.operands]);rw [hx]at cX;rw [hi]at s3;obtain⟨b,off,cap,hv⟩:=Qq cX aa;have b7:(underlying t).run P w= .ok (.slice e') w:=by simp [underlying,hu]
  refine⟨.pointer (some ⟨b,off+n.toNat*r.sz,none⟩),?_,b,off,cap,by rw [<-hv];exact cX,h1,h2,rfl⟩;simp [execOp,ho,hv,s3.1,Instr.indexAt,asIntOf,b7,h1,h2,aI.size,oz,aQ]
 ·rename_i kk hx
  split at h
  ·rename_i wm r ov hf
   rw [al,bS]at h;obtain⟨aU,⟨h1,h2⟩,h⟩:=h;obtain⟨e',iw,hu,oz,aI⟩:=bT aw aU;refine bU h λ w0 M0 ρ w M S' e oo ho hc st he=>?_;have cX:=he x (by simp [Op.operands]);have s3:=he i (by simp [Op.operands]);rw [hx]at cX;rw [hi]at s3;obtain⟨o,g1,g2⟩:=cX;obtain⟨⟨o',g3,g4,g5,_,_,g6⟩,_⟩:=st.aW kk _ (st.fB hc hf g1);obtain rfl:=cx g3 g1;have b7:(underlying t).run P w= .ok (.slice e') w:=by simp [underlying,hu]
   cases hb:o.aW with
   |none=>simp only [hb]at g6;omega
   |some b=>
    refine⟨.pointer (some ⟨b,n.toNat*o.sz,none⟩),?_,o,b,g1,hb,h1,by rw [g4];exact h2,rfl⟩;have aS:n<(o.len:Int):=by rw [g4];exact h2
    simp [execOp,ho,g2,Sl.val,hb,s3.1,Instr.indexAt,asIntOf,b7,h1,aS,aI.size,oz,aQ,g5]
  ·rename_i r hole hf
   rw [al,bS]at h;obtain⟨aU,⟨h1,h2⟩,h⟩:=h;obtain⟨e',iw,hu,oz,aI⟩:=bT aw aU;refine bU h λ w0 M0 ρ w M S' e oo ho hc st he=>?_;have cX:=he x (by simp [Op.operands]);have s3:=he i (by simp [Op.operands]);rw [hx]at cX;rw [hi]at s3;obtain⟨o,g1,g2⟩:=cX;obtain⟨o',rows,g3,g4⟩:=st.aW kk _ (st.fB hc hf g1);have g1':=g1;rw [oB g3]at g1;cases g1;have g6:=g4.outer;have b7:(underlying t).run P w= .ok (.slice e') w:=by simp [underlying,hu]
   cases hb:o.aW with
   |none=>simp only [hb]at g6;omega
   |some b=>
    refine⟨.pointer (some ⟨b,n.toNat*o.sz,none⟩),?_,o,b,g1',hb,h1,by rw [g4.len];exact h2,rfl⟩;have aS:n<(o.len:Int):=by rw [g4.len];exact h2
    have bk:o.sz=r.sz:=by rw [g4.NS,kO g4.rq]
    simp [execOp,ho,g2,Sl.val,hb,s3.1,Instr.indexAt,asIntOf,b7,h1,aS,aI.size,oz,aQ,bk]
  ·rename_i n0 r hf
   rw [al,bS]at h;obtain⟨aU,⟨h1,h2⟩,h⟩:=h;obtain⟨e',iw,hu,oz,aI⟩:=bT aw aU;refine bU h λ w0 M0 ρ w M S' e oo ho hc st he=>?_;have cX:=he x (by simp [Op.operands]);have s3:=he i (by simp [Op.operands]);rw [hx]at cX;rw [hi]at s3;obtain⟨o,g1,g2⟩:=cX;obtain⟨o0,cur,g3,g4',_⟩:=st.aW kk _ (st.fB hc hf g1);have HX:cur=o:=by rw [mc g3]at g1;exact Option.some.inj g1
   rw [HX]at g4';obtain⟨g4,g5,_,_,g6⟩:=g4';have b7:(underlying t).run P w= .ok (.slice e') w:=by simp [underlying,hu]
   cases hb:o.aW with
   |none=>simp only [hb]at g6;omega
   |some b=>
    refine⟨.pointer (some ⟨b,n.toNat*o.sz,none⟩),?_,o,b,g1,hb,h1,by rw [g4];exact h2,rfl⟩;have aS:n<(o.len:Int):=by rw [g4];exact h2
    simp [execOp,ho,g2,Sl.val,hb,s3.1,Instr.indexAt,asIntOf,b7,h1,aS,aI.size,oz,aQ,g5]
  ·exact h.elim
 ·rename_i kk off hx
  split at h
  ·rename_i n' e' l hd hf
   rw [al]at h;obtain⟨hs,⟨h1,h2⟩,h⟩:=h;have h:=A3 h aa aa;obtain⟨u,hu,fe,_⟩:=(aw.at (t:=t) (.inr (by rw [hd];simp))).under;rw [hd]at fe
   have zX:P.underlying t=some (.array n' e'):=by
    cases u<;>first|(obtain⟨rfl,rfl⟩:=fe;exact hu)|(cases fe;exact hu)|exact fe.elim
   have aI:=aw.at (t:=e') (.inl (by rw [ay.1 hs];decide));refine bU h λ w0 M0 ρ w M S' e oo ho hc st he=>?_;have cX:=he x (by simp [Op.operands]);have s3:=he i (by simp [Op.operands]);rw [hx]at cX;rw [hi]at s3;have cX:(ρ kk).bind (bY.ref · off)=some (e x):=cX;obtain⟨b,g1,_⟩:=st.aW kk _ (st.fB hc hf cX);have g2:=rO g1 cX;have b7:(underlying t).run P w= .ok (.array n' e') w:=by simp [underlying,zX]
   refine⟨.pointer (some ⟨b,off+n.toNat,none⟩),?_,B9 (off+n.toNat) g1⟩;simp [execOp,ho,g2,s3.1,Instr.indexAt,asIntOf,Instr.sureAddr,b7,h1,h2,aI.size,ay.1 hs,aQ]
  ·exact h.elim
 ·rename_i kk off hx
  split at h
  ·rename_i n' e' hd
   obtain⟨u,hu,fe,_⟩:=(aw.at (t:=t) (.inr (by rw [hd];simp))).under;rw [hd]at fe
   have zX:P.underlying t=some (.array n' e'):=by
    cases u<;>first|(obtain⟨rfl,rfl⟩:=fe;exact hu)|(cases fe;exact hu)|exact fe.elim
   split at h
   ·split at h
    ·rename_i wm l hf
     rw [al]at h;obtain⟨hs,⟨h0,⟨h1,h2⟩,h3⟩,h⟩:=h;have aI:=aw.at (t:=e') (.inl (by rw [ay.1 hs];decide));refine bU h λ w0 M0 ρ w M S' e oo ho hc st he=>?_;have cX:=he x (by simp [Op.operands]);have s3:=he i (by simp [Op.operands]);rw [hx]at cX;rw [hi]at s3;obtain⟨o',b,g1,g2,g3,g4,g5⟩:=cX;obtain⟨⟨o2,k1,k2,k3,_⟩,_⟩:=st.aW kk _ (st.fB hc hf g1);obtain rfl:=cx k1 g1;have b7:(underlying t).run P w= .ok (.array n' e') w:=by simp [underlying,zX]
     have k3:o'.sz=1:=k3;have k2:o'.len=l.length:=k2;subst h0;refine⟨.pointer (some ⟨b,n.toNat*o'.sz,none⟩),?_,o',b,g1,g2,h1,by rw [k2];exact h3,rfl⟩;simp [execOp,ho,g5,s3.1,Instr.indexAt,asIntOf,Instr.sureAddr,b7,h1,h2,aI.size,ay.1 hs,aQ,k3]
    ·exact h.elim
   rw [al]at h;obtain⟨hs,⟨h1,h2⟩,h⟩:=h;have h:=A3 h aa aa;have aI:=aw.at (t:=e') (.inl (by rw [ay.1 hs];decide));refine bU h λ w0 M0 ρ w M S' e oo ho hc st he=>?_;have cX:=he x (by simp [Op.operands]);have s3:=he i (by simp [Op.operands]);rw [hx]at cX;rw [hi]at s3;obtain⟨o',b,g1,g2,g3,g4,g5⟩:=cX;have b7:(underlying t).run P w= .ok (.array n' e') w:=by simp [underlying,zX]
   refine⟨.pointer (some ⟨b,off.toNat*o'.sz+n.toNat,none⟩),?_,o',b,g1,g2,g3,g4,rfl⟩;simp [execOp,ho,g5,s3.1,Instr.indexAt,asIntOf,Instr.sureAddr,b7,h1,h2,aI.size,ay.1 hs,aQ]
  ·exact h.elim
 ·exact h.elim
theorem HC:∀{l:List AV} {j i:Int} {K:AV->Prop},Ue l j i K->∀n:Nat,i=j+n->n<l.length->K (nth l n)
 |[],_,_,_,_,n,_,hn=>by simp at hn
 |a::l,j,i,K,h,0,hi,_=>gA.1 (h.1 aa)
 |a::l,j,i,K,h,n+1,hi,hn=>HC (l:=l) (j:=j+1) h.2 n aa (by simpa using hn)
theorem BM(aw:aO P TY){F:Spec}{t:Nat}{x i:Operand}{T:List AV}{K:AV->Option dH->Prop}(h:qK TY F d (.index t x i) T S0 K):
  ∃v B,K v B/\QS P d (.index t x i) T S0 v B:=by
 simp only [qK,aB]at h;obtain⟨k,n,hi,h⟩:=dO h;split at h
 ·rename_i l m e' hx hd
  split at h
  ·rename_i hs hz n9
   obtain⟨⟨h1,h2⟩,h⟩:=h;have hu:=gO aw hd;have hz:=ay.1 hz;have aI:=aw.at (t:=e') (.inl (by rw [hz];decide));have hlen:=dw hs;refine cf (HC h n.toNat aa aa) λ ρ w M e oo ho he=>?_;have cX:=he x (by simp [Op.operands]);have s3:=he i (by simp [Op.operands]);rw [hx]at cX;rw [hi]at s3;obtain⟨cs,g1,g2⟩:=cX;obtain⟨c,g3,g4⟩:=g2.get n.toNat aa;rw [Array.getElem?_toList]at g3;have b7:(underlying t).run P w= .ok (.array m e') w:=by simp [underlying,hu]
   have F3:n<(m:Int):=h2;exact⟨c,by simp [execOp,ho,g1,s3.1,Instr.index,asIntOf,b7,h1,F3,part,aI.agg,n9,aI.size,hz,g3],cE g4⟩
  ·exact h.elim
 ·rename_i l hx hd
  obtain⟨⟨h1,h2⟩,h⟩:=h;have hu:=Hp aw hd;refine cf h λ ρ w M e oo ho he=>?_;have cX:=he x (by simp [Op.operands]);have s3:=he i (by simp [Op.operands]);rw [hx]at cX;rw [hi]at s3;obtain⟨g1,g2⟩:e x= .string (ca l)/\∀x∈l,c6 x:=cX;have aS:n.toNat<l.length:=aa;have hm:l.getD n.toNat 0∈l:=by rw [List.getD_eq_getElem?_getD,List.getElem?_eq_getElem aS];exact List.getElem_mem aS
  obtain⟨g3,g4⟩:0<=l.getD n.toNat 0/\l.getD n.toNat 0<=255:=g2 _ hm;have b7:(underlying t).run P w= .ok .string w:=by simp [underlying,hu]
  have hs:(ca l)[n.toNat]? =some (UInt8.ofNat (l.getD n.toNat 0).toNat):=by
   have hl:n.toNat<(ca l).size:=by rw [qP];exact aS
   rw [getElem?_pos (ca l) n.toNat hl,List.getD_eq_getElem?_getD,List.getElem?_eq_getElem aS];show some ((ca l).data[n.toNat])=_;simp [ca]
  clear hm;generalize l.getD n.toNat 0=v at g3 g4 hs ⊢;exact⟨.int .u8 v,by simp only [execOp,ho,g1,s3.1,Instr.index,asIntOf];simp [b7,h1,hs];omega,rfl,by simp [eD,IntKind.min,IntKind.max,IntKind.signed,IntKind.bits];omega⟩
 ·exact h.elim
theorem jZ{_n y:Nat}{k:IntKind}{i:Int}{code:BoundsCode}(h0:0<=i)(h1:i<=y)(w:World):(Instr.sliceBound (.int k i) y code).run P w= .ok i.toNat w:=by
 simp [Instr.sliceBound,asIntOf,h0,h1]
theorem K7{lo:Option Operand}{T:List AV}{K:Int->Prop}(h:qK.Z0 T lo K):
  ∃n,K n/\((lo=none/\n=0)\/∃x k,lo=some x/\aP T x= .int k n):=by
 cases lo with
 |none=>exact⟨0,h,.inl ⟨rfl,rfl⟩⟩
 |some x=>
  simp only [qK.Z0,aB]at h;obtain⟨k,n,h1,h2⟩:=dO h;exact⟨n,h2,.inr ⟨x,k,rfl,h1⟩⟩
theorem rH{hi:Option Operand}{T:List AV}{m:Nat}{K:Int->Prop}(h:qK.HW T hi m K):
  ∃n,K n/\((hi=none/\n=m)\/∃x k,hi=some x/\aP T x= .int k n):=by
 cases hi with
 |none=>exact⟨m,h,.inl ⟨rfl,rfl⟩⟩
 |some x=>
  simp only [qK.HW,aB]at h;obtain⟨k,n,h1,h2⟩:=dO h;exact⟨n,h2,.inr ⟨x,k,rfl,h1⟩⟩
theorem gu{T:List AV}{e:Operand->Value}{len cap:Nat}{l h:Int}{lo hi:Option Operand}(JI:len<=cap)
  (h1:(lo=none/\l=0)\/∃x k,lo=some x/\aP T x= .int k l) (h2:(hi=none/\h=len)\/∃x k,hi=some x/\aP T x= .int k h)
  (he:∀x,lo=some x\/hi=some x->az ρ w M (aP T x) (e x)) (Gb:0<=l) (hlh:l<=h) (hh:h<=len):
  (Instr.sliceBounds true len cap (lo.map e) (hi.map e) none).run P w= .ok (l.toNat,h.toNat,cap) w:=by
 have My:∀(x:Operand) (k:IntKind) (y:Nat),lo=some x->aP T x= .int k l->h.toNat=y->(Instr.sliceBound (e x) y .sliceB).run P w= .ok l.toNat w:=λ x k y h3 h4 h5=>by
  have:=he x (.inl h3);rw [h4]at this;rw [this.1];exact jZ (_n:=0) Gb aa w
 rcases h2 with ⟨rfl,rfl⟩|⟨y,k',rfl,hy⟩
 ·rcases h1 with ⟨rfl,rfl⟩|⟨x,k,rfl,hx⟩
  ·simp [Instr.sliceBounds]
  ·simp [Instr.sliceBounds,My x k len rfl hx aa]
 ·have D7:=he y (.inr rfl)
  rw [hy]at D7;have hb:=jZ (P:=P) (_n:=0) (k:=k') (i:=h) (y:=cap) (code:=.sliceAcap) aa aa w;rcases h1 with ⟨rfl,rfl⟩|⟨x,k,rfl,hx⟩
  ·simp [Instr.sliceBounds,D7.1,hb]
  ·simp [Instr.sliceBounds,D7.1,hb,My x k h.toNat rfl hx rfl]
theorem sD(aw:aO P TY){F:Spec}{t:Nat}{x:Operand}{lo hi:Option Operand}{T:List AV}{K:AV->Option dH->Prop}(h:qK TY F d (.slice t x lo hi none) T S0 K):
  ∃v B,K v B/\QS P d (.slice t x lo hi none) T S0 v B:=by
 simp only [qK,aB]at h;split at h
 ·rename_i r hx
  rw [al,bS]at h;obtain⟨aU,h⟩:=h;obtain⟨l,h,hl⟩:=K7 h;obtain⟨m,h,hm⟩:=rH h;obtain⟨⟨⟨h0,h1⟩,h2⟩,h⟩:=h;obtain⟨r',hK,g1,g2,g3⟩:=gv h aa aa;obtain⟨e',iw,hu,oz,aI⟩:=bT aw aU;refine cf hK λ ρ w M e oo ho he=>?_;have cX:=he x (by simp [Op.operands]);rw [hx]at cX;obtain⟨h5,a,cap,hv,dT,h6⟩:=cX;have b7:(underlying t).run P w= .ok (.slice e') w:=by simp [underlying,hu]
  have hb:=gu (P:=P) (ρ:=ρ) (w:=w) (M:=M) (T:=T) (e:=e) (l:=l) (h:=m) dT hl hm (λ y hy=>he y (by rcases hy with rfl|rfl<;>simp [Op.operands])) h0 h1 h2;refine⟨.slice (if cap=l.toNat then a else a.map (·.add (l.toNat*r.sz))) (m.toNat - l.toNat) (cap - l.toNat),?_,?_⟩
  ·simp [execOp,ho,hv,Instr.sliceAt,b7,Instr.slice,hb,aI.size,oz]
  ·refine⟨by rw [g1];simp only [LB]at h5 ⊢;omega,_,_,by rw [g1],by rw [g1];omega,?_⟩
   rcases Nat.eq_zero_or_pos r'.cells with h7|h7
   ·exact .inl h7
   ·have hlen:0<r'.len:=by
     rcases Nat.eq_zero_or_pos r'.len with h8|h8
     ·simp [RO.cells,h8]at h7
     ·exact h8
    rw [g1]at hlen;rcases h6 with h6|⟨b,off,rfl,h6⟩
    ·have:=r.eW
     have:0<r.cells:=Nat.mul_pos aa this;omega
    ·refine .inr ⟨b,off+l.toNat*r.sz,?_,λ q hq=>?_⟩
     ·rw [if_neg aa];simp [aQ]
     ·have aS:l.toNat*r.sz+q<r.cells:=by
       have h8:r'.cells=(m.toNat - l.toNat)*r.sz:=by simp [RO.cells,g1,g2]
       have h9:l.toNat*r.sz+(m.toNat - l.toNat)*r.sz=m.toNat*r.sz:=by rw [<-Nat.add_mul];congr 1;omega
       have cu:m.toNat*r.sz<=r.len*r.sz:=Nat.mul_le_mul_right _ aa;simp only [RO.cells]at h8 hq ⊢;omega
      obtain⟨c,h8,h9,cu⟩:=h6 _ aS;rw [<-Nat.add_assoc]at h8 h9;exact⟨c,h8,h9,g3 w M q c hq cu⟩
 ·exact h.elim
theorem DH{e:Operand->Value}{len cap:Nat}{h m:Int}{y z:Operand}{k k':IntKind}(JI:len<=cap)
  (h1:e y= .int k h) (h2:e z= .int k' m) (h0:0<=h) (hm:h=m) (hh:m<=len):
  (Instr.sliceBounds true len cap none (some (e y)) (some (e z))).run P w= .ok (0,h.toNat,m.toNat) w:=by
 have a:=jZ (P:=P) (_n:=0) (k:=k') (i:=m) (y:=cap) (code:=.slice3Acap) aa aa w;have b:=jZ (P:=P) (_n:=0) (k:=k) (i:=h) (y:=m.toNat) (code:=.slice3B) aa aa w;simp [Instr.sliceBounds,h1,h2,a,b]
theorem pX(aw:aO P TY){F:Spec}{t:Nat}{x:Operand}{lo hi:Option Operand}{z:Operand}{T:List AV}{K:AV->Option dH->Prop}(h:qK TY F d (.slice t x lo hi (some z)) T S0 K):
  ∃v B,K v B/\QS P d (.slice t x lo hi (some z)) T S0 v B:=by
 cases lo with
 |some y=>cases hi<;>exact h.elim
 |none=>
 cases hi with
 |none=>exact h.elim
 |some y=>
 simp only [qK,aB]at h;split at h
 ·rename_i r hx
  rw [al,bS]at h;obtain⟨aU,h⟩:=h;simp only [qK.HW,aB]at h;obtain⟨k,hi,hy,h⟩:=dO h;obtain⟨k',mx,hz,h⟩:=dO h;obtain⟨⟨⟨h0,h1⟩,h2⟩,h⟩:=h;obtain⟨r',hK,g1,g2,g3⟩:=gv h aa aa;obtain⟨e',iw,hu,oz,aI⟩:=bT aw aU;refine cf hK λ ρ w M e oo ho he=>?_;have cX:=he x (by simp [Op.operands]);have q9:=he y (by simp [Op.operands]);have mr:=he z (by simp [Op.operands]);rw [hx]at cX;rw [hy]at q9;rw [hz]at mr;obtain⟨h5,a,cap,hv,dT,h6⟩:=cX;have b7:(underlying t).run P w= .ok (.slice e') w:=by simp [underlying,hu]
  have hb:=DH (P:=P) (w:=w) (e:=e) dT q9.1 mr.1 h0 h1 h2;have nI:r'.len=hi.toNat:=by rw [g1];omega
  refine⟨.slice (if mx.toNat=0 then a else a.map (·.add (0*r.sz))) (hi.toNat - 0) (mx.toNat - 0),?_,?_⟩
  ·simp [execOp,ho,hv,Instr.sliceAt,b7,Instr.slice,hb,aI.size,oz]
  ·refine⟨⟨by rw [nI];simp only [LB]at h5 ⊢;omega,_,_,by rw [nI,Nat.sub_zero],by rw [nI];omega,?_⟩,_,by rw [nI,Nat.sub_zero,Nat.sub_zero,<-h1]⟩
   rcases Nat.eq_zero_or_pos r'.cells with h7|h7
   ·exact .inl h7
   ·have hlen:0<r'.len:=by
     rcases Nat.eq_zero_or_pos r'.len with h8|h8
     ·simp [RO.cells,h8]at h7
     ·exact h8
    rw [nI]at hlen;rcases h6 with h6|⟨b,off,rfl,h6⟩
    ·have:=r.eW
     have:0<r.cells:=Nat.mul_pos aa this;omega
    ·refine .inr ⟨b,off,?_,λ q hq=>?_⟩
     ·rw [if_neg aa];simp [aQ]
     ·have aS:q<r.cells:=by
       have h8:r'.cells=hi.toNat*r.sz:=by simp only [RO.cells,nI,g2]
       have cu:hi.toNat*r.sz<=r.len*r.sz:=Nat.mul_le_mul_right _ aa;simp only [RO.cells]at h8 hq ⊢;omega
      obtain⟨c,h8,h9,cu⟩:=h6 _ aS;refine⟨c,h8,h9,g3 w M q c hq ?_⟩
      simpa using cu
 ·exact h.elim
theorem QK(a b:Int):(if b>a then b else a)=max a b:=by simp only [gt_iff_lt];split<;>omega
theorem QL(a b:Int):(if b<a then b else a)=min a b:=by split<;>omega
theorem DI{c:Call}{x y:Operand}(h:c.args.toList=[x,y]):c.args= #[x,y]:=by simpa using congrArg List.toArray h
theorem wY{c:Call}{x:Operand}(h:c.args.toList=[x]):c.args= #[x]:=by simpa using congrArg List.toArray h
theorem QM{t ty e:Nat}{a:Option Addr}{n cap:Nat}(hu:P.underlying t=some (.slice e))(w:World):(Builtin.len_ #[t] ty #[.slice a n cap]).run P w= .ok (.int .i64 n) w:=by
 simp [Builtin.len_,underlying,hu,goInt]
theorem A6{n:Nat}(h:n<=LB):eD .i64 (n:Int):=FG aa (by simp only [LB]at h;omega)
theorem xv(aw:aO P TY){F:Spec}{c:Call}{b:Builtin}{T:List AV}{K:AV->Option dH->Prop}(hb:c.callee= .builtin b)(h:qK TY F d (.call c) T S0 K):
  ∃v B,K v B/\QS P d (.call c) T S0 v B:=by
 have FL:∀x∈c.args.toList,x∈(Op.call c).operands:=λ x hx=>by simp [Op.operands,Call.operands,hb];exact Array.mem_toList_iff.1 hx
 simp only [qK,hb]at h;cases b<;>try exact h.elim
 case len=>
  simp only at h;split at h
  ·rename_i x t bn zE
   have gi:iB TY t=true->∃e,P.underlying t=some (.slice e):=λ hs=>by
    unfold iB at hs;split at hs
    ·rename_i e hd;exact⟨e,bV aw hd⟩
    ·cases hs
   cases hs:iB TY t with
   |false=>
    rw [hs]at h;cases c8:Ud TY t with
    |true=>
     rw [c8]at h;simp only [aB]at h;have xh:c.argTypes= #[t]:=by simpa using congrArg List.toArray zE
     split at h
     ·rename_i l hx
      obtain⟨hle,h⟩:=h;refine bU h λ w0 M0 ρ w M S' e oo ho hc st he=>?_;have hv:=he x (FL x (by rw [bn];simp));rw [hx]at hv;have hu:=Hp aw (t:=t) (by unfold Ud at c8;split at c8<;>first|assumption|cases c8);refine⟨.int .i64 l.length,?_,rfl,FG aa aa⟩;simp [execOp,ho,resolve,hb,invoke,builtin,wY bn,xh,hv.1,Builtin.len_,underlying,hu,goInt,qP]
     ·exact h.elim
    |false=>
    rw [c8]at h;obtain⟨kt,et,kd,vk,h,hu,hk,z,hz,mr⟩:=pW aw h;rw [aB]at h;have xh:c.argTypes= #[t]:=by simpa using congrArg List.toArray zE
    split at h
    ·rename_i k off hx
     split at h
     ·rename_i kd' vk' m hf
      obtain⟨hle,h⟩:=h;refine bU h λ w0 M0 ρ w M S' e oo ho hc st he=>?_;have hv:=he x (FL x (by rw [bn];simp));rw [hx]at hv;have hv:(ρ k).bind (bY.ref · off)=some (e x):=hv;obtain⟨b,g1,es,n,g2,g3,g4⟩:=st.aW k _ (st.fB hc hf hv);have hex:=zI g1 hv;have hlen:m.length=es.size:=by rw [g4.length];simp
      refine⟨.int .i64 es.size,?_,by rw [hlen],FG aa aa⟩;simp [execOp,ho,resolve,hb,invoke,builtin,wY bn,xh,hex,Builtin.len_,underlying,hu,MapKept.run_getObj_map g2,goInt]
     ·exact h.elim
    ·exact h.elim
   |true=>
   rw [hs]at h;simp only [aB]at h;obtain⟨e',hu⟩:=gi hs;have xh:c.argTypes= #[t]:=by simpa using congrArg List.toArray zE
   have mA:x∈(Op.call c).operands:=FL x (by rw [bn];simp)
   have fin:∀(w0:World) (M0:ef w0) (ρ:Env) (w:World) (M:aX) (S':ai) (e:Operand->Value) (oo:Oper) (a:Option Addr) (n cap:Nat),oo.op= .call c->e x= .slice a n cap->(execOp e oo).run P w= .ok (.value (.int .i64 n)) w:=by
    intro w0 M0 ρ w M S' e oo a n cap ho hv;simp [execOp,ho,resolve,hb,invoke,builtin,wY bn,xh,hv,QM hu]
   split at h
   ·rename_i r hr
    rw [bS]at h;refine bU h λ w0 M0 ρ w M S' e oo ho hc st he=>?_;have hv:=he x mA;rw [hr]at hv;obtain⟨h5,a,cap,hv,_⟩:=hv;exact⟨_,fin w0 M0 ρ w M S' e oo a r.len cap ho hv,rfl,A6 h5⟩
   ·rename_i hr
    refine bU h λ w0 M0 ρ w M S' e oo ho hc st he=>?_;have hv:=he x mA;rw [hr]at hv;exact⟨_,fin w0 M0 ρ w M S' e oo none 0 0 ho hv,rfl,jX _⟩
   ·rename_i k hr
    split at h
    ·rename_i wm r ov hf
     rw [bS]at h;refine bU h λ w0 M0 ρ w M S' e oo ho hc st he=>?_;have hv:=he x mA;rw [hr]at hv;obtain⟨o,g1,g2⟩:=hv;obtain⟨⟨o',g3,g4,g5,g6,_⟩,_⟩:=st.aW k _ (st.fB hc hf g1);obtain rfl:=cx g3 g1;refine⟨_,fin w0 M0 ρ w M S' e oo _ o.len o.cap ho g2,by rw [g4],A6 g6⟩
    ·rename_i r hole hf
     rw [bS]at h;refine bU h λ w0 M0 ρ w M S' e oo ho hc st he=>?_;have hv:=he x mA;rw [hr]at hv;obtain⟨o,g1,g2⟩:=hv;obtain⟨o',rows,g3,g4⟩:=st.aW k _ (st.fB hc hf g1);rw [oB g3]at g1;cases g1;exact⟨_,fin w0 M0 ρ w M S' e oo _ o.len o.cap ho g2,by rw [g4.len],A6 g4.lb⟩
    ·rename_i n0 r hf
     rw [bS]at h;refine bU h λ w0 M0 ρ w M S' e oo ho hc st he=>?_;have hv:=he x mA;rw [hr]at hv;obtain⟨o,g1,g2⟩:=hv;obtain⟨o0,cur,g3,g4',_⟩:=st.aW k _ (st.fB hc hf g1);have HX:cur=o:=by rw [mc g3]at g1;exact Option.some.inj g1
     rw [HX]at g4';obtain⟨g4,g5,g6,_⟩:=g4';refine⟨_,fin w0 M0 ρ w M S' e oo _ o.len o.cap ho g2,by rw [g4],A6 g6⟩
    ·exact h.elim
   ·exact h.elim
  ·exact h.elim
 case max=>
  simp only at h;split at h
  ·rename_i x y bn
   rw [aB,aB]at h;split at h
   ·rename_i k a k' b hx hy
    rw [al]at h;obtain⟨hk,h⟩:=h;obtain rfl:=bZ hk;refine cf h λ ρ w M e oo ho he=>?_;have h1:=he x (FL x (by rw [bn];simp));have h2:=he y (FL y (by rw [bn];simp));rw [hx]at h1;rw [hy]at h2;refine⟨.int k (max a b),?_,rfl,by obtain⟨_,h3,h4⟩:=h1;obtain⟨_,h5,h6⟩:=h2;exact⟨aa,aa⟩⟩;have:=QK a b;simp only [gt_iff_lt]at this;simp [execOp,ho,resolve,hb,invoke,builtin,DI bn,h1.1,h2.1,Builtin.max_,Builtin.max2,this]
   ·exact h.elim
  ·exact h.elim
 case min=>
  simp only at h;split at h
  ·rename_i x y bn
   rw [aB,aB]at h;split at h
   ·rename_i k a k' b hx hy
    rw [al]at h;obtain⟨hk,h⟩:=h;obtain rfl:=bZ hk;refine cf h λ ρ w M e oo ho he=>?_;have h1:=he x (FL x (by rw [bn];simp));have h2:=he y (FL y (by rw [bn];simp));rw [hx]at h1;rw [hy]at h2;refine⟨.int k (min a b),?_,rfl,by obtain⟨_,h3,h4⟩:=h1;obtain⟨_,h5,h6⟩:=h2;exact⟨aa,aa⟩⟩;simp [execOp,ho,resolve,hb,invoke,builtin,DI bn,h1.1,h2.1,Builtin.min_,Builtin.min2,QL a b]
   ·exact h.elim
  ·exact h.elim
end
end Go.AM
end
section
namespace Go.AM
open Go
def eX(M:aX)(ρ:Env)(ks:List Nat):aX:=λ b off=>M b off/\∀k∈ks,¬hasB ρ k b
theorem qY:∀(l m:List Nat),A2 l m=l++m
 |[],_=>rfl|_::l,m=>by simp [A2,qY l m]
theorem l4(w:World)(M:aX)(ρ:Env)(ks:List Nat):bB w M w (eX M ρ ks):=λ _ _ _ h h'=>⟨h,λ hm=>h' hm.1⟩
section
variable{P:Program}{TY:List cP}{w0 w:World}{M0:ef w0}{ρ:Env}{M:aX}{S S0:ai}{d:Nat}
theorem wZ{k:Nat}{B:dH}{r:RO}{v:Value}{ks:List Nat}(hk:k∈ks)(hB:eA ρ w M k B)(hf:n7 B=some r)(hv:aH ρ w M (.vec k) v):a8 w (eX M ρ ks) r v:=
 rv (λ _ _ h=>h.1) (λ _ _ h h'=>h'.2 k hk h) hB hf hv
theorem QN{r r':RO}{o:Sl}{i:Nat}(hs:o.sz=r.sz)(hi:i<=r.len)(h:a8 w M r o.val)(g1:r'.len=r.len - i)(g2:r'.sz=r.sz)(g3:∀(w:World) (M:aX) q c,q<r'.cells->(av w M r (i*r.sz+q) c->av w M r' q c)):a8 w M r' (o.SB i):=by
 obtain⟨h5,a,cap,hv,dT,h6⟩:=h;have V3:(o.aW.map λ b=>(⟨b,0,none⟩:Addr))=a/\o.len=r.len/\o.cap=cap:=by simpa [Sl.val]using hv
 obtain⟨V3,SE,rfl⟩:=V3;refine⟨by rw [g1];simp only [LB]at h5 ⊢;omega,_,_,by unfold Sl.SB;rw [g1,SE,V3],by rw [g1];omega,?_⟩;rcases Nat.eq_zero_or_pos r'.cells with h7|h7
 ·exact .inl h7
 ·have hlen:0<r'.len:=by
   rcases Nat.eq_zero_or_pos r'.len with h8|h8
   ·simp [RO.cells,h8]at h7
   ·exact h8
  rw [g1]at hlen;rcases h6 with h6|⟨b,off,rfl,h6⟩
  ·have:=r.eW
   have:0<r.cells:=Nat.mul_pos aa this;omega
  ·refine .inr ⟨b,off+i*r.sz,?_,λ q hq=>?_⟩
   ·rw [if_neg aa,hs];simp [aQ]
   ·have aS:i*r.sz+q<r.cells:=by
     have h8:r'.cells=(r.len - i)*r.sz:=by simp [RO.cells,g1,g2]
     have h9:i*r.sz+(r.len - i)*r.sz=r.len*r.sz:=by rw [<-Nat.add_mul];congr 1;omega
     simp only [RO.cells]at h8 hq ⊢;omega
    obtain⟨c,h8,h9,cu⟩:=h6 _ aS;rw [<-Nat.add_assoc]at h8 h9;exact⟨c,h8,h9,g3 w M q c hq cu⟩
theorem Bx{R R':AV->Value->Prop}{m:List Value}(h:aJ R [] m):aJ R' [] m:=by cases m<;>exact h
theorem s4{a:AV}{K:AV->List Nat->Prop}(h:Dv S a K):
  ∃a' ks,K a' ks/\(∀k∈ks,∃B r,aj S k=some B/\n7 B=some r)/\((∀l,a'≠.agg l)/\∀l,a'≠.cC l)/\
   ∀(ρ:Env) (w:World) (M:aX),(∀k B,aj S k=some B->(ρ k).isSome->eA ρ w M k B)->∀ks' v,(∀k∈ks,k∈ks')->
    (aH ρ w M a v->aH bg w (eX M ρ ks') a' v)/\(az ρ w M a v->az bg w (eX M ρ ks') a' v):=by
 cases a with
 |vec k=>
  simp only [Dv]at h
  have go:∀B r,aj S k=some B->n7 B=some r->K (.ro r) [k]->∃a' ks,K a' ks/\(∀k∈ks,∃B r,aj S k=some B/\n7 B=some r)/\((∀l,a'≠.agg l)/\∀l,a'≠.cC l)/\
   ∀(ρ:Env) (w:World) (M:aX),(∀k B,aj S k=some B->(ρ k).isSome->eA ρ w M k B)->∀ks' v,(∀k∈ks,k∈ks')->
    (aH ρ w M (.vec k) v->aH bg w (eX M ρ ks') a' v)/\(az ρ w M (.vec k) v->az bg w (eX M ρ ks') a' v):=λ B r hf hr h=>by
   refine⟨_,_,h,λ j hj=>by simp at hj;subst hj;exact⟨B,r,hf,hr⟩,by simp,λ ρ w M hB ks' v Bg=>?_⟩;have hk:=Bg k (by simp);exact⟨λ hv=>wZ hk (hB k _ hf (by obtain⟨o,h1,_⟩:=hv;exact jY h1)) hr hv,λ hv=>wZ hk (hB k _ hf (by obtain⟨o,h1,_⟩:=hv;exact jY h1)) hr hv⟩
  split at h
  ·rename_i wm r hf
   exact go _ r hf rfl h
  ·rename_i r hf
   exact go _ r hf rfl h
  ·exact h.elim
 |gf k i=>
  simp only [Dv]at h;split at h
  ·rename_i wm r hf
   rw [bS]at h;obtain⟨hi,h⟩:=h;obtain⟨r',h,g1,g2,g3⟩:=gv h hi (Nat.le_refl _);refine⟨_,_,h,λ j hj=>by simp at hj;subst hj;exact⟨_,r,hf,rfl⟩,by simp,λ ρ w M hB ks' v Bg=>?_⟩;have hk:=Bg k (by simp)
   have main:aH ρ w M (.gf k i) v->aH bg w (eX M ρ ks') (.ro r') v:=λ hv=>by
    obtain⟨o,h1,h2,h3,rfl⟩:=hv;have hb:=hB k _ hf (jY h1);have hr:=wZ (v:=o.val) hk hb rfl ⟨o,h1,rfl⟩;obtain⟨⟨o',k2,k3,k4,_⟩,_⟩:=hb;obtain rfl:=cx k2 h1;exact QN k4 hi hr g1 g2 g3
   exact⟨main,main⟩
  ·exact h.elim
 |int k n=>exact⟨_,_,h,by simp,by simp,λ ρ w M _ ks' v _=>⟨id,id⟩⟩
 |bool e=>exact⟨_,_,h,by simp,by simp,λ ρ w M _ ks' v _=>⟨id,id⟩⟩
 |ro r=>exact⟨_,_,h,by simp,by simp,λ ρ w M _ ks' v _=>⟨λ hv=>a8.keep (l4 _ _ _ _) hv,λ hv=>a8.keep (l4 _ _ _ _) hv⟩⟩
 |ao=>exact⟨_,_,h,by simp,by simp,λ ρ w M _ ks' v _=>⟨id,id⟩⟩
 |bK=>exact⟨_,_,h,by simp,by simp,λ ρ w M _ ks' v _=>⟨id,id⟩⟩
 |any=>exact⟨_,_,h,by simp,by simp,λ ρ w M _ ks' v _=>⟨id,id⟩⟩
 |str l=>exact⟨_,_,h,by simp,by simp,λ ρ w M _ ks' v _=>⟨id,id⟩⟩
 |eH r i=>refine⟨_,_,h,by simp,by simp,λ ρ w M _ ks' v _=>⟨λ hv=>?_,λ hv=>?_⟩⟩<;>(obtain⟨b,off,cap,h1,h2⟩:=hv;exact⟨b,off,cap,h1.keep (l4 _ _ _ _),h2⟩)
 |tP f r i=>refine⟨_,_,h,by simp,by simp,λ ρ w M _ ks' v _=>⟨λ hv=>?_,λ hv=>?_⟩⟩<;>(obtain⟨b,off,cap,h1,h2⟩:=hv;exact⟨b,off,cap,h1.keep (l4 _ _ _ _),h2⟩)
 |fn f l=>
  cases l with
  |nil=>exact⟨_,_,h,by simp,by simp,λ ρ w M _ ks' v _=>⟨id,λ⟨cs,h1,h2⟩=>⟨cs,h1,Bx h2⟩⟩⟩
  |cons=>exact h.elim
 |_=>exact h.elim
theorem s5:∀{l:List AV} {K:List AV->List Nat->Prop},Nk S l K->
  ∃l' ks,K l' ks/\(∀k∈ks,∃B r,aj S k=some B/\n7 B=some r)/\
   ∀(ρ:Env) (w:World) (M:aX),(∀k B,aj S k=some B->(ρ k).isSome->eA ρ w M k B)->∀ks' vs,(∀k∈ks,k∈ks')->aJ (aH ρ w M) l vs->aJ (aH bg w (eX M ρ ks')) l' vs
 |[],_,h=>⟨[],[],h,by simp,λ _ _ _ _ _ vs _ hv=>by cases vs<;>exact hv⟩
 |a::l,K,h=>by
  obtain⟨a',ks,h1,h2,_,h3⟩:=s4 h;obtain⟨l',ks2,h4,h5,h6⟩:=s5 h1;refine⟨_,_,h4,λ k hk=>?_,λ ρ w M hB ks' vs Bg hv=>?_⟩
  ·rw [qY]at hk
   rcases List.mem_append.1 hk with hk|hk
   ·exact h2 k hk
   ·exact h5 k hk
  ·cases vs with
   |nil=>exact hv.elim
   |cons v vs=>
    rw [qY]at Bg;exact⟨(h3 ρ w M hB ks' v λ k hk=>Bg k (List.mem_append.2 (.inl hk))).1 hv.1,h6 ρ w M hB ks' vs (λ k hk=>Bg k (List.mem_append.2 (.inr hk))) hv.2⟩
theorem fw:∀{l:List AV} {K:List AV->List Nat->Prop},sX S l K->
  ∃l' ks,K l' ks/\(∀k∈ks,∃B r,aj S k=some B/\n7 B=some r)/\
   ∀(ρ:Env) (w:World) (M:aX),(∀k B,aj S k=some B->(ρ k).isSome->eA ρ w M k B)->∀ks' vs,(∀k∈ks,k∈ks')->aJ (az ρ w M) l vs->aJ (az bg w (eX M ρ ks')) l' vs
 |[],_,h=>⟨[],[],h,by simp,λ _ _ _ _ _ vs _ hv=>by cases vs<;>exact hv⟩
 |a::l,K,h=>by
  have go:∃a' ks,(sX S l λ l' ks'=>K (a'::l') (A2 ks ks'))/\(∀k∈ks,∃B r,aj S k=some B/\n7 B=some r)/\
    ∀(ρ:Env) (w:World) (M:aX),(∀k B,aj S k=some B->(ρ k).isSome->eA ρ w M k B)->∀ks' v,(∀k∈ks,k∈ks')->az ρ w M a v->az bg w (eX M ρ ks') a' v:=by
   cases a with
   |agg m=>
    obtain⟨m',ks,h1,h2,h3⟩:=s5 h;exact⟨_,_,h1,h2,λ ρ w M hB ks' v Bg ⟨cs,h4,h5⟩=>⟨cs,h4,h3 ρ w M hB ks' _ Bg h5⟩⟩
   |_=>
    simp only [sX]at h;obtain⟨a',ks,h1,h2,_,h3⟩:=s4 h;exact⟨_,_,h1,h2,λ ρ w M hB ks' v Bg hv=>(h3 ρ w M hB ks' v Bg).2 hv⟩
  obtain⟨a',ks,h1,h2,h3⟩:=go;obtain⟨l',ks2,h4,h5,h6⟩:=fw h1;refine⟨_,_,h4,λ k hk=>?_,λ ρ w M hB ks' vs Bg hv=>?_⟩
  ·rw [qY]at hk
   rcases List.mem_append.1 hk with hk|hk
   ·exact h2 k hk
   ·exact h5 k hk
  ·cases vs with
   |nil=>exact hv.elim
   |cons v vs=>
    rw [qY]at Bg;exact⟨h3 ρ w M hB ks' v (λ k hk=>Bg k (List.mem_append.2 (.inl hk))) hv.1,h6 ρ w M hB ks' vs (λ k hk=>Bg k (List.mem_append.2 (.inr hk))) hv.2⟩
theorem e8{a:Act}:∀{ks:List Nat} {T:List AV} {S:ai} {ρ:Env} {M:aX} {K:List AV->ai->Prop},iu ks T S K->St M0 ρ M S w->Tm ρ w M T a->
  ∃T' S' ρ' M',K T' S'/\St M0 ρ' M' S' w/\Tm ρ' w M' T' a/\T'.length=T.length/\∀b off,M' b off↔eX M ρ ks b off
 |[],T,S,ρ,M,K,h,st,tm=>⟨T,S,ρ,M,h,st,tm,rfl,λ b off=>⟨λ h=>⟨h,λ k hk=>by cases hk⟩,λ h=>h.1⟩⟩
 |k::ks,T,S,ρ,M,K,h,st,tm=>by
  simp only [iu]at h;split at h
  ·rename_i hf
   obtain⟨T',S',ρ',M',h1,h2,h3,h4,h5⟩:=e8 h st tm;refine⟨T',S',ρ',M',h1,h2,h3,h4,λ b off=>?_⟩;rw [h5 b off]
   have hn:ρ k=none:=by
    have:=st.ga k;rw [hf]at this;cases hρ:ρ k with|none=>rfl|some o=>rw [hρ]at this;cases this
   refine⟨λ hm=>⟨hm.1,λ j hj=>?_⟩,λ hm=>⟨hm.1,λ j hj=>hm.2 j (List.mem_cons_of_mem _ hj)⟩⟩;rcases List.mem_cons.1 hj with rfl|hj
   ·simp [hasB,hn]
   ·exact hm.2 j hj
  ·obtain⟨B,r,hf,T1,S1,h1,h2,h3,h4,_⟩:=pS h st tm
   obtain⟨T',S',ρ',M',h5,h6,h7,h8,h9⟩:=e8 h1 h2 h3;refine⟨T',S',ρ',M',h5,h6,h7,h8.trans h4,λ b off=>?_⟩;rw [h9 b off]
   constructor
   ·intro hm
    refine⟨hm.1.1,λ j hj=>?_⟩;rcases List.mem_cons.1 hj with rfl|hj
    ·exact hm.1.2
    ·intro hb
     by_cases dM:j=k
     ·subst dM;exact hm.1.2 hb
     ·exact hm.2 j hj (by simpa [hasB,aR,dM]using hb)
   ·intro hm
    refine⟨⟨hm.1,hm.2 k (by simp)⟩,λ j hj hb=>?_⟩
    by_cases dM:j=k
    ·subst dM;simp [hasB,aR]at hb
    ·exact hm.2 j (List.mem_cons_of_mem _ hj) (by simpa [hasB,aR,dM]using hb)
def Flat:RO->Prop
 |.ints _ _=>True|.aL _=>True|.aT _=>True|.eY _ _ _=>True|.strs _=>True|.dK _=>True|_=>False
theorem Jw{w w':World}{M M':aX}{r:RO}(hr:Flat r){q:Nat}{c:Value}(h:av w M r q c):av w' M' r q c:=by
 cases r<;>first|exact h|exact hr.elim
theorem St.take{w':World}{o:Sl}{r:RO}(st:St M0 ρ M S w')(hd:aj S d=none)(hV:fb bg w' M o 0 r [])(hb:∀b,o.aW=some b->∀k,¬hasB ρ k b)(KZ:∀b,o.aW=some b->w0.heap.size<=b)(fJ:loc d=true):
  St M0 (λ k=>if k=d then some (.sl o) else ρ k) M ((d,.vec 0 r [])::S) w':=by
 have RR:ρ d=none:=by
  have:=st.ga d;rw [hd]at this;cases h:ρ d with|none=>rfl|some o=>rw [h]at this;cases this
 have fa:∀k o',ρ k=some o'->(λ k=>if k=d then some (bY.sl o) else ρ k) k=some o':=λ k o' h=>by
  have:k≠d:=λ e=>by subst e;rw [RR]at h;cases h
  simp [this,h]
 have hold:∀k b,k≠d->hasB (λ k=>if k=d then some (bY.sl o) else ρ k) k b->hasB ρ k b:=λ k b hk h=>by simpa [hasB,hk]using h
 refine⟨λ k=>?_,λ k B hB=>?_,λ i j b hi hj=>?_,st.mlt,st.lD,st.sub,st.eu,λ k b Be=>?_,λ k o' hk ho=>?_⟩
 ·by_cases oa:k=d
  ·subst oa;simp [aD]
  ·simp [oa,aD,Ne.symm oa,st.ga k]
 ·by_cases oa:k=d
  ·subst oa
   simp only [aD,if_true]at hB;cases hB;refine⟨⟨o,by simp,?_⟩,.inl rfl⟩;obtain⟨h3,h4,h5,h6,h7⟩:=hV;refine⟨h3,h4,h5,h6,?_⟩;cases fp:o.aW with
   |none=>simp only [fp]at h7 ⊢;exact h7
   |some b=>simp only [fp]at h7 ⊢;exact h7
  ·simp only [aD,Ne.symm oa,if_false]at hB
   exact eA.ext (bB.refl _ _) fa (λ b hb=>⟨rfl,λ _=>Iff.rfl⟩) (st.aW k B hB)
 ·by_cases tG:i=d
  ·by_cases MS:j=d
   ·rw [tG,MS]
   ·subst tG
    simp [hasB,bY.has]at hi;exact absurd (hold j b MS hj) (hb b hi j)
  ·by_cases MS:j=d
   ·subst MS
    simp [hasB,bY.has]at hj;exact absurd (hold i b tG hi) (hb b hj i)
   ·exact st.inj _ _ _ (hold i b tG hi) (hold j b MS hj)
 ·by_cases oa:k=d
  ·subst oa
   exact .inl (KZ b (by simpa [hasB,bY.has]using Be))
  ·exact st.fresh k b (hold k b oa Be)
 ·by_cases oa:k=d
  ·subst oa;rw [fJ]at hk;cases hk
  ·exact st.tn k o' hk (by simpa [oa]using ho)
theorem oY{a:AV}{m:List AV}(h:xx a=0):oX (a::m)=oX m:=by simp [oX,h]
theorem zS{a:AV}{v:Value}{w':World}{M' M2:aX}(hn:xx a=0)(hk:bB w' M' w' M2)(h:kS w w' M' a v):ck ρ w' M2 a v:=by
 cases a with
 |new r=>cases hn
 |_=>simp only [kS]at h;exact ck.keep hk (λ k o ho=>by cases ho) h
theorem nt{w':World}{M' M2:aX}{a:Act}(DW:w0.heap.size<=w.heap.size)(hk:bB w' M' w' M2)(iI:∀b off,w.heap.size<=b->(M2 b off↔M' b off)):
  ∀{l:List AV} {vs:List Value} {T:List AV} {S:ai} {ρ:Env} {K:List AV->List AV->ai->Prop},Hz d l T S K->oX l<=1->aJ (kS w w' M') l vs->
   St M0 ρ M2 S w'->Tm ρ w' M2 T a->(∀k b,hasB ρ k b->b<w.heap.size)->
   ∃m T' S' ρ' M3,K m T' S'/\St M0 ρ' M3 S' w'/\Tm ρ' w' M3 T' a/\T'.length=T.length/\aJ (ck ρ' w' M3) m vs/\bB w' M2 w' M3
 |[],vs,T,S,ρ,K,h,_,hv,st,tm,_=>⟨[],T,S,ρ,M2,h,st,tm,rfl,by cases vs<;>exact hv,bB.refl _ _⟩
 |x::l,[],T,S,ρ,K,h,_,hv,st,tm,_=>hv.elim
 |x::l,v::vs,T,S,ρ,K,h,hn,hv,st,tm,aS=>by
  cases x with
  |new r=>
   obtain⟨T',S',h1,h2,h3,h4,h5,fJ⟩:=lJ (k:=d) h st tm;obtain⟨o,rfl,hV,re⟩:=hv.1;have Ww:oX l=0:=by simp only [oX,xx]at hn;omega
   have hV':fb bg w' (dt M2 ρ d) o 0 r []:=by
    obtain⟨g3,g4,g5,g6,g7⟩:=hV;refine⟨g3,g4,g5,g6,?_⟩;cases fp:o.aW with
    |none=>simp only [fp]at g7 ⊢;exact g7
    |some b=>
     simp only [fp]at g7 ⊢;obtain⟨g8,cs,ty,g9,g10,g11,g12⟩:=g7;have Ez:=re b fp;have bm:¬hasB ρ d b:=λ e=>by have:=aS _ _ e;omega
     refine⟨g8,cs,ty,g9,g10,λ off=>?_,λ q hq=>?_⟩
     ·rw [<-g11 off]
      exact⟨λ hm=>(iI b off Ez).1 hm.1,λ hm=>⟨(iI b off Ez).2 hm,bm⟩⟩
     ·obtain⟨c,g13,g14⟩:=g12 q hq
      exact⟨c,g13,(g14.keep hk).keep (iQ _ _ _ _)⟩
   have c8:=h2.take (d:=d) h5 hV' (λ b fp k Be=>by
    have Ez:=re b fp
    by_cases oa:k=d
    ·subst oa;simp [hasB,aR]at Be
    ·have:=aS k b (by simpa [hasB,aR,oa]using Be);omega) (λ b fp=>Nat.le_trans DW (re b fp)) fJ
   have fa:∀k o',aR ρ d k=some o'->(λ k=>if k=d then some (bY.sl o) else aR ρ d k) k=some o':=λ k o' n6=>by
    have:k≠d:=λ e=>by subst e;simp [aR]at n6
    simp [this,n6]
   refine⟨_,T',_,_,_,h1,c8,⟨h3.defers,h3.size,λ i=>az.keep (bB.refl _ _) fa (h3.tmp i)⟩,h4,⟨⟨o,(by simp [bY.x9]:(if d=d then some (bY.sl o) else aR ρ d d).bind bY.x9=some o),rfl⟩,?_⟩,iQ _ _ _ _⟩
   have rest:∀{l:List AV} {vs:List Value},oX l=0->aJ (kS w w' M') l vs->aJ (ck (λ k=>if k=d then some (bY.sl o) else aR ρ d k) w' (dt M2 ρ d)) l vs:=by
    intro l
    induction l with
    |nil=>intro vs _ hv;cases vs<;>exact hv
    |cons y l ih=>
     intro vs hn hv;cases vs with
     |nil=>exact hv.elim
     |cons u vs=>
      have hy:xx y=0:=by
       cases hy:xx y with
       |zero=>rfl
       |succ n=>simp [oX,hy]at hn
      rw [oY hy]at hn;exact⟨ck.keep (iQ _ _ _ _) (λ k o ho=>by cases ho) (zS (ρ:=bg) hy hk hv.1),ih hn hv.2⟩
   exact rest Ww hv.2
  |_=>
   simp only [Hz]at h;rw [oY rfl]at hn;obtain⟨m,T',S',ρ',M3,h1,h2,h3,h4,h5,h6⟩:=nt DW hk iI h hn hv.2 st tm aS;exact⟨_,T',S',ρ',M3,h1,h2,h3,h4,⟨ck.keep h6 (λ k o ho=>by cases ho) (zS (ρ:=bg) rfl hk hv.1),h5⟩,h6⟩
theorem s6{w':World}{M' M2:aX}{a:Act}(DW:w0.heap.size<=w.heap.size)(hk:bB w' M' w' M2)(iI:∀b off,w.heap.size<=b->(M2 b off↔M' b off))
  {x:AV} {v:Value} {T:List AV} {S:ai} {ρ:Env} {K:AV->List AV->ai->Prop} (h:oH d x T S K) (hn:news x<=1) (hv:zT w w' M' x v)
  (st:St M0 ρ M2 S w') (tm:Tm ρ w' M2 T a) (aS:∀k b,hasB ρ k b->b<w.heap.size):
  ∃y T' S' ρ' M3,K y T' S'/\St M0 ρ' M3 S' w'/\Tm ρ' w' M3 T' a/\T'.length=T.length/\az ρ' w' M3 y v:=by
 cases x with
 |cC l=>
  obtain⟨cs,rfl,bR⟩:=hv;obtain⟨m,T',S',ρ',M3,h1,h2,h3,h4,h5,_⟩:=nt DW hk iI h hn bR st tm aS;exact⟨_,T',S',ρ',M3,h1,h2,h3,h4,cs,rfl,h5⟩
 |new r=>
  obtain⟨m,T',S',ρ',M3,h1,h2,h3,h4,h5,_⟩:=nt (d:=d) (K:=λ m T S=>match m with|[.vec j]=>K (.vec j) T S|_=>False) (l:=[.new r]) (vs:=[v]) DW hk iI (show iH d T S _ from h) (by simp [oX,xx]) ⟨hv,ag⟩ st tm aS
  match m,h1,h5 with
  |[.vec j],h1,h5=>exact⟨.vec j,T',S',ρ',M3,h1,h2,h3,h4,h5.1⟩
 |_=>
  simp only [oH]at h;have h:=gA.1 h;simp only [zT]at hv;exact⟨_,T,S,ρ,M2,h,st,tm,rfl,az.keep hk (λ k o ho=>by cases ho) hv⟩
theorem w3{l:List AV}{vs:List Value}{w w':World}{M' M2:aX}(iI:∀b off,w.heap.size<=b->(M2 b off↔M' b off))(hs:sY l=true)(h:aJ (kS w w' M') l vs):aJ (kS w w' M2) l vs:=by
 induction l generalizing vs with
 |nil=>cases vs<;>exact h
 |cons a l ih=>
  cases vs with
  |nil=>exact h.elim
  |cons v vs=>
   simp only [sY]at hs;cases ha:Dw a with
   |false=>rw [ha]at hs;cases hs
   |true=>
    rw [ha]at hs;refine⟨?_,ih hs h.2⟩;have h1:=h.1;cases a with
    |int k n=>exact h1
    |bool e=>exact h1
    |ao=>exact h1
    |bK=>exact h1
    |any=>exact h1
    |str l=>exact h1
    |new r=>
     obtain⟨o,h2,⟨g3,g4,g5,g6,g7⟩,re⟩:=h1;refine⟨o,h2,⟨g3,g4,g5,g6,?_⟩,re⟩;cases fp:o.aW with
     |none=>simp only [fp]at g7 ⊢;exact g7
     |some b=>
      simp only [fp]at g7 ⊢;obtain⟨g8,cs,ty,g9,g10,g11,g12⟩:=g7;have Xd:Flat r:=by cases r<;>first|trivial|cases ha
      exact⟨g8,cs,ty,g9,g10,λ off=>(iI b off (re b fp)).trans (g11 off),λ q hq=>by obtain⟨c,g13,g14⟩:=g12 q hq;exact⟨c,g13,Jw Xd g14⟩⟩
    |_=>cases ha
theorem Jx{l:List AV}{vs:List Value}{w':World}{M' M2:aX}{ρ ρ':Env}(hs:sY l=true)(h:aJ (aH ρ w' M') l vs):aJ (aH ρ' w' M2) l vs:=by
 induction l generalizing vs with
 |nil=>cases vs<;>exact h
 |cons a l ih=>
  cases vs with
  |nil=>exact h.elim
  |cons v vs=>
   simp only [sY]at hs;cases ha:Dw a with
   |false=>rw [ha]at hs;cases hs
   |true=>
    rw [ha]at hs;refine⟨?_,ih hs h.2⟩;have h1:=h.1;cases a with
    |int k n=>exact h1
    |bool e=>exact h1
    |ao=>exact h1
    |bK=>exact h1
    |any=>exact h1
    |str l=>exact h1
    |new r=>exact h1.elim
    |_=>cases ha
theorem B3{ret:AV}{v:Value}{w w':World}{M' M2:aX}(iI:∀b off,w.heap.size<=b->(M2 b off↔M' b off))(hs:safe ret=true)(h:zT w w' M' ret v):zT w w' M2 ret v:=by
 cases ret with
 |cC l=>obtain⟨cs,h1,h2⟩:=h;exact⟨cs,h1,w3 iI hs h2⟩
 |agg l=>obtain⟨cs,h1,h2⟩:=h;exact⟨cs,h1,Jx hs h2⟩
 |int k n=>exact h
 |bool e=>exact h
 |ao=>exact h
 |bK=>exact h
 |any=>exact h
 |str l=>exact h
 |new r=>exact(w3 (l:=[.new r]) (vs:=[v]) iI (by have hs:Dw (.new r)=true:=hs;simp [sY,hs]) ⟨h,ag⟩).1
 |_=>cases hs
theorem mU{F:Spec}(hF:b6 P F){f:FuncId}{as:List AV}{T:List AV}{K:AV->List AV->ai->Prop}(h:u3 F d f as T S K):eC P f:=by
 obtain⟨as',ks,⟨as2,ret,hf,_⟩,_⟩:=fw h;exact(hF.q f as2 ret hf).1
theorem s7{ks:List Nat}{ret:AV}{T:List AV}{K:AV->List AV->ai->Prop}{a:Act}{w':World}{u:Value}
  (h:Nl d ks ret T S K) (st:St M0 ρ M S w) (tm:Tm ρ w M T a) (hs:gk (λ _ _=>False) w w') (oZ:EH (eX M ρ ks) w w' ret u):
  ∃ρ' M' T' S' v,K v T' S'/\St M0 ρ' M' S' w'/\Tm ρ' w' M' T' a/\T'.length=T.length/\az ρ' w' M' v u:=by
 unfold Nl at h;rw [al]at h;obtain⟨hn,h⟩:=h;rw [Nat.ble_eq]at hn;obtain⟨M'',hold,aS,oZ⟩:=oZ;have mq:∀k b,hasB ρ k b->b<w.heap.size:=λ k b hk=>eV st hk
 have goA:safe ret=true->oH d ret T S K->∃ρ' M' T' S' v,K v T' S'/\St M0 ρ' M' S' w'/\Tm ρ' w' M' T' a/\T'.length=T.length/\az ρ' w' M' v u:=by
  intro vf h
  let M2:aX:=λ b off=>(b<w.heap.size/\M b off)\/(w.heap.size<=b/\M'' b off)
  have KX:∀b off,b<w.heap.size->(M2 b off↔M b off):=λ b off hb=>⟨λ hm=>hm.elim (λ h=>h.2) (λ h=>absurd h.1 aa),λ hm=>.inl ⟨hb,hm⟩⟩;have KY:∀b off,w.heap.size<=b->(M2 b off↔M'' b off):=λ b off hb=>⟨λ hm=>hm.elim (λ h=>absurd h.1 aa) (λ h=>h.2),λ hm=>.inr ⟨hb,hm⟩⟩
  obtain⟨st',hk⟩:=st.same hs KX (λ b off hm=>by
   rcases hm with hm|hm
   ·exact Nat.lt_of_lt_of_le hm.1 hs.1
   ·exact aS b off hm.2)
  have tm':Tm ρ w' M2 T a:=⟨tm.defers,tm.size,λ i=>az.keep hk (λ _ _ h=>h) (tm.tmp i)⟩;obtain⟨y,T',S',ρ',M3,h1,h2,h3,h4,h5⟩:=s6 st.lD.1 (bB.refl w' M2) (λ _ _ _=>Iff.rfl) h hn (B3 KY vf oZ) st' tm' mq;exact⟨ρ',M3,T',S',y,h1,h2,h3,h4,h5⟩
 have goB:∀{T1:List AV} {S1:ai} {ρ1:Env} {M1:aX},St M0 ρ1 M1 S1 w->Tm ρ1 w M1 T1 a->(∀b off,M1 b off↔eX M ρ ks b off)->oH d ret T1 S1 K->
   ∃ρ' M' T' S' v,K v T' S'/\St M0 ρ' M' S' w'/\Tm ρ' w' M' T' a/\T'.length=T1.length/\az ρ' w' M' v u:=by
  intro T1 S1 ρ1 M1 st1 tm1 N5 h;obtain⟨st',hk⟩:=st1.same (M':=M'') hs (λ b off hb=>(hold b off hb).trans (N5 b off).symm) aS;have tm':Tm ρ1 w' M'' T1 a:=⟨tm1.defers,tm1.size,λ i=>az.keep hk (λ _ _ h=>h) (tm1.tmp i)⟩;obtain⟨y,T',S',ρ',M3,h1,h2,h3,h4,h5⟩:=s6 st.lD.1 (bB.refl w' M'') (λ _ _ _=>Iff.rfl) h hn oZ st' tm' (λ k b hk=>eV st1 hk);exact⟨ρ',M3,T',S',y,h1,h2,h3,h4,h5⟩
 cases vf:safe ret with
 |true=>
  rw [vf]at h;exact goA vf (by cases ks<;>exact h)
 |false=>
  rw [vf]at h;cases ks with
  |nil=>exact goB st tm (λ b off=>⟨λ hm=>⟨hm,λ k hk=>by cases hk⟩,λ hm=>hm.1⟩) h
  |cons k0 ks0=>
   obtain⟨T1,S1,ρ1,M1,h1,h2,h3,h4,h5⟩:=e8 h st tm;obtain⟨ρ',M',T',S',v,g1,g2,g3,g4,g5⟩:=goB h2 h3 h5 h1;exact⟨ρ',M',T',S',v,g1,g2,g3,g4.trans h4,g5⟩
theorem sC{F:Spec}(hF:b6 P F){f:FuncId}{as:List AV}{T:List AV}{K:AV->List AV->ai->Prop}{vs:List Value}{a:Act}
  (h:u3 F d f as T S K) (st:St M0 ρ M S w) (tm:Tm ρ w M T a) (hv:aJ (az ρ w M) as vs):
  Calls P f vs.toArray w λ e w'=>∃u,e= .returned u/\∃ρ' M' T' S' v,K v T' S'/\St M0 ρ' M' S' w'/\Tm ρ' w' M' T' a/\T'.length=T.length/\az ρ' w' M' v u:=by
 obtain⟨as',ks,⟨as2,ret,hf,bn,h⟩,Bg,bc⟩:=fw h;have VS:=nM bn (bc ρ w M (λ k B h _=>st.aW k B h) ks vs (λ k hk=>hk) hv);exact((hF.q f as2 ret hf).2 (eX M ρ ks) w vs (M0.hw w st.lD) (λ b off hm=>st.mlt b off hm.1) VS).mono λ e w' ⟨u,he,hs,oZ⟩=>⟨u,he,s7 h st tm hs oZ⟩
theorem tx{F:Spec}(hF:b6 P F){f:FuncId}{as:List AV}{T:List AV}{K:AV->List AV->ai->Prop}(h:FE F d f as T S K):eC P f:=by
 obtain⟨as',ks,⟨X,as2,out,ok,hf,_⟩,_⟩:=fw h;exact(hF.e f as2 X out ok hf).1
theorem zL{F:Spec}(hF:b6 P F){f:FuncId}{as:List AV}{T:List AV}{K:AV->List AV->ai->Prop}{vs:List Value}{a:Act}
  (h:FE F d f as T S K) (st:St M0 ρ M S w) (tm:Tm ρ w M T a) (hv:aJ (az ρ w M) as vs):
  Calls P f vs.toArray w λ e w'=>∃u,e= .returned u/\∃ρ' M' T' S' v,K v T' S'/\St M0 ρ' M' S' w'/\Tm ρ' w' M' T' a/\T'.length=T.length/\az ρ' w' M' v u:=by
 obtain⟨as',ks,⟨X,as2,out,ok,hf,bn,h⟩,Bg,bc⟩:=fw h;have VS:=nM bn (bc ρ w M (λ k B h _=>st.aW k B h) ks vs (λ k hk=>hk) hv);exact((hF.e f as2 X out ok hf).2 (eX M ρ ks) w vs (M0.hw w st.lD) (λ b off hm=>st.mlt b off hm.1) VS).mono λ e w' ⟨x,hx,u,he,hs,oZ⟩=>⟨u,he,s7 (h x hx) st tm hs oZ⟩
end
end Go.AM
end
section
namespace Go.AM
open Go
theorem Xe{a b:Nat}(h:nb a b=true):a≠b:=λ e=>by subst e;simp [nb]at h
structure View(ρ ρ':Env):Prop where
 x9:∀j o,(ρ j).bind bY.x9=some o->(ρ' j).bind bY.x9=some o
 ref:∀j off v,(ρ j).bind (bY.ref · off)=some v->(ρ' j).bind (bY.ref · off)=some v
section
variable{P:Program}{TY:List cP}{w0 w:World}{M0:ef w0}{ρ ρ':Env}{M:aX}{S S0:ai}{d:Nat}
theorem aH.view(hv:View ρ ρ'){a:AV}{v:Value}(h:aH ρ w M a v):aH ρ' w M a v:=by
 cases a with
 |vec k=>obtain⟨o,h1,h2⟩:=h;exact⟨o,hv.x9 _ _ h1,h2⟩
 |ptr k off=>exact hv.ref _ _ _ h
 |dS k i=>obtain⟨o,b,h1,h2⟩:=h;exact⟨o,b,hv.x9 _ _ h1,h2⟩
 |gd k i j=>obtain⟨o,b,h1,h2⟩:=h;exact⟨o,b,hv.x9 _ _ h1,h2⟩
 |gf k i=>obtain⟨o,h1,h2⟩:=h;exact⟨o,hv.x9 _ _ h1,h2⟩
 |fn f l=>cases l<;>exact h
 |_=>exact h
theorem ck.view(hv:View ρ ρ'){a:AV}{v:Value}(h:ck ρ w M a v):ck ρ' w M a v:=by
 cases a with
 |agg l=>obtain⟨cs,h1,h2⟩:=h;exact⟨cs,h1,h2.imp λ _ _=>aH.view hv⟩
 |any=>trivial
 |_=>simp only [ck]at h ⊢;exact aH.view hv h
theorem az.view(hv:View ρ ρ'){a:AV}{v:Value}(h:az ρ w M a v):az ρ' w M a v:=by
 cases a with
 |agg l=>obtain⟨cs,h1,h2⟩:=h;exact⟨cs,h1,h2.imp λ _ _=>aH.view hv⟩
 |cC l=>obtain⟨cs,h1,h2⟩:=h;exact⟨cs,h1,h2.imp λ _ _=>ck.view hv⟩
 |fn f l=>obtain⟨cs,h1,h2⟩:=h;exact⟨cs,h1,h2.imp λ _ _=>aH.view hv⟩
 |any=>trivial
 |_=>simp only [az]at h ⊢;exact aH.view hv h
theorem fb.view(hv:View ρ ρ'){o:Sl}{wm:Nat}{r:RO}{ov:List (Int × Nat)}(h:fb ρ w M o wm r ov):fb ρ' w M o wm r ov:=by
 obtain⟨h3,h4,h5,h6,h7⟩:=h;refine⟨h3,h4,h5,h6,?_⟩;cases fp:o.aW with
 |none=>simp only [fp]at h7 ⊢;exact h7
 |some b=>
  simp only [fp]at h7 ⊢;obtain⟨h8,cs,ty,h9,cu,ou,ox⟩:=h7;refine⟨h8,cs,ty,h9,cu,ou,λ q hq=>?_⟩;obtain⟨c,wE,lW⟩:=ox q hq;refine⟨c,wE,?_⟩;split
  ·exact lW
  ·simp only at lW
   split at lW
   ·rename_i he;simp only [he,if_true];exact aH.view hv lW
   ·rename_i he;simp only [he,if_false];exact lW
theorem fb.env{o:Sl}{wm:Nat}{r:RO}(h:fb ρ w M o wm r []):fb ρ' w M o wm r []:=
 fb.HT (bB.refl _ _) (λ _ _=>⟨rfl,λ _=>Iff.rfl⟩) h
theorem eA.view(hv:View ρ ρ'){k:Nat}(hk:ρ' k=ρ k){B:dH}(h:eA ρ w M k B):eA ρ' w M k B:=by
 cases B with
 |box l=>obtain⟨b,h2,cs,ty,h3,h4,h5⟩:=h;exact⟨b,by rw [hk];exact h2,cs,ty,h3,h4,h5.imp λ _ _=>aH.view hv⟩
 |map kd vk m=>obtain⟨b,h2,h3⟩:=h;exact⟨b,by rw [hk];exact h2,h3⟩
 |deep r hole=>obtain⟨o,rows,h2,h3⟩:=h;exact⟨o,rows,by rw [hk];exact h2,h3⟩
 |dE n r=>obtain⟨o,cur,h2,h3,h4⟩:=h;exact⟨o,cur,by rw [hk];exact h2,h3.view hv,h4⟩
 |ma n z=>obtain⟨o,h2,h3⟩:=h;exact⟨o,by rw [hk];exact h2,h3⟩
 |vec wm r ov=>obtain⟨⟨o,h2,h3⟩,gQ⟩:=h;exact⟨⟨o,by rw [hk];exact h2,h3.view hv⟩,gQ⟩
theorem s8(rows:List Sl)(i q:Nat)(x:Sl):(rows.set i x).getD q cz=if q=i/\i<rows.length then x else rows.getD q cz:=by
 simp only [List.getD,List.getElem?_set]
 by_cases h:i=q
 ·subst h
  by_cases hl:i<rows.length
  ·simp [hl]
  ·simp [hl]
 ·simp [h,Ne.symm h]
theorem KA{r:RO}{i:Int}{K:RO->Prop}(h:Nn r i K):K (r.row i.toNat):=by cases r<;>first|exact h|exact h.elim
theorem DJ{r s:RO}{i:Int}{K:RO->Prop}(hq:nr r=true)(h:setRow r i s K):∃r',K r'/\r'.len=r.len/\nr r'=true/\(i.toNat<r.len->r'.row i.toNat=s)/\∀q,q≠i.toNat->r'.row q=r.row q:=by
 cases r<;>cases s<;>first|exact h.elim|(cases hq;done)|skip
 case rows.ints k l k' m=>
  simp only [setRow,al]at h;obtain⟨hk,h⟩:=h;obtain rfl:=bZ hk
  exact⟨_,h,by simp [RO.len],rfl,λ hi=>by simp only [RO.len]at hi;simp only [RO.row,a7 _ _ _ _ _ hi,if_true],λ q hq=>by
   simp only [RO.row,List.getD,List.getElem?_set_ne (Ne.symm hq)]⟩
 case bw.aL l m=>
  exact⟨_,h,by simp [RO.len],rfl,λ hi=>by simp only [RO.len]at hi;simp only [RO.row,a7 _ _ _ _ _ hi,if_true],λ q hq=>by
   simp only [RO.row,List.getD,List.getElem?_set_ne (Ne.symm hq)]⟩
 case bC.rows l k' m=>
  cases k'<;>try exact h.elim
  exact⟨_,h,by simp [RO.len],rfl,λ hi=>by simp only [RO.len]at hi;simp only [RO.row,a7 _ _ _ _ _ hi,if_true],λ q hq=>by
   simp only [RO.row,List.getD,List.getElem?_set_ne (Ne.symm hq)]⟩
theorem St.OU{k d:Nat}{r:RO}{i:Int}{S':ai}{o:Sl}{rows:List Sl}(st:St M0 ρ M S w)(hd:aj S d=none)(fJ:loc d=true)(Ks:loc k=true)(hρ:ρ k=some (.dp o rows))(hD:oI w M o rows r none)(hi:0<=i/\i<r.len)
  (hf:aj S k=some (.deep r none)) (hS:∀j,aj S' j=if j=d then some (.vec 0 (r.row i.toNat) []) else if j=k then some (.deep r (some i)) else aj S j):
  ∃ρ',St M0 ρ' M S' w/\View ρ ρ'/\aH ρ' w M (.vec d) (rows.getD i.toNat cz).val:=by
 have bL:i.toNat<r.len:=aa
 have RR:ρ d=none:=by
  have:=st.ga d;rw [hd]at this;cases h:ρ d with|none=>rfl|some o=>rw [h]at this;cases this
 have YA:d≠k:=λ e=>by subst e;rw [hρ]at RR;cases RR
 let ρ':Env:=λ j=>if j=d then some (.sl (rows.getD i.toNat cz)) else if j=k then some (.dp o (rows.set i.toNat cz)) else ρ j
 have e1:ρ' d=some (.sl (rows.getD i.toNat cz)):=by simp [ρ']
 have e2:ρ' k=some (.dp o (rows.set i.toNat cz)):=by simp [ρ',Ne.symm YA]
 have e3:∀j,j≠d->j≠k->ρ' j=ρ j:=λ j h1 h2=>by simp [ρ',h1,h2]
 have hv:View ρ ρ':=⟨λ j o' h=>by
   by_cases hj:j=d
   ·subst hj;rw [RR]at h;cases h
   ·by_cases dM:j=k
    ·subst dM;rw [oB hρ]at h;rw [oB e2];exact h
    ·rw [e3 j hj dM];exact h,λ j off v h=>by
   by_cases hj:j=d
   ·subst hj;rw [RR]at h;cases h
   ·by_cases dM:j=k
    ·subst dM;rw [hρ]at h;cases h
    ·rw [e3 j hj dM];exact h⟩
 have eI:∀q,(rows.set i.toNat cz).getD q cz=if q=i.toNat then cz else rows.getD q cz:=λ q=>by
  rw [s8]
  by_cases hq:q=i.toNat
  ·simp [hq,hD.Fz,bL]
  ·simp [hq]
 have own:∀j b,hasB ρ' j b->(j=d/\(rows.getD i.toNat cz).aW=some b)\/(j=k/\(o.aW=some b\/∃q,q≠i.toNat/\(rows.getD q cz).aW=some b))\/(j≠d/\j≠k/\hasB ρ j b):=λ j b h=>by
  by_cases hj:j=d
  ·subst hj;simp only [hasB,e1,bY.has]at h;exact .inl ⟨rfl,h⟩
  ·by_cases dM:j=k
   ·subst dM
    simp only [hasB,e2,bY.has]at h;refine .inr (.inl ⟨rfl,h.imp id λ⟨q,hq⟩=>⟨q,?_⟩⟩);rw [eI]at hq;split at hq
    ·cases hq
    ·rename_i bm;exact⟨bm,hq⟩
   ·simp only [hasB,e3 j hj dM]at h;exact .inr (.inr ⟨hj,dM,h⟩)
 have toK:∀b,(o.aW=some b\/∃q,(rows.getD q cz).aW=some b)->hasB ρ k b:=λ b h=>by simp only [hasB,hρ];exact h
 have eu:∀j b,hasB ρ' j b->∃j',hasB ρ j' b:=λ j b h=>by
  rcases own j b h with ⟨_,h⟩|⟨_,h|⟨q,_,h⟩⟩|⟨_,_,h⟩
  ·exact⟨k,toK b (.inr ⟨_,h⟩)⟩
  ·exact⟨k,toK b (.inl h)⟩
  ·exact⟨k,toK b (.inr ⟨q,h⟩)⟩
  ·exact⟨j,h⟩
 refine⟨ρ',⟨λ j=>?_,λ j B hB=>?_,λ j j' b hj mb=>?_,st.mlt,st.lD,st.sub,st.eu,λ j b h=>?_,λ j o' hl ho=>?_⟩,hv,⟨_,iD e1,rfl⟩⟩
 ·rw [hS j]
  by_cases hj:j=d
  ·simp [hj,e1]
  ·by_cases dM:j=k
   ·simp [dM,e2,Ne.symm YA]
   ·simp [hj,dM,e3 j hj dM,st.ga j]
 ·rw [hS j]at hB
  by_cases hj:j=d
  ·simp only [hj,if_true,Option.some.injEq]at hB
   subst hB;subst hj;exact⟨⟨_,e1,(hD.row _ bL (by simp)).env⟩,.inl rfl⟩
  ·by_cases dM:j=k
   ·subst dM
    simp only [hj,if_false,if_true,Option.some.injEq]at hB;subst hB;refine⟨o,_,e2,hD.rq,hD.len,hD.NS,hD.lb,by simp [hD.Fz],?_,λ q hq hh=>?_,λ x hx=>?_,λ q b h=>?_,λ q q' b h h'=>?_⟩
    ·have h7:=hD.outer
     cases hb:o.aW with
     |none=>simp only [hb]at h7 ⊢;exact h7
     |some b=>
      simp only [hb]at h7 ⊢;obtain⟨h8,cs,ty,h9,cu,ou,ox⟩:=h7;refine⟨h8,cs,ty,h9,cu,ou,λ q hq=>?_⟩;obtain⟨c,wE,lW⟩:=ox q hq;refine⟨c,wE,?_⟩;rw [eI]
      by_cases pC:q=i.toNat
      ·exact .inl (by rw [pC];congr 1;omega)
      ·simp only [pC,if_false]
       exact .inr (lW.resolve_left (by simp))
    ·rw [eI,if_neg (λ e=>hh (by rw [e];congr 1;omega))]
     exact hD.row q hq (by simp)
    ·cases hx;exact⟨hi,by rw [eI];simp [cz]⟩
    ·rw [eI]at h
     split at h
     ·cases h
     ·exact hD.out q b h
    ·rw [eI]at h h'
     split at h
     ·cases h
     ·split at h'
      ·cases h'
      ·exact hD.apart q q' b h h'
   ·simp only [hj,dM,if_false]at hB
    exact(st.aW j B hB).view hv (e3 j hj dM)
 ·rcases own j b hj with ⟨g1,g2⟩|⟨g1,g2⟩|⟨g1,g1',g2⟩<;>rcases own j' b mb with ⟨g3,g4⟩|⟨g3,g4⟩|⟨g3,g3',g4⟩
  ·rw [g1,g3]
  ·rcases g4 with g4|⟨q,g4,g5⟩
   ·exact absurd g4 (hD.out _ _ g2)
   ·exact absurd (hD.apart _ _ _ g5 g2) g4
  ·exact absurd (st.inj _ _ _ g4 (toK b (.inr ⟨_,g2⟩))) g3'
  ·rcases g2 with g2|⟨q,g2,g5⟩
   ·exact absurd g2 (hD.out _ _ g4)
   ·exact absurd (hD.apart _ _ _ g5 g4) g2
  ·rw [g1,g3]
  ·exact absurd (st.inj _ _ _ g4 (toK b (g2.imp id λ⟨q,_,h⟩=>⟨q,h⟩))) g3'
  ·exact absurd (st.inj _ _ _ g2 (toK b (.inr ⟨_,g4⟩))) g1'
  ·exact absurd (st.inj _ _ _ g2 (toK b (g4.imp id λ⟨q,_,h⟩=>⟨q,h⟩))) g1'
  ·exact st.inj _ _ _ g2 g4
 ·obtain⟨j',h'⟩:=eu j b h
  exact st.fresh j' b h'
 ·by_cases hj:j=d
  ·subst hj;rw [fJ]at hl;cases hl
  ·by_cases dM:j=k
   ·subst dM;rw [Ks]at hl;cases hl
   ·rw [e3 j hj dM]at ho;exact st.tn j o' hl ho
theorem FM{k:Nat}{T:List AV}{a:Act}{K:List AV->ai->Prop}
  (h:kL S k λ S=>cU k .any T λ T=>b5 k .any S λ S=>K T S) (st:St M0 ρ M S w) (tm:Tm ρ w M T a):
  ∃T' S',K T' S'/\St M0 (aR ρ k) M S' w/\Tm (aR ρ k) w M T' a/\T'.length=T.length/\aj S' k=none:=by
 obtain⟨S1,h1,xe⟩:=gq h;obtain⟨T',h2,hlen,hT⟩:=fH h1;obtain⟨S',h3,FZ⟩:=fI h2;have mM:Conv k .any ρ w M (aR ρ k) w M:=⟨bB.refl _ _,λ j hj o ho=>by simpa [aR,hj]using ho,λ v hv=>aH.aM hv⟩
 have dA:aj S' k=none:=by
  have:=FZ k;rw [xe k]at this;simpa using this
 have hb:∀x b,hasB (aR ρ k) x b->hasB ρ x b:=λ x b hx=>by
  by_cases kH:x=k
  ·subst kH;simp [hasB,aR]at hx
  ·simpa [hasB,aR,kH]using hx
 refine⟨T',S',h3,⟨λ j=>?_,λ j B hB=>?_,λ i j b hi hj=>st.inj _ _ _ (hb _ _ hi) (hb _ _ hj),st.mlt,st.lD,st.sub,st.eu,λ x b hx=>st.fresh x b (hb _ _ hx),λ x o hx ho=>?_⟩,
  ⟨tm.defers,by rw [hlen];exact tm.size,λ i=>hT _ _ _ _ _ _ mM (λ v hv=>⟨ag,ag⟩) i _ (tm.tmp i)⟩,hlen,dA⟩
 ·by_cases hj:j=k
  ·subst hj;simp [aR,dA]
  ·have:=FZ j
   rw [xe j]at this;simp only [hj,if_false]at this;simp only [aR,hj,if_false,st.ga j];cases hf:aj S j with
   |none=>simp only [hf]at this;simp [this]
   |some B=>simp only [hf]at this;obtain⟨B',h4,_⟩:=this;simp [h4]
 ·have hj:j≠k:=λ e=>by subst e;rw [dA]at hB;cases hB
  have:=FZ j;rw [xe j]at this;simp only [hj,if_false]at this;cases hf:aj S j with
  |none=>simp only [hf]at this;rw [this]at hB;cases hB
  |some B0=>
   simp only [hf]at this;obtain⟨B',h4,h5⟩:=this;rw [h4]at hB;cases hB;exact h5 ρ w M _ _ j mM (by simp [aR,hj]) (λ b hb off=>Iff.rfl) (st.aW j B0 hf)
 ·by_cases kH:x=k
  ·subst kH;simp [aR]at ho
  ·exact st.tn x o hx (by simpa [aR,kH]using ho)
theorem St.putRow{k b:Nat}{r r' s:RO}{i:Int}{S':ai}{o oh:Sl}{rows:List Sl}{cs cs':Array Value}{ty:TypeId}(st:St M0 ρ M S w)(Ks:loc k=true)(hρ:ρ k=some (.dp o rows))(hD:oI w M o rows r (some i))
  (hV:fb bg w M oh 0 s []) (sF:∀b,oh.aW=some b->∀j,¬hasB ρ j b) (KZ:∀b,oh.aW=some b->w0.heap.size<=b\/M0.oR b)
  (Fy:r'.len=r.len) (zw:nr r'=true) (Z6:r'.row i.toNat=s) (Z7:∀q,q≠i.toNat->r'.row q=r.row q)
  (hS:∀j,aj S' j=if j=k then some (.deep r' none) else aj S j) (hSk:(aj S k).isSome)
  (re:o.aW=some b) (bR:w.heap[b]? =some (.cells cs ty (0,0))) (bk:cs'.size=cs.size) (hc:∀q,cs'[q]? =if q=i.toNat then some oh.val else cs[q]?):
  ∃ρ',St M0 ρ' M S' (w.setRow b cs')/\View ρ ρ'/\bB w M (w.setRow b cs') M:=by
 obtain⟨hi,aec⟩:=hD.Lx i rfl;have bL:i.toNat<r.len:=aa
 have hMb:∀off,M b off↔off<cs.size:=by
  have h7:=hD.outer;simp only [re]at h7;obtain⟨h8,cs0,ty0,h9,cu,ou,ox⟩:=h7;rw [bR]at h9;cases h9;exact ou
 have oq:i.toNat<cs.size:=by
  have h7:=hD.outer;simp only [re]at h7;obtain⟨h8,cs0,ty0,h9,cu,ou,ox⟩:=h7;rw [bR]at h9;cases h9;have:=hD.len;omega
 have Ir:hasB ρ k b:=by simp [hasB,hρ,bY.has,re]
 have ko:gk (λ b' off=>b'=b/\M b' off) w (w.setRow b cs'):=by
  refine⟨by simp [World.setRow],λ b' cr=>?_,jT.refl _⟩
  by_cases he:b'=b
  ·subst he
   refine .inr (.inl ⟨cs,cs',ty,bR,setRow_heap w b' cs cs' ty _ bR,bk,λ off hn=>?_⟩);rw [hc off,if_neg];rintro rfl;exact hn ⟨rfl,(hMb _).2 oq⟩
  ·exact .inl (setRow_other w b b' cs' he)
 have hk:bB w M (w.setRow b cs') M:=(ko.weaken (M2:=M) λ b' off h=>h.2).keep λ b off _ h=>h
 let ρ':Env:=λ j=>if j=k then some (.dp o (rows.set i.toNat oh)) else ρ j
 have e2:ρ' k=some (.dp o (rows.set i.toNat oh)):=by simp [ρ']
 have e3:∀j,j≠k->ρ' j=ρ j:=λ j h2=>by simp [ρ',h2]
 have hv:View ρ ρ':=⟨λ j o' h=>by
   by_cases dM:j=k
   ·subst dM;rw [oB hρ]at h;rw [oB e2];exact h
   ·rw [e3 j dM];exact h,λ j off v h=>by
   by_cases dM:j=k
   ·subst dM;rw [hρ]at h;cases h
   ·rw [e3 j dM];exact h⟩
 have eI:∀q,(rows.set i.toNat oh).getD q cz=if q=i.toNat then oh else rows.getD q cz:=λ q=>by
  rw [s8]
  by_cases hq:q=i.toNat
  ·simp [hq,hD.Fz,bL]
  ·simp [hq]
 have bm:∀q b',q≠i.toNat->(rows.getD q cz).aW=some b'->b'≠b:=λ q b' _ h e=>hD.out q b' h (e▸re);have ohne:oh.aW≠some b:=λ e=>sF b e k Ir
 have own:∀j b',hasB ρ' j b'->(j=k/\(oh.aW=some b'\/hasB ρ k b'))\/(j≠k/\hasB ρ j b'):=λ j b' h=>by
  by_cases dM:j=k
  ·subst dM
   simp only [hasB,e2,bY.has]at h;refine .inl ⟨rfl,?_⟩;rcases h with h|⟨q,h⟩
   ·exact .inr (by simp only [hasB,hρ];exact .inl h)
   ·rw [eI]at h
    split at h
    ·exact .inl h
    ·exact .inr (by simp only [hasB,hρ];exact .inr ⟨q,h⟩)
  ·simp only [hasB,e3 j dM]at h;exact .inr ⟨dM,h⟩
 have Nn:∀{o':Sl} {s':RO},o'.aW≠some b->fb bg w M o' 0 s' []->fb bg (w.setRow b cs') M o' 0 s' []:=λ{o' s'} bm h=>
  h.HT hk λ b' cr=>⟨setRow_other w b b' cs' λ e=>bm (e▸cr),λ _=>Iff.rfl⟩
 refine⟨ρ',⟨λ j=>?_,λ j B hB=>?_,λ j j' b' hj mb=>?_,λ b' off hm=>Nat.lt_of_lt_of_le (st.mlt b' off hm) ko.1,?_,st.sub,st.eu,λ j b' h=>?_,λ j o' hl ho=>?_⟩,hv,hk⟩
 ·rw [hS j]
  by_cases dM:j=k
  ·simp [dM,e2]
  ·simp [dM,e3 j dM,st.ga j]
 ·rw [hS j]at hB
  by_cases dM:j=k
  ·subst dM
   simp only [if_true,Option.some.injEq]at hB;subst hB;refine⟨o,_,e2,zw,by rw [Fy];exact hD.len,hD.NS,by rw [Fy];exact hD.lb,by simp [hD.Fz,Fy],?_,λ q hq hh=>?_,λ x hx=>by (cases hx),λ q b' h=>?_,λ q q' b' h h'=>?_⟩
   ·have h7:=hD.outer
    simp only [re]at h7 ⊢;obtain⟨h8,cs0,ty0,h9,cu,ou,ox⟩:=h7;rw [bR]at h9;cases h9;refine⟨h8,cs',ty,setRow_heap w b cs cs' ty _ bR,by rw [bk];exact cu,λ off=>by rw [bk];exact ou off,λ q hq=>?_⟩;rw [Fy]at hq;obtain⟨c,wE,lW⟩:=ox q hq
    by_cases pC:q=i.toNat
    ·exact⟨oh.val,by rw [hc,if_pos pC],.inr (by rw [eI,if_pos pC])⟩
    ·refine⟨c,by rw [hc,if_neg pC];exact wE,.inr ?_⟩
     rw [eI,if_neg pC];exact lW.resolve_left λ e=>pC (by cases e;simp)
   ·rw [eI]
    by_cases pC:q=i.toNat
    ·rw [if_pos pC,pC,Z6];exact Nn ohne hV
    ·rw [if_neg pC,Z7 q pC]
     rw [Fy]at hq;exact Nn (λ e=>bm q b pC e rfl) (hD.row q hq λ e=>pC (by cases e;simp))
   ·rw [eI]at h
    split at h
    ·exact λ e=>sF b' h j (by simp only [hasB,hρ];exact .inl e)
    ·exact hD.out q b' h
   ·rw [eI]at h h'
    split at h<;>split at h'
    ·rename_i g1 g2;rw [g1,g2]
    ·exact absurd (by simp only [hasB,hρ];exact .inr ⟨q',h'⟩) (sF b' h j)
    ·exact absurd (by simp only [hasB,hρ];exact .inr ⟨q,h⟩) (sF b' h' j)
    ·exact hD.apart q q' b' h h'
  ·simp only [dM,if_false]at hB
   refine eA.ext hk (λ _ _ h=>h) (λ b' cr=>⟨setRow_other w b b' cs' λ e=>dM ?_,λ _=>Iff.rfl⟩) ((st.aW j B hB).view hv (e3 j dM));have:hasB ρ j b':=by simpa only [hasB,e3 j dM]using cr
   exact st.inj _ _ b (e▸this) Ir
 ·rcases own j b' hj with ⟨g1,g2⟩|⟨g1,g2⟩<;>rcases own j' b' mb with ⟨g3,g4⟩|⟨g3,g4⟩
  ·rw [g1,g3]
  ·rcases g2 with g2|g2
   ·exact absurd g4 (sF _ g2 _)
   ·exact absurd (st.inj _ _ _ g4 g2) g3
  ·rcases g4 with g4|g4
   ·exact absurd g2 (sF _ g4 _)
   ·exact absurd (st.inj _ _ _ g2 g4) g1
  ·exact st.inj _ _ _ g2 g4
 ·exact st.lD.trans ko (λ b' off cr he=>by obtain⟨rfl,hm⟩:=he;exact⟨(st.fresh k b' Ir).resolve_left (Nat.not_le_of_lt cr),st.sub b' off cr hm⟩)
 ·rcases own j b' h with ⟨_,g2|g2⟩|⟨_,g2⟩
  ·exact KZ b' g2
  ·exact st.fresh _ b' g2
  ·exact st.fresh _ b' g2
 ·by_cases dM:j=k
  ·subst dM;rw [Ks]at hl;cases hl
  ·rw [e3 j dM]at ho;exact st.tn j o' hl ho
end
end Go.AM
end
section
namespace Go.AM
open Go
theorem lH{v:Value}(h:aM v):v.oneCell'=true:=by cases v<;>first|rfl|exact h.elim
section
variable{P:Program}{TY:List cP}{w0 w:World}{M0:ef w0}{ρ:Env}{M:aX}{S S0:ai}{d:Nat}
theorem gM{b:Nat}{cs cs':Array Value}{ty:TypeId}(bR:w.heap[b]? =some (.cells cs ty (0,0)))(bk:cs'.size=cs.size)(oJ:∀off,¬M b off->cs'[off]? =cs[off]?):gk M w (w.setRow b cs'):=by
 refine⟨by simp [World.setRow],λ b' cr=>?_,jT.refl _⟩
 by_cases he:b'=b
 ·subst he;exact .inr (.inl ⟨cs,cs',ty,bR,setRow_heap w b' cs cs' ty _ bR,bk,oJ⟩)
 ·exact .inl (setRow_other w b b' cs' he)
theorem St.write{k b:Nat}{cs cs':Array Value}{ty:TypeId}{B B':dH}{S':ai}(st:St M0 ρ M S w)(hf:aj S k=some B)(hb:hasB ρ k b)
  (bR:w.heap[b]? =some (.cells cs ty (0,0))) (bk:cs'.size=cs.size) (oJ:∀off,¬M b off->cs'[off]? =cs[off]?)
  (hB:bB w M (w.setRow b cs') M->eA ρ (w.setRow b cs') M k B') (hS:∀j,aj S' j=if j=k then some B' else aj S j):
  St M0 ρ M S' (w.setRow b cs')/\bB w M (w.setRow b cs') M:=by
 have ko:=gM bR bk oJ;have hk:bB w M (w.setRow b cs') M:=ko.keep λ b off _ h=>h;refine⟨⟨λ j=>?_,λ j C hC=>?_,st.inj,λ b off hm=>Nat.lt_of_lt_of_le (st.mlt b off hm) ko.1,st.lD.trans (gM (M:=λ b' off=>b'=b/\M b' off) bR bk λ off hn=>oJ off λ hm=>hn ⟨rfl,hm⟩) (λ b' off cr he=>by obtain⟨rfl,hm⟩:=he;exact⟨(st.fresh k b' hb).resolve_left (Nat.not_le_of_lt cr),st.sub b' off cr hm⟩),st.sub,st.eu,st.fresh,st.tn⟩,hk⟩
 ·rw [hS j,st.ga j]
  by_cases hj:j=k
  ·subst hj;simp [hf]
  ·simp [hj]
 ·rw [hS j]at hC
  by_cases hj:j=k
  ·subst hj;simp at hC;subst hC;exact hB hk
  ·simp only [hj,if_false]at hC
   refine eA.ext hk (λ _ _ h=>h) (λ b' cr=>⟨setRow_other w b b' cs' λ e=>hj (st.inj _ _ b (e▸cr) hb),λ _=>Iff.rfl⟩) (st.aW j C hC)
theorem ie{t b o:Nat}{cs:Array Value}{ty:TypeId}{u:Value}(aI:iG P t (aq TY t))(bk:u.cells.size=(aq TY t).sz)(bR:w.heap[b]? =some (.cells cs ty (0,0)))
  (ho:o+u.cells.size<=cs.size) (hc:∀(j:Nat) (c:Value),u.cells[j]? =some c->aM c):
  (Instr.storeAt t (.pointer (some ⟨b,o,none⟩)) u).run P w= .ok () (w.setRow b (cs.toList.take o++u.cells.toList++cs.toList.drop (o+u.cells.size)).toArray):=by
 have h:=run_storeCells_at P b o ty u.cells.toList 0 cs w bR (by simpa using ho) (λ v hv=>by
  obtain⟨j,hj⟩:=List.mem_iff_getElem?.1 hv;exact lH (hc j v (by rw [<-Array.getElem?_toList];exact hj)))
 simp only [Nat.add_zero,Array.length_toList]at h;simp [Instr.storeAt,Instr.sureAddr,storeVar,aI.size,bk];rw [<-bk]
 simpa using h
theorem l5{l m:List Value}{o q:Nat}(ho:o+m.length<=l.length):(l.take o++m++l.drop (o+m.length))[q]? =if o<=q/\q<o+m.length then m[q - o]? else l[q]? :=by
 by_cases h1:q<o
 ·rw [if_neg aa,List.getElem?_append_left (by simp;omega),List.getElem?_append_left (by simp;omega),List.getElem?_take,if_pos h1]
 ·by_cases h2:q<o+m.length
  ·rw [if_pos ⟨aa,h2⟩,List.getElem?_append_left (by simp;omega),List.getElem?_append_right (by simp;omega)]
   congr 1;simp;omega
  ·rw [if_neg aa,List.getElem?_append_right (by simp;omega),List.getElem?_drop]
   congr 1;simp;omega
theorem BP(aw:aO P TY){F:Spec}{t:Nat}{x y:Operand}{T:List AV}{K:AV->List AV->ai->Prop}{a:Act}{oo:Oper}(h:xp TY F d (.store t x y) T S K)
  (ho:oo.op= .store t x y) (st:St M0 ρ M S w) (tm:Tm ρ w M T a):
  e9 P (execOp a.eval oo) w λ u w'=>∃ρ' M' T' S' v,K v T' S'/\St M0 ρ' M' S' w'/\Tm ρ' w' M' T' a/\T'.length=T.length/\az ρ' w' M' v u:=by
 simp only [xp,bP,aB]at h;have hx:=aY tm x;have hy:=aY tm y;generalize hu:a.eval y=u at hy;generalize aP T y=v at h hy;split at h
 ·
  rename_i k i kH;rw [kH]at hx;split at h
  ·rename_i wm r ov hf
   rw [al]at h;obtain⟨aU,Q0,h⟩:=h;obtain⟨o,b,g1,g2,g3,g4,g5⟩:=hx;obtain⟨⟨o',g6,g7,g8,g9,g10,g11⟩,gQ⟩:=st.aW k _ hf;obtain rfl:=cx g6 g1;have g1:=g6;simp only [g2]at g11;obtain⟨g12,cs,ty,g13,g14,g15,g16⟩:=g11;obtain⟨hs,n9⟩:=gw aU;have aI:=aw.at (t:=t) (.inl (by rw [hs];exact Nat.ne_of_gt r.eW));have Jy:i.toNat<r.len:=aa
   have jV:i.toNat*o.sz+r.sz<=cs.size:=by
    rw [g14,g8];have h1:(i.toNat+1)*r.sz<=o.cap*r.sz:=Nat.mul_le_mul_right _ aa;rw [Nat.add_mul,Nat.one_mul]at h1;exact h1
   have Us:∀j,j<r.sz->M b (i.toNat*o.sz+j):=λ j hj=>by
    rw [g15];refine⟨?_,aa⟩;rw [g8];have h1:wm*r.sz<=i.toNat*r.sz:=Nat.mul_le_mul_right _ aa;omega
   have fin:∀(B':dH) (S':ai),u.cells.size=r.sz->(∀(j:Nat) (c:Value),u.cells[j]? =some c->aM c)->(∀j,aj S' j=if j=k then some B' else aj S j)->
     (∀cs',cs'.size=cs.size->(∀q,cs'[q]? =if i.toNat*o.sz<=q/\q<i.toNat*o.sz+r.sz then u.cells[q - i.toNat*o.sz]? else cs[q]?)->bB w M (w.setRow b cs') M->eA ρ (w.setRow b cs') M k B')->
     K .any T S'->e9 P (execOp a.eval oo) w λ u w'=>∃ρ' M' T' S' v,K v T' S'/\St M0 ρ' M' S' w'/\Tm ρ' w' M' T' a/\T'.length=T.length/\az ρ' w' M' v u:=by
    intro B' S' xf Xf hS hB hK;have aK:=ie (P:=P) (TY:=TY) (t:=t) (b:=b) (o:=i.toNat*o.sz) (u:=u) aI (by rw [xf,hs]) g13 (by rw [xf];exact jV) Xf
    let cs':=(cs.toList.take (i.toNat*o.sz)++u.cells.toList++cs.toList.drop (i.toNat*o.sz+u.cells.size)).toArray
    have eI:∀q,cs'[q]? =if i.toNat*o.sz<=q/\q<i.toNat*o.sz+r.sz then u.cells[q - i.toNat*o.sz]? else cs[q]? :=λ q=>by
     have:=l5 (l:=cs.toList) (m:=u.cells.toList) (o:=i.toNat*o.sz) (q:=q) (by simp [xf];exact jV);simp only [Array.length_toList,Array.getElem?_toList,xf]at this;simp only [cs',List.getElem?_toArray,xf];exact this
    have bk:cs'.size=cs.size:=by simp [cs',xf];omega
    have hw:=st.write (k:=k) (cs':=cs') hf (by simp [hasB,g1,bY.has,g2]) g13 bk (λ off hn=>by
     rw [eI off,if_neg];intro hh;have:=Us (off - i.toNat*o.sz) aa;rw [show i.toNat*o.sz+(off - i.toNat*o.sz)=off from by omega]at this;exact hn this) (hB cs' bk eI) hS
    refine .inr (.inl ⟨w.setRow b cs',?_,ρ,M,T,S',.any,hK,hw.1,⟨tm.defers,tm.size,λ j=>az.keep hw.2 (λ _ _ h=>h) (tm.tmp j)⟩,rfl,ag⟩);simp [execOp,ho,g5,hu,aK,cs']
   unfold Np at h;split at h
   ·
    rename_i k';split at h
    ·rename_i wm' s OK
     rw [al,al]at h;obtain⟨DR,Ed,h⟩:=h;have Ed:=ay.1 Ed;subst Ed;obtain⟨S',hK,hS⟩:=cI h;rw [hf]at hS;have zN:=Fq DR;obtain⟨ok',g17,rfl⟩:=hy
     refine fin _ S' (by rw [zN];rfl) (λ j c hj=>by
      rcases j with _|j
      ·simp [Sl.val,Value.cells]at hj;subst hj;trivial
      ·simp [Sl.val,Value.cells]at hj) (λ j=>by rw [hS j];rfl) (λ cs' pU eI NR=>?_) hK
     refine⟨⟨o,g1,g7,g8,g9,Nat.zero_le _,?_⟩,.inr ⟨i,k',rfl,DR,rfl,g3,aa⟩⟩;simp only [g2];refine⟨g12,cs',ty,setRow_heap w b cs cs' ty _ g13,by rw [pU];exact g14,λ off=>by rw [pU];exact g15 off,λ q hq=>?_⟩;rw [eI q]
     by_cases pC:q=i.toNat
     ·rw [if_pos (by rw [g8,zN];omega)]
      have Ut:(q:Int)=i:=aa;refine⟨ok'.val,?_,by simp only [Ut,if_true];exact⟨ok',g17,rfl⟩⟩;rw [show q - i.toNat*o.sz=0 from by rw [g8,zN];omega]
      rfl
     ·rw [if_neg (by rw [g8,zN];omega)]
      have Ut:(q:Int)≠i:=aa;obtain⟨c,g18,g19⟩:=g16 q hq;exact⟨c,g18,by simp only [Ut,if_false];exact av.keep NR g19⟩
    ·exact h.elim
   ·obtain⟨r',Eh,nI,x5,cM⟩:=Jt h Jy
    obtain⟨S',hK,hS⟩:=cI Eh;rw [hf]at hS;obtain⟨c1,c2,c3⟩:=cM ρ w M u hy;refine fin _ S' c1 (λ j c hj=>(c2 j c hj).1) (λ j=>by rw [hS j];rfl) (λ cs' pU eI NR=>?_) hK;refine⟨⟨o,g1,by rw [nI];exact g7,by rw [x5];exact g8,by rw [nI];exact g9,by rw [nI];exact g10,?_⟩,.inl rfl⟩;simp only [g2];refine⟨g12,cs',ty,setRow_heap w b cs cs' ty _ g13,by rw [pU];exact g14,λ off=>by rw [pU];exact g15 off,λ q hq=>?_⟩;rw [eI q];have zk:q<r.cells:=by simpa [RO.cells,nI,x5]using hq
    by_cases pC:i.toNat*o.sz<=q/\q<i.toNat*o.sz+r.sz
    ·rw [if_pos pC]
     rw [g8]at pC ⊢;have aS:q - i.toNat*r.sz<u.cells.size:=aa;refine⟨u.cells[q - i.toNat*r.sz],by simp [aS],?_⟩;have:=(c2 (q - i.toNat*r.sz) u.cells[q - i.toNat*r.sz] (by simp [aS])).2;rw [show i.toNat*r.sz+(q - i.toNat*r.sz)=q from by omega]at this;exact av.keep NR this
    ·rw [if_neg pC]
     obtain⟨c,g18,g19⟩:=g16 q zk;refine⟨c,g18,av.keep NR (c3 q c (λ e=>pC ?_) g19)⟩;rw [g8];have hp:=r.eW;have h1:=Nat.div_add_mod q r.sz;have h2:=Nat.mod_lt q hp;rw [e,Nat.mul_comm]at h1;omega
   ·exact h.elim
  ·
   rename_i r j hf;rw [al,al]at h;obtain⟨aU,Ks,mo,h⟩:=h;subst mo;obtain⟨o,b,g1,g2,g3,g4,g5⟩:=hx;obtain⟨o',rows,g6,hD⟩:=st.aW k _ hf;rw [oB g6]at g1;cases g1;split at h
   ·rename_i h'
    split at h
    ·rename_i wm s OK
     rw [al,al]at h;obtain⟨Ed,hnb,h⟩:=h;obtain rfl:=ay.1 Ed;obtain⟨r',h,Fy,zw,Z6,Z7⟩:=DJ hD.rq h;obtain⟨ok',g17,rfl⟩:=hy;obtain⟨⟨oh,g18,hV⟩,_⟩:=st.aW h' _ OK;obtain rfl:=cx g18 g17;obtain⟨T1,S1,h,st1,tm1,OL,dA⟩:=FM (K:=λ T S=>ku S k (.deep r' none) λ S=>K .any T S) h st tm;obtain⟨S2,hK,hS⟩:=cI h;have bm:=Xe hnb;have e1:aR ρ h' k=some (.dp o rows):=by simp [aR,bm,g6]
     have l7:(aj S1 k).isSome:=by rw [<-st1.ga k,e1];rfl
     have oE:=hD.outer;simp only [g2]at oE;obtain⟨g19,cs,ty,g20,g21,g22,g23⟩:=oE;have Jy:i.toNat<r.len:=by have:=hD.len;omega
     have hlen:=hD.len;have hic:i.toNat<cs.size:=aa;obtain⟨hs,n9⟩:=gw aU;have zN:=kO hD.rq;have aI:=aw.at (t:=t) (.inl (by rw [hs,zN];decide))
     have aK:=ie (P:=P) (TY:=TY) (t:=t) (b:=b) (o:=i.toNat*o.sz) (u:=ok'.val) aI (by rw [hs,zN];rfl) g20 (by rw [hD.NS,Nat.mul_one];exact hic) (λ j c hj=>by
      rcases j with _|j
      ·simp [Sl.val,Value.cells]at hj;subst hj;trivial
      ·simp [Sl.val,Value.cells]at hj)
     let cs':=(cs.toList.take (i.toNat*o.sz)++ok'.val.cells.toList++cs.toList.drop (i.toNat*o.sz+ok'.val.cells.size)).toArray
     have da:ok'.val.cells= #[ok'.val]:=rfl;have bk:cs'.size=cs.size:=by simp [cs',da,hD.NS];omega
     have eI:∀q,cs'[q]? =if q=i.toNat then some ok'.val else cs[q]? :=λ q=>by
      have:=l5 (l:=cs.toList) (m:=ok'.val.cells.toList) (o:=i.toNat*o.sz) (q:=q) (by rw [da,hD.NS];simp;omega);simp only [Array.length_toList,Array.getElem?_toList]at this;simp only [cs',List.getElem?_toArray];rw [this,da,hD.NS]
      by_cases hq:q=i.toNat
      ·subst hq;simp
      ·rw [if_neg hq,if_neg (by simp;omega)]
     have hold:∀j b,hasB (aR ρ h') j b->j≠h'/\hasB ρ j b:=λ j b hj=>by
      by_cases Z8:j=h'
      ·subst Z8;simp [hasB,aR]at hj
      ·exact⟨Z8,by simpa [hasB,aR,Z8]using hj⟩
     obtain⟨ρ2,st2,SE,JA⟩:=st1.putRow (r':=r') (s:=s) (S':=S2) (oh:=ok') (cs':=cs') Ks e1 hD hV.env (λ b' cr j hj=>(hold j b' hj).1 (st.inj _ _ b' (hold j b' hj).2 (by simp only [hasB,g18];exact cr)))
      (λ b' cr=>st.fresh h' b' (by simp only [hasB,g18];exact cr)) Fy zw (Z6 Jy) Z7 (λ j=>by
       rw [hS j];obtain⟨B,hB⟩:=Option.isSome_iff_exists.1 l7;rw [hB];rfl) l7 g2 g20 bk eI
     refine .inr (.inl ⟨w.setRow b cs',?_,ρ2,M,T1,S2,.any,hK,st2,⟨tm1.defers,tm1.size,λ j=>az.keep JA (λ _ _ h=>h) ((tm1.tmp j).view SE)⟩,OL,ag⟩);simp [execOp,ho,g5,hu,aK,cs']
    ·exact h.elim
   ·exact h.elim
  ·exact h.elim
 ·
  rename_i k off kH;rw [kH]at hx;split at h
  ·rename_i l hf
   obtain⟨m,hm,hlen,Qb⟩:=sm h;obtain⟨YC,oK⟩:=pv hm;obtain⟨S',hK,hS⟩:=cI oK;rw [hf]at hS;have hx:(ρ k).bind (bY.ref · off)=some (a.eval x):=hx;obtain⟨b,g1,cs,ty,g4,g5,g6⟩:=st.aW k _ hf;have g2:=rO g1 hx;have Z9:l.length=cs.size:=by rw [g6.length,Array.length_toList]
   have bc:aJ (aH ρ w M) m u.cells.toList:=by
    rcases Qb with ⟨_,hv⟩|⟨_,hc,rfl⟩
    ·rw [hv]at hy;obtain⟨cs0,rfl,h2⟩:=hy;exact h2
    ·have hy:=lX hc hy
     have cM:=aH.aM hy
     revert hy cM
     cases u<;>intro hy cM<;>first|exact⟨hy,ag⟩|exact cM.elim
   have xf:u.cells.size=m.length:=by rw [bc.length,Array.length_toList]
   have Xf:∀(j:Nat) (c:Value),u.cells[j]? =some c->aM c:=λ j c hj=>by
    have aS:j<m.length:=by
     rw [<-xf];rcases Nat.lt_or_ge j u.cells.size with h'|h'
     ·exact h'
     ·rw [Array.getElem?_eq_none h']at hj;cases hj
    obtain⟨c',h1,h2⟩:=bc.get j aS;rw [Array.getElem?_toList,hj]at h1;cases h1;exact aH.aM h2
   have aI:iG P t (aq TY t):=by
    rcases Qb with ⟨n9,_⟩|⟨_,_,rfl⟩
    ·exact aw.at (.inr λ e=>by rw [e]at n9;cases n9)
    ·exact aw.at (.inl (by rw [<-hlen];simp))
   have aK:=ie (P:=P) (TY:=TY) (t:=t) (b:=b) (o:=off) (u:=u) aI (by rw [xf,hlen]) g4 (by rw [xf,<-Z9];exact YC) Xf
   let cs':=(cs.toList.take off++u.cells.toList++cs.toList.drop (off+u.cells.size)).toArray
   have bk:cs'.size=cs.size:=by simp [cs',xf];omega
   have hw:=st.write (k:=k) (cs':=cs') hf (by simp [hasB,g1,bY.has]) g4 bk (λ q hn=>by
    have Ez:cs.size<=q:=Nat.le_of_not_lt λ aS=>hn ((g5 q).2 aS);rw [Array.getElem?_eq_none Ez,Array.getElem?_eq_none (by rw [bk];exact Ez)])
    (B':=.box (l.take off++(m++l.drop (off+m.length)))) (λ NR=>⟨b,g1,cs',ty,setRow_heap w b cs cs' ty _ g4,λ q=>by rw [bk];exact g5 q,by
     have:=(g6.take off).append (bc.append (g6.drop (off+m.length)));have:=this.imp λ _ _=>aH.keep (ρ:=ρ) (ρ':=ρ) NR (λ _ _ h=>h)
     simpa [cs',xf]using this⟩) (λ j=>by rw [hS j];rfl)
   refine .inr (.inl ⟨w.setRow b cs',?_,ρ,M,T,S',.any,hK,hw.1,⟨tm.defers,tm.size,λ j=>az.keep hw.2 (λ _ _ h=>h) (tm.tmp j)⟩,rfl,ag⟩);simp [execOp,ho,g2,hu,aK,cs']
  ·exact h.elim
 ·
  rename_i k i j kH;rw [kH]at hx;split at h
  ·rename_i wm l hf
   rw [al,al]at h;obtain⟨mw,hj,Q0,h⟩:=h;unfold Nq at h;split at h
   ·rename_i k' n
    rw [al]at h;obtain⟨hk,h⟩:=h;obtain⟨S',hK,hS⟩:=cI h;rw [hf]at hS;obtain⟨o,b,g1,g2,g3,g4,g5⟩:=hx;obtain⟨⟨o',g6,g7,g8,g9,g10,g11⟩,_⟩:=st.aW k _ hf;obtain rfl:=cx g6 g1;simp only [g2]at g11;obtain⟨g12,cs,ty,g13,g14,g15,g16⟩:=g11;obtain⟨hyu,j9⟩:=hy;have Vx:k'= .i64:=(bZ hk).symm;rw [Vx]at hyu j9;have g7:o.len=l.length:=g7;have N1:o.sz=2:=g8;have mB:=ah hj;have Jy:i.toNat<l.length:=aa;have jV:i.toNat*2+j<cs.size:=by rw [g14,N1];omega
    have da:u.cells= #[.int .i64 n]:=by rw [hyu];rfl
    have Xf:∀(q:Nat) (c:Value),u.cells[q]? =some c->aM c:=λ q c hq=>by
     rw [da]at hq;rcases q with _|q
     ·simp at hq;subst hq;trivial
     ·simp at hq
    unfold Jl at mw;split at mw
    ·cases mw
    ·rename_i n9
     have bk:=ay.1 mw;have aI:=aw.at (t:=t) (.inl (by rw [bk];decide));have aK:=ie (P:=P) (TY:=TY) (t:=t) (b:=b) (o:=i.toNat*o.sz+j) (u:=u) aI (by rw [da,bk];rfl) g13 (by rw [da,N1];simp;omega) Xf
     let cs':=(cs.toList.take (i.toNat*o.sz+j)++u.cells.toList++cs.toList.drop (i.toNat*o.sz+j+u.cells.size)).toArray
     have pU:cs'.size=cs.size:=by simp [cs',da,N1];omega
     have eI:∀q,cs'[q]? =if q=i.toNat*2+j then some (.int .i64 n) else cs[q]? :=λ q=>by
      have:=l5 (l:=cs.toList) (m:=u.cells.toList) (o:=i.toNat*o.sz+j) (q:=q) (by rw [da,N1];simp;omega);simp only [Array.length_toList,Array.getElem?_toList]at this;simp only [cs',List.getElem?_toArray];rw [this,da,N1]
      by_cases hq:q=i.toNat*2+j
      ·subst hq;simp
      ·rw [if_neg hq,if_neg (by simp;omega)]
     have hw:=st.write (k:=k) (cs':=cs') hf (by simp [hasB,g6,bY.has,g2]) g13 pU (λ off hn=>by
      rw [eI off,if_neg];intro hh;refine hn ((g15 off).2 ⟨?_,aa⟩);rw [N1];omega) (B':=.vec wm (.aT (l.set i.toNat (sL j (l.getD i.toNat (0,0)) n))) []) (λ NR=>by
      refine⟨⟨o,g6,by show o.len=_;simp only [RO.len,List.length_set];exact g7,g8,by simp only [RO.len,List.length_set];exact g9,by simp only [RO.len,List.length_set];exact g10,?_⟩,.inl rfl⟩;simp only [g2];refine⟨g12,cs',ty,setRow_heap w b cs cs' ty _ g13,by rw [pU];exact g14,λ off=>by rw [pU];exact g15 off,λ q hq=>?_⟩;rw [eI q];have zk:q<(RO.aT l).cells:=by simpa [RO.cells,RO.len,RO.sz]using hq
      obtain⟨c,g18,g19⟩:=g16 q zk
      by_cases pC:q=i.toNat*2+j
      ·rw [if_pos pC]
       refine⟨_,rfl,?_⟩;have hd:q / 2=i.toNat:=aa;simp only [av,hd];rw [show(l.set i.toNat (sL j (l.getD i.toNat (0,0)) n)).getD i.toNat (0,0)=sL j (l.getD i.toNat (0,0)) n by simp [List.getD,Jy]]
       match j,mB,pC with
       |0,_,pC=>rw [if_pos aa];exact⟨rfl,j9⟩
       |1,_,pC=>rw [if_neg aa];exact⟨rfl,j9⟩
      ·rw [if_neg pC]
       refine⟨c,g18,?_⟩;simp only [av]at g19 ⊢
       by_cases hd:q / 2=i.toNat
       ·rw [hd]at g19 ⊢
        rw [show(l.set i.toNat (sL j (l.getD i.toNat (0,0)) n)).getD i.toNat (0,0)=sL j (l.getD i.toNat (0,0)) n by simp [List.getD,Jy]]
        match j,mB,pC with
        |0,_,pC=>rw [if_neg aa]at g19 ⊢;exact g19
        |1,_,pC=>rw [if_pos aa]at g19 ⊢;exact g19
       ·rw [show(l.set i.toNat (sL j (l.getD i.toNat (0,0)) n)).getD (q / 2) (0,0)=l.getD (q / 2) (0,0) by simp [List.getD,List.getElem?_set_ne (Ne.symm hd)]]
        exact g19) (λ j=>by rw [hS j];rfl)
     refine .inr (.inl ⟨w.setRow b cs',?_,ρ,M,T,S',.any,hK,hw.1,⟨tm.defers,tm.size,λ j=>az.keep hw.2 (λ _ _ h=>h) (tm.tmp j)⟩,rfl,ag⟩);simp [execOp,ho,g5,hu,aK,cs']
   ·exact h.elim
  ·exact h.elim
 ·exact h.elim
theorem F5{b:AV}{K:Option RO->Prop}(h:Jr S b K)(st:St M0 ρ M S w){u:Value}(hu:az ρ w M b u):
  (K none/\u= .slice none 0 0)\/∃r,K (some r)/\r.len<=LB/\∃ad cap,u= .slice ad r.len cap/\(r.cells=0\/∃b off,ad=some ⟨b,off,none⟩/\∀q,q<r.cells->∃c,w.cell? ⟨b,off+q,none⟩=some c/\av w M r q c):=by
 cases b with
 |ro r=>
  obtain⟨h1,ad,cap,h2,_,h3⟩:=hu;refine .inr ⟨r,h,h1,ad,cap,h2,?_⟩;rcases h3 with h3|⟨b,off,h4,h5⟩
  ·exact .inl h3
  ·exact .inr ⟨b,off,h4,λ q hq=>by obtain⟨c,h6,_,h7⟩:=h5 q hq;exact⟨c,h6,h7⟩⟩
 |ao=>exact .inl ⟨h,hu⟩
 |vec j=>
  simp only [Jr]at h;split at h
  ·rename_i wm r hf
   obtain⟨o,g1,rfl⟩:=hu;obtain⟨⟨o',g2,g3,g4,g5,_,g6⟩,_⟩:=st.aW j _ hf;obtain rfl:=cx g2 g1;refine .inr ⟨r,h,g5,_,_,by rw [Sl.val,g3],?_⟩;cases hb:o.aW with
   |none=>simp only [hb]at g6;exact .inl (by simp [RO.cells,g6.1])
   |some b=>
    simp only [hb]at g6;obtain⟨_,cs,ty,g7,_,_,g8⟩:=g6;exact .inr ⟨b,0,rfl,λ q hq=>by obtain⟨c,g9,g10⟩:=g8 q hq;exact⟨c,by rw [cell_of_heap g7,Nat.zero_add];exact g9,g10⟩⟩
  ·exact h.elim
 |_=>exact h.elim
end
end Go.AM
end
section
namespace Go.AM
open Go
section
variable{P:Program}{TY:List cP}{w0 w:World}{M0:ef w0}{ρ:Env}{M:aX}{S S0:ai}{d:Nat}
theorem fL{k:Nat}{T:List AV}{a:Act}{K:List AV->ai->Prop}(h:kL S k λ S=>cU k .any T λ T=>b5 k .any S λ S=>K T S)(st:St M0 ρ M S w)(tm:Tm ρ w M T a)
  {ρ':Env} {w':World} {M':aX} {B:dH} (dW:bB w M w' M') (hρ:∀j,j≠k->ρ' j=ρ j) (aaa:(ρ' k).isSome)
  (mq:∀j,j≠k->∀b,hasB ρ j b->w'.heap[b]? =w.heap[b]?/\∀off,M' b off↔M b off)
  (ko:gk (λ b off=>w0.heap.size<=b\/(M0.oR b/\M0.mask b off)) w w') (aS:∀b off,M' b off->b<w'.heap.size) (mH:∀b off,b<w0.heap.size->M' b off->M b off) (hold:∀b off,b<w0.heap.size->¬M0.oR b->M b off->M' b off) (KZ:∀b,hasB ρ' k b->w0.heap.size<=b\/M0.oR b)
  (hB:eA ρ' w' M' k B) (QO:∀b,hasB ρ' k b->∀j,j≠k->¬hasB ρ j b) (aab:∀o,loc k=false->ρ' k=some o->M0.env k=some o.base):
  ∃T' S',K T' S'/\St M0 ρ' M' ((k,B)::S') w'/\Tm ρ' w' M' T' a/\T'.length=T.length:=by
 obtain⟨S1,h1,xe⟩:=gq h;obtain⟨T',h2,hlen,hT⟩:=fH h1;obtain⟨S',h3,FZ⟩:=fI h2;have ix:∀j,j≠k->∀o,ρ j=some o->ρ' j=some o:=λ j hj o ho=>by rw [hρ j hj];exact ho
 have mM:Conv k .any ρ w M ρ' w' M':=⟨dW,ix,λ v hv=>aH.aM hv⟩;have Uu:Conv k .any ρ w' M' ρ' w' M':=⟨bB.refl _ _,ix,λ v hv=>aH.aM hv⟩
 refine⟨T',S',h3,⟨λ j=>?_,λ j C hC=>?_,λ i j b hi hj=>?_,aS,st.lD.trans ko (λ b off hb hm=>hm.resolve_left (Nat.not_le_of_lt hb)),λ b off hb hm=>st.sub b off hb (mH b off hb hm),λ b off hb hl hm=>hold b off hb hl (st.eu b off hb hl hm),λ x b hx=>?_,λ x o hx ho=>?_⟩,
  ⟨tm.defers,by rw [hlen];exact tm.size,λ i=>hT _ _ _ _ _ _ mM (λ v _=>⟨ag,ag⟩) i _ (tm.tmp i)⟩,hlen⟩
 ·by_cases hj:j=k
  ·subst hj;simp [aD,aaa]
  ·have:=FZ j
   rw [xe j]at this;simp only [hj,if_false]at this;simp only [aD,Ne.symm hj,if_false,hρ j hj,st.ga j];cases hf:aj S j with
   |none=>simp only [hf]at this;simp [this]
   |some C=>simp only [hf]at this;obtain⟨C',h4,_⟩:=this;simp [h4]
 ·by_cases hj:j=k
  ·subst hj;simp only [aD,if_true]at hC;cases hC;exact hB
  ·simp only [aD,Ne.symm hj,if_false]at hC
   have:=FZ j;rw [xe j]at this;simp only [hj,if_false]at this;cases hf:aj S j with
   |none=>simp only [hf]at this;rw [this]at hC;cases hC
   |some C0=>
    simp only [hf]at this;obtain⟨C',h4,h5⟩:=this;rw [h4]at hC;cases hC;exact h5 ρ w' M' ρ' M' j Uu (hρ j hj) (λ _ _ _=>Iff.rfl) (eA.ext dW (λ _ _ h=>h) (mq j hj) (st.aW j C0 hf))
 ·have h1:∀x,x≠k->hasB ρ' x b->hasB ρ x b:=λ x hx hb=>by simpa [hasB,hρ x hx]using hb
  by_cases x3:i=k
  ·by_cases dM:j=k
   ·rw [x3,dM]
   ·subst x3;exact absurd (h1 j dM hj) (QO b hi j dM)
  ·by_cases dM:j=k
   ·subst dM;exact absurd (h1 i x3 hi) (QO b hj i x3)
   ·exact st.inj _ _ _ (h1 i x3 hi) (h1 j dM hj)
 ·by_cases kH:x=k
  ·subst kH;exact KZ b hx
  ·exact st.fresh x b (by simpa [hasB,hρ x kH]using hx)
 ·by_cases kH:x=k
  ·subst kH;exact aab o hx ho
  ·exact st.tn x o hx (by rw [<-hρ x kH];exact ho)
theorem nu{k:Nat}{T:List AV}{a:Act}{K:List AV->ai->Prop}(h:iH k T S K)(st:St M0 ρ M S w)(tm:Tm ρ w M T a)
  {ρ':Env} {w':World} {M':aX} {B:dH} (dW:bB w M w' M') (hρ:∀j,j≠k->ρ' j=ρ j) (aaa:(ρ' k).isSome)
  (mq:∀j,j≠k->∀b,hasB ρ j b->w'.heap[b]? =w.heap[b]?/\∀off,M' b off↔M b off)
  (ko:gk (λ b off=>w0.heap.size<=b\/(M0.oR b/\M0.mask b off)) w w') (aS:∀b off,M' b off->b<w'.heap.size) (mH:∀b off,b<w0.heap.size->M' b off->M b off) (hold:∀b off,b<w0.heap.size->¬M0.oR b->M b off->M' b off) (KZ:∀b,hasB ρ' k b->w0.heap.size<=b\/M0.oR b)
  (hB:eA ρ' w' M' k B) (QO:∀b,hasB ρ' k b->∀j,j≠k->¬hasB ρ j b):
  ∃T' S',K T' S'/\St M0 ρ' M' ((k,B)::S') w'/\Tm ρ' w' M' T' a/\T'.length=T.length:=by
 unfold iH at h;obtain⟨fJ,h⟩:=al.1 h;exact fL h st tm dW hρ aaa mq ko aS mH hold KZ hB QO λ o hl=>by rw [fJ]at hl;cases hl
theorem bO{t ty e:Nat}{i:TypeInfo}(ht:P.underlying t=some (.slice e))(hi:P.info? e=some i)(base ad:Option Addr)(n cap c:Nat)(h:n<=cap)(w:World):
  (Builtin.append_ #[t,t] ty #[.slice base n cap,.slice ad 0 c]).run P w= .ok (.slice base n cap) w:=by
 cases base<;>cases ad<;>simp [Builtin.append_,underlying,ht,sizeOf,typeInfo,hi,Builtin.lenOf,h,Builtin.firstCells,loadCells,loadCellsFrom,storeCells]
theorem iJ{k:Nat}{T:List AV}{a:Act}{K:List AV->ai->Prop}(h:iH k T S K)(st:St M0 ρ M S w)(tm:Tm ρ w M T a)
  {w':World} {cs:Array Value} {ty cap wm:Nat} {r:RO} (hw:w'.heap=w.heap.push (.cells cs ty (0,0))) (oq:jT w w') (bR:cs.size=cap*r.sz) (dT:r.len<=cap) (NW:r.len<=LB) (Q0:wm<=r.len)
  (hc:∀q,q<r.cells->∃c,cs[q]? =some c/\av w M r q c):
  ∃T' S' ρ' M',K T' S'/\St M0 ρ' M' ((k,.vec wm r [])::S') w'/\Tm ρ' w' M' T' a/\T'.length=T.length/\ρ' k=some (.sl ⟨some w.heap.size,r.len,cap,r.sz⟩):=by
 have hs:gk (λ _ _=>False) w w':=⟨by rw [hw];simp,λ b hb=>.inl (by rw [hw];simp [Array.getElem?_push,Nat.ne_of_lt hb]),oq⟩
 let M':aX:=λ b off=>dt M ρ k b off\/(b=w.heap.size/\wm*r.sz<=off/\off<cs.size)
 have dW:bB w M w' M':=λ b off c h1 h2=>⟨hs.cell h1 (λ h=>h),λ hm=>hm.elim (λ hm=>h2 hm.1) (λ hm=>absurd hm.1 (Nat.ne_of_lt (nH h1)))⟩;have Sn:∀off,¬dt M ρ k w.heap.size off:=λ off hm=>absurd (st.mlt _ _ hm.1) (Nat.lt_irrefl _)
 refine(λ⟨T',S',g1,g2,g3,g4⟩=>⟨T',S',λ j=>if j=k then some (.sl ⟨some w.heap.size,r.len,cap,r.sz⟩) else ρ j,M',g1,g2,g3,g4,by simp⟩)
  (nu h st tm (ρ':=λ j=>if j=k then some (.sl ⟨some w.heap.size,r.len,cap,r.sz⟩) else ρ j) (w':=w') (M':=M') (B:=.vec wm r []) dW (λ j hj=>by simp [hj]) (by simp) (λ j hj b hb=>?_) ?_ (λ b off hm=>?_) (λ b off hb hm=>?_) (λ b off hb hl hm=>.inl ⟨hm,st.gU hb hl⟩) (λ b hb=>?_) ?_ (λ b hb j hj zD=>?_))
 ·have OT:=eV st hb
  refine⟨by rw [hw];simp [Array.getElem?_push,Nat.ne_of_lt OT],λ off=>⟨λ hm=>hm.elim (λ hm=>hm.1) (λ hm=>absurd hm.1 (Nat.ne_of_lt OT)),λ hm=>.inl ⟨hm,λ hk=>hj (st.inj _ _ _ hb hk)⟩⟩⟩
 ·exact⟨hs.1,λ b hb=>(hs.2 b hb).imp id λ hh=>hh.imp (λ⟨c1,c2,t,h1,h2,h3,h4⟩=>⟨c1,c2,t,h1,h2,h3,λ off _=>h4 off (by simp)⟩) (λ⟨_,_,_,_,_,_,hf⟩=>hf.elim),hs.3⟩
 ·rw [hw];simp
  rcases hm with hm|hm
  ·exact Nat.lt_succ_of_lt (st.mlt _ _ hm.1)
  ·rw [hm.1];exact Nat.lt_succ_self _
 ·have cr:=Nat.lt_of_lt_of_le hb st.lD.1
  exact hm.elim (λ hm=>hm.1) (λ hm=>absurd hm.1 (Nat.ne_of_lt cr))
 ·simp [hasB,bY.has]at hb
  rw [<-hb];exact .inl st.lD.1
 ·refine⟨⟨⟨some w.heap.size,r.len,cap,r.sz⟩,by simp,rfl,rfl,NW,Q0,dT,cs,ty,by rw [hw];simp,bR,λ off=>?_,λ q hq=>?_⟩,.inl rfl⟩
  ·exact⟨λ hm=>hm.elim (λ hm=>absurd hm (Sn off)) (λ hm=>hm.2),λ hm=>.inr ⟨rfl,hm⟩⟩
  ·obtain⟨c,h1,h2⟩:=hc q hq;exact⟨c,h1,h2.keep dW⟩
 ·have:=eV st zD
  simp [hasB,bY.has]at hb;omega
theorem qZ{k:Nat}{T:List AV}{a:Act}{K:List AV->ai->Prop}(h:iH k T S K)(st:St M0 ρ M S w)(tm:Tm ρ w M T a){wm:Nat}{r:RO}(hr:r.len=0)(Q0:wm<=r.len):
  ∃T' S' ρ' M',K T' S'/\St M0 ρ' M' ((k,.vec wm r [])::S') w/\Tm ρ' w M' T' a/\T'.length=T.length/\ρ' k=some (.sl ⟨none,0,0,r.sz⟩):=by
 refine(λ⟨T',S',g1,g2,g3,g4⟩=>⟨T',S',λ j=>if j=k then some (.sl ⟨none,0,0,r.sz⟩) else ρ j,dt M ρ k,g1,g2,g3,g4,by simp⟩)
  (nu h st tm (ρ':=λ j=>if j=k then some (.sl ⟨none,0,0,r.sz⟩) else ρ j) (w':=w) (M':=dt M ρ k) (B:=.vec wm r []) (iQ _ _ _ _) (λ j hj=>by simp [hj]) (by simp) (λ j hj b hb=>?_) (gk.refl _ _) (λ b off hm=>st.mlt b off hm.1) (λ b off hb hm=>hm.1) (λ b off hb hl hm=>⟨hm,st.gU hb hl⟩) (λ b hb=>by simp [hasB,bY.has]at hb) ?_ (λ b hb=>?_))
 ·exact⟨rfl,λ off=>⟨λ hm=>hm.1,λ hm=>⟨hm,λ hk=>hj (st.inj _ _ _ hb hk)⟩⟩⟩
 ·exact⟨⟨⟨none,0,0,r.sz⟩,by simp,hr.symm,rfl,by rw [hr];exact Nat.zero_le _,Q0,hr,rfl⟩,.inl rfl⟩
 ·simp [hasB,bY.has]at hb
theorem xK{k b:Nat}{T:List AV}{a:Act}{K:List AV->ai->Prop}(h:iH k T S K)(st:St M0 ρ M S w)(tm:Tm ρ w M T a)
  {o:Sl} {wm:Nat} {r r':RO} {cs cs':Array Value} {ty:Nat} (hk:ρ k=some (.sl o)) (hb:o.aW=some b) (hf:aj S k=some (.vec wm r [])) (bR:w.heap[b]? =some (.cells cs ty (0,0)))
  (bk:cs'.size=cs.size) (gD:∀q,q<wm*r.sz->cs'[q]? =cs[q]?) (hz:r'.sz=r.sz) (hle:r.len<=r'.len) (dT:r'.len<=o.cap) (NW:r'.len<=LB)
  (hc:∀q,q<r'.cells->∃c,cs'[q]? =some c/\av w M r' q c):
  ∃T' S' ρ' M',K T' S'/\St M0 ρ' M' ((k,.vec wm r' [])::S') (w.setRow b cs')/\Tm ρ' (w.setRow b cs') M' T' a/\T'.length=T.length/\ρ' k=some (.sl ⟨some b,r'.len,o.cap,r'.sz⟩):=by
 obtain⟨⟨o',g1,g2,g3,g4,g5,g6⟩,_⟩:=st.aW k _ hf;rw [hk]at g1;cases g1;simp only [hb]at g6;obtain⟨g7,cs0,ty0,g8,g9,g10,g11⟩:=g6;rw [bR]at g8;cases g8
 have oJ:∀off,¬M b off->cs'[off]? =cs[off]? :=λ off hn=>by
  by_cases h1:off<wm*r.sz
  ·exact gD off h1
  ·have h2:cs.size<=off:=Nat.le_of_not_lt λ aS=>hn ((g10 off).2 ⟨by rw [g3];omega,aS⟩)
   rw [Array.getElem?_eq_none h2,Array.getElem?_eq_none (by rw [bk];exact h2)]
 have ko:=gM (M:=M) bR bk oJ;have dW:bB w M (w.setRow b cs') M:=ko.keep λ _ _ _ h=>h;have Ir:hasB ρ k b:=by simp [hasB,hk,bY.has,hb]
 refine(λ⟨T',S',g1,g2,g3,g4⟩=>⟨T',S',λ j=>if j=k then some (.sl ⟨some b,r'.len,o.cap,r'.sz⟩) else ρ j,M,g1,g2,g3,g4,by simp⟩)
  (nu h st tm (ρ':=λ j=>if j=k then some (.sl ⟨some b,r'.len,o.cap,r'.sz⟩) else ρ j) (w':=w.setRow b cs') (M':=M) (B:=.vec wm r' []) dW (λ j hj=>by simp [hj]) (by simp) (λ j hj b' cr=>?_) ((gM (M:=λ b' off=>b'=b/\M b' off) bR bk λ off hn=>oJ off λ hm=>hn ⟨rfl,hm⟩).weaken λ b' off he=>by obtain⟨rfl,hm⟩:=he;exact(Nat.lt_or_ge b' w0.heap.size).elim (λ aS=>.inr ⟨(st.fresh k b' Ir).resolve_left (Nat.not_le_of_lt aS),st.sub b' off aS hm⟩) .inl) (λ b' off hm=>Nat.lt_of_lt_of_le (st.mlt b' off hm) ko.1) (λ _ _ _ hm=>hm) (λ _ _ _ _ hm=>hm) (λ b' cr=>by simp [hasB,bY.has]at cr;rw [<-cr];exact st.fresh k b Ir) ?_ (λ b' cr j hj zD=>?_))
 ·exact⟨setRow_other w b b' cs' λ e=>hj (st.inj _ _ b (e▸cr) Ir),λ _=>Iff.rfl⟩
 ·refine⟨⟨⟨some b,r'.len,o.cap,r'.sz⟩,by simp,rfl,rfl,NW,aa,dT,cs',ty,setRow_heap w b cs cs' ty _ bR,by rw [bk,g9,g3,hz],λ off=>?_,λ q hq=>?_⟩,.inl rfl⟩
  ·rw [g10 off,bk,g3,hz]
  ·obtain⟨c,h1,h2⟩:=hc q hq;exact⟨c,h1,h2.keep dW⟩
 ·simp [hasB,bY.has]at cr
  subst cr;exact hj (st.inj _ _ _ zD Ir)
theorem A7{k n:Nat}{T:List AV}{a:Act}{K:List AV->ai->Prop}(h:kL S k λ S=>cU k .any T λ T=>b5 k .any S λ S=>K T S)(st:St M0 ρ M S w)(tm:Tm ρ w M T a)
  {o cur:Sl} (hk:ρ k=some (.st o cur)) {w':World} {cs:Array Value} {ty cap:Nat} {r:RO} (hj:wT w M o n r.sz) (hw:w'.heap=w.heap.push (.cells cs ty (0,0))) (oq:jT w w') (bR:cs.size=cap*r.sz) (dT:r.len<=cap) (NW:r.len<=LB)
  (hc:∀q,q<r.cells->∃c,cs[q]? =some c/\av w M r q c):
  ∃T' S' ρ' M',K T' S'/\St M0 ρ' M' ((k,.dE n r)::S') w'/\Tm ρ' w' M' T' a/\T'.length=T.length/\ρ' k=some (.st o ⟨some w.heap.size,r.len,cap,r.sz⟩):=by
 have hs:gk (λ _ _=>False) w w':=⟨by rw [hw];simp,λ b hb=>.inl (by rw [hw];simp [Array.getElem?_push,Nat.ne_of_lt hb]),oq⟩
 let M':aX:=λ b off=>M b off\/(b=w.heap.size/\off<cs.size)
 have dW:bB w M w' M':=λ b off c h1 h2=>⟨hs.cell h1 (λ h=>h),λ hm=>hm.elim h2 (λ hm=>absurd hm.1 (Nat.ne_of_lt (nH h1)))⟩;have Sn:∀off,¬M w.heap.size off:=λ off hm=>absurd (st.mlt _ _ hm) (Nat.lt_irrefl _)
 have hold:∀b,b<w.heap.size->w'.heap[b]? =w.heap[b]?/\∀off,M' b off↔M b off:=λ b hb=>
  ⟨by rw [hw];simp [Array.getElem?_push,Nat.ne_of_lt hb],λ off=>⟨λ hm=>hm.elim id (λ hm=>absurd hm.1 (Nat.ne_of_lt hb)),.inl⟩⟩
 have ho:∀b,o.aW=some b->hasB ρ k b:=λ b hb=>by simp [hasB,hk,bY.has,hb]
 refine(λ⟨T',S',g1,g2,g3,g4⟩=>⟨T',S',λ j=>if j=k then some (.st o ⟨some w.heap.size,r.len,cap,r.sz⟩) else ρ j,M',g1,g2,g3,g4,by simp⟩)
  (fL h st tm (ρ':=λ j=>if j=k then some (.st o ⟨some w.heap.size,r.len,cap,r.sz⟩) else ρ j) (w':=w') (M':=M') (B:=.dE n r) dW (λ j hj=>by simp [hj]) (by simp) (λ j hj b hb=>hold b (eV st hb)) ?_ (λ b off hm=>?_) (λ b off hb hm=>?_) (λ b off hb hl hm=>.inl hm) (λ b hb=>?_) ?_ (λ b hb j hj zD=>?_) (λ ow hl ho=>by simp at ho;subst ho;exact st.tn k (.st o cur) hl hk))
 ·exact⟨hs.1,λ b hb=>(hs.2 b hb).imp id λ hh=>hh.imp (λ⟨c1,c2,t,h1,h2,h3,h4⟩=>⟨c1,c2,t,h1,h2,h3,λ off _=>h4 off (by simp)⟩) (λ⟨_,_,_,_,_,_,hf⟩=>hf.elim),hs.3⟩
 ·rw [hw];simp
  rcases hm with hm|hm
  ·exact Nat.lt_succ_of_lt (st.mlt _ _ hm)
  ·rw [hm.1];exact Nat.lt_succ_self _
 ·have cr:=Nat.lt_of_lt_of_le hb st.lD.1
  exact hm.elim id (λ hm=>absurd hm.1 (Nat.ne_of_lt cr))
 ·simp [hasB,bY.has]at hb
  rcases hb with hb|hb
  ·exact st.fresh k b (ho b hb)
  ·rw [<-hb];exact .inl st.lD.1
 ·refine⟨o,⟨some w.heap.size,r.len,cap,r.sz⟩,by simp,⟨rfl,rfl,NW,Nat.zero_le _,dT,cs,ty,by rw [hw];simp,bR,λ off=>?_,λ q hq=>?_⟩,hj.ext λ b hb=>hold b (eV st (ho b hb))⟩
  ·exact⟨λ hm=>⟨by simp,hm.elim (λ hm=>absurd hm (Sn off)) (λ hm=>hm.2)⟩,λ hm=>.inr ⟨rfl,hm.2⟩⟩
  ·obtain⟨c,h1,h2⟩:=hc q hq;exact⟨c,h1,h2.keep dW⟩
 ·have:=eV st zD
  simp [hasB,bY.has]at hb;rcases hb with hb|hb
  ·exact hj (st.inj _ _ _ zD (ho b hb))
  ·omega
theorem xL{k n:Nat}{T:List AV}{a:Act}{K:List AV->ai->Prop}(h:kL S k λ S=>cU k .any T λ T=>b5 k .any S λ S=>K T S)(st:St M0 ρ M S w)(tm:Tm ρ w M T a)
  {o cur cur':Sl} (hk:ρ k=some (.st o cur)) {r:RO} (hj:wT w M o n r.sz) (hb:cur'.aW=cur.aW) (hV:fb ρ w M cur' 0 r []):
  ∃T' S' ρ',K T' S'/\St M0 ρ' M ((k,.dE n r)::S') w/\Tm ρ' w M T' a/\T'.length=T.length/\ρ' k=some (.st o cur'):=by
 have ho:∀b,(bY.st o cur').has b->hasB ρ k b:=λ b h=>by simp only [hasB,hk];simp only [bY.has,hb]at h;exact h
 refine(λ⟨T',S',g1,g2,g3,g4⟩=>⟨T',S',λ j=>if j=k then some (.st o cur') else ρ j,g1,g2,g3,g4,by simp⟩)
  (fL h st tm (ρ':=λ j=>if j=k then some (.st o cur') else ρ j) (w':=w) (M':=M) (B:=.dE n r) (bB.refl _ _) (λ j hj=>by simp [hj]) (by simp) (λ j hj b hb=>⟨rfl,λ _=>Iff.rfl⟩) (gk.refl _ _) st.mlt (λ _ _ _ hm=>hm) (λ _ _ _ _ hm=>hm) (λ b cr=>st.fresh k b (ho b (by simpa [hasB]using cr)))
   ⟨o,cur',by simp,hV.env,hj⟩ (λ b cr j hj zD=>hj (st.inj _ _ _ zD (ho b (by simpa [hasB]using cr)))) (λ ow hl ho=>by simp at ho;subst ho;exact st.tn k (.st o cur) hl hk))
theorem w4{k n b:Nat}{T:List AV}{a:Act}{K:List AV->ai->Prop}(h:kL S k λ S=>cU k .any T λ T=>b5 k .any S λ S=>K T S)(st:St M0 ρ M S w)(tm:Tm ρ w M T a)
  {o cur:Sl} {r r':RO} {cs cs':Array Value} {ty:Nat} (hk:ρ k=some (.st o cur)) (hj:wT w M o n r.sz) (hV:fb ρ w M cur 0 r []) (hb:cur.aW=some b) (bR:w.heap[b]? =some (.cells cs ty (0,0)))
  (bk:cs'.size=cs.size) (hz:r'.sz=r.sz) (dT:r'.len<=cur.cap) (NW:r'.len<=LB)
  (hc:∀q,q<r'.cells->∃c,cs'[q]? =some c/\av w M r' q c):
  ∃T' S' ρ' M',K T' S'/\St M0 ρ' M' ((k,.dE n r')::S') (w.setRow b cs')/\Tm ρ' (w.setRow b cs') M' T' a/\T'.length=T.length/\ρ' k=some (.st o ⟨some b,r'.len,cur.cap,r'.sz⟩):=by
 obtain⟨g2,g3,g4,g5,g6⟩:=hV;simp only [hb]at g6;obtain⟨g7,cs0,ty0,g8,g9,g10,g11⟩:=g6;rw [bR]at g8;cases g8
 have oJ:∀off,¬M b off->cs'[off]? =cs[off]? :=λ off hn=>by
  have h2:cs.size<=off:=Nat.le_of_not_lt λ aS=>hn ((g10 off).2 ⟨by simp,aS⟩);rw [Array.getElem?_eq_none h2,Array.getElem?_eq_none (by rw [bk];exact h2)]
 have ko:=gM (M:=M) bR bk oJ;have dW:bB w M (w.setRow b cs') M:=ko.keep λ _ _ _ h=>h;have Ir:hasB ρ k b:=by simp [hasB,hk,bY.has,hb]
 have ho:∀b,(bY.st o ⟨cur.aW,r'.len,cur.cap,r'.sz⟩).has b->hasB ρ k b:=λ b h=>by simp only [hasB,hk];simp only [bY.has]at h;exact h
 refine(λ⟨T',S',g1,g2,g3,g4⟩=>⟨T',S',λ j=>if j=k then some (.st o ⟨some b,r'.len,cur.cap,r'.sz⟩) else ρ j,M,g1,g2,g3,g4,by simp⟩)
  (fL h st tm (ρ':=λ j=>if j=k then some (.st o ⟨some b,r'.len,cur.cap,r'.sz⟩) else ρ j) (w':=w.setRow b cs') (M':=M) (B:=.dE n r') dW (λ j hj=>by simp [hj]) (by simp) (λ j hj b' cr=>?_) ((gM (M:=λ b' off=>b'=b/\M b' off) bR bk λ off hn=>oJ off λ hm=>hn ⟨rfl,hm⟩).weaken λ b' off he=>by obtain⟨rfl,hm⟩:=he;exact(Nat.lt_or_ge b' w0.heap.size).elim (λ aS=>.inr ⟨(st.fresh k b' Ir).resolve_left (Nat.not_le_of_lt aS),st.sub b' off aS hm⟩) .inl) (λ b' off hm=>Nat.lt_of_lt_of_le (st.mlt b' off hm) ko.1) (λ _ _ _ hm=>hm) (λ _ _ _ _ hm=>hm) (λ b' cr=>st.fresh k b' (ho b' (by simpa [hasB,hb]using cr))) ?_ (λ b' cr j hj zD=>hj (st.inj _ _ _ zD (ho b' (by simpa [hasB,hb]using cr)))) (λ ow hl ho=>by simp at ho;subst ho;exact st.tn k (.st o cur) hl hk))
 ·exact⟨setRow_other w b b' cs' λ e=>hj (st.inj _ _ b (e▸cr) Ir),λ _=>Iff.rfl⟩
 ·refine⟨o,⟨some b,r'.len,cur.cap,r'.sz⟩,by simp,⟨rfl,rfl,NW,Nat.zero_le _,dT,cs',ty,setRow_heap w b cs cs' ty _ bR,by rw [bk,g9,g3,hz],λ off=>?_,λ q hq=>?_⟩,?_⟩
  ·rw [g10 off,bk];simp
  ·obtain⟨c,h1,h2⟩:=hc q hq;exact⟨c,h1,h2.keep dW⟩
  ·rw [hz]
   obtain⟨j1,j2,j3,j4⟩:=hj;refine⟨j1,j2,j3,?_⟩;cases re:o.aW with
   |none=>simp only [re]at j4 ⊢;exact j4
   |some b2=>
    simp only [re]at j4 ⊢;obtain⟨j5,cs2,ty2,j6,j7,j8⟩:=j4
    by_cases Ii:b2=b
    ·subst Ii
     rw [bR]at j6;cases j6;exact⟨j5,cs',ty,setRow_heap w b2 cs cs' ty _ bR,by rw [bk];exact j7,λ off=>by rw [bk];exact j8 off⟩
    ·exact⟨j5,cs2,ty2,by rw [setRow_other w b b2 cs' Ii];exact j6,j7,j8⟩
theorem sr (t ty e:TypeId)(i:TypeInfo)(ht:P.underlying t=some (.slice e))(hi:P.info? e=some i)
  (g sLen sCap tag:Nat) (cur:Array Value) (hg:w.heap[g]? =some (.cells cur tag (0,0)))
  (a:Addr) (m c:Nat) (news:List Value) (hl:news.length=m*i.size) (wj:∀j u,news[j]? =some u->w.cell? (a.add j)=some u) (h1:∀u∈news,u.oneCell'=true)
  (jV:sLen+m<=sCap) (tu:sLen*i.size+news.length<=cur.size):
  (Builtin.append_ #[t,t] ty #[.slice (some ⟨g,0,none⟩) sLen sCap,.slice (some a) m c]).run P w=
   .ok (.slice (some ⟨g,0,none⟩) (sLen+m) sCap) (w.setRow g (cur.toList.take (sLen*i.size)++news++cur.toList.drop (sLen*i.size+news.length)).toArray):=by
 have hf:=run_firstCells_some (P:=P) w i.size m a m c news hl wj;have c8:=run_storeCells_at P g (sLen*i.size) tag news 0 cur w hg (by simpa using tu) h1;simp only [Nat.add_zero]at c8;have b7:(underlying t).run P w= .ok (.slice e) w:=by simp [underlying,ht]
 have Mt:(⟨g,0,none⟩:Addr).add (sLen*i.size)=⟨g,sLen*i.size,none⟩:=by rw [aQ,Nat.zero_add]
 simp [Builtin.append_,b7,sizeOf,typeInfo,hi,Builtin.lenOf,jV,hf,Mt,c8]
def bI(w0:World)(M0:ef w0)(a:Act)(n:Nat)(K:AV->List AV->ai->Prop)(u:Value)(w':World):Prop:=
 ∃ρ' M' T' S' v,K v T' S'/\St M0 ρ' M' S' w'/\Tm ρ' w' M' T' a/\T'.length=n/\az ρ' w' M' v u
theorem zK(aw:aO P TY){F:Spec}{c:Call}{T:List AV}{K:AV->List AV->ai->Prop}{a:Act}{oo:Oper}(dD:c.callee= .builtin .append)(h:xp TY F d (.call c) T S K)
  (ho:oo.op= .call c) (st:St M0 ρ M S w) (tm:Tm ρ w M T a):e9 P (execOp a.eval oo) w (bI w0 M0 a T.length K):=by
 simp only [xp,bP,dD]at h;split at h
 ·rename_i x y t t' bn zE
  split at h
  ·rename_i e SC hd
   have SC:=ay.1 SC;subst SC;have hu:=bV aw hd;have sw:c.args= #[x,y]:=by simpa using congrArg List.toArray bn
   have mF:c.argTypes= #[t,t]:=by simpa using congrArg List.toArray zE
   rw [al,aB,aB]at h;obtain⟨uW,h⟩:=h;have hx:=aY tm x;have hy:=aY tm y
   have bQ:∀v w',(Builtin.append_ #[t,t] oo.type #[a.eval x,a.eval y]).run P w= .ok v w'->(execOp a.eval oo).run P w= .ok (.value v) w':=λ v w' hr=>by
    simp [execOp,ho,resolve,dD,sw,mF,invoke,builtin,hr]
   generalize aP T x=ax at h hx;have bm:(aq TY e).zero≠[]:=λ he=>by rw [he]at uW;cases uW
   have aI:iG P e (aq TY e):=by
    rcases Nat.lt_or_ge e TY.length with h'|h'
    ·exact aw.row e h'
    ·rw [pk h']at bm;exact absurd rfl bm
   obtain⟨i,_,hi,_,hs,tt,_,hz⟩:=aI.row;obtain⟨z,gg,tQ⟩:=hz bm;have xq:z.cells.size=(aq TY e).sz:=by rw [<-tQ.2.2.2.2,tQ.1.length,Array.length_toList]
   have elem:∀r,eo TY t r=true->i.size=r.sz/\z.cells.size=r.sz:=λ r aU=>by
    obtain⟨e',iw,_,oz,_⟩:=bT aw aU;rw [hd]at iw;cases iw;exact⟨by rw [hs,oz],by rw [xq,oz]⟩
   have dT:∀{k:Nat} {o:Sl},(ρ k).bind bY.x9=some o->o.len<=o.cap/\(o.aW=none->o.len=0/\o.cap=0):=λ{k o} hk=>by
    have l7:(aj S k).isSome:=by rw [<-st.ga k];exact jY hk
    obtain⟨B,hB⟩:=Option.isSome_iff_exists.1 l7;have NQ:=st.aW k B hB;cases B with
    |box l=>obtain⟨b,h1,_⟩:=NQ;rw [h1]at hk;cases hk
    |map kd vk m=>obtain⟨b,h1,_⟩:=NQ;rw [h1]at hk;cases hk
    |dE n r=>
     obtain⟨o',cur,h1,h2,_⟩:=NQ;have HX:cur=o:=by rw [mc h1]at hk;exact Option.some.inj hk
     rw [HX]at h2;obtain⟨h2,_,_,_,h3⟩:=h2;cases hb:o.aW with
     |none=>simp only [hb]at h3;exact⟨aa,λ _=>⟨aa,h3.2⟩⟩
     |some b=>simp only [hb]at h3;exact⟨h3.1,λ he=>by cases he⟩
    |ma n z=>
     obtain⟨o',h1,h2,_,_,h3⟩:=NQ;obtain rfl:=cx h1 hk;cases hb:o.aW with
     |none=>simp only [hb]at h3;exact⟨aa,λ _=>⟨aa,h3.2⟩⟩
     |some b=>simp only [hb]at h3;exact⟨h3.1,λ he=>by cases he⟩
    |deep r hole=>
     obtain⟨o',rows,h1,h2⟩:=NQ;rw [h1]at hk;cases hk;have h3:=h2.outer;have h4:=h2.len;cases hb:o.aW with
     |none=>simp only [hb]at h3;exact⟨aa,λ _=>⟨aa,h3.2⟩⟩
     |some b=>simp only [hb]at h3;exact⟨h3.1,λ he=>by cases he⟩
    |vec wm r ov=>
     obtain⟨⟨o',h1,h2,_,_,_,h3⟩,_⟩:=NQ;obtain rfl:=cx h1 hk;cases hb:o.aW with
     |none=>simp only [hb]at h3;exact⟨aa,λ _=>⟨aa,h3.2⟩⟩
     |some b=>simp only [hb]at h3;exact⟨h3.1,λ he=>by cases he⟩
   rcases F5 h st hy with ⟨h,q9⟩|⟨r',h,Kv,ad,cap',q9,zF⟩
   ·
    cases ax<;>try exact h.elim
    ·rename_i k
     obtain⟨o,g1,g2⟩:=hx;refine .val (bQ o.val w ?_) ⟨ρ,M,T,S,_,h,st,tm,rfl,o,g1,rfl⟩;rw [g2,q9];exact bO hu hi _ _ _ _ _ (dT g1).1 w
    ·have cX:a.eval x= .slice none 0 0:=hx
     refine .val (bQ (.slice none 0 0) w ?_) ⟨ρ,M,T,S,_,h,st,tm,rfl,rfl⟩;rw [cX,q9];exact bO hu hi _ _ _ _ _ (Nat.le_refl _) w
    ·rename_i r
     obtain⟨hr,ad,cX⟩:=hx;refine .val (bQ (a.eval x) w ?_) ⟨ρ,M,T,S,_,h,st,tm,rfl,hr⟩;rw [cX,q9];exact bO hu hi _ _ _ _ _ (Nat.le_refl _) w
   ·
    have wj:∀n,n=r'.cells->0<n->∃b off,ad=some ⟨b,off,none⟩/\∃l:List Value,l.length=n/\(∀j v,l[j]? =some v->w.cell? ((⟨b,off,none⟩:Addr).add j)=some v)/\∀q,q<n->∃c,l[q]? =some c/\av w M r' q c:=by
     intro n hn gV;subst hn;rcases zF with h0|⟨b,off,h1,h2⟩
     ·omega
     ·obtain⟨l,h3,h4,h5⟩:=ja h2
      exact⟨b,off,h1,l,h3,λ j v hj=>by rw [aQ];exact h4 j v hj,h5⟩
    have fresh:∀{r:RO} {eu:Nat} {news:List Value},eo TY t r=true->news.length=r.cells->(∀q,q<r.cells->∃c,news[q]? =some c/\av w M r q c)->
      (Builtin.append_ #[t,t] oo.type #[a.eval x,a.eval y]).run P w= .ok (.slice (some ⟨w.heap.size,0,none⟩) r.len (grownCap w r.len eu e)) (w.drew.alloc (.cells (news.toArray++Builtin.zeroCells z.cells (grownCap w r.len eu e - r.len)) e))->
      (∀{cs:Array Value} {cap:Nat} {w':World},w'.heap=w.heap.push (.cells cs e (0,0))->jT w w'->cs.size=cap*r.sz->r.len<=cap->(∀q,q<r.cells->∃c,cs[q]? =some c/\av w M r q c)->
        bI w0 M0 a T.length K (.slice (some ⟨w.heap.size,0,none⟩) r.len cap) w')->e9 P (execOp a.eval oo) w (bI w0 M0 a T.length K):=by
     intro r eu news aU Ob hnc aK fin
     refine .val (bQ _ _ aK) (fin (w':=w.drew.alloc (.cells (news.toArray++Builtin.zeroCells z.cells (grownCap w r.len eu e - r.len)) e))
      (cs:=news.toArray++Builtin.zeroCells z.cells (grownCap w r.len eu e - r.len)) (cap:=grownCap w r.len eu e) rfl (by first|exact jT.refl _|exact⟨⟨rfl,rfl⟩,rfl,Nat.le_succ _⟩) (by
       have Ez:=grownCap_ge w r.len eu e;simp only [Array.size_append,List.size_toArray,size_zeroCells,Ob,(elem r aU).2,RO.cells,<-Nat.add_mul]
       congr 1;omega) (grownCap_ge _ _ _ _) λ q hq=>?_)
     obtain⟨c,h1,h2⟩:=hnc q hq;refine⟨c,?_,h2⟩;rw [Array.getElem?_append_left (by simp [Ob];exact hq)]
     simpa using h1
    have grow:∀{o:Sl} {wm:Nat} {r r2:RO},fb ρ w M o wm r []->a.eval x=o.val->eo TY t r=true->r2.len=r.len+r'.len->r2.sz=r.sz->r'.sz=r.sz->
      (∀(w:World) (M:aX) q c,(if q<r.cells then av w M r q c else av w M r' (q - r.cells) c)->av w M r2 q c)->((aq TY e).bytes:Int)*r2.len<=140737488355328->(r2.len:Int)<=17592186044416->
      (o.aW=none->r2.len=0->bI w0 M0 a T.length K o.val w)->
      (∀b cs cs' ty,o.aW=some b->w.heap[b]? =some (.cells cs ty (0,0))->cs'.size=cs.size->(∀q,q<wm*r.sz->cs'[q]? =cs[q]?)->r2.len<=o.cap->(∀q,q<r2.cells->∃c,cs'[q]? =some c/\av w M r2 q c)->
        bI w0 M0 a T.length K (.slice (some ⟨b,0,none⟩) r2.len o.cap) (w.setRow b cs'))->
      (∀{cs:Array Value} {cap:Nat} {w':World},w'.heap=w.heap.push (.cells cs e (0,0))->jT w w'->cs.size=cap*r2.sz->r2.len<=cap->(∀q,q<r2.cells->∃c,cs[q]? =some c/\av w M r2 q c)->
        bI w0 M0 a T.length K (.slice (some ⟨w.heap.size,0,none⟩) r2.len cap) w')->e9 P (execOp a.eval oo) w (bI w0 M0 a T.length K):=by
      intro o wm r r2 hV g2 aU xX ss lq fY w5 NB finN finS finF;have A8:r2.len<=LB:=by simp only [LB];omega
      obtain⟨g4,g5,g6,g7,g8⟩:=hV
      have zz:eo TY t r2=true:=by
       have key:∀r:RO,eo TY t r=(match (aq TY t).d with|.slice e=>Nat.beq (aq TY e).sz r.sz|_=>false):=λ r=>by
        unfold eo;cases (aq TY t).d<;>first|rfl|(cases r<;>rfl)
       rw [key]at aU ⊢;rw [ss];exact aU
      have bk:i.size=r.sz:=(elem r aU).1
      have Uv:r2.len*i.bytes<=140737488355328:=by
       have:((r2.len*i.bytes:Nat):Int)=((aq TY e).bytes:Int)*r2.len:=by rw [tt,Nat.mul_comm];push_cast;rfl
       omega
      have JI:o.len<=o.cap/\(o.aW=none->o.len=0/\o.cap=0):=by
       cases hb:o.aW with
       |none=>simp only [hb]at g8;exact⟨aa,λ _=>⟨aa,g8.2⟩⟩
       |some b=>simp only [hb]at g8;exact⟨g8.1,λ he=>by cases he⟩
      have mF:r2.cells=r.cells+r'.cells:=by simp only [RO.cells,xX,ss,lq,Nat.add_mul]
      by_cases sA:r'.len=0
      ·
       have VJ:r'.cells=0:=by simp [RO.cells,sA]
       have aK:(Builtin.append_ #[t,t] oo.type #[a.eval x,a.eval y]).run P w= .ok o.val w:=by
        rw [g2,q9,sA];exact bO hu hi _ _ _ _ _ JI.1 w
       cases hb:o.aW with
       |none=>
        simp only [hb]at g8;exact .val (bQ _ _ aK) (finN hb aa)
       |some b=>
        simp only [hb]at g8;obtain⟨g9,cs,ty,g10,g11,g12,g13⟩:=g8
        have:=finS b cs cs ty hb g10 rfl (λ _ _=>rfl) aa (λ q hq=>by
         obtain⟨c,h1,h2⟩:=g13 q aa;exact⟨c,h1,fY w M q c (by rw [if_pos aa];exact h2)⟩)
        rw [setRow_self w b cs ty (0,0) g10]at this;refine .val (bQ _ _ aK) ?_;rw [Sl.val,hb];rw [show o.len=r2.len from by omega];exact this
      ·have gV:0<r'.cells:=Nat.mul_pos aa r'.eW
       obtain⟨b',off',rfl,l,n1,n2,n3⟩:=wj _ rfl gV;cases hb:o.aW with
       |none=>
        simp only [hb]at g8
        have aK:=run_append_nil (P:=P) w t oo.type e i z hu hi gg ⟨b',off',none⟩ r'.len cap' l (by rw [n1,RO.cells,bk,lq]) n2 aa (by simp only [LB]at Kv;omega) (by
         have:r'.len*i.bytes<=r2.len*i.bytes:=Nat.mul_le_mul_right _ aa;omega)
        have hlen:r2.len=r'.len:=aa;refine fresh (r:=r2) (eu:=0) (news:=l) zz (by rw [n1,mF];simp [RO.cells,g8.1]) (λ q hq=>?_) ?_ finF
        ·have QP:r.cells=0:=by simp [RO.cells,g8.1]
         obtain⟨c,h1,h2⟩:=n3 q aa;exact⟨c,h1,fY w M q c (by rw [if_neg aa,QP];exact h2)⟩
        ·rw [g2,q9,hlen,Sl.val,hb,g4,g8.1,g8.2]
         exact aK
       |some b=>
        simp only [hb]at g8;obtain⟨g9,cs,ty,g10,g11,g12,g13⟩:=g8;have JB:r.cells<=cs.size:=by rw [g11,g5];exact Nat.mul_le_mul_right _ aa
        by_cases jV:o.len+r'.len<=o.cap
        ·
         have tu:o.len*i.size+l.length<=cs.size:=by
          rw [n1,g11,bk,g5,RO.cells,lq,<-Nat.add_mul];exact Nat.mul_le_mul_right _ jV
         have Kw:∀v∈l,v.oneCell'=true:=λ v hv=>by
          obtain⟨j,hj⟩:=List.mem_iff_getElem?.1 hv
          have oy:j<r'.cells:=by
           rw [<-n1];rcases Nat.lt_or_ge j l.length with h'|h'
           ·exact h'
           ·rw [List.getElem?_eq_none h']at hj;cases hj
          obtain⟨c,h1,h2⟩:=n3 j oy;rw [hj]at h1;cases h1;exact lH h2.aM
         have aK:=sr (P:=P) (w:=w) t oo.type e i hu hi b o.len o.cap ty cs g10 ⟨b',off',none⟩ r'.len cap' l (by rw [n1,RO.cells,bk,lq]) n2 Kw jV tu;have Lx:o.len*i.size=r.cells:=by rw [g4,bk];rfl
         let cs':=(cs.toList.take (o.len*i.size)++l++cs.toList.drop (o.len*i.size+l.length)).toArray
         have eI:∀q,cs'[q]? =if r.cells<=q/\q<r.cells+r'.cells then l[q - r.cells]? else cs[q]? :=λ q=>by
          have:=l5 (l:=cs.toList) (m:=l) (o:=o.len*i.size) (q:=q) (by simpa using tu);simp only [Array.getElem?_toList,Lx,n1]at this;simp only [cs',List.getElem?_toArray,Lx,n1];exact this
         have n8:cs'.size=cs.size:=by simp [cs'];omega
         have Mo:=finS b cs cs' ty hb g10 n8 (λ q hq=>by
          have:wm*r.sz<=r.cells:=Nat.mul_le_mul_right _ g7;rw [eI q,if_neg aa]) aa (λ q hq=>by
          rw [eI q]
          by_cases NC:q<r.cells
          ·obtain⟨c,h1,h2⟩:=g13 q NC
           rw [if_neg aa];exact⟨c,h1,fY w M q c (by rw [if_pos NC];exact h2)⟩
          ·obtain⟨c,h1,h2⟩:=n3 (q - r.cells) aa
           rw [if_pos aa];exact⟨c,h1,fY w M q c (by rw [if_neg NC];exact h2)⟩)
         rw [show r2.len=o.len+r'.len from by omega]at Mo;exact .val (bQ _ _ (by rw [g2,q9,Sl.val,hb];exact aK)) Mo
        ·
         have holds:∃olds:List Value,olds.length=r.cells/\(∀j v,olds[j]? =some v->w.cell? ((⟨b,0,none⟩:Addr).add j)=some v)/\∀q,q<r.cells->∃c,olds[q]? =some c/\av w M r q c:=by
          obtain⟨l,h1,h2,h3⟩:=ja (w:=w) (b:=b) (off:=0) (n:=r.cells) (C:=av w M r) (λ q hq=>by
           obtain⟨c,h1,h2⟩:=g13 q hq;exact⟨c,by rw [cell_of_heap g10,Nat.zero_add];exact h1,h2⟩)
          exact⟨l,h1,λ j v hj=>by rw [aQ];exact h2 j v hj,h3⟩
         obtain⟨olds,m1,m2,m3⟩:=holds;have Ly:r2.len=o.len+r'.len:=aa
         have aK:=run_append_grow (P:=P) w t oo.type e i z hu hi gg ⟨b,0,none⟩ o.len o.cap olds (by rw [m1,RO.cells,bk,g4]) m2 ⟨b',off',none⟩ r'.len cap' l (by rw [n1,RO.cells,bk,lq]) n2 aa
          aa (growslice_fits aa (by rw [<-Ly];exact Uv))
         refine fresh (r:=r2) (eu:=o.cap) (news:=olds++l) zz (by rw [List.length_append,m1,n1,mF]) (λ q hq=>?_) ?_ finF
         ·by_cases NC:q<r.cells
          ·obtain⟨c,h1,h2⟩:=m3 q NC
           exact⟨c,by rw [List.getElem?_append_left aa];exact h1,fY w M q c (by rw [if_pos NC];exact h2)⟩
          ·obtain⟨c,h1,h2⟩:=n3 (q - r.cells) aa
           exact⟨c,by rw [List.getElem?_append_right aa,m1];exact h1,fY w M q c (by rw [if_neg NC];exact h2)⟩
         ·rw [g2,q9,Ly,Sl.val,hb]
          simp only [Option.map_some];rw [aK];simp
    cases ax<;>try exact h.elim
    ·
     rename_i k _;obtain⟨o,g1,g2⟩:=hx;simp only at h;split at h
     ·rename_i wm r hf
      rw [al]at h;obtain⟨aU,h⟩:=h;obtain⟨r2,h,xX,ss,lq,fY⟩:=nY h;rw [bS]at h;obtain⟨w5,NB,h⟩:=qS h aa;have A8:r2.len<=LB:=by simp only [LB];omega
      obtain⟨⟨o',g3,g4⟩,_⟩:=st.aW k _ hf;obtain rfl:=cx g3 g1;have g7:=g4.2.2.2.1;refine grow g4 g2 aU xX ss lq fY (by rw [Int.mul_comm];omega) NB (λ hb h0=>?_) (λ b cs cs' ty hb bR bk gD dT hc=>?_) (λ hw oq bR dT hc=>?_)
      ·obtain⟨T',S',ρ',M',q1,q2,q3,q4,q5⟩:=qZ h st tm (wm:=wm) (r:=r2) h0 aa
       refine⟨ρ',M',T',_,_,q1,q2,q3,q4,_,iD q5,?_⟩;have:=g4.2.2.2.2;simp only [hb]at this;rw [Sl.val,Sl.val,hb,g4.1,this.1,this.2]
      ·obtain⟨T',S',ρ',M',q1,q2,q3,q4,q5⟩:=xK h st tm (r':=r2) (cs':=cs') g3 hb hf bR bk gD ss aa dT A8 hc
       exact⟨ρ',M',T',_,_,q1,q2,q3,q4,_,iD q5,rfl⟩
      ·obtain⟨T',S',ρ',M',q1,q2,q3,q4,q5⟩:=iJ h st tm (wm:=wm) hw oq bR dT A8 aa hc
       exact⟨ρ',M',T',_,_,q1,q2,q3,q4,_,iD q5,rfl⟩
     ·rename_i n0 r hf
      rw [al]at h;obtain⟨aU,h⟩:=h;obtain⟨r2,h,xX,ss,lq,fY⟩:=nY h;rw [bS]at h;obtain⟨w5,NB,h⟩:=qS h aa;have A8:r2.len<=LB:=by simp only [LB];omega
      obtain⟨o0,cur,g3,g4,gj⟩:=st.aW k _ hf;have HX:o=cur:=by rw [mc g3]at g1;exact(Option.some.inj g1).symm
      subst HX;refine grow g4 g2 aU xX ss lq fY (by rw [Int.mul_comm];omega) NB (λ hb h0=>?_) (λ b cs cs' ty hb bR bk gD dT hc=>?_) (λ hw oq bR dT hc=>?_)
      ·have g8:=g4.2.2.2.2
       simp only [hb]at g8;obtain⟨T',S',ρ',q1,q2,q3,q4,q5⟩:=xL h st tm (cur':=⟨o.aW,0,0,r2.sz⟩) g3 (r:=r2) (by rw [ss];exact gj) rfl ⟨h0.symm,rfl,A8,Nat.zero_le _,by simp only [hb];exact⟨h0,ag⟩⟩;refine⟨ρ',M,T',_,_,q1,q2,q3,q4,_,mc q5,?_⟩;rw [Sl.val,Sl.val,g4.1,g8.1,g8.2]
      ·obtain⟨T',S',ρ',M',q1,q2,q3,q4,q5⟩:=w4 h st tm (r':=r2) (cs':=cs') g3 gj g4 hb bR bk ss dT A8 hc
       exact⟨ρ',M',T',_,_,q1,q2,q3,q4,_,mc q5,rfl⟩
      ·obtain⟨T',S',ρ',M',q1,q2,q3,q4,q5⟩:=A7 h st tm g3 (by rw [ss];exact gj) hw oq bR dT A8 hc
       exact⟨ρ',M',T',_,_,q1,q2,q3,q4,_,mc q5,rfl⟩
     ·exact h.elim
    ·
     simp only at h;rw [al,bS]at h;obtain⟨aU,h⟩:=h;obtain⟨w5,_,h⟩:=qS h aa;have cX:a.eval x= .slice none 0 0:=hx;have bk:i.size=r'.sz:=(elem r' aU).1
     by_cases sA:r'.len=0
     ·obtain⟨T',S',ρ',M',q1,q2,q3,q4,q5⟩:=qZ h st tm (wm:=0) (r:=r') sA (Nat.zero_le _)
      refine .val (bQ (.slice none 0 0) w ?_) ⟨ρ',M',T',_,_,q1,q2,q3,q4,_,iD q5,rfl⟩;rw [cX,q9,sA];exact bO hu hi _ _ _ _ _ (Nat.le_refl _) w
     ·have gV:0<r'.cells:=Nat.mul_pos aa r'.eW
      obtain⟨b',off',rfl,l,n1,n2,n3⟩:=wj _ rfl gV;have aK:=run_append_nil (P:=P) w t oo.type e i z hu hi gg ⟨b',off',none⟩ r'.len cap' l (by rw [n1,RO.cells,bk]) n2 aa (by simp only [LB]at Kv;omega) (by rw [tt];omega);refine fresh (r:=r') (eu:=0) (news:=l) aU n1 n3 (by rw [cX,q9];exact aK) λ hw oq bR dT hc=>?_;obtain⟨T',S',ρ',M',q1,q2,q3,q4,q5⟩:=iJ h st tm (wm:=0) hw oq bR dT Kv (Nat.zero_le _) hc;exact⟨ρ',M',T',_,_,q1,q2,q3,q4,_,iD q5,rfl⟩
    ·
     rename_i r _;simp only at h;rw [al]at h;obtain⟨aU,h⟩:=h;obtain⟨r2,h,xX,ss,lq,fY⟩:=nY h;rw [bS,bS]at h;obtain⟨w5,NB,Wj,h⟩:=qS h aa;obtain⟨hr,ad0,cX⟩:=hx
     by_cases sA:r'.len=0
     ·refine .val (bQ (a.eval x) w ?_) ⟨ρ,M,T,S,_,Wj sA,st,tm,rfl,hr⟩
      rw [cX,q9,sA];exact bO hu hi _ _ _ _ _ (Nat.le_refl _) w
     ·have h:=h sA
      have A8:r2.len<=LB:=by simp only [LB];omega
      have bk:i.size=r.sz:=(elem r aU).1
      have zz:eo TY t r2=true:=by
       have key:∀r:RO,eo TY t r=(match (aq TY t).d with|.slice e=>Nat.beq (aq TY e).sz r.sz|_=>false):=λ r=>by
        unfold eo;cases (aq TY t).d<;>first|rfl|(cases r<;>rfl)
       rw [key]at aU ⊢;rw [ss];exact aU
      have Uv:r2.len*i.bytes<=140737488355328:=by
       have:((r2.len*i.bytes:Nat):Int)=((aq TY e).bytes:Int)*r2.len:=by rw [tt,Nat.mul_comm];push_cast;rfl
       rw [Int.mul_comm]at w5;omega
      have mF:r2.cells=r.cells+r'.cells:=by simp only [RO.cells,xX,ss,lq,Nat.add_mul]
      have gV:0<r'.cells:=Nat.mul_pos aa r'.eW;obtain⟨b',off',rfl,l,n1,n2,n3⟩:=wj _ rfl gV
      have fin:∀{cs:Array Value} {cap:Nat} {w':World},w'.heap=w.heap.push (.cells cs e (0,0))->jT w w'->cs.size=cap*r2.sz->r2.len<=cap->(∀q,q<r2.cells->∃c,cs[q]? =some c/\av w M r2 q c)->
        bI w0 M0 a T.length K (.slice (some ⟨w.heap.size,0,none⟩) r2.len cap) w':=λ hw oq bR dT hc=>by
       obtain⟨T',S',ρ',M',q1,q2,q3,q4,q5⟩:=iJ h st tm (wm:=0) hw oq bR dT A8 (Nat.zero_le _) hc;exact⟨ρ',M',T',_,_,q1,q2,q3,q4,_,iD q5,rfl⟩
      cases ad0 with
      |none=>
       have QP:r.len=0/\r.cells=0:=by
        obtain⟨_,a1,cap1,h1,_,h2⟩:=hr;rw [cX]at h1;cases h1;rcases h2 with h2|⟨b,off,h2,_⟩
        ·exact⟨by
          rcases Nat.eq_zero_or_pos r.len with h3|h3
          ·exact h3
          ·have:0<r.cells:=Nat.mul_pos h3 r.eW
           omega,h2⟩
        ·cases h2
       have aK:=run_append_nil (P:=P) w t oo.type e i z hu hi gg ⟨b',off',none⟩ r'.len cap' l (by rw [n1,RO.cells,bk,lq]) n2 aa (by simp only [LB]at Kv;omega) (by
        have:r'.len*i.bytes<=r2.len*i.bytes:=Nat.mul_le_mul_right _ aa;omega)
       have hlen:r2.len=r'.len:=aa;refine fresh (r:=r2) (eu:=0) (news:=l) zz (by rw [n1,mF];omega) (λ q hq=>?_) ?_ fin
       ·obtain⟨c,h1,h2⟩:=n3 q aa
        exact⟨c,h1,fY w M q c (by rw [if_neg aa,QP.2];exact h2)⟩
       ·rw [cX,q9,hlen,QP.1]
        exact aK
      |some a0=>
       have holds:∃olds:List Value,olds.length=r.cells/\(∀j v,olds[j]? =some v->w.cell? (a0.add j)=some v)/\∀q,q<r.cells->∃c,olds[q]? =some c/\av w M r q c:=by
        obtain⟨_,a1,cap1,h1,_,h2⟩:=hr;rw [cX]at h1;cases h1;rcases h2 with h2|⟨b,off,h2,h3⟩
        ·exact⟨[],by rw [h2];rfl,λ j v hj=>by simp at hj,λ q hq=>by omega⟩
        ·cases h2
         obtain⟨l,h1,h2,h3⟩:=ja (w:=w) (b:=b) (off:=off) (n:=r.cells) (C:=av w M r) (λ q hq=>by obtain⟨c,h4,_,h5⟩:=h3 q hq;exact⟨c,h4,h5⟩);exact⟨l,h1,λ j v hj=>by rw [aQ];exact h2 j v hj,h3⟩
       obtain⟨olds,m1,m2,m3⟩:=holds
       have aK:=run_append_grow (P:=P) w t oo.type e i z hu hi gg a0 r.len r.len olds (by rw [m1,RO.cells,bk]) m2 ⟨b',off',none⟩ r'.len cap' l (by rw [n1,RO.cells,bk,lq]) n2 aa
        aa (growslice_fits aa (by rw [<-xX];exact Uv))
       refine fresh (r:=r2) (eu:=r.len) (news:=olds++l) zz (by rw [List.length_append,m1,n1,mF]) (λ q hq=>?_) ?_ fin
       ·by_cases NC:q<r.cells
        ·obtain⟨c,h1,h2⟩:=m3 q NC
         exact⟨c,by rw [List.getElem?_append_left aa];exact h1,fY w M q c (by rw [if_pos NC];exact h2)⟩
        ·obtain⟨c,h1,h2⟩:=n3 (q - r.cells) aa
         exact⟨c,by rw [List.getElem?_append_right aa,m1];exact h1,fY w M q c (by rw [if_neg NC];exact h2)⟩
       ·rw [cX,q9,xX]
        rw [aK];simp
  ·exact h.elim
 ·exact h.elim
theorem rE:∀{ps:List (Nat × Operand)} {n:Nat} {K:List Operand->Prop},oV n ps K->K (ps.map (·.2))/\∀j p,ps[j]? =some p->p.1=n+j
 |[],n,K,h=>⟨h,λ j p hj=>by simp at hj⟩
 |(i,x)::ps,n,K,h=>by
  simp only [oV]at h;split at h
  ·rename_i hb
   obtain⟨h1,h2⟩:=rE h;refine⟨h1,λ j p hj=>?_⟩;cases j with
   |zero=>simp at hj;subst hj;exact ay.1 hb
   |succ j=>rw [h2 j p (by simpa using hj)];omega
  ·exact h.elim
theorem HD(k:IntKind):kq k k=true:=by cases k<;>rfl
theorem ND{r:RO}{a:AV}{l:List AV}{K:RO->Prop}(h:bu r (a::l) K):
  ∃s,Du r s (λ r1=>bu r1 l K)/\s.len=1/\∀(ρ:Env) (w:World) (M:aX) (u:Value),az ρ w M a u->u.cells.size=s.sz/\∀q c,u.cells[q]? =some c->av w M s q c:=by
 have one:∀{s:RO} {u:Value} {w:World} {M:aX},s.sz=1->aM u->av w M s 0 u->u.cells.size=s.sz/\∀q c,u.cells[q]? =some c->av w M s q c:=by
  intro s u w M hs hu hc;have bR:u.cells= #[u]:=by cases u<;>first|rfl|exact hu.elim
  rw [bR,hs];refine⟨rfl,λ q c hq=>?_⟩;rcases q with _|q
  ·simp at hq;subst hq;exact hc
  ·simp at hq
 have nil1:∀{w:World} {M:aX} {C:Nat->Value->Prop},kA w M 0 C 0 (.slice none 0 0):=λ{w M C}=>⟨none,0,rfl,Nat.le_refl _,.inl rfl⟩;cases r with
 |ints k m=>
  cases a<;>try exact h.elim
  rename_i k' n;simp only [bu,cB]at h;refine⟨.ints k' [n],h,rfl,λ ρ w M u hu=>?_⟩;obtain⟨rfl,hr⟩:=hu;exact one rfl trivial ⟨rfl,hr⟩
 |aL m=>
  cases a<;>try exact h.elim
  rename_i e;simp only [bu,cB]at h;refine⟨.aL [e.val],h,rfl,λ ρ w M u hu=>?_⟩;have hu:u= .bool e.val:=hu;subst hu;exact one rfl trivial rfl
 |rows k m=>
  cases a<;>try exact h.elim
  ·rename_i s
   cases s<;>try exact h.elim
   rename_i k' x;simp only [bu,cB]at h;refine⟨.rows k' [x],h,rfl,λ ρ w M u hu=>one rfl (aH.aM (a:=.ro (.ints k' x)) (ρ:=ρ) hu) (gW.1 hu)⟩
  ·simp only [bu,cB]at h
   refine⟨.rows k [[]],al.2 ⟨HD k,h⟩,rfl,λ ρ w M u hu=>?_⟩;have hu:u= .slice none 0 0:=hu;subst hu;exact one rfl trivial ⟨Nat.zero_le _,nil1⟩
 |bw m=>
  cases a<;>try exact h.elim
  ·rename_i s
   cases s<;>try exact h.elim
   rename_i x;simp only [bu,cB]at h;refine⟨.bw [x],h,rfl,λ ρ w M u hu=>one rfl (aH.aM (a:=.ro (.aL x)) (ρ:=ρ) hu) (gL.1 hu)⟩
  ·simp only [bu,cB]at h
   refine⟨.bw [[]],h,rfl,λ ρ w M u hu=>?_⟩;have hu:u= .slice none 0 0:=hu;subst hu;exact one rfl trivial ⟨Nat.zero_le _,nil1⟩
 |bC m=>
  cases a<;>try exact h.elim
  ·rename_i s
   cases s<;>try exact h.elim
   rename_i k' x;cases k'<;>try exact h.elim
   simp only [bu,cB]at h;refine⟨.bC [x],h,rfl,λ ρ w M u hu=>one rfl (aH.aM (a:=.ro (.rows .i64 x)) (ρ:=ρ) hu) (jj.1 hu)⟩
  ·simp only [bu,cB]at h
   refine⟨.bC [[]],h,rfl,λ ρ w M u hu=>?_⟩;have hu:u= .slice none 0 0:=hu;subst hu;exact one rfl trivial ⟨Nat.zero_le _,nil1⟩
 |aT m=>
  simp only [bu,cB]at h;split at h<;>first|exact h.elim|(rename_i heq;cases heq)|skip
  rename_i x y;refine⟨.aT [(x,y)],h,rfl,λ ρ w M u hu=>?_⟩;obtain⟨cs,rfl,bR⟩:=hu;obtain⟨l⟩:=cs
  match l,bR with
  |[c,d],bR=>
   obtain⟨⟨rfl,r1⟩,⟨rfl,r2⟩,_⟩:=bR;refine⟨rfl,λ q c hq=>?_⟩;rcases q with _|_|q
   ·simp [Value.cells]at hq;subst hq;exact⟨rfl,r1⟩
   ·simp [Value.cells]at hq;subst hq;exact⟨rfl,r2⟩
   ·simp [Value.cells]at hq
 |strs m=>
  cases a<;>try exact h.elim
  rename_i x;simp only [bu,cB]at h;exact⟨.strs [x],h,rfl,λ ρ w M u hu=>one rfl (aH.aM (a:=.str x) (ρ:=ρ) (w:=w) (M:=M) hu) hu⟩
 |dP m=>
  simp only [bu,cB]at h;split at h<;>first|exact h.elim|(rename_i heq;cases heq)|skip
  rename_i x y z;refine⟨.dP [(x,y,z)],h,rfl,λ ρ w M u hu=>?_⟩;obtain⟨cs,rfl,bR⟩:=hu;obtain⟨l⟩:=cs
  match l,bR with
  |[c,d,e],bR=>
   obtain⟨⟨rfl,r1⟩,r2,⟨rfl,r3⟩,_⟩:=bR;refine⟨rfl,λ q c hq=>?_⟩;rcases q with _|_|_|q
   ·simp [Value.cells]at hq;subst hq;exact⟨rfl,r1⟩
   ·simp [Value.cells]at hq;subst hq;exact gL.1 r2
   ·simp [Value.cells]at hq;subst hq;exact⟨rfl,r3⟩
   ·simp [Value.cells]at hq
 |dK m=>
  simp only [bu,cB]at h;split at h<;>first|exact h.elim|(rename_i heq;cases heq)|skip
  rename_i x y;refine⟨.dK [(x,y)],h,rfl,λ ρ w M u hu=>?_⟩;obtain⟨cs,rfl,bR⟩:=hu;obtain⟨l⟩:=cs
  match l,bR with
  |[c,d],bR=>
   obtain⟨r1,r2,_⟩:=bR;refine⟨by rw [show(RO.dK [(x,y)]).sz=2 from rfl];rfl,λ q c hq=>?_⟩;rcases q with _|_|q
   ·simp [Value.cells]at hq;subst hq;exact r1
   ·simp [Value.cells]at hq;subst hq;exact r2
   ·simp [Value.cells]at hq
 |eY n k m=>
  cases a<;>try exact h.elim
  rename_i x;simp only [bu,al]at h;obtain⟨hx,h⟩:=h;obtain⟨y,h2,rfl⟩:=y4 h;clear h;have h:=h2;clear h2;rw [cB]at h;refine⟨.eY n k [y],al.2 ⟨Nat.beq_refl n,al.2 ⟨HD k,h⟩⟩,rfl,λ ρ w M u hu=>?_⟩;obtain⟨cs,rfl,bR⟩:=hu;have hl:=bR.length;rw [dw hx]at hl;have nI:n+2=cs.size:=by simpa using hl
  refine⟨nI.symm,λ q c hq=>?_⟩
  have JS:q<n+2:=by
   rw [nI];rcases Nat.lt_or_ge q cs.size with h'|h'
   ·exact h'
   ·rw [show(Value.agg cs).cells=cs from rfl,Array.getElem?_eq_none h']at hq;cases hq
  obtain⟨v,h1,h2⟩:=bR.get q (by rw [dw hx];exact JS)
  have Bu:c=v:=by
   have:cs[q]? =some c:=hq;rw [Array.getElem?_toList]at h1;rw [h1]at this;exact(Option.some.inj this).symm
  subst Bu
  have aac:nth (y.map (AV.int k)) q= .int k (y.getD q 0):=by
   have hyq:q<(y.map (AV.int k)).length:=by rw [dw hx];exact JS
   have:=HA _ q hyq;rw [List.getElem?_map]at this;cases hy:y[q]? with
   |none=>rw [hy]at this;cases this
   |some z=>rw [hy]at this;simp only [List.getD,hy];exact(Option.some.inj this).symm
  rw [aac]at h2;simp only [av,Nat.div_eq_of_lt JS,Nat.mod_eq_of_lt JS];exact h2
 |cH m=>
  cases a<;>try exact h.elim
  ·rename_i s
   cases s<;>try exact h.elim
   rename_i x;simp only [bu,cB]at h;refine⟨.cH [x],h,rfl,λ ρ w M u hu=>one rfl (aH.aM (a:=.ro (.aT x)) (ρ:=ρ) hu) (y5.1 hu)⟩
  ·simp only [bu,cB]at h
   refine⟨.cH [[]],h,rfl,λ ρ w M u hu=>?_⟩;have hu:u= .slice none 0 0:=hu;subst hu;exact one rfl trivial ⟨Nat.zero_le _,nil1⟩
 |cR k m=>cases a<;>exact h.elim
theorem mS:∀{l:List AV} {r:RO} {K:RO->Prop},bu r l K->
  ∃r',K r'/\r'.len=r.len+l.length/\r'.sz=r.sz/\∀(ρ:Env) (w:World) (M:aX) (us:List Value),aJ (az ρ w M) l us->
   (∀u∈us,u.cells.size=r.sz)/\∀q c,(if q<r.cells then av w M r q c else (us.flatMap λ u=>u.cells.toList)[q - r.cells]? =some c)->av w M r' q c
 |[],r,K,h=>⟨r,h,rfl,rfl,λ ρ w M us hu=>by
    cases us with
    |nil=>exact⟨by simp,λ q c hc=>by split at hc;exact hc;simp at hc⟩
    |cons=>exact hu.elim⟩
 |a::l,r,K,h=>by
  have step:∀(r1:RO),bu r1 l K->r1.len=r.len+1->r1.sz=r.sz->
    (∀(ρ:Env) (w:World) (M:aX) (u:Value),az ρ w M a u->u.cells.size=r.sz/\∀q c,(if q<r.cells then av w M r q c else u.cells[q - r.cells]? =some c)->av w M r1 q c)->
    ∃r',K r'/\r'.len=r.len+(a::l).length/\r'.sz=r.sz/\∀(ρ:Env) (w:World) (M:aX) (us:List Value),aJ (az ρ w M) (a::l) us->
     (∀u∈us,u.cells.size=r.sz)/\∀q c,(if q<r.cells then av w M r q c else (us.flatMap λ u=>u.cells.toList)[q - r.cells]? =some c)->av w M r' q c:=by
   intro r1 h1 hl hz cM;obtain⟨r',h2,h3,h4,h5⟩:=mS h1;refine⟨r',h2,by rw [h3,hl];simp;omega,h4.trans hz,λ ρ w M us hu=>?_⟩;cases us with
   |nil=>exact hu.elim
   |cons u us=>
    obtain⟨c1,c2⟩:=cM ρ w M u hu.1;obtain⟨c3,c4⟩:=h5 ρ w M us hu.2;refine⟨λ v hv=>?_,λ q c hc=>c4 q c ?_⟩
    ·rcases List.mem_cons.1 hv with rfl|hv
     ·exact c1
     ·rw [c3 v hv,hz]
    ·have Fy:r1.cells=r.cells+r.sz:=by simp only [RO.cells,hl,hz,Nat.add_mul,Nat.one_mul]
     by_cases hq:q<r.cells
     ·rw [if_pos hq]at hc
      rw [if_pos aa];exact c2 q c (by rw [if_pos hq];exact hc)
     ·rw [if_neg hq]at hc
      simp only [List.flatMap_cons]at hc
      by_cases Od:q<r1.cells
      ·rw [if_pos Od]
       rw [List.getElem?_append_left (by simp;omega),Array.getElem?_toList]at hc;exact c2 q c (by rw [if_neg hq];exact hc)
      ·rw [if_neg Od]
       rw [List.getElem?_append_right (by simp;omega)]at hc;rw [<-hc];congr 1;simp;omega
  obtain⟨s,hs,gi,hsr⟩:=ND h;obtain⟨r1,h1,xb,gg,tQ,sw⟩:=nY hs;refine step r1 h1 aa gg λ ρ w M u hu=>?_;obtain⟨g1,g2⟩:=hsr ρ w M u hu;refine⟨aa,λ q c hc=>sw w M q c ?_⟩;split at hc
  ·rename_i hq;rw [if_pos hq];exact hc
  ·rename_i hq;rw [if_neg hq];exact g2 _ c hc
end
end Go.AM
end
