import Derived.Test.YtgailjhnfghkgaaGreatDoorAmQAll2
import Derived.MapKept
import Derived.WideKeyArr
import Derived.Carry
import Derived.Laws.BytesString
import Derived.Laws.CopyRow
section
namespace Go.AM
open Go Go.MapKept
section
variable{P:Program}{w:World}{vk:Option IntKind}
theorem bytes_inj{a b:List Int}(ha:∀x∈a,cz x)(hb:∀x∈b,cz x)(h:a.map (λx=>UInt8.ofNat x.toNat)=b.map (λx=>UInt8.ofNat x.toNat)):a=b:=by
 induction a generalizing b with
 |nil=>cases b with
  |nil=>rfl
  |cons y b=>simp at h
 |cons x a ih=>cases b with
  |nil=>simp at h
  |cons y b=>
   simp only [akd,List.cons.injEq]at h;have h1:=ajs UInt8.toNat h.1;have hx:=ha x (by simp);have hy:=hb y (by simp);unfold cz at hx hy;simp only [UInt8.toNat_ofNat']at h1;rw [ih (λz hz=>ha z (ajj _ hz)) (λz hz=>hb z (ajj _ hz)) h.2,show x=y by omega]
theorem OS{a b:List Int}(ha:∀x∈a,cz x)(hb:∀x∈b,cz x)(h:cv a=cv b):a=b:=by
 refine bytes_inj ha hb ?_;have:=ajs (λs=>s.data.toList) h
 simpa [cv]using this
theorem KC(l:List Int):l.foldl (λr n=>r.push (UInt8.ofNat n.toNat)) ByteArray.empty=cv l:=by
 have key:∀(l:List Int) (s:ByteArray),(l.foldl (λr n=>r.push (UInt8.ofNat n.toNat)) s).data=s.data++(l.map λx=>UInt8.ofNat x.toNat).toArray:=by
  intro l
  induction l with
  |nil=>intro s;simp
  |cons x l ih=>intro s;simp only [akl,ih];simp [ByteArray.push]
 have h:=key l ByteArray.empty;have e:∀s:ByteArray,s=⟨s.data⟩:=λs=>by cases s;rfl
 rw [e (l.foldl _ _),h];simp [cv,ByteArray.empty,ByteArray.emptyWithCapacity]
 rfl
theorem key_inj{kd:iQ}{a b:List Int}{v:Value}(ha:iH kd a v)(hb:iH kd b v):a=b:=by
 cases kd with
 |int k=>
  obtain⟨n,rfl,h1,_⟩:=ha;obtain⟨m,rfl,h2,_⟩:=hb;rw [h1]at h2;cases h2;rfl
 |arr n k=>
  obtain⟨_,h1,_⟩:=ha;obtain⟨_,h2,_⟩:=hb;rw [h1]at h2;simp only [Value.agg.injEq]at h2
  have h3:a.map (λx=>Value.int k x)=b.map (λx=>Value.int k x):=by
   have:=ajs Array.toList h2
   simpa using this
  exact List.map_inj_right (λx y h=>by cases h;rfl) |>.1 h3
 |str=>
  obtain⟨h1,ha⟩:=ha;obtain⟨h2,hb⟩:=hb;rw [h1]at h2;exact OS ha hb (by injection h2)
theorem Sg{kd:iQ}{a:List Int}{v v':Value}(ha:iH kd a v)(hb:iH kd a v'):v=v':=by
 cases kd with
 |int k=>
  obtain⟨n,rfl,h1,_⟩:=ha;obtain⟨m,h,h2,_⟩:=hb;cases h;rw [h1,h2]
 |arr n k=>rw [ha.2.1,hb.2.1]
 |str=>rw [ha.1,hb.1]
def Found(_P:Program)(_kt:TypeId)(w:World)(vk:Option IntKind)(key:List Int)(kv:Value)(m:List (List Int × Int))(es:List MapEntry)(i:Nat)(run:Result (Option (Nat × Value))):Prop:=
 (run= .ok none w/\getM m key=none/\lA m key=λv=>m++[(key,v)])\/
  ∃j e n,run= .ok (some (i+j,e.val)) w/\es[j]? =some e/\e.key=kv/\getM m key=some n/\pR vk n e.val/\∀v,lA m key v=m.set j (key,v)
structure GF(P:Program)(kd:iQ)(kt:TypeId):Prop where
 check:∀(w:World) (em:Bool) {l:List Int} {v:Value},iH kd l v->(Instr.checkKey em 10000 kt v).run P w= .ok () w
 find:∀(w:World) (vk:Option IntKind) {key:List Int} {kv:Value} {m:List (List Int × Int)} {es:List MapEntry},iH kd key kv->lH kd vk m es->Found P kt w vk key kv m es 0 ((Instr.findKey kt kv es).run P w)
 stays:∀(w:World) {l:List Int} {v:Value},iH kd l v->(Instr.keyThatStays v v).run P w= .ok v w
theorem pS{kd:iQ}{kt:TypeId}{key:List Int}{kv:Value}{p:List Int × Int}{m:List (List Int × Int)}{e:MapEntry}{es:List MapEntry}{i:Nat}{run:Result (Option (Nat × Value))}(hk:iH kd key kv)(hp:iH kd p.1 e.key)(bn:e.key≠kv)(h:Found P kt w vk key kv m es (i+1) run):
  Found P kt w vk key kv (p::m) (e::es) i run:=by
 have bn:p.1≠key:=λhe=>bn (Sg hp (he▸hk));rcases h with ⟨h1,h2,h3⟩|⟨j,e',x,h1,h2,h3,h4,h5,h6⟩
 ·exact .inl ⟨h1,by simp [getM,bn,h2],by funext v;simp [lA,bn,h3]⟩
 ·exact .inr ⟨j+1,e',x,by rw [h1];simp;omega,by simpa using h2,h3,by simp [getM,bn,h4],h5,λv=>by simp [lA,bn,h6]⟩
theorem pT{kd:iQ}{kt:TypeId}{key:List Int}{kv:Value}{p:List Int × Int}{m:List (List Int × Int)}{e:MapEntry}{es:List MapEntry}{i:Nat}(hk:iH kd key kv)(hp:iH kd p.1 e.key)(hv:pR vk p.2 e.val)(he:e.key=kv):
  Found P kt w vk key kv (p::m) (e::es) i (.ok (some (i,e.val)) w):=by
 have:p.1=key:=key_inj (he▸hp) hk;exact .inr ⟨0,e,p.2,by simp,rfl,he,by simp [getM,this],hv,λv=>by simp [lA,this]⟩
theorem Ey{k:IntKind}{kt:TypeId}{key:List Int}{kv:Value}(w:World)(kR:iH (.int k) key kv):∀{m:List (List Int × Int)} {es:List MapEntry} (i:Nat),lH (.int k) vk m es->
  ∃r,Instr.findNow (.int k) kv es i=some r/\Found P kt w vk key kv m es i (.ok r w)
 |[],[],i,_=>⟨none,rfl,.inl ⟨rfl,rfl,rfl⟩⟩
 |p::m,e::es,i,h=>by
  obtain⟨n,rfl,rfl,hn⟩:=id kR;obtain⟨n',hn',oC,_⟩:=h.1.1
  by_cases he:n=n'
  ·subst he
   exact⟨_,by simp [Instr.findNow,oC,Instr.sameNow],pT kR h.1.1 h.1.2 oC⟩
  ·have hs:Instr.sameNow (.int k) (.int k n) e.key=some false:=by simp [Instr.sameNow,oC,he]
   obtain⟨r,h1,h2⟩:=Ey w kR (i+1) h.2;exact⟨r,by simp [Instr.findNow,hs,h1],pS kR h.1.1 (by rw [oC];simp;exact λe=>he e.symm) h2⟩
 |[],_::_,_,h=>h.elim
 |_::_,[],_,h=>h.elim
theorem Si{k:IntKind}{kt:TypeId}(hk:P.underlying kt=some (.int k)):GF P (.int k) kt where
 check w em l v h:=run_checkKey hk (by obtain⟨y,_,rfl,_⟩:=h;simp [IsKey]) em 9999
 find w vk key kv m es kR hr:=by
  obtain⟨r,h1,h2⟩:=Ey (P:=P) (kt:=kt) w kR 0 hr;rw [run_findKey hk h1];exact h2
 stays w l v h:=run_keyThatStays (d:=.int k) (by obtain⟨y,_,rfl,_⟩:=h;simp [IsKey])
theorem Ez{kt:TypeId}{key:List Int}{kv:Value}(w:World)(kR:iH .str key kv):∀{m:List (List Int × Int)} {es:List MapEntry} (i:Nat),lH .str vk m es->
  ∃r,Instr.findNow .string kv es i=some r/\Found P kt w vk key kv m es i (.ok r w)
 |[],[],i,_=>⟨none,rfl,.inl ⟨rfl,rfl,rfl⟩⟩
 |p::m,e::es,i,h=>by
  obtain⟨h1,h2⟩:=id kR;obtain⟨oC,h3⟩:=h.1.1
  by_cases he:cv key=cv p.1
  ·have Yd:=(bytes_beq _ _).2 he
   exact⟨_,by simp [Instr.findNow,oC,h1,Instr.sameNow,Yd],pT kR h.1.1 h.1.2 (by rw [oC,h1,he])⟩
  ·have Yd:(cv key==cv p.1)=false:=by rw [<-Bool.not_eq_true,bytes_beq];exact he
   have hs:Instr.sameNow .string kv e.key=some false:=by simp [Instr.sameNow,oC,h1,Yd]
   obtain⟨r,h4,h5⟩:=Ez w kR (i+1) h.2;exact⟨r,by simp [Instr.findNow,hs,h4],pS kR h.1.1 (by rw [oC,h1];simp;exact λe=>he e.symm) h5⟩
 |[],_::_,_,h=>h.elim
 |_::_,[],_,h=>h.elim
theorem Sm{kt:TypeId}(hk:P.underlying kt=some .string):GF P .str kt where
 check w em l v h:=run_checkKey hk (by obtain⟨rfl,_⟩:=h;simp [IsKey]) em 9999
 find w vk key kv m es kR hr:=by
  obtain⟨r,h1,h2⟩:=Ez (P:=P) (kt:=kt) w kR 0 hr;rw [run_findKey hk h1];exact h2
 stays w l v h:=run_keyThatStays (d:=.string) (by obtain⟨rfl,_⟩:=h;simp [IsKey])
theorem tI{kd:iQ}{kt:TypeId}{key:List Int}{kv:Value}(w:World)(heq:∀{lx ly:List Int} {x y:Value},iH kd lx x->iH kd ly y->∃r:Bool,(Op.equal kt x y).run P w= .ok r w/\(r=true↔x=y))(kR:iH kd key kv):
  ∀{m:List (List Int × Int)} {es:List MapEntry} (i:Nat),lH kd vk m es->Found P kt w vk key kv m es i ((Instr.findAsking kt kv es i).run P w)
 |[],[],i,_=>.inl ⟨rfl,rfl,rfl⟩
 |p::m,e::es,i,h=>by
  obtain⟨r,hr,YB⟩:=heq kR h.1.1;cases r
  ·have bn:e.key≠kv:=λhe=>by cases YB.2 he.symm
   have:=tI w heq kR (i+1) h.2;have e1:(Instr.findAsking kt kv (e::es) i).run P w=(Instr.findAsking kt kv es (i+1)).run P w:=by simp [Instr.findAsking,hr]
   rw [e1];exact pS kR h.1.1 bn this
  ·have e1:(Instr.findAsking kt kv (e::es) i).run P w= .ok (some (i,e.val)) w:=by simp [Instr.findAsking,hr]
   rw [e1];exact pT kR h.1.1 h.1.2 (YB.1 rfl).symm
 |[],_::_,_,h=>h.elim
 |_::_,[],_,h=>h.elim
theorem YC{k:IntKind}{n:Int}(h:eO k n):(Lit.int k n).wf=true:=by
 unfold eO at h;simp only [Lit.wf,decide_eq_true_eq,ajB];exact h
theorem EA{α β:Type}{f:α->Option β}:∀{l:List α},(∀x∈l,∃y,f x=some y)->∃r,l.mapM f=some r
 |[],_=>⟨[],rfl⟩
 |a::as,h=>by
  obtain⟨b,hb⟩:=h a (.head _);obtain⟨r,hr⟩:=EA (l:=as) λx hx=>h x (.tail _ hx);exact⟨b::r,by simp [List.mapM_cons,hb,hr]⟩
theorem Sn{n:Nat}{k:IntKind}{kt e:TypeId}(A:WideMaps.ArrKey P kt e n)(he:P.underlying e=some (.int k))(bu:∃m,P.types.size=m+1):GF P (.arr n k) kt:=by
 have lit:∀{l:List Int} {v:Value},iH (.arr n k) l v->∃x,keyOf P kt v=some x:=by
  intro l v h;obtain⟨h1,rfl,h2⟩:=h;have hf:(Value.agg (l.map λx=>Value.int k x).toArray).formed P kt=true:=by simp [Value.formed,A.hu,A.size,h1]
  have hl:∃L,P.keyLits (P.types.size+1) kt (l.map λx=>Value.int k x)=some L:=by
   obtain⟨m,hm⟩:=bu;rw [hm];unfold Program.keyLits;simp only [A.hu,A.size,A.one];rw [ajq (by simpa using h1)]
   have:∃r,((List.range n).mapM λi=>P.keyLits (m+1) e (((l.map λx=>Value.int k x).drop (i*1)).take 1))=some r:=by
    refine EA λi hi=>?_;have hi:i<l.length:=by rw [h1];simpa using hi
    have e1:((l.map λx=>Value.int k x).drop (i*1)).take 1=[.int k l[i]]:=by
     rw [ajV];apply List.ext_getElem?;intro j;rcases j with _|j
     ·simp [hi]
     ·simp [List.getElem?_take]
    refine⟨[.int k l[i]],?_⟩;rw [e1];unfold Program.keyLits;simp only [he];simp [YC (h2 _ (List.getElem_mem hi))]
   obtain⟨r,hr⟩:=this;exact⟨_,by rw [hr];rfl⟩
  obtain⟨L,hL⟩:=hl;refine⟨.string (keyBytes L),?_⟩;unfold keyOf;rw [A.hu];simp only [A.keyType bu,hf,Bool.and_self,if_true];show(P.keyLits (P.types.size+1) kt (l.map λx=>Value.int k x)).map _=_;rw [hL];rfl
 have heq:∀(w:World) {lx ly:List Int} {x y:Value},iH (.arr n k) lx x->iH (.arr n k) ly y->∃r:Bool,(Op.equal kt x y).run P w= .ok r w/\(r=true↔x=y):=λw lx ly x y hx hy=>by
  obtain⟨a,ha⟩:=lit hx;obtain⟨b,hb⟩:=lit hy;obtain⟨r,h1,h2⟩:=run_equal_deep w (m:=2) aa (A.at 0) A.wide ha hb;refine⟨r,h1,h2.trans ⟨λe=>keyOf_inj_deep A.tiled A.wide ha (e▸hb),λe=>?_⟩⟩;subst e;rw [ha]at hb;exact ajN hb
 exact {
  check:=λw em l v h=>by obtain⟨x,hx⟩:=lit h;exact A.law.check w em hx
  find:=λw vk key kv m es kR hr=>by rw [run_findKey_eq w A.wide];exact tI w (heq w) kR 0 hr
  stays:=λw l v h=>by obtain⟨x,hx⟩:=lit h;exact A.law.stays w hx }
theorem lH.set{kd:iQ}{key:List Int}{v:Int}:∀{m:List (List Int × Int)} {es:List MapEntry} {j:Nat} {e e':MapEntry},lH kd vk m es->es[j]? =some e->iH kd key e'.key->pR vk v e'.val->lH kd vk (m.set j (key,v)) (es.set j e')
 |_::_,_::_,0,_,_,h,_,hk,hv=>⟨⟨hk,hv⟩,h.2⟩
 |_::_,_::_,j+1,_,_,h,he,hk,hv=>⟨h.1,lH.set (j:=j) h.2 (by simpa using he) hk hv⟩
 |[],[],_,_,_,_,he,_,_=>by simp at he
 |[],_::_,_,_,_,h,_,_,_=>h.elim
 |_::_,[],_,_,_,h,_,_,_=>h.elim
theorem lH.push{kd:iQ}{key:List Int}{v:Int}{e':MapEntry}:∀{m:List (List Int × Int)} {es:List MapEntry},lH kd vk m es->iH kd key e'.key->pR vk v e'.val->lH kd vk (m++[(key,v)]) (es++[e'])
 |[],[],_,hk,hv=>⟨⟨hk,hv⟩,ag⟩
 |_::_,_::_,h,hk,hv=>⟨h.1,lH.push h.2 hk hv⟩
 |[],_::_,h,_,_=>h.elim
 |_::_,[],h,_,_=>h.elim
theorem lH.length{kd:iQ}:∀{m:List (List Int × Int)} {es:List MapEntry},lH kd vk m es->m.length=es.length
 |[],[],_=>rfl
 |_::_,_::_,h=>by simp [lH.length h.2]
 |[],_::_,h=>h.elim
 |_::_,[],h=>h.elim
theorem x6{kd:iQ}{mty kt et:TypeId}{b n:Nat}{es:Array MapEntry}{m:List (List Int × Int)}{key:List Int}{kv value:Value}{x:Int}(hm:P.underlying mty=some (.map kt et))(hk:GF P kd kt)(hb:w.heap[b]? =some (.map es n))(hr:lH kd vk m es.toList)(kR:iH kd key kv)(hv:pR vk x value):
  ∃es' n',(Instr.mapUpdate mty (.map (some b)) kv value).run P w= .ok () { w with heap:=w.heap.setIfInBounds b (.map es' n') }/\lH kd vk (lA m key x) es'.toList:=by
 have hc:=hk.check w false kR;rcases hk.find w vk kR hr with ⟨h1,_,h3⟩|⟨j,e,y,h1,h2,h3,_,_,h6⟩
 ·refine⟨es.push { key:=kv,val:=value,born:=n },n+1,?_,?_⟩
  ·simp [Instr.mapUpdate,run_underlying hm,MapKept.run_getObj_map hb,hc,h1,run_setObj_map _ hb,Result.andThen]
  ·rw [h3];simpa using hr.push kR hv
 ·rw [ajQ]at h1
  have hj:es[j]? =some e:=by simpa using h2
  refine⟨es.modify j λe=>{ e with key:=kv,val:=value },n,?_,?_⟩
  ·simp [Instr.mapUpdate,run_underlying hm,MapKept.run_getObj_map hb,hc,h1,hj,h3,hk.stays w kR,run_setObj_map _ hb,Result.andThen]
  ·have hl:(es.modify j λe=>{ e with key:=kv,val:=value }).toList=es.toList.set j { e with key:=kv,val:=value }:=by
    apply List.ext_getElem?;intro i;rw [ajt,Array.getElem?_modify,List.getElem?_set]
    by_cases mR:j=i
    ·subst mR
     have aX:j<es.toList.length:=by
      rcases ajF j es.toList.length with h|h
      ·exact h
      ·rw [aj0 h]at h2;cases h2
     simp [hj]
     simpa using aX
    ·simp [mR]
   rw [h6,hl];exact hr.set h2 kR hv
theorem GG{kd:iQ}{mty kt et:TypeId}{b n:Nat}{es:Array MapEntry}{m:List (List Int × Int)}{key:List Int}{kv z:Value}(hm:P.underlying mty=some (.map kt et))(hk:GF P kd kt)(hb:w.heap[b]? =some (.map es n))(hr:lH kd vk m es.toList)(kR:iH kd key kv)
  (hz:(zeroValue et).run P w= .ok z w) (mM:pR vk 0 z) (ok:Bool):
  ∃v,(Instr.lookup mty (.map (some b)) kv ok).run P w= .ok (if ok then .tuple #[v,.bool (getM m key).isSome] else v) w/\pR vk ((getM m key).getD 0) v:=by
 have hc:=hk.check w es.isEmpty kR;rcases hk.find w vk kR hr with ⟨h1,h2,_⟩|⟨j,e,y,h1,h2,h3,h4,h5,_⟩
 ·refine⟨z,?_,by rw [h2];exact mM⟩
  simp [Instr.lookup,run_underlying hm,MapKept.run_getObj_map hb,hc,h1,hz,h2,Result.andThen]
 ·refine⟨e.val,?_,by rw [h4];exact h5⟩
  simp [Instr.lookup,run_underlying hm,MapKept.run_getObj_map hb,hc,h1,h4,Result.andThen]
theorem yk{kd:iQ}{mty kt et:TypeId}{key:List Int}{kv z:Value}(hm:P.underlying mty=some (.map kt et))(hk:GF P kd kt)(kR:iH kd key kv)
  (hz:(zeroValue et).run P w= .ok z w) (mM:pR vk 0 z):
  ∃v,(Instr.lookup mty (.map none) kv true).run P w= .ok (.tuple #[v,.bool false]) w/\pR vk 0 v:=by
 have hc:=hk.check w true kR;rcases hk.find w vk kR (m:=[]) (es:=[]) trivial with ⟨h1,_,_⟩|⟨j,e,y,_,h2,_⟩
 ·refine⟨z,?_,mM⟩
  simp [Instr.lookup,run_underlying hm,hc,h1,hz,Result.andThen]
 ·simp at h2
end
section
variable{P:Program}{TY:List cV}{w0 w:World}{M0:eE w0}{O:Env}{M:a7}{S S0:ak}{d:Nat}
theorem Mf{a b:iQ}(h:Zz a b=true):a=b:=by
 cases a<;>cases b<;>try (cases h;done)
 ·exact ajs _ (b8 h)
 ·rename_i n k n' k'
  simp only [Zz]at h;cases hn:Nat.beq n n' with
  |true=>simp only [hn]at h;rw [aA.1 hn,b8 h]
  |false=>simp only [hn]at h;cases h
 ·rfl
theorem Mg{a b:Option IntKind}(h:vkq a b=true):a=b:=by
 cases a<;>cases b<;>try (cases h;done)
 ·rfl
 ·exact ajs _ (b8 h)
theorem qz(az:aR P TY){t:Nat}{K:iQ->Option IntKind->Prop}(h:GC TY t K):
  ∃kt et kd vk,K kd vk/\P.underlying t=some (.map kt et)/\GF P kd kt/\∃z,(∀w,(zeroValue et).run P w= .ok z w)/\pR vk 0 z:=by
 unfold GC at h;split at h
 ·rename_i kt et hd
  have hu:P.underlying t=some (.map kt et):=by
   obtain⟨i,u,_,hu,_,_,ft,_⟩:=(az.at (t:=t) (.inr (by rw [hd];simp))).row;rw [hd]at ft;cases u<;>simp only [mc]at ft
   rw [hu,ft.1,ft.2]
  have ints:∀{e:Nat} {k:IntKind},(au TY e).d= .int k->P.underlying e=some (.int k):=λ{e k} hd=>by
   obtain⟨i,u,_,hu,_,_,ft,_⟩:=(az.at (t:=e) (.inr (by rw [hd];simp))).row;rw [hd]at ft;cases u<;>simp only [mc]at ft
   rw [hu,ft]
  have val:∀{K:Option IntKind->Prop},(VM TY et λvk=>bL (kz (au TY et).zero) (K vk))->∃vk,K vk/\∃z,(∀w,(zeroValue et).run P w= .ok z w)/\pR vk 0 z:=λ{K} h=>by
   unfold VM at h
   have zv:kz (au TY et).zero=true->(au TY et).d≠.other->∃z,(∀w,(zeroValue et).run P w= .ok z w)/\Ed (au TY et).d z:=λhz ho=>by
    obtain⟨i,u,hi,AK,_,_,_,hzero⟩:=(az.at (t:=et) (.inr ho)).row;obtain⟨z,gE,uE⟩:=hzero λhe=>by rw [he]at hz;cases hz
    exact⟨z,λw=>by simp [zeroValue,typeInfo,hi,gE],uE.2.2.2.1⟩
   split at h
   ·rename_i k hk
    rw [aq]at h;obtain⟨z,h1,h2⟩:=zv h.1 (by rw [hk];simp);rw [hk]at h2;exact⟨_,h.2,z,h1,h2,kA k⟩
   ·rename_i hk
    rw [aq]at h;obtain⟨z,h1,h2⟩:=zv h.1 (by rw [hk];simp);rw [hk]at h2;exact⟨_,h.2,z,h1,by rw [h2];simp,.inl rfl⟩
   ·exact h.elim
  unfold Yz at h;split at h
  ·rename_i k hk
   obtain⟨vk,h1,h2⟩:=val h;exact⟨kt,et,_,vk,h1,hu,Si (ints hk),h2⟩
  ·rename_i n e hk
   rw [aq,aq]at h;obtain⟨QN,Pk,h⟩:=h;unfold Qn at h;split at h
   ·rename_i k he
    obtain⟨vk,h1,h2⟩:=val h
    have szc:∀{t:Nat},(au TY t).d≠.other->P.cellsOf t=(au TY t).sz:=λ{t} ho=>by
     obtain⟨i,u,hi,_,hs,_⟩:=(az.at (t:=t) (.inr ho)).row;simp [Program.cellsOf,hi,hs]
    refine⟨kt,et,_,vk,h1,hu,Sn (e:=e) ⟨hZ az hk,?_,?_,?_⟩ (ints he) az.pos,h2⟩
    ·simp [Program.plainKey,ints he]
    ·rw [szc (by rw [he];simp),aA.1 Pk]
    ·rw [szc (by rw [hk];simp),aA.1 QN]
   ·exact h.elim
  ·rename_i hk
   obtain⟨vk,h1,h2⟩:=val h
   have xO:P.underlying kt=some .string:=by
    obtain⟨i,u,_,hu,_,_,ft,_⟩:=(az.at (t:=kt) (.inr (by rw [hk];simp))).row;rw [hk]at ft;cases u<;>simp only [mc]at ft
    exact hu
   exact⟨kt,et,_,vk,h1,hu,Sm xO,h2⟩
  ·exact h.elim
 ·exact h.elim
def xv(k:IntKind):List AV->Option (List Int)
 |[]=>some []|.int k' n::l=>if kq k k'=true then (xv k l).map (n::·) else none|_::_=>none
def GH(kd:iQ)(a:AV):Option (List Int):=
 match kd,a with
 |.int k,.int k' n=>if kq k k'=true then some [n] else none
 |.arr n k,.agg l=>if df l n=true then xv k l else none
 |.str,.str l=>some l
 |_,_=>none
def OT(vk:Option IntKind)(a:AV):Option Int:=
 match vk,a with
 |some k,.int k' n=>if kq k k'=true then some n else none
 |none,.bool e=>some (if e.val=true then 1 else 0)
 |_,_=>none
theorem zJ{k:IntKind}:∀{l:List AV} {K:List Int->Prop},xp k l K->∃m,xv k l=some m/\K m
 |[],_,h=>⟨[],rfl,h⟩
 |a::l,K,h=>by
  cases a<;>try exact h.elim
  rename_i k' n;simp only [xp,aq]at h;obtain⟨m,h1,h2⟩:=zJ h.2;exact⟨n::m,by simp [xv,h.1,h1],h2⟩
theorem Au{kd:iQ}{a:AV}{K:List Int->Prop}(h:Kx kd a K):∃m,GH kd a=some m/\K m:=by
 cases kd with
 |int k=>
  cases a<;>try exact h.elim
  simp only [Kx,aq]at h;exact⟨_,by simp [GH,h.1],h.2⟩
 |arr n k=>
  cases a<;>try exact h.elim
  simp only [Kx,aq]at h;obtain⟨m,h1,h2⟩:=zJ h.2;exact⟨m,by simp [GH,h.1,h1],h2⟩
 |str=>
  cases a<;>try exact h.elim
  exact⟨_,rfl,h⟩
theorem Qp{vk:Option IntKind}{a:AV}{K:Int->Prop}(h:VN vk a K):∃m,OT vk a=some m/\K m:=by
 cases vk with
 |some k=>
  cases a<;>try exact h.elim
  simp only [VN,aq]at h;exact⟨_,by simp [OT,h.1],h.2⟩
 |none=>
  cases a<;>try exact h.elim
  rename_i e;cases e with
  |lit b=>cases b<;>exact⟨_,rfl,h⟩
  |_=>exact⟨_,rfl,h⟩
theorem EB{k:IntKind}:∀{l:List AV} {vs:List Value} {m:List Int},xv k l=some m->aM (aJ O w M) l vs->m.length=l.length/\vs=m.map (λx=>Value.int k x)/\∀x∈m,eO k x
 |[],[],m,h,_=>by cases h;exact⟨rfl,rfl,by simp⟩
 |[],_::_,_,_,hv=>hv.elim
 |a::l,[],_,_,hv=>hv.elim
 |a::l,v::vs,m,h,hv=>by
  cases a<;>try (cases h;done)
  rename_i k' n;simp only [xv]at h;split at h
  ·rename_i hk
   obtain rfl:=b8 hk;cases hm:xv k l with
   |none=>rw [hm]at h;cases h
   |some m'=>
    rw [hm]at h;cases h;obtain⟨h2,h3,h4⟩:=EB hm hv.2;obtain⟨h5,h6⟩:=hv.1;exact⟨by simp [h2],by rw [h5,h3];rfl,λx hx=>(ajo.1 hx).elim (λe=>e▸h6) (h4 x)⟩
  ·cases h
theorem Aw{kd:iQ}{a:AV}{v:Value}{l:List Int}(h:GH kd a=some l)(hv:aC O w M a v):iH kd l v:=by
 cases kd with
 |int k=>
  cases a<;>simp only [GH]at h<;>try (cases h;done)
  split at h
  ·rename_i hk
   obtain rfl:=b8 hk;cases h;exact⟨_,rfl,hv⟩
  ·cases h
 |arr n k=>
  cases a<;>simp only [GH]at h<;>try (cases h;done)
  split at h
  ·rename_i hl
   obtain⟨cs,rfl,bU⟩:=hv;obtain⟨h2,h3,h4⟩:=EB h bU;exact⟨by rw [h2,dD hl],by rw [<-h3],h4⟩
  ·cases h
 |str=>
  cases a<;>simp only [GH]at h<;>try (cases h;done)
  cases h;exact hv
theorem Qq{vk:Option IntKind}{a:AV}{v:Value}{n:Int}(h:OT vk a=some n)(hv:aC O w M a v):pR vk n v:=by
 cases vk with
 |some k=>
  cases a<;>simp only [OT]at h<;>try (cases h;done)
  split at h
  ·rename_i hk
   obtain rfl:=b8 hk;cases h;exact hv
  ·cases h
 |none=>
  cases a<;>simp only [OT]at h<;>try (cases h;done)
  rename_i e;cases h;have hv:v= .bool e.val:=hv;refine⟨?_,by split<;>simp⟩;rw [hv];cases e.val<;>simp
theorem xw{vk:Option IntKind}{n:Int}{v:Value}(h:pR vk n v):aJ O w M (Sc vk n) v:=by
 cases vk with
 |some k=>exact h
 |none=>exact h.1
theorem x3(az:aR P TY){F:Spec}{t:Nat}{r:Option Operand}{T:List AV}{K:AV->Option dQ->Prop}(h:qK TY F d (.makeMap t r) T S0 K):
  ∃v B,K v B/\QS P d (.makeMap t r) T S0 v B:=by
 cases r with
 |some y=>
  simp only [qK,aD]at h;obtain⟨kt,et,kd,vk,h,hu,hk,z,hz,mM⟩:=qz az h;split at h
  ·rename_i ky ny hy
   refine⟨_,_,h,λw0 M0 O M w S' e oo ho hc st he hd=>?_,λ_ hb=>by first|(cases hb;done)|(subst_vars;simp_all)⟩;have rR:=he y (by simp [Op.operands]);rw [hy]at rR
   obtain⟨O',M',h1,h2,h3,h4⟩:=st.Oq (w':={ w with heap:=w.heap.push (.map #[] 0) }) (ob:=.map #[] 0) (λoff=>off=0) (own:=.mp w.heap.size) (B:=.map kd vk []) (hd (by simp)).1 (hd (by simp)).2 rfl (by first|exact kg.refl _|exact⟨⟨rfl,rfl⟩,rfl,akg _⟩) (λ_ h=>h.symm)
    (λO' M' hρ hM hk fk=>⟨w.heap.size,hρ,#[],0,by simp,hM,ag⟩)
   refine .val (v:=.map (some w.heap.size)) (w':={ w with heap:=w.heap.push (.map #[] 0) }) ?_ ⟨O',M',h1,TN 0 h2,h3,h4⟩;have cd:(underlying t).run P w= .ok (.map kt et) w:=by simp [underlying,hu]
   simp [execOp,ho,Instr.makeMap,cd,rR.1,asInt,asIntOf,newObj,Result.andThen,Sem.run]
  ·exact h.elim
 |none=>
  simp only [qK]at h;obtain⟨kt,et,kd,vk,h,hu,hk,z,hz,mM⟩:=qz az h;refine⟨_,_,h,λw0 M0 O M w S' e oo ho hc st he hd=>?_,λ_ hb=>by first|(cases hb;done)|(subst_vars;simp_all)⟩
  obtain⟨O',M',h1,h2,h3,h4⟩:=st.Oq (w':={ w with heap:=w.heap.push (.map #[] 0) }) (ob:=.map #[] 0) (λoff=>off=0) (own:=.mp w.heap.size) (B:=.map kd vk []) (hd (by simp)).1 (hd (by simp)).2 rfl (by first|exact kg.refl _|exact⟨⟨rfl,rfl⟩,rfl,akg _⟩) (λ_ h=>h.symm)
   (λO' M' hρ hM hk fk=>⟨w.heap.size,hρ,#[],0,by simp,hM,ag⟩)
  refine .val (v:=.map (some w.heap.size)) (w':={ w with heap:=w.heap.push (.map #[] 0) }) ?_ ⟨O',M',h1,TN 0 h2,h3,h4⟩;simp only [execOp,ho,Sem.run_bind,Sem.run_pure]
  rfl
theorem As(az:aR P TY){F:Spec}{t:Nat}{x k:Operand}{ok:Bool}{T:List AV}{K:AV->Option dQ->Prop}(h:qK TY F d (.lookup t x k ok) T S0 K):
  ∃v B,K v B/\QS P d (.lookup t x k ok) T S0 v B:=by
 simp only [qK,aD]at h;obtain⟨kt,et,kd,vk,h,hu,hk,z,hz,mM⟩:=qz az h;split at h
 ·rename_i j off hx
  split at h
  ·rename_i kd' vk' m hf
   rw [aq,aq]at h;obtain⟨h1,h2,h⟩:=h;obtain rfl:=Mf h1;obtain rfl:=Mg h2;obtain⟨key,x5,h⟩:=Au h
   have go:∀(w0:World) (M0:eE w0) (O:Env) (w:World) (M:a7) (S':ak) (e:Operand->Value) (oo:Oper),oo.op= .lookup t x k ok->KX S0 S'->St M0 O M S' w->(∀y∈(Op.lookup t x k ok).operands,aC O w M (aT T y) (e y))->
     ∃v,(execOp e oo).run P w= .ok (.value (if ok then .tuple #[v,.bool (getM m key).isSome] else v)) w/\pR vk ((getM m key).getD 0) v:=λw0 M0 O w M S' e oo ho hc st he=>by
    have mI:=he x (by simp [Op.operands]);have oC:=he k (by simp [Op.operands]);rw [hx]at mI;have mI:(O j).bind (b6.ref · off)=some (e x):=mI;obtain⟨b,g1,es,n,g2,g3,g4⟩:=st.aZ j _ (st.fK hc hf mI);have hex:=Av g1 mI;obtain⟨v,hr,hv⟩:=GG (mty:=t) (kv:=e k) hu hk g2 g4 (Aw x5 oC) (hz w) mM ok;exact⟨v,by simp [execOp,ho,hex,hr],hv⟩
   cases ok with
   |true=>
    refine bX h λw0 M0 O w M S' e oo ho hc st he=>?_;obtain⟨v,h1,h2⟩:=go w0 M0 O w M S' e oo ho hc st he;refine⟨_,h1,_,rfl,?_,?_,ag⟩
    ·have:=xw (O:=O) (w:=w) (M:=M) h2
     cases vk<;>exact this
    ·show Value.bool _=Value.bool _;rfl
   |false=>
    refine bX h λw0 M0 O w M S' e oo ho hc st he=>?_;obtain⟨v,h1,h2⟩:=go w0 M0 O w M S' e oo ho hc st he;refine⟨_,h1,?_⟩;have:=xw (O:=O) (w:=w) (M:=M) h2;cases vk<;>exact this
  ·exact h.elim
 ·rename_i hx
  obtain⟨key,x5,h⟩:=Au h;cases ok with
  |true=>
   refine cw h λO w M e oo ho he=>?_;have mI:=he x (by simp [Op.operands]);have oC:=he k (by simp [Op.operands]);rw [hx]at mI;have mI:e x= .map none:=mI;obtain⟨v,hr,hv⟩:=yk (mty:=t) (kv:=e k) hu hk (Aw x5 oC) (hz w) mM;refine⟨.tuple #[v,.bool false],by simp [execOp,ho,mI,hr],#[v,.bool false],rfl,?_,?_,ag⟩
   ·have:=xw (O:=O) (w:=w) (M:=M) hv
    cases vk<;>exact this
   ·show Value.bool _=Value.bool _;rfl
  |false=>exact h.elim
 ·exact h.elim
end
end Go.AM
end
section
namespace Go.AM
open Go
section
variable{P:Program}{TY:List cV}{w0 w:World}{M0:eE w0}{O:Env}{M:a7}{S S0:ak}{d:Nat}
theorem uc(az:aR P TY){F:Spec}{t:Nat}{x:Operand}{f:Nat}{T:List AV}{K:AV->Option dQ->Prop}(h:qK TY F d (.fieldAddr t x f) T S0 K):
  ∃v B,K v B/\QS P d (.fieldAddr t x f) T S0 v B:=by
 simp only [qK,aD]at h;split at h
 ·rename_i k off fs hx hd
  split at h
  ·rename_i lb K2
   split at h
   ·rename_i o u oW
    split at h
    ·rename_i hz
     obtain⟨F',hu,tX⟩:=di az hd;have hg:=cu oW;rw [tX,ajR]at hg;cases hF:F'.toList[f]? with
     |none=>rw [hF]at hg;cases hg
     |some g=>
      rw [hF]at hg;cases hg;rw [ajt]at hF;have aH:=az.at (t:=g.type) (.inl (λe=>by rw [e]at hz;cases hz));refine bX h λw0 M0 O w M S' e oo ho hc st he=>?_;have h1:=he x (by simp [Op.operands]);rw [hx]at h1;have h1:(O k).bind (b6.ref · off)=some (e x):=h1;obtain⟨b,h3,_⟩:=st.aZ k _ (st.fK hc K2 h1);have h2:=sw h3 h1;refine⟨.pointer (some ⟨b,off+g.offset,none⟩),?_,Db _ h3⟩;have cd:(underlying t).run P w= .ok (.struct F') w:=by simp [underlying,hu]
      have bu:=aH.size w;have bn:(au TY g.type).sz≠0:=λe=>by rw [e]at hz;cases hz
      simp [execOp,ho,h2,Instr.fieldAt,cd,hF,Instr.sureAddr,fieldPlace,bu,bn,aU]
    ·exact h.elim
   ·exact h.elim
  ·exact h.elim
 ·rename_i k i fs hx hd
  split at h
  ·rename_i o u oW
   split at h
   ·rename_i hz
    obtain⟨F',hu,tX⟩:=di az hd;have hg:=cu oW;rw [tX,ajR]at hg;cases hF:F'.toList[f]? with
    |none=>rw [hF]at hg;cases hg
    |some g=>
     rw [hF]at hg;cases hg;rw [ajt]at hF;have aH:=az.at (t:=g.type) (.inl (λe=>by rw [e]at hz;cases hz));refine bX h λw0 M0 O w M S' e oo ho hc st he=>?_;have h1:=he x (by simp [Op.operands]);rw [hx]at h1;obtain⟨o',b,g1,g2,g3,g4,g5⟩:=h1;refine⟨.pointer (some ⟨b,i.toNat*o'.sz+g.offset,none⟩),?_,o',b,g1,g2,g3,g4,rfl⟩;have cd:(underlying t).run P w= .ok (.struct F') w:=by simp [underlying,hu]
     have bu:=aH.size w;have bn:(au TY g.type).sz≠0:=λe=>by rw [e]at hz;cases hz
     simp [execOp,ho,g5,Instr.fieldAt,cd,hF,Instr.sureAddr,fieldPlace,bu,bn,aU]
   ·exact h.elim
  ·exact h.elim
 ·exact h.elim
theorem CP(az:aR P TY){F:Spec}{t:Nat}{x:Operand}{f:Nat}{T:List AV}{K:AV->Option dQ->Prop}(h:qK TY F d (.field t x f) T S0 K):
  ∃v B,K v B/\QS P d (.field t x f) T S0 v B:=by
 simp only [qK,aD]at h;split at h
 ·rename_i l fs hx hd
  split at h
  ·rename_i o u oW
   obtain⟨F',hu,tX⟩:=di az hd;have hg:=cu oW;rw [tX,ajR]at hg;cases hF:F'.toList[f]? with
   |none=>rw [hF]at hg;cases hg
   |some g=>
    rw [hF]at hg;cases hg;rw [ajt]at hF;obtain⟨a,hK,_⟩:=qJ h;have YD:=qJ h;obtain⟨a,hK,hlen,ha⟩:=YD;refine cw hK λO w M e oo ho he=>?_;have:=he x (by simp [Op.operands]);rw [hx]at this;obtain⟨cs,h1,h2⟩:=this;have Tb:l.length=cs.size:=by rw [h2.length,ajw]
    have cd:(underlying t).run P w= .ok (.struct F') w:=by simp [underlying,hu]
    rcases ha with ⟨oF,rfl⟩|⟨oF,hs,rfl⟩
    ·have aH:=az.at (t:=g.type) (.inr (λe=>by rw [e]at oF;cases oF))
     refine⟨.agg (cs.extract g.offset (g.offset+(au TY g.type).sz)),by simp [execOp,ho,h1,Instr.field,cd,hF,asAgg,part,aH.agg,oF,aH.size],_,rfl,?_⟩
     have:(cs.extract g.offset (g.offset+(au TY g.type).sz)).toList=(cs.toList.drop g.offset).take (au TY g.type).sz:=by
      rw [Array.toList_extract,List.extract_eq_take_drop];simp
     rw [this];exact(h2.drop _).take _
    ·have aH:=az.at (t:=g.type) (.inl (by rw [hs];decide))
     obtain⟨c,h7,h8⟩:=h2.get g.offset aa;rw [ajt]at h7;exact⟨c,by simp [execOp,ho,h1,Instr.field,cd,hF,asAgg,part,aH.agg,oF,h7],cK h8⟩
  ·exact h.elim
 ·exact h.elim
theorem xZ(az:aR P TY){F:Spec}{s t:Nat}{x:Operand}{T:List AV}{K:AV->Option dQ->Prop}(h:qK TY F d (.convert s t x) T S0 K):
  ∃v B,K v B/\QS P d (.convert s t x) T S0 v B:=by
 simp only [qK,aD]at h
 have und:∀{t:Nat} {k:IntKind},(au TY t).d= .int k->P.underlying t=some (.int k):=λ{t k} hd=>by
  obtain⟨u,h1,h2,_⟩:=(az.at (t:=t) (.inr (by rw [hd];simp))).under;rw [hd]at h2;cases u<;>first|(cases h2;exact h1)|exact h2.elim
 split at h
 ·rename_i k k' k'' n hd iK hx
  rw [aq,jN]at h;obtain⟨hk,hr,h⟩:=h;refine cw h λO w M e oo ho he=>?_;have db:=he x (by simp [Op.operands]);rw [hx]at db;have us:(underlying s).run P w= .ok (.int k) w:=by simp [underlying,und hd]
  have ut:(underlying t).run P w= .ok (.int k') w:=by simp [underlying,und iK]
  exact⟨.int k' (k'.wrap n),by simp [execOp,ho,db.1,convert,us,ut,Conv.intToInt],lF hr⟩
 ·rename_i k k'' n hd iK hx
  rw [aq]at h;obtain⟨hk,hr,h⟩:=h;refine cw h λO w M e oo ho he=>?_;have db:=he x (by simp [Op.operands]);rw [hx]at db;have us:(underlying s).run P w= .ok (.int k) w:=by simp [underlying,und hd]
  have ut:(underlying t).run P w= .ok .string w:=by
   obtain⟨u,h1,h2,_⟩:=(az.at (t:=t) (.inr (by rw [iK];simp))).under;rw [iK]at h2;cases u<;>first|(simp [underlying,h1];done)|exact h2.elim
  refine⟨.string (cv [n]),by simp [execOp,ho,db.1,convert,us,ut,Conv.intToString,Gn hr.1 hr.2],rfl,λz hz=>?_⟩;rw [ajC.1 hz];exact⟨hr.1,aa⟩
 ·rename_i e a hd iK
  split at h
  ·rename_i he8
   have us:=bY az hd;have ue:=und he8
   have ut:P.underlying t=some .string:=by
    obtain⟨u,h1,h2,_⟩:=(az.at (t:=t) (.inr (by rw [iK];simp))).under;rw [iK]at h2;cases u<;>first|exact h1|exact h2.elim
   have key:∃l,K (.str l) none/\∀(w0:World) (M0:eE w0) (O:Env) (w:World) (M:a7) (S':ak) (v:Value),KX S0 S'->St M0 O M S' w->aC O w M (aT T x) v->
     ∃ad cap,v= .slice ad l.length cap/\(l.length=0\/∃b off,ad=some ⟨b,off,none⟩/\∀q,q<l.length->∃c,w.cell? ⟨b,off+q,none⟩=some c/\c= .int .u8 (l.getD q 0)/\eO .u8 (l.getD q 0)):=by
    unfold Ky at h;split at h
    ·rename_i r hx
     split at h
     ·rename_i l hl
      cases hl;refine⟨l,h,λw0 M0 O w M S' v hc st hv=>?_⟩;rw [hx]at hv;obtain⟨_,ad,cap,h2,_,h3⟩:=hv;refine⟨ad,cap,h2,?_⟩;rcases h3 with h3|⟨b,off,h4,h5⟩
      ·exact .inl (by simpa [RO.cells,RO.len,RO.sz]using h3)
      ·exact .inr ⟨b,off,h4,λq hq=>by obtain⟨c,h6,_,h7⟩:=h5 q (by simpa [RO.cells,RO.len,RO.sz]using hq);exact⟨c,h6,h7⟩⟩
     ·exact h.elim
    ·exact h.elim
    ·rename_i j hx
     split at h
     ·rename_i wm r hf
      split at h
      ·rename_i l hl
       cases hl;refine⟨l,h,λw0 M0 O w M S' v hc st hv=>?_⟩;rw [hx]at hv;obtain⟨o,g1,rfl⟩:=hv;obtain⟨⟨o',g2,g3,g4,g5,_,g6⟩,_⟩:=st.aZ j _ (st.fK hc hf g1);obtain rfl:=cC g2 g1;refine⟨_,_,by rw [Sl.val,g3];rfl,?_⟩;cases hb:o.aZ with
       |none=>simp only [hb]at g6;exact .inl g6.1
       |some b=>
        simp only [hb]at g6;obtain⟨_,cs,ty,g7,_,_,g8⟩:=g6;exact .inr ⟨b,0,rfl,λq hq=>by obtain⟨c,g9,g10⟩:=g8 q (by simpa [RO.cells,RO.len,RO.sz]using hq);exact⟨c,by rw [cell_of_heap g7,ajQ];exact g9,g10⟩⟩
      ·exact h.elim
     ·exact h.elim
    ·exact h.elim
   obtain⟨l,h,bg⟩:=key;refine bX h λw0 M0 O w M S' e oo ho hc st he=>?_;obtain⟨ad,cap,hv,bU⟩:=bg w0 M0 O w M S' _ hc st (he x (by simp [Op.operands]))
   have Co:∀v w',(Conv.bytesToString (e x)).run P w= .ok v w'->(execOp e oo).run P w= .ok (.value v) w':=λv w' hr=>by
    rw [hv]at hr;have:=run_convert_bytes_string (P:=P) w s t _ ad l.length cap us ue ut;simp [execOp,ho,hv,this,hr]
   have b5:∀z∈l,cz z\/l.length=0:=λz hz=>by
    rcases bU with h0|⟨b,off,_,hq⟩
    ·exact .inr h0
    ·obtain⟨q,Ac,rfl⟩:=List.mem_iff_getElem.1 hz
     obtain⟨_,_,_,h9⟩:=hq q Ac;refine .inl ?_;simp only [List.getD,ajP Ac,Option.getD_some]at h9;exact h9
   have hbp:∀z∈l,cz z:=λz hz=>(b5 z hz).elim id λh0=>by rw [List.length_eq_zero_iff.1 h0]at hz;cases hz
   rcases bU with h0|⟨b,off,rfl,hq⟩
   ·have Ha:l=[]:=List.length_eq_zero_iff.1 h0
    subst Ha;refine⟨.string (cv []),Co _ _ ?_,rfl,hbp⟩;rw [hv];cases ad with
    |none=>rfl
    |some a=>
     have:=run_bytesToString (P:=P) w a 0 cap [] rfl;exact this
   ·refine⟨.string (cv l),Co _ _ ?_,rfl,hbp⟩
    rw [hv,run_bytesToString w _ _ cap l ?_,KC]
    have:=run_loadCells_list (P:=P) (w:=w) (⟨b,off,none⟩:Addr) (l.map (Value.int .u8)) (λj v hj=>by
     rw [ajR]at hj;cases oR:l[j]? with
     |none=>rw [oR]at hj;cases hj
     |some n=>
      rw [oR]at hj;have hj:some (Value.int .u8 n)=some v:=hj
      have aX:j<l.length:=by
       rcases ajF j l.length with h'|h'
       ·exact h'
       ·rw [aj0 h']at oR;cases oR
      obtain⟨c,h1,h2,_⟩:=hq j aX;rw [aU,h1,h2];simp only [List.getD,oR,Option.getD_some];exact hj)
    rw [ajS]at this;exact this
  ·exact h.elim
 ·exact h.elim
theorem ud(az:aR P TY){F:Spec}{t:Nat}{x i:Operand}{T:List AV}{K:AV->Option dQ->Prop}(h:qK TY F d (.indexAddr t x i) T S0 K):
  ∃v B,K v B/\QS P d (.indexAddr t x i) T S0 v B:=by
 simp only [qK,aD]at h;obtain⟨k,n,hi,h⟩:=dU h;split at h
 ·rename_i r hx
  rw [aq,bV]at h;obtain⟨aY,⟨h1,h2⟩,h⟩:=h;obtain⟨e',iK,hu,oT,aH⟩:=bW az aY;refine cw h λO w M e oo ho he=>?_;have db:=he x (by simp [Op.operands]);have tJ:=he i (by simp [Op.operands]);rw [hx]at db;rw [hi]at tJ;obtain⟨b,off,cap,hv⟩:=R4 db aa;have cd:(underlying t).run P w= .ok (.slice e') w:=by simp [underlying,hu]
  refine⟨.pointer (some ⟨b,off+n.toNat*r.sz,none⟩),?_,b,off,cap,by rw [<-hv];exact db,h1,h2,rfl⟩;simp [execOp,ho,hv,tJ.1,Instr.indexAt,asIntOf,cd,h1,h2,aH.size,oT,aU]
 ·rename_i kk hx
  split at h
  ·rename_i wm r ov hf
   rw [aq,bV]at h;obtain⟨aY,⟨h1,h2⟩,h⟩:=h;obtain⟨e',iK,hu,oT,aH⟩:=bW az aY;refine bX h λw0 M0 O w M S' e oo ho hc st he=>?_;have db:=he x (by simp [Op.operands]);have tJ:=he i (by simp [Op.operands]);rw [hx]at db;rw [hi]at tJ;obtain⟨o,g1,g2⟩:=db;obtain⟨⟨o',g3,g4,g5,_,_,g6⟩,_⟩:=st.aZ kk _ (st.fK hc hf g1);obtain rfl:=cC g3 g1;have cd:(underlying t).run P w= .ok (.slice e') w:=by simp [underlying,hu]
   cases hb:o.aZ with
   |none=>simp only [hb]at g6;omega
   |some b=>
    refine⟨.pointer (some ⟨b,n.toNat*o.sz,none⟩),?_,o,b,g1,hb,h1,by rw [g4];exact h2,rfl⟩;have aX:n<(o.len:Int):=by rw [g4];exact h2
    simp [execOp,ho,g2,Sl.val,hb,tJ.1,Instr.indexAt,asIntOf,cd,h1,aX,aH.size,oT,aU,g5]
  ·rename_i r hole hf
   rw [aq,bV]at h;obtain⟨aY,⟨h1,h2⟩,h⟩:=h;obtain⟨e',iK,hu,oT,aH⟩:=bW az aY;refine bX h λw0 M0 O w M S' e oo ho hc st he=>?_;have db:=he x (by simp [Op.operands]);have tJ:=he i (by simp [Op.operands]);rw [hx]at db;rw [hi]at tJ;obtain⟨o,g1,g2⟩:=db;obtain⟨o',rows,g3,g4⟩:=st.aZ kk _ (st.fK hc hf g1);have g1':=g1;rw [oV g3]at g1;cases g1;have g6:=g4.outer;have cd:(underlying t).run P w= .ok (.slice e') w:=by simp [underlying,hu]
   cases hb:o.aZ with
   |none=>simp only [hb]at g6;omega
   |some b=>
    refine⟨.pointer (some ⟨b,n.toNat*o.sz,none⟩),?_,o,b,g1',hb,h1,by rw [g4.len];exact h2,rfl⟩;have aX:n<(o.len:Int):=by rw [g4.len];exact h2
    have bu:o.sz=r.sz:=by rw [g4.Pd,lq g4.rq]
    simp [execOp,ho,g2,Sl.val,hb,tJ.1,Instr.indexAt,asIntOf,cd,h1,aX,aH.size,oT,aU,bu]
  ·rename_i n0 r hf
   rw [aq,bV]at h;obtain⟨aY,⟨h1,h2⟩,h⟩:=h;obtain⟨e',iK,hu,oT,aH⟩:=bW az aY;refine bX h λw0 M0 O w M S' e oo ho hc st he=>?_;have db:=he x (by simp [Op.operands]);have tJ:=he i (by simp [Op.operands]);rw [hx]at db;rw [hi]at tJ;obtain⟨o,g1,g2⟩:=db;obtain⟨o0,cur,g3,g4',_⟩:=st.aZ kk _ (st.fK hc hf g1);have Ji:cur=o:=by rw [mD g3]at g1;exact ajN g1
   rw [Ji]at g4';obtain⟨g4,g5,_,_,g6⟩:=g4';have cd:(underlying t).run P w= .ok (.slice e') w:=by simp [underlying,hu]
   cases hb:o.aZ with
   |none=>simp only [hb]at g6;omega
   |some b=>
    refine⟨.pointer (some ⟨b,n.toNat*o.sz,none⟩),?_,o,b,g1,hb,h1,by rw [g4];exact h2,rfl⟩;have aX:n<(o.len:Int):=by rw [g4];exact h2
    simp [execOp,ho,g2,Sl.val,hb,tJ.1,Instr.indexAt,asIntOf,cd,h1,aX,aH.size,oT,aU,g5]
  ·exact h.elim
 ·rename_i kk off hx
  split at h
  ·rename_i n' e' l hd hf
   rw [aq]at h;obtain⟨hs,⟨h1,h2⟩,h⟩:=h;have h:=BK h aa aa;obtain⟨u,hu,ft,_⟩:=(az.at (t:=t) (.inr (by rw [hd];simp))).under;rw [hd]at ft
   have AK:P.underlying t=some (.array n' e'):=by
    cases u<;>first|(obtain⟨rfl,rfl⟩:=ft;exact hu)|(cases ft;exact hu)|exact ft.elim
   have aH:=az.at (t:=e') (.inl (by rw [aA.1 hs];decide));refine bX h λw0 M0 O w M S' e oo ho hc st he=>?_;have db:=he x (by simp [Op.operands]);have tJ:=he i (by simp [Op.operands]);rw [hx]at db;rw [hi]at tJ;have db:(O kk).bind (b6.ref · off)=some (e x):=db;obtain⟨b,g1,_⟩:=st.aZ kk _ (st.fK hc hf db);have g2:=sw g1 db;have cd:(underlying t).run P w= .ok (.array n' e') w:=by simp [underlying,AK]
   refine⟨.pointer (some ⟨b,off+n.toNat,none⟩),?_,Db (off+n.toNat) g1⟩;simp [execOp,ho,g2,tJ.1,Instr.indexAt,asIntOf,Instr.sureAddr,cd,h1,h2,aH.size,aA.1 hs,aU]
  ·exact h.elim
 ·rename_i kk off hx
  split at h
  ·rename_i n' e' hd
   obtain⟨u,hu,ft,_⟩:=(az.at (t:=t) (.inr (by rw [hd];simp))).under;rw [hd]at ft
   have AK:P.underlying t=some (.array n' e'):=by
    cases u<;>first|(obtain⟨rfl,rfl⟩:=ft;exact hu)|(cases ft;exact hu)|exact ft.elim
   split at h
   ·split at h
    ·rename_i wm l hf
     rw [aq]at h;obtain⟨hs,⟨h0,⟨h1,h2⟩,h3⟩,h⟩:=h;have aH:=az.at (t:=e') (.inl (by rw [aA.1 hs];decide));refine bX h λw0 M0 O w M S' e oo ho hc st he=>?_;have db:=he x (by simp [Op.operands]);have tJ:=he i (by simp [Op.operands]);rw [hx]at db;rw [hi]at tJ;obtain⟨o',b,g1,g2,g3,g4,g5⟩:=db;obtain⟨⟨o2,k1,k2,k3,_⟩,_⟩:=st.aZ kk _ (st.fK hc hf g1);obtain rfl:=cC k1 g1;have cd:(underlying t).run P w= .ok (.array n' e') w:=by simp [underlying,AK]
     have k3:o'.sz=1:=k3;have k2:o'.len=l.length:=k2;subst h0;refine⟨.pointer (some ⟨b,n.toNat*o'.sz,none⟩),?_,o',b,g1,g2,h1,by rw [k2];exact h3,rfl⟩;simp [execOp,ho,g5,tJ.1,Instr.indexAt,asIntOf,Instr.sureAddr,cd,h1,h2,aH.size,aA.1 hs,aU,k3]
    ·exact h.elim
   rw [aq]at h;obtain⟨hs,⟨h1,h2⟩,h⟩:=h;have h:=BK h aa aa;have aH:=az.at (t:=e') (.inl (by rw [aA.1 hs];decide));refine bX h λw0 M0 O w M S' e oo ho hc st he=>?_;have db:=he x (by simp [Op.operands]);have tJ:=he i (by simp [Op.operands]);rw [hx]at db;rw [hi]at tJ;obtain⟨o',b,g1,g2,g3,g4,g5⟩:=db;have cd:(underlying t).run P w= .ok (.array n' e') w:=by simp [underlying,AK]
   refine⟨.pointer (some ⟨b,off.toNat*o'.sz+n.toNat,none⟩),?_,o',b,g1,g2,g3,g4,rfl⟩;simp [execOp,ho,g5,tJ.1,Instr.indexAt,asIntOf,Instr.sureAddr,cd,h1,h2,aH.size,aA.1 hs,aU]
  ·exact h.elim
 ·exact h.elim
theorem IH:∀{l:List AV} {j i:Int} {K:AV->Prop},VL l j i K->∀n:Nat,i=j+n->n<l.length->K (nth l n)
 |[],_,_,_,_,n,_,hn=>by simp at hn
 |a::l,j,i,K,h,0,hi,_=>gO.1 (h.1 aa)
 |a::l,j,i,K,h,n+1,hi,hn=>IH (l:=l) (j:=j+1) h.2 n aa (by simpa using hn)
theorem CQ(az:aR P TY){F:Spec}{t:Nat}{x i:Operand}{T:List AV}{K:AV->Option dQ->Prop}(h:qK TY F d (.index t x i) T S0 K):
  ∃v B,K v B/\QS P d (.index t x i) T S0 v B:=by
 simp only [qK,aD]at h;obtain⟨k,n,hi,h⟩:=dU h;split at h
 ·rename_i l m e' hx hd
  split at h
  ·rename_i hs hz oF
   obtain⟨⟨h1,h2⟩,h⟩:=h;have hu:=hZ az hd;have hz:=aA.1 hz;have aH:=az.at (t:=e') (.inl (by rw [hz];decide));have hlen:=dD hs;refine cw (IH h n.toNat aa aa) λO w M e oo ho he=>?_;have db:=he x (by simp [Op.operands]);have tJ:=he i (by simp [Op.operands]);rw [hx]at db;rw [hi]at tJ;obtain⟨cs,g1,g2⟩:=db;obtain⟨c,g3,g4⟩:=g2.get n.toNat aa;rw [ajt]at g3;have cd:(underlying t).run P w= .ok (.array m e') w:=by simp [underlying,hu]
   have Hi:n<(m:Int):=h2;exact⟨c,by simp [execOp,ho,g1,tJ.1,Instr.index,asIntOf,cd,h1,Hi,part,aH.agg,oF,aH.size,hz,g3],cK g4⟩
  ·exact h.elim
 ·rename_i l hx hd
  obtain⟨⟨h1,h2⟩,h⟩:=h;have hu:=Iy az hd;refine cw h λO w M e oo ho he=>?_;have db:=he x (by simp [Op.operands]);have tJ:=he i (by simp [Op.operands]);rw [hx]at db;rw [hi]at tJ;obtain⟨g1,g2⟩:e x= .string (cv l)/\∀x∈l,cz x:=db;have aX:n.toNat<l.length:=aa;have hm:l.getD n.toNat 0∈l:=by rw [aka,ajP aX];exact List.getElem_mem aX
  obtain⟨g3,g4⟩:0<=l.getD n.toNat 0/\l.getD n.toNat 0<=255:=g2 _ hm;have cd:(underlying t).run P w= .ok .string w:=by simp [underlying,hu]
  have hs:(cv l)[n.toNat]? =some (UInt8.ofNat (l.getD n.toNat 0).toNat):=by
   have hl:n.toNat<(cv l).size:=by rw [rI];exact aX
   rw [getElem?_pos (cv l) n.toNat hl,aka,ajP aX];show some ((cv l).data[n.toNat])=_;simp [cv]
  clear hm;generalize l.getD n.toNat 0=v at g3 g4 hs ⊢;exact⟨.int .u8 v,by simp only [execOp,ho,g1,tJ.1,Instr.index,asIntOf];simp [cd,h1,hs];omega,rfl,by simp [eO,IntKind.min,IntKind.max,IntKind.signed,IntKind.bits];omega⟩
 ·exact h.elim
theorem kD{_n y:Nat}{k:IntKind}{i:Int}{code:BoundsCode}(h0:0<=i)(h1:i<=y)(w:World):(Instr.sliceBound (.int k i) y code).run P w= .ok i.toNat w:=by
 simp [Instr.sliceBound,asIntOf,h0,h1]
theorem MA{lo:Option Operand}{T:List AV}{K:Int->Prop}(h:qK.loK T lo K):
  ∃n,K n/\((lo=none/\n=0)\/∃x k,lo=some x/\aT T x= .int k n):=by
 cases lo with
 |none=>exact⟨0,h,.inl ⟨rfl,rfl⟩⟩
 |some x=>
  simp only [qK.loK,aD]at h;obtain⟨k,n,h1,h2⟩:=dU h;exact⟨n,h2,.inr ⟨x,k,rfl,h1⟩⟩
theorem sm{hi:Option Operand}{T:List AV}{m:Nat}{K:Int->Prop}(h:qK.Jh T hi m K):
  ∃n,K n/\((hi=none/\n=m)\/∃x k,hi=some x/\aT T x= .int k n):=by
 cases hi with
 |none=>exact⟨m,h,.inl ⟨rfl,rfl⟩⟩
 |some x=>
  simp only [qK.Jh,aD]at h;obtain⟨k,n,h1,h2⟩:=dU h;exact⟨n,h2,.inr ⟨x,k,rfl,h1⟩⟩
theorem gL{T:List AV}{e:Operand->Value}{len cap:Nat}{l h:Int}{lo hi:Option Operand}(KV:len<=cap)
  (h1:(lo=none/\l=0)\/∃x k,lo=some x/\aT T x= .int k l) (h2:(hi=none/\h=len)\/∃x k,hi=some x/\aT T x= .int k h)
  (he:∀x,lo=some x\/hi=some x->aC O w M (aT T x) (e x)) (Ha:0<=l) (hlh:l<=h) (hh:h<=len):
  (Instr.sliceBounds true len cap (lo.map e) (hi.map e) none).run P w= .ok (l.toNat,h.toNat,cap) w:=by
 have N4:∀(x:Operand) (k:IntKind) (y:Nat),lo=some x->aT T x= .int k l->h.toNat=y->(Instr.sliceBound (e x) y .sliceB).run P w= .ok l.toNat w:=λx k y h3 h4 h5=>by
  have:=he x (.inl h3);rw [h4]at this;rw [this.1];exact kD (_n:=0) Ha aa w
 rcases h2 with ⟨rfl,rfl⟩|⟨y,k',rfl,hy⟩
 ·rcases h1 with ⟨rfl,rfl⟩|⟨x,k,rfl,hx⟩
  ·simp [Instr.sliceBounds]
  ·simp [Instr.sliceBounds,N4 x k len rfl hx aa]
 ·have EV:=he y (.inr rfl)
  rw [hy]at EV;have hb:=kD (P:=P) (_n:=0) (k:=k') (i:=h) (y:=cap) (code:=.sliceAcap) aa aa w;rcases h1 with ⟨rfl,rfl⟩|⟨x,k,rfl,hx⟩
  ·simp [Instr.sliceBounds,EV.1,hb]
  ·simp [Instr.sliceBounds,EV.1,hb,N4 x k h.toNat rfl hx rfl]
theorem tf(az:aR P TY){F:Spec}{t:Nat}{x:Operand}{lo hi:Option Operand}{T:List AV}{K:AV->Option dQ->Prop}(h:qK TY F d (.slice t x lo hi none) T S0 K):
  ∃v B,K v B/\QS P d (.slice t x lo hi none) T S0 v B:=by
 simp only [qK,aD]at h;split at h
 ·rename_i r hx
  rw [aq,bV]at h;obtain⟨aY,h⟩:=h;obtain⟨l,h,hl⟩:=MA h;obtain⟨m,h,hm⟩:=sm h;obtain⟨⟨⟨h0,h1⟩,h2⟩,h⟩:=h;obtain⟨r',hK,g1,g2,g3⟩:=gM h aa aa;obtain⟨e',iK,hu,oT,aH⟩:=bW az aY;refine cw hK λO w M e oo ho he=>?_;have db:=he x (by simp [Op.operands]);rw [hx]at db;obtain⟨h5,a,cap,hv,dZ,h6⟩:=db;have cd:(underlying t).run P w= .ok (.slice e') w:=by simp [underlying,hu]
  have hb:=gL (P:=P) (O:=O) (w:=w) (M:=M) (T:=T) (e:=e) (l:=l) (h:=m) dZ hl hm (λy hy=>he y (by rcases hy with rfl|rfl<;>simp [Op.operands])) h0 h1 h2;refine⟨.slice (if cap=l.toNat then a else a.map (·.add (l.toNat*r.sz))) (m.toNat - l.toNat) (cap - l.toNat),?_,?_⟩
  ·simp [execOp,ho,hv,Instr.sliceAt,cd,Instr.slice,hb,aH.size,oT]
  ·refine⟨by rw [g1];simp only [LB]at h5 ⊢;omega,_,_,by rw [g1],by rw [g1];omega,?_⟩
   rcases aj1 r'.cells with h7|h7
   ·exact .inl h7
   ·have hlen:0<r'.len:=by
     rcases aj1 r'.len with h8|h8
     ·simp [RO.cells,h8]at h7
     ·exact h8
    rw [g1]at hlen;rcases h6 with h6|⟨b,off,rfl,h6⟩
    ·have:=r.e9
     have:0<r.cells:=Nat.mul_pos aa this;omega
    ·refine .inr ⟨b,off+l.toNat*r.sz,?_,λq hq=>?_⟩
     ·rw [ajm aa];simp [aU]
     ·have aX:l.toNat*r.sz+q<r.cells:=by
       have h8:r'.cells=(m.toNat - l.toNat)*r.sz:=by simp [RO.cells,g1,g2]
       have h9:l.toNat*r.sz+(m.toNat - l.toNat)*r.sz=m.toNat*r.sz:=by rw [<-ake];congr 1;omega
       have cA:m.toNat*r.sz<=r.len*r.sz:=ajO _ aa;simp only [RO.cells]at h8 hq ⊢;omega
      obtain⟨c,h8,h9,cA⟩:=h6 _ aX;rw [<-Nat.add_assoc]at h8 h9;exact⟨c,h8,h9,g3 w M q c hq cA⟩
 ·exact h.elim
theorem EC{e:Operand->Value}{len cap:Nat}{h m:Int}{y z:Operand}{k k':IntKind}(KV:len<=cap)
  (h1:e y= .int k h) (h2:e z= .int k' m) (h0:0<=h) (hm:h=m) (hh:m<=len):
  (Instr.sliceBounds true len cap none (some (e y)) (some (e z))).run P w= .ok (0,h.toNat,m.toNat) w:=by
 have a:=kD (P:=P) (_n:=0) (k:=k') (i:=m) (y:=cap) (code:=.slice3Acap) aa aa w;have b:=kD (P:=P) (_n:=0) (k:=k) (i:=h) (y:=m.toNat) (code:=.slice3B) aa aa w;simp [Instr.sliceBounds,h1,h2,a,b]
theorem qA(az:aR P TY){F:Spec}{t:Nat}{x:Operand}{lo hi:Option Operand}{z:Operand}{T:List AV}{K:AV->Option dQ->Prop}(h:qK TY F d (.slice t x lo hi (some z)) T S0 K):
  ∃v B,K v B/\QS P d (.slice t x lo hi (some z)) T S0 v B:=by
 cases lo with
 |some y=>cases hi<;>exact h.elim
 |none=>
 cases hi with
 |none=>exact h.elim
 |some y=>
 simp only [qK,aD]at h;split at h
 ·rename_i r hx
  rw [aq,bV]at h;obtain⟨aY,h⟩:=h;simp only [qK.Jh,aD]at h;obtain⟨k,hi,hy,h⟩:=dU h;obtain⟨k',mx,hz,h⟩:=dU h;obtain⟨⟨⟨h0,h1⟩,h2⟩,h⟩:=h;obtain⟨r',hK,g1,g2,g3⟩:=gM h aa aa;obtain⟨e',iK,hu,oT,aH⟩:=bW az aY;refine cw hK λO w M e oo ho he=>?_;have db:=he x (by simp [Op.operands]);have rR:=he y (by simp [Op.operands]);have mM:=he z (by simp [Op.operands]);rw [hx]at db;rw [hy]at rR;rw [hz]at mM;obtain⟨h5,a,cap,hv,dZ,h6⟩:=db;have cd:(underlying t).run P w= .ok (.slice e') w:=by simp [underlying,hu]
  have hb:=EC (P:=P) (w:=w) (e:=e) dZ rR.1 mM.1 h0 h1 h2;have n7:r'.len=hi.toNat:=by rw [g1];omega
  refine⟨.slice (if mx.toNat=0 then a else a.map (·.add (0*r.sz))) (hi.toNat - 0) (mx.toNat - 0),?_,?_⟩
  ·simp [execOp,ho,hv,Instr.sliceAt,cd,Instr.slice,hb,aH.size,oT]
  ·refine⟨⟨by rw [n7];simp only [LB]at h5 ⊢;omega,_,_,by rw [n7,Nat.sub_zero],by rw [n7];omega,?_⟩,_,by rw [n7,Nat.sub_zero,Nat.sub_zero,<-h1]⟩
   rcases aj1 r'.cells with h7|h7
   ·exact .inl h7
   ·have hlen:0<r'.len:=by
     rcases aj1 r'.len with h8|h8
     ·simp [RO.cells,h8]at h7
     ·exact h8
    rw [n7]at hlen;rcases h6 with h6|⟨b,off,rfl,h6⟩
    ·have:=r.e9
     have:0<r.cells:=Nat.mul_pos aa this;omega
    ·refine .inr ⟨b,off,?_,λq hq=>?_⟩
     ·rw [ajm aa];simp [aU]
     ·have aX:q<r.cells:=by
       have h8:r'.cells=hi.toNat*r.sz:=by simp only [RO.cells,n7,g2]
       have cA:hi.toNat*r.sz<=r.len*r.sz:=ajO _ aa;simp only [RO.cells]at h8 hq ⊢;omega
      obtain⟨c,h8,h9,cA⟩:=h6 _ aX;refine⟨c,h8,h9,g3 w M q c hq ?_⟩
      simpa using cA
 ·exact h.elim
theorem Sp(a b:Int):(if b>a then b else a)=max a b:=by simp only [gt_iff_lt];split<;>omega
theorem Sq(a b:Int):(if b<a then b else a)=min a b:=by split<;>omega
theorem ED{c:Call}{x y:Operand}(h:c.args.toList=[x,y]):c.args= #[x,y]:=by simpa using ajs List.toArray h
theorem xx{c:Call}{x:Operand}(h:c.args.toList=[x]):c.args= #[x]:=by simpa using ajs List.toArray h
theorem Sr{t ty e:Nat}{a:Option Addr}{n cap:Nat}(hu:P.underlying t=some (.slice e))(w:World):(Builtin.len_ #[t] ty #[.slice a n cap]).run P w= .ok (.int .i64 n) w:=by
 simp [Builtin.len_,underlying,hu,goInt]
theorem BO{n:Nat}(h:n<=LB):eO .i64 (n:Int):=GD aa (by simp only [LB]at h;omega)
theorem x4(az:aR P TY){F:Spec}{c:Call}{b:Builtin}{T:List AV}{K:AV->Option dQ->Prop}(hb:c.callee= .builtin b)(h:qK TY F d (.call c) T S0 K):
  ∃v B,K v B/\QS P d (.call c) T S0 v B:=by
 have GI:∀x∈c.args.toList,x∈(Op.call c).operands:=λx hx=>by simp [Op.operands,Call.operands,hb];exact aj6.1 hx
 simp only [qK,hb]at h;cases b<;>try exact h.elim
 case len=>
  simp only at h;split at h
  ·rename_i x t bw Aq
   have gv:iP TY t=true->∃e,P.underlying t=some (.slice e):=λhs=>by
    unfold iP at hs;split at hs
    ·rename_i e hd;exact⟨e,bY az hd⟩
    ·cases hs
   cases hs:iP TY t with
   |false=>
    rw [hs]at h;cases cX:VK TY t with
    |true=>
     rw [cX]at h;simp only [aD]at h;have xP:c.argTypes= #[t]:=by simpa using ajs List.toArray Aq
     split at h
     ·rename_i l hx
      obtain⟨hle,h⟩:=h;refine bX h λw0 M0 O w M S' e oo ho hc st he=>?_;have hv:=he x (GI x (by rw [bw];simp));rw [hx]at hv;have hu:=Iy az (t:=t) (by unfold VK at cX;split at cX<;>first|assumption|cases cX);refine⟨.int .i64 l.length,?_,rfl,GD aa aa⟩;simp [execOp,ho,resolve,hb,invoke,builtin,xx bw,xP,hv.1,Builtin.len_,underlying,hu,goInt,rI]
     ·exact h.elim
    |false=>
    rw [cX]at h;obtain⟨kt,et,kd,vk,h,hu,hk,z,hz,mM⟩:=qz az h;rw [aD]at h;have xP:c.argTypes= #[t]:=by simpa using ajs List.toArray Aq
    split at h
    ·rename_i k off hx
     split at h
     ·rename_i kd' vk' m hf
      obtain⟨hle,h⟩:=h;refine bX h λw0 M0 O w M S' e oo ho hc st he=>?_;have hv:=he x (GI x (by rw [bw];simp));rw [hx]at hv;have hv:(O k).bind (b6.ref · off)=some (e x):=hv;obtain⟨b,g1,es,n,g2,g3,g4⟩:=st.aZ k _ (st.fK hc hf hv);have hex:=Av g1 hv;have hlen:m.length=es.size:=by rw [g4.length];simp
      refine⟨.int .i64 es.size,?_,by rw [hlen],GD aa aa⟩;simp [execOp,ho,resolve,hb,invoke,builtin,xx bw,xP,hex,Builtin.len_,underlying,hu,MapKept.run_getObj_map g2,goInt]
     ·exact h.elim
    ·exact h.elim
   |true=>
   rw [hs]at h;simp only [aD]at h;obtain⟨e',hu⟩:=gv hs;have xP:c.argTypes= #[t]:=by simpa using ajs List.toArray Aq
   have mI:x∈(Op.call c).operands:=GI x (by rw [bw];simp)
   have fin:∀(w0:World) (M0:eE w0) (O:Env) (w:World) (M:a7) (S':ak) (e:Operand->Value) (oo:Oper) (a:Option Addr) (n cap:Nat),oo.op= .call c->e x= .slice a n cap->(execOp e oo).run P w= .ok (.value (.int .i64 n)) w:=by
    intro w0 M0 O w M S' e oo a n cap ho hv;simp [execOp,ho,resolve,hb,invoke,builtin,xx bw,xP,hv,Sr hu]
   split at h
   ·rename_i r hr
    rw [bV]at h;refine bX h λw0 M0 O w M S' e oo ho hc st he=>?_;have hv:=he x mI;rw [hr]at hv;obtain⟨h5,a,cap,hv,_⟩:=hv;exact⟨_,fin w0 M0 O w M S' e oo a r.len cap ho hv,rfl,BO h5⟩
   ·rename_i hr
    refine bX h λw0 M0 O w M S' e oo ho hc st he=>?_;have hv:=he x mI;rw [hr]at hv;exact⟨_,fin w0 M0 O w M S' e oo none 0 0 ho hv,rfl,kA _⟩
   ·rename_i k hr
    split at h
    ·rename_i wm r ov hf
     rw [bV]at h;refine bX h λw0 M0 O w M S' e oo ho hc st he=>?_;have hv:=he x mI;rw [hr]at hv;obtain⟨o,g1,g2⟩:=hv;obtain⟨⟨o',g3,g4,g5,g6,_⟩,_⟩:=st.aZ k _ (st.fK hc hf g1);obtain rfl:=cC g3 g1;refine⟨_,fin w0 M0 O w M S' e oo _ o.len o.cap ho g2,by rw [g4],BO g6⟩
    ·rename_i r hole hf
     rw [bV]at h;refine bX h λw0 M0 O w M S' e oo ho hc st he=>?_;have hv:=he x mI;rw [hr]at hv;obtain⟨o,g1,g2⟩:=hv;obtain⟨o',rows,g3,g4⟩:=st.aZ k _ (st.fK hc hf g1);rw [oV g3]at g1;cases g1;exact⟨_,fin w0 M0 O w M S' e oo _ o.len o.cap ho g2,by rw [g4.len],BO g4.lb⟩
    ·rename_i n0 r hf
     rw [bV]at h;refine bX h λw0 M0 O w M S' e oo ho hc st he=>?_;have hv:=he x mI;rw [hr]at hv;obtain⟨o,g1,g2⟩:=hv;obtain⟨o0,cur,g3,g4',_⟩:=st.aZ k _ (st.fK hc hf g1);have Ji:cur=o:=by rw [mD g3]at g1;exact ajN g1
     rw [Ji]at g4';obtain⟨g4,g5,g6,_⟩:=g4';refine⟨_,fin w0 M0 O w M S' e oo _ o.len o.cap ho g2,by rw [g4],BO g6⟩
    ·exact h.elim
   ·exact h.elim
  ·exact h.elim
 case max=>
  simp only at h;split at h
  ·rename_i x y bw
   rw [aD,aD]at h;split at h
   ·rename_i k a k' b hx hy
    rw [aq]at h;obtain⟨hk,h⟩:=h;obtain rfl:=b8 hk;refine cw h λO w M e oo ho he=>?_;have h1:=he x (GI x (by rw [bw];simp));have h2:=he y (GI y (by rw [bw];simp));rw [hx]at h1;rw [hy]at h2;refine⟨.int k (max a b),?_,rfl,by obtain⟨_,h3,h4⟩:=h1;obtain⟨_,h5,h6⟩:=h2;exact⟨aa,aa⟩⟩;have:=Sp a b;simp only [gt_iff_lt]at this;simp [execOp,ho,resolve,hb,invoke,builtin,ED bw,h1.1,h2.1,Builtin.max_,Builtin.max2,this]
   ·exact h.elim
  ·exact h.elim
 case min=>
  simp only at h;split at h
  ·rename_i x y bw
   rw [aD,aD]at h;split at h
   ·rename_i k a k' b hx hy
    rw [aq]at h;obtain⟨hk,h⟩:=h;obtain rfl:=b8 hk;refine cw h λO w M e oo ho he=>?_;have h1:=he x (GI x (by rw [bw];simp));have h2:=he y (GI y (by rw [bw];simp));rw [hx]at h1;rw [hy]at h2;refine⟨.int k (min a b),?_,rfl,by obtain⟨_,h3,h4⟩:=h1;obtain⟨_,h5,h6⟩:=h2;exact⟨aa,aa⟩⟩;simp [execOp,ho,resolve,hb,invoke,builtin,ED bw,h1.1,h2.1,Builtin.min_,Builtin.min2,Sq a b]
   ·exact h.elim
  ·exact h.elim
end
def fa(M:a7)(O:Env)(ks:List Nat):a7:=λb off=>M b off/\∀k∈ks,¬hasB O k b
theorem rN:∀(l m:List Nat),BJ l m=l++m
 |[],_=>rfl|_::l,m=>by simp [BJ,rN l m]
theorem mq(w:World)(M:a7)(O:Env)(ks:List Nat):bE w M w (fa M O ks):=λ_ _ _ h h'=>⟨h,λhm=>h' hm.1⟩
section
variable{P:Program}{TY:List cV}{w0 w:World}{M0:eE w0}{O:Env}{M:a7}{S S0:ak}{d:Nat}
theorem xy{k:Nat}{B:dQ}{r:RO}{v:Value}{ks:List Nat}(hk:k∈ks)(hB:eR O w M k B)(hf:oD B=some r)(hv:aJ O w M (.vec k) v):bd w (fa M O ks) r v:=
 rZ (λ_ _ h=>h.1) (λ_ _ h h'=>h'.2 k hk h) hB hf hv
theorem Ss{r r':RO}{o:Sl}{i:Nat}(hs:o.sz=r.sz)(hi:i<=r.len)(h:bd w M r o.val)(g1:r'.len=r.len - i)(g2:r'.sz=r.sz)(g3:∀(w:World) (M:a7) q c,q<r'.cells->(ay w M r (i*r.sz+q) c->ay w M r' q c)):bd w M r' (o.Uz i):=by
 obtain⟨h5,a,cap,hv,dZ,h6⟩:=h;have Xy:(o.aZ.map λb=>(⟨b,0,none⟩:Addr))=a/\o.len=r.len/\o.cap=cap:=by simpa [Sl.val]using hv
 obtain⟨Xy,UC,rfl⟩:=Xy;refine⟨by rw [g1];simp only [LB]at h5 ⊢;omega,_,_,by unfold Sl.Uz;rw [g1,UC,Xy],by rw [g1];omega,?_⟩;rcases aj1 r'.cells with h7|h7
 ·exact .inl h7
 ·have hlen:0<r'.len:=by
   rcases aj1 r'.len with h8|h8
   ·simp [RO.cells,h8]at h7
   ·exact h8
  rw [g1]at hlen;rcases h6 with h6|⟨b,off,rfl,h6⟩
  ·have:=r.e9
   have:0<r.cells:=Nat.mul_pos aa this;omega
  ·refine .inr ⟨b,off+i*r.sz,?_,λq hq=>?_⟩
   ·rw [ajm aa,hs];simp [aU]
   ·have aX:i*r.sz+q<r.cells:=by
     have h8:r'.cells=(r.len - i)*r.sz:=by simp [RO.cells,g1,g2]
     have h9:i*r.sz+(r.len - i)*r.sz=r.len*r.sz:=by rw [<-ake];congr 1;omega
     simp only [RO.cells]at h8 hq ⊢;omega
    obtain⟨c,h8,h9,cA⟩:=h6 _ aX;rw [<-Nat.add_assoc]at h8 h9;exact⟨c,h8,h9,g3 w M q c hq cA⟩
theorem CA{R R':AV->Value->Prop}{m:List Value}(h:aM R [] m):aM R' [] m:=by cases m<;>exact h
theorem tK{a:AV}{K:AV->List Nat->Prop}(h:Er S a K):
  ∃a' ks,K a' ks/\(∀k∈ks,∃B r,an S k=some B/\oD B=some r)/\((∀l,a'≠.agg l)/\∀l,a'≠.cL l)/\
   ∀(O:Env) (w:World) (M:a7),(∀k B,an S k=some B->(O k).isSome->eR O w M k B)->∀ks' v,(∀k∈ks,k∈ks')->
    (aJ O w M a v->aJ bh w (fa M O ks') a' v)/\(aC O w M a v->aC bh w (fa M O ks') a' v):=by
 cases a with
 |vec k=>
  simp only [Er]at h
  have go:∀B r,an S k=some B->oD B=some r->K (.ro r) [k]->∃a' ks,K a' ks/\(∀k∈ks,∃B r,an S k=some B/\oD B=some r)/\((∀l,a'≠.agg l)/\∀l,a'≠.cL l)/\
   ∀(O:Env) (w:World) (M:a7),(∀k B,an S k=some B->(O k).isSome->eR O w M k B)->∀ks' v,(∀k∈ks,k∈ks')->
    (aJ O w M (.vec k) v->aJ bh w (fa M O ks') a' v)/\(aC O w M (.vec k) v->aC bh w (fa M O ks') a' v):=λB r hf hr h=>by
   refine⟨_,_,h,λj hj=>by simp at hj;subst hj;exact⟨B,r,hf,hr⟩,by simp,λO w M hB ks' v BX=>?_⟩;have hk:=BX k (by simp);exact⟨λhv=>xy hk (hB k _ hf (by obtain⟨o,h1,_⟩:=hv;exact kB h1)) hr hv,λhv=>xy hk (hB k _ hf (by obtain⟨o,h1,_⟩:=hv;exact kB h1)) hr hv⟩
  split at h
  ·rename_i wm r hf
   exact go _ r hf rfl h
  ·rename_i r hf
   exact go _ r hf rfl h
  ·exact h.elim
 |gD k i=>
  simp only [Er]at h;split at h
  ·rename_i wm r hf
   rw [bV]at h;obtain⟨hi,h⟩:=h;obtain⟨r',h,g1,g2,g3⟩:=gM h hi (ajl _);refine⟨_,_,h,λj hj=>by simp at hj;subst hj;exact⟨_,r,hf,rfl⟩,by simp,λO w M hB ks' v BX=>?_⟩;have hk:=BX k (by simp)
   have main:aJ O w M (.gD k i) v->aJ bh w (fa M O ks') (.ro r') v:=λhv=>by
    obtain⟨o,h1,h2,h3,rfl⟩:=hv;have hb:=hB k _ hf (kB h1);have hr:=xy (v:=o.val) hk hb rfl ⟨o,h1,rfl⟩;obtain⟨⟨o',k2,k3,k4,_⟩,_⟩:=hb;obtain rfl:=cC k2 h1;exact Ss k4 hi hr g1 g2 g3
   exact⟨main,main⟩
  ·exact h.elim
 |int k n=>exact⟨_,_,h,by simp,by simp,λO w M _ ks' v _=>⟨id,id⟩⟩
 |bool e=>exact⟨_,_,h,by simp,by simp,λO w M _ ks' v _=>⟨id,id⟩⟩
 |ro r=>exact⟨_,_,h,by simp,by simp,λO w M _ ks' v _=>⟨λhv=>bd.keep (mq _ _ _ _) hv,λhv=>bd.keep (mq _ _ _ _) hv⟩⟩
 |ar=>exact⟨_,_,h,by simp,by simp,λO w M _ ks' v _=>⟨id,id⟩⟩
 |bO=>exact⟨_,_,h,by simp,by simp,λO w M _ ks' v _=>⟨id,id⟩⟩
 |any=>exact⟨_,_,h,by simp,by simp,λO w M _ ks' v _=>⟨id,id⟩⟩
 |str l=>exact⟨_,_,h,by simp,by simp,λO w M _ ks' v _=>⟨id,id⟩⟩
 |eZ r i=>refine⟨_,_,h,by simp,by simp,λO w M _ ks' v _=>⟨λhv=>?_,λhv=>?_⟩⟩<;>(obtain⟨b,off,cap,h1,h2⟩:=hv;exact⟨b,off,cap,h1.keep (mq _ _ _ _),h2⟩)
 |uD f r i=>refine⟨_,_,h,by simp,by simp,λO w M _ ks' v _=>⟨λhv=>?_,λhv=>?_⟩⟩<;>(obtain⟨b,off,cap,h1,h2⟩:=hv;exact⟨b,off,cap,h1.keep (mq _ _ _ _),h2⟩)
 |fn f l=>
  cases l with
  |nil=>exact⟨_,_,h,by simp,by simp,λO w M _ ks' v _=>⟨id,λ⟨cs,h1,h2⟩=>⟨cs,h1,CA h2⟩⟩⟩
  |cons=>exact h.elim
 |_=>exact h.elim
theorem tL:∀{l:List AV} {K:List AV->List Nat->Prop},OI S l K->
  ∃l' ks,K l' ks/\(∀k∈ks,∃B r,an S k=some B/\oD B=some r)/\
   ∀(O:Env) (w:World) (M:a7),(∀k B,an S k=some B->(O k).isSome->eR O w M k B)->∀ks' vs,(∀k∈ks,k∈ks')->aM (aJ O w M) l vs->aM (aJ bh w (fa M O ks')) l' vs
 |[],_,h=>⟨[],[],h,by simp,λ_ _ _ _ _ vs _ hv=>by cases vs<;>exact hv⟩
 |a::l,K,h=>by
  obtain⟨a',ks,h1,h2,_,h3⟩:=tK h;obtain⟨l',ks2,h4,h5,h6⟩:=tL h1;refine⟨_,_,h4,λk hk=>?_,λO w M hB ks' vs BX hv=>?_⟩
  ·rw [rN]at hk
   rcases ajK.1 hk with hk|hk
   ·exact h2 k hk
   ·exact h5 k hk
  ·cases vs with
   |nil=>exact hv.elim
   |cons v vs=>
    rw [rN]at BX;exact⟨(h3 O w M hB ks' v λk hk=>BX k (ajK.2 (.inl hk))).1 hv.1,h6 O w M hB ks' vs (λk hk=>BX k (ajK.2 (.inr hk))) hv.2⟩
theorem fG:∀{l:List AV} {K:List AV->List Nat->Prop},tG S l K->
  ∃l' ks,K l' ks/\(∀k∈ks,∃B r,an S k=some B/\oD B=some r)/\
   ∀(O:Env) (w:World) (M:a7),(∀k B,an S k=some B->(O k).isSome->eR O w M k B)->∀ks' vs,(∀k∈ks,k∈ks')->aM (aC O w M) l vs->aM (aC bh w (fa M O ks')) l' vs
 |[],_,h=>⟨[],[],h,by simp,λ_ _ _ _ _ vs _ hv=>by cases vs<;>exact hv⟩
 |a::l,K,h=>by
  have go:∃a' ks,(tG S l λl' ks'=>K (a'::l') (BJ ks ks'))/\(∀k∈ks,∃B r,an S k=some B/\oD B=some r)/\
    ∀(O:Env) (w:World) (M:a7),(∀k B,an S k=some B->(O k).isSome->eR O w M k B)->∀ks' v,(∀k∈ks,k∈ks')->aC O w M a v->aC bh w (fa M O ks') a' v:=by
   cases a with
   |agg m=>
    obtain⟨m',ks,h1,h2,h3⟩:=tL h;exact⟨_,_,h1,h2,λO w M hB ks' v BX ⟨cs,h4,h5⟩=>⟨cs,h4,h3 O w M hB ks' _ BX h5⟩⟩
   |_=>
    simp only [tG]at h;obtain⟨a',ks,h1,h2,_,h3⟩:=tK h;exact⟨_,_,h1,h2,λO w M hB ks' v BX hv=>(h3 O w M hB ks' v BX).2 hv⟩
  obtain⟨a',ks,h1,h2,h3⟩:=go;obtain⟨l',ks2,h4,h5,h6⟩:=fG h1;refine⟨_,_,h4,λk hk=>?_,λO w M hB ks' vs BX hv=>?_⟩
  ·rw [rN]at hk
   rcases ajK.1 hk with hk|hk
   ·exact h2 k hk
   ·exact h5 k hk
  ·cases vs with
   |nil=>exact hv.elim
   |cons v vs=>
    rw [rN]at BX;exact⟨h3 O w M hB ks' v (λk hk=>BX k (ajK.2 (.inl hk))) hv.1,h6 O w M hB ks' vs (λk hk=>BX k (ajK.2 (.inr hk))) hv.2⟩
theorem fi{a:Act}:∀{ks:List Nat} {T:List AV} {S:ak} {O:Env} {M:a7} {K:List AV->ak->Prop},iG ks T S K->St M0 O M S w->Tm O w M T a->
  ∃T' S' O' M',K T' S'/\St M0 O' M' S' w/\Tm O' w M' T' a/\T'.length=T.length/\∀b off,M' b off↔fa M O ks b off
 |[],T,S,O,M,K,h,st,tm=>⟨T,S,O,M,h,st,tm,rfl,λb off=>⟨λh=>⟨h,λk hk=>by cases hk⟩,λh=>h.1⟩⟩
 |k::ks,T,S,O,M,K,h,st,tm=>by
  simp only [iG]at h;split at h
  ·rename_i hf
   obtain⟨T',S',O',M',h1,h2,h3,h4,h5⟩:=fi h st tm;refine⟨T',S',O',M',h1,h2,h3,h4,λb off=>?_⟩;rw [h5 b off]
   have hn:O k=none:=by
    have:=st.gq k;rw [hf]at this;cases hρ:O k with|none=>rfl|some o=>rw [hρ]at this;cases this
   refine⟨λhm=>⟨hm.1,λj hj=>?_⟩,λhm=>⟨hm.1,λj hj=>hm.2 j (ajj _ hj)⟩⟩;rcases ajo.1 hj with rfl|hj
   ·simp [hasB,hn]
   ·exact hm.2 j hj
  ·obtain⟨B,r,hf,T1,S1,h1,h2,h3,h4,_⟩:=qu h st tm
   obtain⟨T',S',O',M',h5,h6,h7,h8,h9⟩:=fi h1 h2 h3;refine⟨T',S',O',M',h5,h6,h7,h8.trans h4,λb off=>?_⟩;rw [h9 b off]
   constructor
   ·intro hm
    refine⟨hm.1.1,λj hj=>?_⟩;rcases ajo.1 hj with rfl|hj
    ·exact hm.1.2
    ·intro hb
     by_cases dL:j=k
     ·subst dL;exact hm.1.2 hb
     ·exact hm.2 j hj (by simpa [hasB,aV,dL]using hb)
   ·intro hm
    refine⟨⟨hm.1,hm.2 k (by simp)⟩,λj hj hb=>?_⟩
    by_cases dL:j=k
    ·subst dL;simp [hasB,aV]at hb
    ·exact hm.2 j (ajj _ hj) (by simpa [hasB,aV,dL]using hb)
def Flat:RO->Prop
 |.ints _ _=>True|.aI _=>True|.aW _=>True|.fb _ _ _=>True|.strs _=>True|.dS _=>True|_=>False
theorem KD{w w':World}{M M':a7}{r:RO}(hr:Flat r){q:Nat}{c:Value}(h:ay w M r q c):ay w' M' r q c:=by
 cases r<;>first|exact h|exact hr.elim
theorem St.take{w':World}{o:Sl}{r:RO}(st:St M0 O M S w')(hd:an S d=none)(hV:fp bh w' M o 0 r [])(hb:∀b,o.aZ=some b->∀k,¬hasB O k b)(Mt:∀b,o.aZ=some b->w0.heap.size<=b)(fV:loc d=true):
  St M0 (λk=>if k=d then some (.sl o) else O k) M ((d,.vec 0 r [])::S) w':=by
 have TJ:O d=none:=by
  have:=st.gq d;rw [hd]at this;cases h:O d with|none=>rfl|some o=>rw [h]at this;cases this
 have fk:∀k o',O k=some o'->(λk=>if k=d then some (b6.sl o) else O k) k=some o':=λk o' h=>by
  have:k≠d:=λe=>by subst e;rw [TJ]at h;cases h
  simp [this,h]
 have hold:∀k b,k≠d->hasB (λk=>if k=d then some (b6.sl o) else O k) k b->hasB O k b:=λk b hk h=>by simpa [hasB,hk]using h
 refine⟨λk=>?_,λk B hB=>?_,λi j b hi hj=>?_,st.mlt,st.lS,st.sub,st.eI,λk b BW=>?_,λk o' hk ho=>?_⟩
 ·by_cases oG:k=d
  ·subst oG;simp [aF]
  ·simp [oG,aF,Ne.symm oG,st.gq k]
 ·by_cases oG:k=d
  ·subst oG
   simp only [aF,if_true]at hB;cases hB;refine⟨⟨o,by simp,?_⟩,.inl rfl⟩;obtain⟨h3,h4,h5,h6,h7⟩:=hV;refine⟨h3,h4,h5,h6,?_⟩;cases fB:o.aZ with
   |none=>simp only [fB]at h7 ⊢;exact h7
   |some b=>simp only [fB]at h7 ⊢;exact h7
  ·simp only [aF,Ne.symm oG,if_false]at hB
   exact eR.ext (bE.refl _ _) fk (λb hb=>⟨rfl,λ_=>Iff.rfl⟩) (st.aZ k B hB)
 ·by_cases uq:i=d
  ·by_cases Ot:j=d
   ·rw [uq,Ot]
   ·subst uq
    simp [hasB,b6.has]at hi;exact absurd (hold j b Ot hj) (hb b hi j)
  ·by_cases Ot:j=d
   ·subst Ot
    simp [hasB,b6.has]at hj;exact absurd (hold i b uq hi) (hb b hj i)
   ·exact st.inj _ _ _ (hold i b uq hi) (hold j b Ot hj)
 ·by_cases oG:k=d
  ·subst oG
   exact .inl (Mt b (by simpa [hasB,b6.has]using BW))
  ·exact st.fresh k b (hold k b oG BW)
 ·by_cases oG:k=d
  ·subst oG;rw [fV]at hk;cases hk
  ·exact st.tV k o' hk (by simpa [oG]using ho)
theorem pv{a:AV}{m:List AV}(h:x7 a=0):pq (a::m)=pq m:=by simp [pq,h]
theorem AE{a:AV}{v:Value}{w':World}{M' M2:a7}(hn:x7 a=0)(hk:bE w' M' w' M2)(h:lz w w' M' a v):cx O w' M2 a v:=by
 cases a with
 |new r=>cases hn
 |_=>simp only [lz]at h;exact cx.keep hk (λk o ho=>by cases ho) h
theorem nO{w':World}{M' M2:a7}{a:Act}(ES:w0.heap.size<=w.heap.size)(hk:bE w' M' w' M2)(jb:∀b off,w.heap.size<=b->(M2 b off↔M' b off)):
  ∀{l:List AV} {vs:List Value} {T:List AV} {S:ak} {O:Env} {K:List AV->List AV->ak->Prop},IF d l T S K->pq l<=1->aM (lz w w' M') l vs->
   St M0 O M2 S w'->Tm O w' M2 T a->(∀k b,hasB O k b->b<w.heap.size)->
   ∃m T' S' O' M3,K m T' S'/\St M0 O' M3 S' w'/\Tm O' w' M3 T' a/\T'.length=T.length/\aM (cx O' w' M3) m vs/\bE w' M2 w' M3
 |[],vs,T,S,O,K,h,_,hv,st,tm,_=>⟨[],T,S,O,M2,h,st,tm,rfl,by cases vs<;>exact hv,bE.refl _ _⟩
 |x::l,[],T,S,O,K,h,_,hv,st,tm,_=>hv.elim
 |x::l,v::vs,T,S,O,K,h,hn,hv,st,tm,aX=>by
  cases x with
  |new r=>
   obtain⟨T',S',h1,h2,h3,h4,h5,fV⟩:=lY (k:=d) h st tm;obtain⟨o,rfl,hV,rS⟩:=hv.1;have X5:pq l=0:=by simp only [pq,x7]at hn;omega
   have hV':fp bh w' (dB M2 O d) o 0 r []:=by
    obtain⟨g3,g4,g5,g6,g7⟩:=hV;refine⟨g3,g4,g5,g6,?_⟩;cases fB:o.aZ with
    |none=>simp only [fB]at g7 ⊢;exact g7
    |some b=>
     simp only [fB]at g7 ⊢;obtain⟨g8,cs,ty,g9,g10,g11,g12⟩:=g7;have FC:=rS b fB;have bn:¬hasB O d b:=λe=>by have:=aX _ _ e;omega
     refine⟨g8,cs,ty,g9,g10,λoff=>?_,λq hq=>?_⟩
     ·rw [<-g11 off]
      exact⟨λhm=>(jb b off FC).1 hm.1,λhm=>⟨(jb b off FC).2 hm,bn⟩⟩
     ·obtain⟨c,g13,g14⟩:=g12 q hq
      exact⟨c,g13,(g14.keep hk).keep (jg _ _ _ _)⟩
   have cX:=h2.take (d:=d) h5 hV' (λb fB k BW=>by
    have FC:=rS b fB
    by_cases oG:k=d
    ·subst oG;simp [hasB,aV]at BW
    ·have:=aX k b (by simpa [hasB,aV,oG]using BW);omega) (λb fB=>ajW ES (rS b fB)) fV
   have fk:∀k o',aV O d k=some o'->(λk=>if k=d then some (b6.sl o) else aV O d k) k=some o':=λk o' oC=>by
    have:k≠d:=λe=>by subst e;simp [aV]at oC
    simp [this,oC]
   refine⟨_,T',_,_,_,h1,cX,⟨h3.defers,h3.size,λi=>aC.keep (bE.refl _ _) fk (h3.tmp i)⟩,h4,⟨⟨o,(by simp [b6.yM]:(if d=d then some (b6.sl o) else aV O d d).bind b6.yM=some o),rfl⟩,?_⟩,jg _ _ _ _⟩
   have rest:∀{l:List AV} {vs:List Value},pq l=0->aM (lz w w' M') l vs->aM (cx (λk=>if k=d then some (b6.sl o) else aV O d k) w' (dB M2 O d)) l vs:=by
    intro l
    induction l with
    |nil=>intro vs _ hv;cases vs<;>exact hv
    |cons y l ih=>
     intro vs hn hv;cases vs with
     |nil=>exact hv.elim
     |cons u vs=>
      have hy:x7 y=0:=by
       cases hy:x7 y with
       |zero=>rfl
       |succ n=>simp [pq,hy]at hn
      rw [pv hy]at hn;exact⟨cx.keep (jg _ _ _ _) (λk o ho=>by cases ho) (AE (O:=bh) hy hk hv.1),ih hn hv.2⟩
   exact rest X5 hv.2
  |_=>
   simp only [IF]at h;rw [pv rfl]at hn;obtain⟨m,T',S',O',M3,h1,h2,h3,h4,h5,h6⟩:=nO ES hk jb h hn hv.2 st tm aX;exact⟨_,T',S',O',M3,h1,h2,h3,h4,⟨cx.keep h6 (λk o ho=>by cases ho) (AE (O:=bh) rfl hk hv.1),h5⟩,h6⟩
theorem tM{w':World}{M' M2:a7}{a:Act}(ES:w0.heap.size<=w.heap.size)(hk:bE w' M' w' M2)(jb:∀b off,w.heap.size<=b->(M2 b off↔M' b off))
  {x:AV} {v:Value} {T:List AV} {S:ak} {O:Env} {K:AV->List AV->ak->Prop} (h:o3 d x T S K) (hn:news x<=1) (hv:AF w w' M' x v)
  (st:St M0 O M2 S w') (tm:Tm O w' M2 T a) (aX:∀k b,hasB O k b->b<w.heap.size):
  ∃y T' S' O' M3,K y T' S'/\St M0 O' M3 S' w'/\Tm O' w' M3 T' a/\T'.length=T.length/\aC O' w' M3 y v:=by
 cases x with
 |cL l=>
  obtain⟨cs,rfl,bU⟩:=hv;obtain⟨m,T',S',O',M3,h1,h2,h3,h4,h5,_⟩:=nO ES hk jb h hn bU st tm aX;exact⟨_,T',S',O',M3,h1,h2,h3,h4,cs,rfl,h5⟩
 |new r=>
  obtain⟨m,T',S',O',M3,h1,h2,h3,h4,h5,_⟩:=nO (d:=d) (K:=λm T S=>match m with|[.vec j]=>K (.vec j) T S|_=>False) (l:=[.new r]) (vs:=[v]) ES hk jb (show iV d T S _ from h) (by simp [pq,x7]) ⟨hv,ag⟩ st tm aX
  match m,h1,h5 with
  |[.vec j],h1,h5=>exact⟨.vec j,T',S',O',M3,h1,h2,h3,h4,h5.1⟩
 |_=>
  simp only [o3]at h;have h:=gO.1 h;simp only [AF]at hv;exact⟨_,T,S,O,M2,h,st,tm,rfl,aC.keep hk (λk o ho=>by cases ho) hv⟩
theorem xz{l:List AV}{vs:List Value}{w w':World}{M' M2:a7}(jb:∀b off,w.heap.size<=b->(M2 b off↔M' b off))(hs:tH l=true)(h:aM (lz w w' M') l vs):aM (lz w w' M2) l vs:=by
 induction l generalizing vs with
 |nil=>cases vs<;>exact h
 |cons a l ih=>
  cases vs with
  |nil=>exact h.elim
  |cons v vs=>
   simp only [tH]at hs;cases ha:Es a with
   |false=>rw [ha]at hs;cases hs
   |true=>
    rw [ha]at hs;refine⟨?_,ih hs h.2⟩;have h1:=h.1;cases a with
    |int k n=>exact h1
    |bool e=>exact h1
    |ar=>exact h1
    |bO=>exact h1
    |any=>exact h1
    |str l=>exact h1
    |new r=>
     obtain⟨o,h2,⟨g3,g4,g5,g6,g7⟩,rS⟩:=h1;refine⟨o,h2,⟨g3,g4,g5,g6,?_⟩,rS⟩;cases fB:o.aZ with
     |none=>simp only [fB]at g7 ⊢;exact g7
     |some b=>
      simp only [fB]at g7 ⊢;obtain⟨g8,cs,ty,g9,g10,g11,g12⟩:=g7;have YE:Flat r:=by cases r<;>first|trivial|cases ha
      exact⟨g8,cs,ty,g9,g10,λoff=>(jb b off (rS b fB)).trans (g11 off),λq hq=>by obtain⟨c,g13,g14⟩:=g12 q hq;exact⟨c,g13,KD YE g14⟩⟩
    |_=>cases ha
theorem KE{l:List AV}{vs:List Value}{w':World}{M' M2:a7}{O O':Env}(hs:tH l=true)(h:aM (aJ O w' M') l vs):aM (aJ O' w' M2) l vs:=by
 induction l generalizing vs with
 |nil=>cases vs<;>exact h
 |cons a l ih=>
  cases vs with
  |nil=>exact h.elim
  |cons v vs=>
   simp only [tH]at hs;cases ha:Es a with
   |false=>rw [ha]at hs;cases hs
   |true=>
    rw [ha]at hs;refine⟨?_,ih hs h.2⟩;have h1:=h.1;cases a with
    |int k n=>exact h1
    |bool e=>exact h1
    |ar=>exact h1
    |bO=>exact h1
    |any=>exact h1
    |str l=>exact h1
    |new r=>exact h1.elim
    |_=>cases ha
theorem C5{ret:AV}{v:Value}{w w':World}{M' M2:a7}(jb:∀b off,w.heap.size<=b->(M2 b off↔M' b off))(hs:safe ret=true)(h:AF w w' M' ret v):AF w w' M2 ret v:=by
 cases ret with
 |cL l=>obtain⟨cs,h1,h2⟩:=h;exact⟨cs,h1,xz jb hs h2⟩
 |agg l=>obtain⟨cs,h1,h2⟩:=h;exact⟨cs,h1,KE hs h2⟩
 |int k n=>exact h
 |bool e=>exact h
 |ar=>exact h
 |bO=>exact h
 |any=>exact h
 |str l=>exact h
 |new r=>exact(xz (l:=[.new r]) (vs:=[v]) jb (by have hs:Es (.new r)=true:=hs;simp [tH,hs]) ⟨h,ag⟩).1
 |_=>cases hs
theorem nk{F:Spec}(hF:ck P F){f:FuncId}{as:List AV}{T:List AV}{K:AV->List AV->ak->Prop}(h:vM F d f as T S K):eJ P f:=by
 obtain⟨as',ks,⟨as2,ret,hf,_⟩,_⟩:=fG h;exact(hF.q f as2 ret hf).1
theorem tN{ks:List Nat}{ret:AV}{T:List AV}{K:AV->List AV->ak->Prop}{a:Act}{w':World}{u:Value}
  (h:OJ d ks ret T S K) (st:St M0 O M S w) (tm:Tm O w M T a) (hs:gH (λ_ _=>False) w w') (pw:FI (fa M O ks) w w' ret u):
  ∃O' M' T' S' v,K v T' S'/\St M0 O' M' S' w'/\Tm O' w' M' T' a/\T'.length=T.length/\aC O' w' M' v u:=by
 unfold OJ at h;rw [aq]at h;obtain⟨hn,h⟩:=h;rw [Nat.ble_eq]at hn;obtain⟨M'',hold,aX,pw⟩:=pw;have mL:∀k b,hasB O k b->b<w.heap.size:=λk b hk=>e8 st hk
 have goA:safe ret=true->o3 d ret T S K->∃O' M' T' S' v,K v T' S'/\St M0 O' M' S' w'/\Tm O' w' M' T' a/\T'.length=T.length/\aC O' w' M' v u:=by
  intro vR h
  let M2:a7:=λb off=>(b<w.heap.size/\M b off)\/(w.heap.size<=b/\M'' b off)
  have Mr:∀b off,b<w.heap.size->(M2 b off↔M b off):=λb off hb=>⟨λhm=>hm.elim (λh=>h.2) (λh=>absurd h.1 aa),λhm=>.inl ⟨hb,hm⟩⟩;have Ms:∀b off,w.heap.size<=b->(M2 b off↔M'' b off):=λb off hb=>⟨λhm=>hm.elim (λh=>absurd h.1 aa) (λh=>h.2),λhm=>.inr ⟨hb,hm⟩⟩
  obtain⟨st',hk⟩:=st.same hs Mr (λb off hm=>by
   rcases hm with hm|hm
   ·exact ajT hm.1 hs.1
   ·exact aX b off hm.2)
  have tm':Tm O w' M2 T a:=⟨tm.defers,tm.size,λi=>aC.keep hk (λ_ _ h=>h) (tm.tmp i)⟩;obtain⟨y,T',S',O',M3,h1,h2,h3,h4,h5⟩:=tM st.lS.1 (bE.refl w' M2) (λ_ _ _=>Iff.rfl) h hn (C5 Ms vR pw) st' tm' mL;exact⟨O',M3,T',S',y,h1,h2,h3,h4,h5⟩
 have goB:∀{T1:List AV} {S1:ak} {ρ1:Env} {M1:a7},St M0 ρ1 M1 S1 w->Tm ρ1 w M1 T1 a->(∀b off,M1 b off↔fa M O ks b off)->o3 d ret T1 S1 K->
   ∃O' M' T' S' v,K v T' S'/\St M0 O' M' S' w'/\Tm O' w' M' T' a/\T'.length=T1.length/\aC O' w' M' v u:=by
  intro T1 S1 ρ1 M1 st1 tm1 KM h;obtain⟨st',hk⟩:=st1.same (M':=M'') hs (λb off hb=>(hold b off hb).trans (KM b off).symm) aX;have tm':Tm ρ1 w' M'' T1 a:=⟨tm1.defers,tm1.size,λi=>aC.keep hk (λ_ _ h=>h) (tm1.tmp i)⟩;obtain⟨y,T',S',O',M3,h1,h2,h3,h4,h5⟩:=tM st.lS.1 (bE.refl w' M'') (λ_ _ _=>Iff.rfl) h hn pw st' tm' (λk b hk=>e8 st1 hk);exact⟨O',M3,T',S',y,h1,h2,h3,h4,h5⟩
 cases vR:safe ret with
 |true=>
  rw [vR]at h;exact goA vR (by cases ks<;>exact h)
 |false=>
  rw [vR]at h;cases ks with
  |nil=>exact goB st tm (λb off=>⟨λhm=>⟨hm,λk hk=>by cases hk⟩,λhm=>hm.1⟩) h
  |cons k0 ks0=>
   obtain⟨T1,S1,ρ1,M1,h1,h2,h3,h4,h5⟩:=fi h st tm;obtain⟨O',M',T',S',v,g1,g2,g3,g4,g5⟩:=goB h2 h3 h5 h1;exact⟨O',M',T',S',v,g1,g2,g3,g4.trans h4,g5⟩
theorem s9{F:Spec}(hF:ck P F){f:FuncId}{as:List AV}{T:List AV}{K:AV->List AV->ak->Prop}{vs:List Value}{a:Act}
  (h:vM F d f as T S K) (st:St M0 O M S w) (tm:Tm O w M T a) (hv:aM (aC O w M) as vs):
  Calls P f vs.toArray w λe w'=>∃u,e= .returned u/\∃O' M' T' S' v,K v T' S'/\St M0 O' M' S' w'/\Tm O' w' M' T' a/\T'.length=T.length/\aC O' w' M' v u:=by
 obtain⟨as',ks,⟨as2,ret,hf,bw,h⟩,BX,bg⟩:=fG h;have Xn:=oa bw (bg O w M (λk B h _=>st.aZ k B h) ks vs (λk hk=>hk) hv);exact((hF.q f as2 ret hf).2 (fa M O ks) w vs (M0.hw w st.lS) (λb off hm=>st.mlt b off hm.1) Xn).mono λe w' ⟨u,he,hs,pw⟩=>⟨u,he,tN h st tm hs pw⟩
theorem uf{F:Spec}(hF:ck P F){f:FuncId}{as:List AV}{T:List AV}{K:AV->List AV->ak->Prop}(h:GB F d f as T S K):eJ P f:=by
 obtain⟨as',ks,⟨X,as2,out,ok,hf,_⟩,_⟩:=fG h;exact(hF.e f as2 X out ok hf).1
theorem Ay{F:Spec}(hF:ck P F){f:FuncId}{as:List AV}{T:List AV}{K:AV->List AV->ak->Prop}{vs:List Value}{a:Act}
  (h:GB F d f as T S K) (st:St M0 O M S w) (tm:Tm O w M T a) (hv:aM (aC O w M) as vs):
  Calls P f vs.toArray w λe w'=>∃u,e= .returned u/\∃O' M' T' S' v,K v T' S'/\St M0 O' M' S' w'/\Tm O' w' M' T' a/\T'.length=T.length/\aC O' w' M' v u:=by
 obtain⟨as',ks,⟨X,as2,out,ok,hf,bw,h⟩,BX,bg⟩:=fG h;have Xn:=oa bw (bg O w M (λk B h _=>st.aZ k B h) ks vs (λk hk=>hk) hv);exact((hF.e f as2 X out ok hf).2 (fa M O ks) w vs (M0.hw w st.lS) (λb off hm=>st.mlt b off hm.1) Xn).mono λe w' ⟨x,hx,u,he,hs,pw⟩=>⟨u,he,tN (h x hx) st tm hs pw⟩
end
theorem YF{a b:Nat}(h:nb a b=true):a≠b:=λe=>by subst e;simp [nb]at h
structure View(O O':Env):Prop where
 yM:∀j o,(O j).bind b6.yM=some o->(O' j).bind b6.yM=some o
 ref:∀j off v,(O j).bind (b6.ref · off)=some v->(O' j).bind (b6.ref · off)=some v
section
variable{P:Program}{TY:List cV}{w0 w:World}{M0:eE w0}{O O':Env}{M:a7}{S S0:ak}{d:Nat}
theorem aJ.view(hv:View O O'){a:AV}{v:Value}(h:aJ O w M a v):aJ O' w M a v:=by
 cases a with
 |vec k=>obtain⟨o,h1,h2⟩:=h;exact⟨o,hv.yM _ _ h1,h2⟩
 |ptr k off=>exact hv.ref _ _ _ h
 |dY k i=>obtain⟨o,b,h1,h2⟩:=h;exact⟨o,b,hv.yM _ _ h1,h2⟩
 |gA k i j=>obtain⟨o,b,h1,h2⟩:=h;exact⟨o,b,hv.yM _ _ h1,h2⟩
 |gD k i=>obtain⟨o,h1,h2⟩:=h;exact⟨o,hv.yM _ _ h1,h2⟩
 |fn f l=>cases l<;>exact h
 |_=>exact h
theorem cx.view(hv:View O O'){a:AV}{v:Value}(h:cx O w M a v):cx O' w M a v:=by
 cases a with
 |agg l=>obtain⟨cs,h1,h2⟩:=h;exact⟨cs,h1,h2.imp λ_ _=>aJ.view hv⟩
 |any=>trivial
 |_=>simp only [cx]at h ⊢;exact aJ.view hv h
theorem aC.view(hv:View O O'){a:AV}{v:Value}(h:aC O w M a v):aC O' w M a v:=by
 cases a with
 |agg l=>obtain⟨cs,h1,h2⟩:=h;exact⟨cs,h1,h2.imp λ_ _=>aJ.view hv⟩
 |cL l=>obtain⟨cs,h1,h2⟩:=h;exact⟨cs,h1,h2.imp λ_ _=>cx.view hv⟩
 |fn f l=>obtain⟨cs,h1,h2⟩:=h;exact⟨cs,h1,h2.imp λ_ _=>aJ.view hv⟩
 |any=>trivial
 |_=>simp only [aC]at h ⊢;exact aJ.view hv h
theorem fp.view(hv:View O O'){o:Sl}{wm:Nat}{r:RO}{ov:List (Int × Nat)}(h:fp O w M o wm r ov):fp O' w M o wm r ov:=by
 obtain⟨h3,h4,h5,h6,h7⟩:=h;refine⟨h3,h4,h5,h6,?_⟩;cases fB:o.aZ with
 |none=>simp only [fB]at h7 ⊢;exact h7
 |some b=>
  simp only [fB]at h7 ⊢;obtain⟨h8,cs,ty,h9,cA,oP,oQ⟩:=h7;refine⟨h8,cs,ty,h9,cA,oP,λq hq=>?_⟩;obtain⟨c,xg,mg⟩:=oQ q hq;refine⟨c,xg,?_⟩;split
  ·exact mg
  ·simp only at mg
   split at mg
   ·rename_i he;simp only [he,if_true];exact aJ.view hv mg
   ·rename_i he;simp only [he,if_false];exact mg
theorem fp.env{o:Sl}{wm:Nat}{r:RO}(h:fp O w M o wm r []):fp O' w M o wm r []:=
 fp.Je (bE.refl _ _) (λ_ _=>⟨rfl,λ_=>Iff.rfl⟩) h
theorem eR.view(hv:View O O'){k:Nat}(hk:O' k=O k){B:dQ}(h:eR O w M k B):eR O' w M k B:=by
 cases B with
 |box l=>obtain⟨b,h2,cs,ty,h3,h4,h5⟩:=h;exact⟨b,by rw [hk];exact h2,cs,ty,h3,h4,h5.imp λ_ _=>aJ.view hv⟩
 |map kd vk m=>obtain⟨b,h2,h3⟩:=h;exact⟨b,by rw [hk];exact h2,h3⟩
 |deep r hole=>obtain⟨o,rows,h2,h3⟩:=h;exact⟨o,rows,by rw [hk];exact h2,h3⟩
 |dK n r=>obtain⟨o,cur,h2,h3,h4⟩:=h;exact⟨o,cur,by rw [hk];exact h2,h3.view hv,h4⟩
 |mA n z=>obtain⟨o,h2,h3⟩:=h;exact⟨o,by rw [hk];exact h2,h3⟩
 |vec wm r ov=>obtain⟨⟨o,h2,h3⟩,ig⟩:=h;exact⟨⟨o,by rw [hk];exact h2,h3.view hv⟩,ig⟩
theorem tO(rows:List Sl)(i q:Nat)(x:Sl):(rows.set i x).getD q cG=if q=i/\i<rows.length then x else rows.getD q cG:=by
 simp only [List.getD,List.getElem?_set]
 by_cases h:i=q
 ·subst h
  by_cases hl:i<rows.length
  ·simp [hl]
  ·simp [hl]
 ·simp [h,Ne.symm h]
theorem Mi{r:RO}{i:Int}{K:RO->Prop}(h:OK r i K):K (r.row i.toNat):=by cases r<;>first|exact h|exact h.elim
theorem EG{r s:RO}{i:Int}{K:RO->Prop}(hq:nL r=true)(h:setRow r i s K):∃r',K r'/\r'.len=r.len/\nL r'=true/\(i.toNat<r.len->r'.row i.toNat=s)/\∀q,q≠i.toNat->r'.row q=r.row q:=by
 cases r<;>cases s<;>first|exact h.elim|(cases hq;done)|skip
 case rows.ints k l k' m=>
  simp only [setRow,aq]at h;obtain⟨hk,h⟩:=h;obtain rfl:=b8 hk
  exact⟨_,h,by simp [RO.len],rfl,λhi=>by simp only [RO.len]at hi;simp only [RO.row,bc _ _ _ _ _ hi,if_true],λq hq=>by
   simp only [RO.row,List.getD,akv (Ne.symm hq)]⟩
 case bC.aI l m=>
  exact⟨_,h,by simp [RO.len],rfl,λhi=>by simp only [RO.len]at hi;simp only [RO.row,bc _ _ _ _ _ hi,if_true],λq hq=>by
   simp only [RO.row,List.getD,akv (Ne.symm hq)]⟩
 case bH.rows l k' m=>
  cases k'<;>try exact h.elim
  exact⟨_,h,by simp [RO.len],rfl,λhi=>by simp only [RO.len]at hi;simp only [RO.row,bc _ _ _ _ _ hi,if_true],λq hq=>by
   simp only [RO.row,List.getD,akv (Ne.symm hq)]⟩
theorem St.Qs{k d:Nat}{r:RO}{i:Int}{S':ak}{o:Sl}{rows:List Sl}(st:St M0 O M S w)(hd:an S d=none)(fV:loc d=true)(L9:loc k=true)(hρ:O k=some (.dp o rows))(hD:o4 w M o rows r none)(hi:0<=i/\i<r.len)
  (hf:an S k=some (.deep r none)) (hS:∀j,an S' j=if j=d then some (.vec 0 (r.row i.toNat) []) else if j=k then some (.deep r (some i)) else an S j):
  ∃O',St M0 O' M S' w/\View O O'/\aJ O' w M (.vec d) (rows.getD i.toNat cG).val:=by
 have bD:i.toNat<r.len:=aa
 have TJ:O d=none:=by
  have:=st.gq d;rw [hd]at this;cases h:O d with|none=>rfl|some o=>rw [h]at this;cases this
 have Z8:d≠k:=λe=>by subst e;rw [hρ]at TJ;cases TJ
 let O':Env:=λj=>if j=d then some (.sl (rows.getD i.toNat cG)) else if j=k then some (.dp o (rows.set i.toNat cG)) else O j
 have e1:O' d=some (.sl (rows.getD i.toNat cG)):=by simp [O']
 have e2:O' k=some (.dp o (rows.set i.toNat cG)):=by simp [O',Ne.symm Z8]
 have e3:∀j,j≠d->j≠k->O' j=O j:=λj h1 h2=>by simp [O',h1,h2]
 have hv:View O O':=⟨λj o' h=>by
   by_cases hj:j=d
   ·subst hj;rw [TJ]at h;cases h
   ·by_cases dL:j=k
    ·subst dL;rw [oV hρ]at h;rw [oV e2];exact h
    ·rw [e3 j hj dL];exact h,λj off v h=>by
   by_cases hj:j=d
   ·subst hj;rw [TJ]at h;cases h
   ·by_cases dL:j=k
    ·subst dL;rw [hρ]at h;cases h
    ·rw [e3 j hj dL];exact h⟩
 have eY:∀q,(rows.set i.toNat cG).getD q cG=if q=i.toNat then cG else rows.getD q cG:=λq=>by
  rw [tO]
  by_cases hq:q=i.toNat
  ·simp [hq,hD.Gx,bD]
  ·simp [hq]
 have own:∀j b,hasB O' j b->(j=d/\(rows.getD i.toNat cG).aZ=some b)\/(j=k/\(o.aZ=some b\/∃q,q≠i.toNat/\(rows.getD q cG).aZ=some b))\/(j≠d/\j≠k/\hasB O j b):=λj b h=>by
  by_cases hj:j=d
  ·subst hj;simp only [hasB,e1,b6.has]at h;exact .inl ⟨rfl,h⟩
  ·by_cases dL:j=k
   ·subst dL
    simp only [hasB,e2,b6.has]at h;refine .inr (.inl ⟨rfl,h.imp id λ⟨q,hq⟩=>⟨q,?_⟩⟩);rw [eY]at hq;split at hq
    ·cases hq
    ·rename_i bn;exact⟨bn,hq⟩
   ·simp only [hasB,e3 j hj dL]at h;exact .inr (.inr ⟨hj,dL,h⟩)
 have toK:∀b,(o.aZ=some b\/∃q,(rows.getD q cG).aZ=some b)->hasB O k b:=λb h=>by simp only [hasB,hρ];exact h
 have eI:∀j b,hasB O' j b->∃j',hasB O j' b:=λj b h=>by
  rcases own j b h with ⟨_,h⟩|⟨_,h|⟨q,_,h⟩⟩|⟨_,_,h⟩
  ·exact⟨k,toK b (.inr ⟨_,h⟩)⟩
  ·exact⟨k,toK b (.inl h)⟩
  ·exact⟨k,toK b (.inr ⟨q,h⟩)⟩
  ·exact⟨j,h⟩
 refine⟨O',⟨λj=>?_,λj B hB=>?_,λj j' b hj mC=>?_,st.mlt,st.lS,st.sub,st.eI,λj b h=>?_,λj o' hl ho=>?_⟩,hv,⟨_,iR e1,rfl⟩⟩
 ·rw [hS j]
  by_cases hj:j=d
  ·simp [hj,e1]
  ·by_cases dL:j=k
   ·simp [dL,e2,Ne.symm Z8]
   ·simp [hj,dL,e3 j hj dL,st.gq j]
 ·rw [hS j]at hB
  by_cases hj:j=d
  ·simp only [hj,if_true,Option.some.injEq]at hB
   subst hB;subst hj;exact⟨⟨_,e1,(hD.row _ bD (by simp)).env⟩,.inl rfl⟩
  ·by_cases dL:j=k
   ·subst dL
    simp only [hj,if_false,if_true,Option.some.injEq]at hB;subst hB;refine⟨o,_,e2,hD.rq,hD.len,hD.Pd,hD.lb,by simp [hD.Gx],?_,λq hq hh=>?_,λx hx=>?_,λq b h=>?_,λq q' b h h'=>?_⟩
    ·have h7:=hD.outer
     cases hb:o.aZ with
     |none=>simp only [hb]at h7 ⊢;exact h7
     |some b=>
      simp only [hb]at h7 ⊢;obtain⟨h8,cs,ty,h9,cA,oP,oQ⟩:=h7;refine⟨h8,cs,ty,h9,cA,oP,λq hq=>?_⟩;obtain⟨c,xg,mg⟩:=oQ q hq;refine⟨c,xg,?_⟩;rw [eY]
      by_cases pV:q=i.toNat
      ·exact .inl (by rw [pV];congr 1;omega)
      ·simp only [pV,if_false]
       exact .inr (mg.resolve_left (by simp))
    ·rw [eY,ajm (λe=>hh (by rw [e];congr 1;omega))]
     exact hD.row q hq (by simp)
    ·cases hx;exact⟨hi,by rw [eY];simp [cG]⟩
    ·rw [eY]at h
     split at h
     ·cases h
     ·exact hD.out q b h
    ·rw [eY]at h h'
     split at h
     ·cases h
     ·split at h'
      ·cases h'
      ·exact hD.apart q q' b h h'
   ·simp only [hj,dL,if_false]at hB
    exact(st.aZ j B hB).view hv (e3 j hj dL)
 ·rcases own j b hj with ⟨g1,g2⟩|⟨g1,g2⟩|⟨g1,g1',g2⟩<;>rcases own j' b mC with ⟨g3,g4⟩|⟨g3,g4⟩|⟨g3,g3',g4⟩
  ·rw [g1,g3]
  ·rcases g4 with g4|⟨q,g4,g5⟩
   ·exact absurd g4 (hD.out _ _ g2)
   ·exact absurd (hD.apart _ _ _ g5 g2) g4
  ·exact absurd (st.inj _ _ _ g4 (toK b (.inr ⟨_,g2⟩))) g3'
  ·rcases g2 with g2|⟨q,g2,g5⟩
   ·exact absurd g2 (hD.out _ _ g4)
   ·exact absurd (hD.apart _ _ _ g5 g4) g2
  ·rw [g1,g3]
  ·exact absurd (st.inj _ _ _ g4 (toK b (g2.imp id λ⟨q,_,h⟩=>⟨q,h⟩))) g3'
  ·exact absurd (st.inj _ _ _ g2 (toK b (.inr ⟨_,g4⟩))) g1'
  ·exact absurd (st.inj _ _ _ g2 (toK b (g4.imp id λ⟨q,_,h⟩=>⟨q,h⟩))) g1'
  ·exact st.inj _ _ _ g2 g4
 ·obtain⟨j',h'⟩:=eI j b h
  exact st.fresh j' b h'
 ·by_cases hj:j=d
  ·subst hj;rw [fV]at hl;cases hl
  ·by_cases dL:j=k
   ·subst dL;rw [L9]at hl;cases hl
   ·rw [e3 j hj dL]at ho;exact st.tV j o' hl ho
theorem GJ{k:Nat}{T:List AV}{a:Act}{K:List AV->ak->Prop}
  (h:lh S k λS=>c6 k .any T λT=>cf k .any S λS=>K T S) (st:St M0 O M S w) (tm:Tm O w M T a):
  ∃T' S',K T' S'/\St M0 (aV O k) M S' w/\Tm (aV O k) w M T' a/\T'.length=T.length/\an S' k=none:=by
 obtain⟨S1,h1,xN⟩:=gK h;obtain⟨T',h2,hlen,hT⟩:=fT h1;obtain⟨S',h3,Hf⟩:=fU h2;have m8:Conv k .any O w M (aV O k) w M:=⟨bE.refl _ _,λj hj o ho=>by simpa [aV,hj]using ho,λv hv=>aJ.aO hv⟩
 have dF:an S' k=none:=by
  have:=Hf k;rw [xN k]at this;simpa using this
 have hb:∀x b,hasB (aV O k) x b->hasB O x b:=λx b hx=>by
  by_cases kU:x=k
  ·subst kU;simp [hasB,aV]at hx
  ·simpa [hasB,aV,kU]using hx
 refine⟨T',S',h3,⟨λj=>?_,λj B hB=>?_,λi j b hi hj=>st.inj _ _ _ (hb _ _ hi) (hb _ _ hj),st.mlt,st.lS,st.sub,st.eI,λx b hx=>st.fresh x b (hb _ _ hx),λx o hx ho=>?_⟩,
  ⟨tm.defers,by rw [hlen];exact tm.size,λi=>hT _ _ _ _ _ _ m8 (λv hv=>⟨ag,ag⟩) i _ (tm.tmp i)⟩,hlen,dF⟩
 ·by_cases hj:j=k
  ·subst hj;simp [aV,dF]
  ·have:=Hf j
   rw [xN j]at this;simp only [hj,if_false]at this;simp only [aV,hj,if_false,st.gq j];cases hf:an S j with
   |none=>simp only [hf]at this;simp [this]
   |some B=>simp only [hf]at this;obtain⟨B',h4,_⟩:=this;simp [h4]
 ·have hj:j≠k:=λe=>by subst e;rw [dF]at hB;cases hB
  have:=Hf j;rw [xN j]at this;simp only [hj,if_false]at this;cases hf:an S j with
  |none=>simp only [hf]at this;rw [this]at hB;cases hB
  |some B0=>
   simp only [hf]at this;obtain⟨B',h4,h5⟩:=this;rw [h4]at hB;cases hB;exact h5 O w M _ _ j m8 (by simp [aV,hj]) (λb hb off=>Iff.rfl) (st.aZ j B0 hf)
 ·by_cases kU:x=k
  ·subst kU;simp [aV]at ho
  ·exact st.tV x o hx (by simpa [aV,kU]using ho)
theorem St.putRow{k b:Nat}{r r' s:RO}{i:Int}{S':ak}{o oh:Sl}{rows:List Sl}{cs cs':Array Value}{ty:TypeId}(st:St M0 O M S w)(L9:loc k=true)(hρ:O k=some (.dp o rows))(hD:o4 w M o rows r (some i))
  (hV:fp bh w M oh 0 s []) (th:∀b,oh.aZ=some b->∀j,¬hasB O j b) (Mt:∀b,oh.aZ=some b->w0.heap.size<=b\/M0.pe b)
  (u5:r'.len=r.len) (sZ:nL r'=true) (hr3:r'.row i.toNat=s) (hr4:∀q,q≠i.toNat->r'.row q=r.row q)
  (hS:∀j,an S' j=if j=k then some (.deep r' none) else an S j) (hSk:(an S k).isSome)
  (rS:o.aZ=some b) (bU:w.heap[b]? =some (.cells cs ty (0,0))) (bu:cs'.size=cs.size) (hc:∀q,cs'[q]? =if q=i.toNat then some oh.val else cs[q]?):
  ∃O',St M0 O' M S' (w.setRow b cs')/\View O O'/\bE w M (w.setRow b cs') M:=by
 obtain⟨hi,afH⟩:=hD.M4 i rfl;have bD:i.toNat<r.len:=aa
 have hMb:∀off,M b off↔off<cs.size:=by
  have h7:=hD.outer;simp only [rS]at h7;obtain⟨h8,cs0,ty0,h9,cA,oP,oQ⟩:=h7;rw [bU]at h9;cases h9;exact oP
 have oK:i.toNat<cs.size:=by
  have h7:=hD.outer;simp only [rS]at h7;obtain⟨h8,cs0,ty0,h9,cA,oP,oQ⟩:=h7;rw [bU]at h9;cases h9;have:=hD.len;omega
 have JE:hasB O k b:=by simp [hasB,hρ,b6.has,rS]
 have kK:gH (λb' off=>b'=b/\M b' off) w (w.setRow b cs'):=by
  refine⟨by simp [World.setRow],λb' cy=>?_,kg.refl _⟩
  by_cases he:b'=b
  ·subst he
   refine .inr (.inl ⟨cs,cs',ty,bU,setRow_heap w b' cs cs' ty _ bU,bu,λoff hn=>?_⟩);rw [hc off,ajm];rintro rfl;exact hn ⟨rfl,(hMb _).2 oK⟩
  ·exact .inl (setRow_other w b b' cs' he)
 have hk:bE w M (w.setRow b cs') M:=(kK.weaken (M2:=M) λb' off h=>h.2).keep λb off _ h=>h
 let O':Env:=λj=>if j=k then some (.dp o (rows.set i.toNat oh)) else O j
 have e2:O' k=some (.dp o (rows.set i.toNat oh)):=by simp [O']
 have e3:∀j,j≠k->O' j=O j:=λj h2=>by simp [O',h2]
 have hv:View O O':=⟨λj o' h=>by
   by_cases dL:j=k
   ·subst dL;rw [oV hρ]at h;rw [oV e2];exact h
   ·rw [e3 j dL];exact h,λj off v h=>by
   by_cases dL:j=k
   ·subst dL;rw [hρ]at h;cases h
   ·rw [e3 j dL];exact h⟩
 have eY:∀q,(rows.set i.toNat oh).getD q cG=if q=i.toNat then oh else rows.getD q cG:=λq=>by
  rw [tO]
  by_cases hq:q=i.toNat
  ·simp [hq,hD.Gx,bD]
  ·simp [hq]
 have bn:∀q b',q≠i.toNat->(rows.getD q cG).aZ=some b'->b'≠b:=λq b' _ h e=>hD.out q b' h (e▸rS);have ohne:oh.aZ≠some b:=λe=>th b e k JE
 have own:∀j b',hasB O' j b'->(j=k/\(oh.aZ=some b'\/hasB O k b'))\/(j≠k/\hasB O j b'):=λj b' h=>by
  by_cases dL:j=k
  ·subst dL
   simp only [hasB,e2,b6.has]at h;refine .inl ⟨rfl,?_⟩;rcases h with h|⟨q,h⟩
   ·exact .inr (by simp only [hasB,hρ];exact .inl h)
   ·rw [eY]at h
    split at h
    ·exact .inl h
    ·exact .inr (by simp only [hasB,hρ];exact .inr ⟨q,h⟩)
  ·simp only [hasB,e3 j dL]at h;exact .inr ⟨dL,h⟩
 have OK:∀{o':Sl} {s':RO},o'.aZ≠some b->fp bh w M o' 0 s' []->fp bh (w.setRow b cs') M o' 0 s' []:=λ{o' s'} bn h=>
  h.Je hk λb' cy=>⟨setRow_other w b b' cs' λe=>bn (e▸cy),λ_=>Iff.rfl⟩
 refine⟨O',⟨λj=>?_,λj B hB=>?_,λj j' b' hj mC=>?_,λb' off hm=>ajT (st.mlt b' off hm) kK.1,?_,st.sub,st.eI,λj b' h=>?_,λj o' hl ho=>?_⟩,hv,hk⟩
 ·rw [hS j]
  by_cases dL:j=k
  ·simp [dL,e2]
  ·simp [dL,e3 j dL,st.gq j]
 ·rw [hS j]at hB
  by_cases dL:j=k
  ·subst dL
   simp only [if_true,Option.some.injEq]at hB;subst hB;refine⟨o,_,e2,sZ,by rw [u5];exact hD.len,hD.Pd,by rw [u5];exact hD.lb,by simp [hD.Gx,u5],?_,λq hq hh=>?_,λx hx=>by (cases hx),λq b' h=>?_,λq q' b' h h'=>?_⟩
   ·have h7:=hD.outer
    simp only [rS]at h7 ⊢;obtain⟨h8,cs0,ty0,h9,cA,oP,oQ⟩:=h7;rw [bU]at h9;cases h9;refine⟨h8,cs',ty,setRow_heap w b cs cs' ty _ bU,by rw [bu];exact cA,λoff=>by rw [bu];exact oP off,λq hq=>?_⟩;rw [u5]at hq;obtain⟨c,xg,mg⟩:=oQ q hq
    by_cases pV:q=i.toNat
    ·exact⟨oh.val,by rw [hc,ajq pV],.inr (by rw [eY,ajq pV])⟩
    ·refine⟨c,by rw [hc,ajm pV];exact xg,.inr ?_⟩
     rw [eY,ajm pV];exact mg.resolve_left λe=>pV (by cases e;simp)
   ·rw [eY]
    by_cases pV:q=i.toNat
    ·rw [ajq pV,pV,hr3];exact OK ohne hV
    ·rw [ajm pV,hr4 q pV]
     rw [u5]at hq;exact OK (λe=>bn q b pV e rfl) (hD.row q hq λe=>pV (by cases e;simp))
   ·rw [eY]at h
    split at h
    ·exact λe=>th b' h j (by simp only [hasB,hρ];exact .inl e)
    ·exact hD.out q b' h
   ·rw [eY]at h h'
    split at h<;>split at h'
    ·rename_i g1 g2;rw [g1,g2]
    ·exact absurd (by simp only [hasB,hρ];exact .inr ⟨q',h'⟩) (th b' h j)
    ·exact absurd (by simp only [hasB,hρ];exact .inr ⟨q,h⟩) (th b' h' j)
    ·exact hD.apart q q' b' h h'
  ·simp only [dL,if_false]at hB
   refine eR.ext hk (λ_ _ h=>h) (λb' cy=>⟨setRow_other w b b' cs' λe=>dL ?_,λ_=>Iff.rfl⟩) ((st.aZ j B hB).view hv (e3 j dL));have:hasB O j b':=by simpa only [hasB,e3 j dL]using cy
   exact st.inj _ _ b (e▸this) JE
 ·rcases own j b' hj with ⟨g1,g2⟩|⟨g1,g2⟩<;>rcases own j' b' mC with ⟨g3,g4⟩|⟨g3,g4⟩
  ·rw [g1,g3]
  ·rcases g2 with g2|g2
   ·exact absurd g4 (th _ g2 _)
   ·exact absurd (st.inj _ _ _ g4 g2) g3
  ·rcases g4 with g4|g4
   ·exact absurd g2 (th _ g4 _)
   ·exact absurd (st.inj _ _ _ g2 g4) g1
  ·exact st.inj _ _ _ g2 g4
 ·exact st.lS.trans kK (λb' off cy he=>by obtain⟨rfl,hm⟩:=he;exact⟨(st.fresh k b' JE).resolve_left (Nat.not_le_of_lt cy),st.sub b' off cy hm⟩)
 ·rcases own j b' h with ⟨_,g2|g2⟩|⟨_,g2⟩
  ·exact Mt b' g2
  ·exact st.fresh _ b' g2
  ·exact st.fresh _ b' g2
 ·by_cases dL:j=k
  ·subst dL;rw [L9]at hl;cases hl
  ·rw [e3 j dL]at ho;exact st.tV j o' hl ho
end
theorem lW{v:Value}(h:aO v):v.oneCell'=true:=by cases v<;>first|rfl|exact h.elim
section
variable{P:Program}{TY:List cV}{w0 w:World}{M0:eE w0}{O:Env}{M:a7}{S S0:ak}{d:Nat}
theorem gW{b:Nat}{cs cs':Array Value}{ty:TypeId}(bU:w.heap[b]? =some (.cells cs ty (0,0)))(bu:cs'.size=cs.size)(o5:∀off,¬M b off->cs'[off]? =cs[off]?):gH M w (w.setRow b cs'):=by
 refine⟨by simp [World.setRow],λb' cy=>?_,kg.refl _⟩
 by_cases he:b'=b
 ·subst he;exact .inr (.inl ⟨cs,cs',ty,bU,setRow_heap w b' cs cs' ty _ bU,bu,o5⟩)
 ·exact .inl (setRow_other w b b' cs' he)
theorem St.write{k b:Nat}{cs cs':Array Value}{ty:TypeId}{B B':dQ}{S':ak}(st:St M0 O M S w)(hf:an S k=some B)(hb:hasB O k b)
  (bU:w.heap[b]? =some (.cells cs ty (0,0))) (bu:cs'.size=cs.size) (o5:∀off,¬M b off->cs'[off]? =cs[off]?)
  (hB:bE w M (w.setRow b cs') M->eR O (w.setRow b cs') M k B') (hS:∀j,an S' j=if j=k then some B' else an S j):
  St M0 O M S' (w.setRow b cs')/\bE w M (w.setRow b cs') M:=by
 have kK:=gW bU bu o5;have hk:bE w M (w.setRow b cs') M:=kK.keep λb off _ h=>h;refine⟨⟨λj=>?_,λj C hC=>?_,st.inj,λb off hm=>ajT (st.mlt b off hm) kK.1,st.lS.trans (gW (M:=λb' off=>b'=b/\M b' off) bU bu λoff hn=>o5 off λhm=>hn ⟨rfl,hm⟩) (λb' off cy he=>by obtain⟨rfl,hm⟩:=he;exact⟨(st.fresh k b' hb).resolve_left (Nat.not_le_of_lt cy),st.sub b' off cy hm⟩),st.sub,st.eI,st.fresh,st.tV⟩,hk⟩
 ·rw [hS j,st.gq j]
  by_cases hj:j=k
  ·subst hj;simp [hf]
  ·simp [hj]
 ·rw [hS j]at hC
  by_cases hj:j=k
  ·subst hj;simp at hC;subst hC;exact hB hk
  ·simp only [hj,if_false]at hC
   refine eR.ext hk (λ_ _ h=>h) (λb' cy=>⟨setRow_other w b b' cs' λe=>hj (st.inj _ _ b (e▸cy) hb),λ_=>Iff.rfl⟩) (st.aZ j C hC)
theorem iC{t b o:Nat}{cs:Array Value}{ty:TypeId}{u:Value}(aH:iU P t (au TY t))(bu:u.cells.size=(au TY t).sz)(bU:w.heap[b]? =some (.cells cs ty (0,0)))
  (ho:o+u.cells.size<=cs.size) (hc:∀(j:Nat) (c:Value),u.cells[j]? =some c->aO c):
  (Instr.storeAt t (.pointer (some ⟨b,o,none⟩)) u).run P w= .ok () (w.setRow b (cs.toList.take o++u.cells.toList++cs.toList.drop (o+u.cells.size)).toArray):=by
 have h:=run_storeCells_at P b o ty u.cells.toList 0 cs w bU (by simpa using ho) (λv hv=>by
  obtain⟨j,hj⟩:=List.mem_iff_getElem?.1 hv;exact lW (hc j v (by rw [<-ajt];exact hj)))
 simp only [akb,ajw]at h;simp [Instr.storeAt,Instr.sureAddr,storeVar,aH.size,bu];rw [<-bu]
 simpa using h
theorem mr{l m:List Value}{o q:Nat}(ho:o+m.length<=l.length):(l.take o++m++l.drop (o+m.length))[q]? =if o<=q/\q<o+m.length then m[q - o]? else l[q]? :=by
 by_cases h1:q<o
 ·rw [ajm aa,ajI (by simp;omega),ajI (by simp;omega),akm,ajq h1]
 ·by_cases h2:q<o+m.length
  ·rw [ajq ⟨aa,h2⟩,ajI (by simp;omega),aj2 (by simp;omega)]
   congr 1;simp;omega
  ·rw [ajm aa,aj2 (by simp;omega),akt]
   congr 1;simp;omega
theorem CT(az:aR P TY){F:Spec}{t:Nat}{x y:Operand}{T:List AV}{K:AV->List AV->ak->Prop}{a:Act}{oo:Oper}(h:xW TY F d (.store t x y) T S K)
  (ho:oo.op= .store t x y) (st:St M0 O M S w) (tm:Tm O w M T a):
  fj P (execOp a.eval oo) w λu w'=>∃O' M' T' S' v,K v T' S'/\St M0 O' M' S' w'/\Tm O' w' M' T' a/\T'.length=T.length/\aC O' w' M' v u:=by
 simp only [xW,bS,aD]at h;have hx:=a8 tm x;have hy:=a8 tm y;generalize hu:a.eval y=u at hy;generalize aT T y=v at h hy;split at h
 ·
  rename_i k i kU;rw [kU]at hx;split at h
  ·rename_i wm r ov hf
   rw [aq]at h;obtain⟨aY,SF,h⟩:=h;obtain⟨o,b,g1,g2,g3,g4,g5⟩:=hx;obtain⟨⟨o',g6,g7,g8,g9,g10,g11⟩,ig⟩:=st.aZ k _ hf;obtain rfl:=cC g6 g1;have g1:=g6;simp only [g2]at g11;obtain⟨g12,cs,ty,g13,g14,g15,g16⟩:=g11;obtain⟨hs,oF⟩:=gN aY;have aH:=az.at (t:=t) (.inl (by rw [hs];exact Nat.ne_of_gt r.e9));have KF:i.toNat<r.len:=aa
   have ku:i.toNat*o.sz+r.sz<=cs.size:=by
    rw [g14,g8];have h1:(i.toNat+1)*r.sz<=o.cap*r.sz:=ajO _ aa;rw [ake,Nat.one_mul]at h1;exact h1
   have VS:∀j,j<r.sz->M b (i.toNat*o.sz+j):=λj hj=>by
    rw [g15];refine⟨?_,aa⟩;rw [g8];have h1:wm*r.sz<=i.toNat*r.sz:=ajO _ aa;omega
   have fin:∀(B':dQ) (S':ak),u.cells.size=r.sz->(∀(j:Nat) (c:Value),u.cells[j]? =some c->aO c)->(∀j,an S' j=if j=k then some B' else an S j)->
     (∀cs',cs'.size=cs.size->(∀q,cs'[q]? =if i.toNat*o.sz<=q/\q<i.toNat*o.sz+r.sz then u.cells[q - i.toNat*o.sz]? else cs[q]?)->bE w M (w.setRow b cs') M->eR O (w.setRow b cs') M k B')->
     K .any T S'->fj P (execOp a.eval oo) w λu w'=>∃O' M' T' S' v,K v T' S'/\St M0 O' M' S' w'/\Tm O' w' M' T' a/\T'.length=T.length/\aC O' w' M' v u:=by
    intro B' S' xO YG hS hB hK;have aN:=iC (P:=P) (TY:=TY) (t:=t) (b:=b) (o:=i.toNat*o.sz) (u:=u) aH (by rw [xO,hs]) g13 (by rw [xO];exact ku) YG
    let cs':=(cs.toList.take (i.toNat*o.sz)++u.cells.toList++cs.toList.drop (i.toNat*o.sz+u.cells.size)).toArray
    have eY:∀q,cs'[q]? =if i.toNat*o.sz<=q/\q<i.toNat*o.sz+r.sz then u.cells[q - i.toNat*o.sz]? else cs[q]? :=λq=>by
     have:=mr (l:=cs.toList) (m:=u.cells.toList) (o:=i.toNat*o.sz) (q:=q) (by simp [xO];exact ku);simp only [ajw,ajt,xO]at this;simp only [cs',List.getElem?_toArray,xO];exact this
    have bu:cs'.size=cs.size:=by simp [cs',xO];omega
    have hw:=st.write (k:=k) (cs':=cs') hf (by simp [hasB,g1,b6.has,g2]) g13 bu (λoff hn=>by
     rw [eY off,ajm];intro hh;have:=VS (off - i.toNat*o.sz) aa;rw [show i.toNat*o.sz+(off - i.toNat*o.sz)=off from by omega]at this;exact hn this) (hB cs' bu eY) hS
    refine .inr (.inl ⟨w.setRow b cs',?_,O,M,T,S',.any,hK,hw.1,⟨tm.defers,tm.size,λj=>aC.keep hw.2 (λ_ _ h=>h) (tm.tmp j)⟩,rfl,ag⟩);simp [execOp,ho,g5,hu,aN,cs']
   unfold OL at h;split at h
   ·
    rename_i k';split at h
    ·rename_i wm' s Qh
     rw [aq,aq]at h;obtain⟨BS,Fg,h⟩:=h;have Fg:=aA.1 Fg;subst Fg;obtain⟨S',hK,hS⟩:=cO h;rw [hf]at hS;have AA:=Gr BS;obtain⟨ok',g17,rfl⟩:=hy
     refine fin _ S' (by rw [AA];rfl) (λj c hj=>by
      rcases j with _|j
      ·simp [Sl.val,Value.cells]at hj;subst hj;trivial
      ·simp [Sl.val,Value.cells]at hj) (λj=>by rw [hS j];rfl) (λcs' qx eY Pc=>?_) hK
     refine⟨⟨o,g1,g7,g8,g9,ajk _,?_⟩,.inr ⟨i,k',rfl,BS,rfl,g3,aa⟩⟩;simp only [g2];refine⟨g12,cs',ty,setRow_heap w b cs cs' ty _ g13,by rw [qx];exact g14,λoff=>by rw [qx];exact g15 off,λq hq=>?_⟩;rw [eY q]
     by_cases pV:q=i.toNat
     ·rw [ajq (by rw [g8,AA];omega)]
      have VT:(q:Int)=i:=aa;refine⟨ok'.val,?_,by simp only [VT,if_true];exact⟨ok',g17,rfl⟩⟩;rw [show q - i.toNat*o.sz=0 from by rw [g8,AA];omega]
      rfl
     ·rw [ajm (by rw [g8,AA];omega)]
      have VT:(q:Int)≠i:=aa;obtain⟨c,g18,g19⟩:=g16 q hq;exact⟨c,g18,by simp only [VT,if_false];exact ay.keep Pc g19⟩
    ·exact h.elim
   ·obtain⟨r',Fj,n7,yI,cT⟩:=KA h KF
    obtain⟨S',hK,hS⟩:=cO Fj;rw [hf]at hS;obtain⟨c1,c2,c3⟩:=cT O w M u hy;refine fin _ S' c1 (λj c hj=>(c2 j c hj).1) (λj=>by rw [hS j];rfl) (λcs' qx eY Pc=>?_) hK;refine⟨⟨o,g1,by rw [n7];exact g7,by rw [yI];exact g8,by rw [n7];exact g9,by rw [n7];exact g10,?_⟩,.inl rfl⟩;simp only [g2];refine⟨g12,cs',ty,setRow_heap w b cs cs' ty _ g13,by rw [qx];exact g14,λoff=>by rw [qx];exact g15 off,λq hq=>?_⟩;rw [eY q];have Ac:q<r.cells:=by simpa [RO.cells,n7,yI]using hq
    by_cases pV:i.toNat*o.sz<=q/\q<i.toNat*o.sz+r.sz
    ·rw [ajq pV]
     rw [g8]at pV ⊢;have aX:q - i.toNat*r.sz<u.cells.size:=aa;refine⟨u.cells[q - i.toNat*r.sz],by simp [aX],?_⟩;have:=(c2 (q - i.toNat*r.sz) u.cells[q - i.toNat*r.sz] (by simp [aX])).2;rw [show i.toNat*r.sz+(q - i.toNat*r.sz)=q from by omega]at this;exact ay.keep Pc this
    ·rw [ajm pV]
     obtain⟨c,g18,g19⟩:=g16 q Ac;refine⟨c,g18,ay.keep Pc (c3 q c (λe=>pV ?_) g19)⟩;rw [g8];have hp:=r.e9;have h1:=Nat.div_add_mod q r.sz;have h2:=Nat.mod_lt q hp;rw [e,aki]at h1;omega
   ·exact h.elim
  ·
   rename_i r j hf;rw [aq,aq]at h;obtain⟨aY,L9,mR,h⟩:=h;subst mR;obtain⟨o,b,g1,g2,g3,g4,g5⟩:=hx;obtain⟨o',rows,g6,hD⟩:=st.aZ k _ hf;rw [oV g6]at g1;cases g1;split at h
   ·rename_i h'
    split at h
    ·rename_i wm s Qh
     rw [aq,aq]at h;obtain⟨Fg,hnb,h⟩:=h;obtain rfl:=aA.1 Fg;obtain⟨r',h,u5,sZ,hr3,hr4⟩:=EG hD.rq h;obtain⟨ok',g17,rfl⟩:=hy;obtain⟨⟨oh,g18,hV⟩,_⟩:=st.aZ h' _ Qh;obtain rfl:=cC g18 g17;obtain⟨T1,S1,h,st1,tm1,Qi,dF⟩:=GJ (K:=λT S=>kL S k (.deep r' none) λS=>K .any T S) h st tm;obtain⟨S2,hK,hS⟩:=cO h;have bn:=YF hnb;have e1:aV O h' k=some (.dp o rows):=by simp [aV,bn,g6]
     have mB:(an S1 k).isSome:=by rw [<-st1.gq k,e1];rfl
     have oX:=hD.outer;simp only [g2]at oX;obtain⟨g19,cs,ty,g20,g21,g22,g23⟩:=oX;have KF:i.toNat<r.len:=by have:=hD.len;omega
     have hlen:=hD.len;have hic:i.toNat<cs.size:=aa;obtain⟨hs,oF⟩:=gN aY;have AA:=lq hD.rq;have aH:=az.at (t:=t) (.inl (by rw [hs,AA];decide))
     have aN:=iC (P:=P) (TY:=TY) (t:=t) (b:=b) (o:=i.toNat*o.sz) (u:=ok'.val) aH (by rw [hs,AA];rfl) g20 (by rw [hD.Pd,ajV];exact hic) (λj c hj=>by
      rcases j with _|j
      ·simp [Sl.val,Value.cells]at hj;subst hj;trivial
      ·simp [Sl.val,Value.cells]at hj)
     let cs':=(cs.toList.take (i.toNat*o.sz)++ok'.val.cells.toList++cs.toList.drop (i.toNat*o.sz+ok'.val.cells.size)).toArray
     have da:ok'.val.cells= #[ok'.val]:=rfl;have bu:cs'.size=cs.size:=by simp [cs',da,hD.Pd];omega
     have eY:∀q,cs'[q]? =if q=i.toNat then some ok'.val else cs[q]? :=λq=>by
      have:=mr (l:=cs.toList) (m:=ok'.val.cells.toList) (o:=i.toNat*o.sz) (q:=q) (by rw [da,hD.Pd];simp;omega);simp only [ajw,ajt]at this;simp only [cs',List.getElem?_toArray];rw [this,da,hD.Pd]
      by_cases hq:q=i.toNat
      ·subst hq;simp
      ·rw [ajm hq,ajm (by simp;omega)]
     have hold:∀j b,hasB (aV O h') j b->j≠h'/\hasB O j b:=λj b hj=>by
      by_cases hjh:j=h'
      ·subst hjh;simp [hasB,aV]at hj
      ·exact⟨hjh,by simpa [hasB,aV,hjh]using hj⟩
     obtain⟨ρ2,st2,UC,KS⟩:=st1.putRow (r':=r') (s:=s) (S':=S2) (oh:=ok') (cs':=cs') L9 e1 hD hV.env (λb' cy j hj=>(hold j b' hj).1 (st.inj _ _ b' (hold j b' hj).2 (by simp only [hasB,g18];exact cy)))
      (λb' cy=>st.fresh h' b' (by simp only [hasB,g18];exact cy)) u5 sZ (hr3 KF) hr4 (λj=>by
       rw [hS j];obtain⟨B,hB⟩:=ajM.1 mB;rw [hB];rfl) mB g2 g20 bu eY
     refine .inr (.inl ⟨w.setRow b cs',?_,ρ2,M,T1,S2,.any,hK,st2,⟨tm1.defers,tm1.size,λj=>aC.keep KS (λ_ _ h=>h) ((tm1.tmp j).view UC)⟩,Qi,ag⟩);simp [execOp,ho,g5,hu,aN,cs']
    ·exact h.elim
   ·exact h.elim
  ·exact h.elim
 ·
  rename_i k off kU;rw [kU]at hx;split at h
  ·rename_i l hf
   obtain⟨m,hm,hlen,RD⟩:=sS h;obtain⟨ZW,pc⟩:=pP hm;obtain⟨S',hK,hS⟩:=cO pc;rw [hf]at hS;have hx:(O k).bind (b6.ref · off)=some (a.eval x):=hx;obtain⟨b,g1,cs,ty,g4,g5,g6⟩:=st.aZ k _ hf;have g2:=sw g1 hx;have abG:l.length=cs.size:=by rw [g6.length,ajw]
   have bg:aM (aJ O w M) m u.cells.toList:=by
    rcases RD with ⟨_,hv⟩|⟨_,hc,rfl⟩
    ·rw [hv]at hy;obtain⟨cs0,rfl,h2⟩:=hy;exact h2
    ·have hy:=mh hc hy
     have cT:=aJ.aO hy
     revert hy cT
     cases u<;>intro hy cT<;>first|exact⟨hy,ag⟩|exact cT.elim
   have xO:u.cells.size=m.length:=by rw [bg.length,ajw]
   have YG:∀(j:Nat) (c:Value),u.cells[j]? =some c->aO c:=λj c hj=>by
    have aX:j<m.length:=by
     rw [<-xO];rcases ajF j u.cells.size with h'|h'
     ·exact h'
     ·rw [ajD h']at hj;cases hj
    obtain⟨c',h1,h2⟩:=bg.get j aX;rw [ajt,hj]at h1;cases h1;exact aJ.aO h2
   have aH:iU P t (au TY t):=by
    rcases RD with ⟨oF,_⟩|⟨_,_,rfl⟩
    ·exact az.at (.inr λe=>by rw [e]at oF;cases oF)
    ·exact az.at (.inl (by rw [<-hlen];simp))
   have aN:=iC (P:=P) (TY:=TY) (t:=t) (b:=b) (o:=off) (u:=u) aH (by rw [xO,hlen]) g4 (by rw [xO,<-abG];exact ZW) YG
   let cs':=(cs.toList.take off++u.cells.toList++cs.toList.drop (off+u.cells.size)).toArray
   have bu:cs'.size=cs.size:=by simp [cs',xO];omega
   have hw:=st.write (k:=k) (cs':=cs') hf (by simp [hasB,g1,b6.has]) g4 bu (λq hn=>by
    have FC:cs.size<=q:=Nat.le_of_not_lt λaX=>hn ((g5 q).2 aX);rw [ajD FC,ajD (by rw [bu];exact FC)])
    (B':=.box (l.take off++(m++l.drop (off+m.length)))) (λPc=>⟨b,g1,cs',ty,setRow_heap w b cs cs' ty _ g4,λq=>by rw [bu];exact g5 q,by
     have:=(g6.take off).append (bg.append (g6.drop (off+m.length)));have:=this.imp λ_ _=>aJ.keep (O:=O) (O':=O) Pc (λ_ _ h=>h)
     simpa [cs',xO]using this⟩) (λj=>by rw [hS j];rfl)
   refine .inr (.inl ⟨w.setRow b cs',?_,O,M,T,S',.any,hK,hw.1,⟨tm.defers,tm.size,λj=>aC.keep hw.2 (λ_ _ h=>h) (tm.tmp j)⟩,rfl,ag⟩);simp [execOp,ho,g2,hu,aN,cs']
  ·exact h.elim
 ·
  rename_i k i j kU;rw [kU]at hx;split at h
  ·rename_i wm l hf
   rw [aq,aq]at h;obtain⟨mK,hj,SF,h⟩:=h;unfold OM at h;split at h
   ·rename_i k' n
    rw [aq]at h;obtain⟨hk,h⟩:=h;obtain⟨S',hK,hS⟩:=cO h;rw [hf]at hS;obtain⟨o,b,g1,g2,g3,g4,g5⟩:=hx;obtain⟨⟨o',g6,g7,g8,g9,g10,g11⟩,_⟩:=st.aZ k _ hf;obtain rfl:=cC g6 g1;simp only [g2]at g11;obtain⟨g12,cs,ty,g13,g14,g15,g16⟩:=g11;obtain⟨hyu,lQ⟩:=hy;have W7:k'= .i64:=(b8 hk).symm;rw [W7]at hyu lQ;have g7:o.len=l.length:=g7;have Pk:o.sz=2:=g8;have mS:=ah hj;have KF:i.toNat<l.length:=aa;have ku:i.toNat*2+j<cs.size:=by rw [g14,Pk];omega
    have da:u.cells= #[.int .i64 n]:=by rw [hyu];rfl
    have YG:∀(q:Nat) (c:Value),u.cells[q]? =some c->aO c:=λq c hq=>by
     rw [da]at hq;rcases q with _|q
     ·simp at hq;subst hq;trivial
     ·simp at hq
    unfold Ku at mK;split at mK
    ·cases mK
    ·rename_i oF
     have bu:=aA.1 mK;have aH:=az.at (t:=t) (.inl (by rw [bu];decide));have aN:=iC (P:=P) (TY:=TY) (t:=t) (b:=b) (o:=i.toNat*o.sz+j) (u:=u) aH (by rw [da,bu];rfl) g13 (by rw [da,Pk];simp;omega) YG
     let cs':=(cs.toList.take (i.toNat*o.sz+j)++u.cells.toList++cs.toList.drop (i.toNat*o.sz+j+u.cells.size)).toArray
     have qx:cs'.size=cs.size:=by simp [cs',da,Pk];omega
     have eY:∀q,cs'[q]? =if q=i.toNat*2+j then some (.int .i64 n) else cs[q]? :=λq=>by
      have:=mr (l:=cs.toList) (m:=u.cells.toList) (o:=i.toNat*o.sz+j) (q:=q) (by rw [da,Pk];simp;omega);simp only [ajw,ajt]at this;simp only [cs',List.getElem?_toArray];rw [this,da,Pk]
      by_cases hq:q=i.toNat*2+j
      ·subst hq;simp
      ·rw [ajm hq,ajm (by simp;omega)]
     have hw:=st.write (k:=k) (cs':=cs') hf (by simp [hasB,g6,b6.has,g2]) g13 qx (λoff hn=>by
      rw [eY off,ajm];intro hh;refine hn ((g15 off).2 ⟨?_,aa⟩);rw [Pk];omega) (B':=.vec wm (.aW (l.set i.toNat (tu j (l.getD i.toNat (0,0)) n))) []) (λPc=>by
      refine⟨⟨o,g6,by show o.len=_;simp only [RO.len,ajv];exact g7,g8,by simp only [RO.len,ajv];exact g9,by simp only [RO.len,ajv];exact g10,?_⟩,.inl rfl⟩;simp only [g2];refine⟨g12,cs',ty,setRow_heap w b cs cs' ty _ g13,by rw [qx];exact g14,λoff=>by rw [qx];exact g15 off,λq hq=>?_⟩;rw [eY q];have Ac:q<(RO.aW l).cells:=by simpa [RO.cells,RO.len,RO.sz]using hq
      obtain⟨c,g18,g19⟩:=g16 q Ac
      by_cases pV:q=i.toNat*2+j
      ·rw [ajq pV]
       refine⟨_,rfl,?_⟩;have hd:q / 2=i.toNat:=aa;simp only [ay,hd];rw [show(l.set i.toNat (tu j (l.getD i.toNat (0,0)) n)).getD i.toNat (0,0)=tu j (l.getD i.toNat (0,0)) n by simp [List.getD,KF]]
       match j,mS,pV with
       |0,_,pV=>rw [ajq aa];exact⟨rfl,lQ⟩
       |1,_,pV=>rw [ajm aa];exact⟨rfl,lQ⟩
      ·rw [ajm pV]
       refine⟨c,g18,?_⟩;simp only [ay]at g19 ⊢
       by_cases hd:q / 2=i.toNat
       ·rw [hd]at g19 ⊢
        rw [show(l.set i.toNat (tu j (l.getD i.toNat (0,0)) n)).getD i.toNat (0,0)=tu j (l.getD i.toNat (0,0)) n by simp [List.getD,KF]]
        match j,mS,pV with
        |0,_,pV=>rw [ajm aa]at g19 ⊢;exact g19
        |1,_,pV=>rw [ajq aa]at g19 ⊢;exact g19
       ·rw [show(l.set i.toNat (tu j (l.getD i.toNat (0,0)) n)).getD (q / 2) (0,0)=l.getD (q / 2) (0,0) by simp [List.getD,List.getElem?_set_ne (Ne.symm hd)]]
        exact g19) (λj=>by rw [hS j];rfl)
     refine .inr (.inl ⟨w.setRow b cs',?_,O,M,T,S',.any,hK,hw.1,⟨tm.defers,tm.size,λj=>aC.keep hw.2 (λ_ _ h=>h) (tm.tmp j)⟩,rfl,ag⟩);simp [execOp,ho,g5,hu,aN,cs']
   ·exact h.elim
  ·exact h.elim
 ·exact h.elim
theorem Hk{b:AV}{K:Option RO->Prop}(h:Ky S b K)(st:St M0 O M S w){u:Value}(hu:aC O w M b u):
  (K none/\u= .slice none 0 0)\/∃r,K (some r)/\r.len<=LB/\∃ad cap,u= .slice ad r.len cap/\(r.cells=0\/∃b off,ad=some ⟨b,off,none⟩/\∀q,q<r.cells->∃c,w.cell? ⟨b,off+q,none⟩=some c/\ay w M r q c):=by
 cases b with
 |ro r=>
  obtain⟨h1,ad,cap,h2,_,h3⟩:=hu;refine .inr ⟨r,h,h1,ad,cap,h2,?_⟩;rcases h3 with h3|⟨b,off,h4,h5⟩
  ·exact .inl h3
  ·exact .inr ⟨b,off,h4,λq hq=>by obtain⟨c,h6,_,h7⟩:=h5 q hq;exact⟨c,h6,h7⟩⟩
 |ar=>exact .inl ⟨h,hu⟩
 |vec j=>
  simp only [Ky]at h;split at h
  ·rename_i wm r hf
   obtain⟨o,g1,rfl⟩:=hu;obtain⟨⟨o',g2,g3,g4,g5,_,g6⟩,_⟩:=st.aZ j _ hf;obtain rfl:=cC g2 g1;refine .inr ⟨r,h,g5,_,_,by rw [Sl.val,g3],?_⟩;cases hb:o.aZ with
   |none=>simp only [hb]at g6;exact .inl (by simp [RO.cells,g6.1])
   |some b=>
    simp only [hb]at g6;obtain⟨_,cs,ty,g7,_,_,g8⟩:=g6;exact .inr ⟨b,0,rfl,λq hq=>by obtain⟨c,g9,g10⟩:=g8 q hq;exact⟨c,by rw [cell_of_heap g7,ajQ];exact g9,g10⟩⟩
  ·exact h.elim
 |_=>exact h.elim
end
section
variable{P:Program}{TY:List cV}{w0 w:World}{M0:eE w0}{O:Env}{M:a7}{S S0:ak}{d:Nat}
theorem fX{k:Nat}{T:List AV}{a:Act}{K:List AV->ak->Prop}(h:lh S k λS=>c6 k .any T λT=>cf k .any S λS=>K T S)(st:St M0 O M S w)(tm:Tm O w M T a)
  {O':Env} {w':World} {M':a7} {B:dQ} (eB:bE w M w' M') (hρ:∀j,j≠k->O' j=O j) (abH:(O' k).isSome)
  (mL:∀j,j≠k->∀b,hasB O j b->w'.heap[b]? =w.heap[b]?/\∀off,M' b off↔M b off)
  (kK:gH (λb off=>w0.heap.size<=b\/(M0.pe b/\M0.mask b off)) w w') (aX:∀b off,M' b off->b<w'.heap.size) (pa:∀b off,b<w0.heap.size->M' b off->M b off) (hold:∀b off,b<w0.heap.size->¬M0.pe b->M b off->M' b off) (Mt:∀b,hasB O' k b->w0.heap.size<=b\/M0.pe b)
  (hB:eR O' w' M' k B) (Su:∀b,hasB O' k b->∀j,j≠k->¬hasB O j b) (abI:∀o,loc k=false->O' k=some o->M0.env k=some o.base):
  ∃T' S',K T' S'/\St M0 O' M' ((k,B)::S') w'/\Tm O' w' M' T' a/\T'.length=T.length:=by
 obtain⟨S1,h1,xN⟩:=gK h;obtain⟨T',h2,hlen,hT⟩:=fT h1;obtain⟨S',h3,Hf⟩:=fU h2;have iL:∀j,j≠k->∀o,O j=some o->O' j=some o:=λj hj o ho=>by rw [hρ j hj];exact ho
 have m8:Conv k .any O w M O' w' M':=⟨eB,iL,λv hv=>aJ.aO hv⟩;have VU:Conv k .any O w' M' O' w' M':=⟨bE.refl _ _,iL,λv hv=>aJ.aO hv⟩
 refine⟨T',S',h3,⟨λj=>?_,λj C hC=>?_,λi j b hi hj=>?_,aX,st.lS.trans kK (λb off hb hm=>hm.resolve_left (Nat.not_le_of_lt hb)),λb off hb hm=>st.sub b off hb (pa b off hb hm),λb off hb hl hm=>hold b off hb hl (st.eI b off hb hl hm),λx b hx=>?_,λx o hx ho=>?_⟩,
  ⟨tm.defers,by rw [hlen];exact tm.size,λi=>hT _ _ _ _ _ _ m8 (λv _=>⟨ag,ag⟩) i _ (tm.tmp i)⟩,hlen⟩
 ·by_cases hj:j=k
  ·subst hj;simp [aF,abH]
  ·have:=Hf j
   rw [xN j]at this;simp only [hj,if_false]at this;simp only [aF,Ne.symm hj,if_false,hρ j hj,st.gq j];cases hf:an S j with
   |none=>simp only [hf]at this;simp [this]
   |some C=>simp only [hf]at this;obtain⟨C',h4,_⟩:=this;simp [h4]
 ·by_cases hj:j=k
  ·subst hj;simp only [aF,if_true]at hC;cases hC;exact hB
  ·simp only [aF,Ne.symm hj,if_false]at hC
   have:=Hf j;rw [xN j]at this;simp only [hj,if_false]at this;cases hf:an S j with
   |none=>simp only [hf]at this;rw [this]at hC;cases hC
   |some C0=>
    simp only [hf]at this;obtain⟨C',h4,h5⟩:=this;rw [h4]at hC;cases hC;exact h5 O w' M' O' M' j VU (hρ j hj) (λ_ _ _=>Iff.rfl) (eR.ext eB (λ_ _ h=>h) (mL j hj) (st.aZ j C0 hf))
 ·have h1:∀x,x≠k->hasB O' x b->hasB O x b:=λx hx hb=>by simpa [hasB,hρ x hx]using hb
  by_cases yG:i=k
  ·by_cases dL:j=k
   ·rw [yG,dL]
   ·subst yG;exact absurd (h1 j dL hj) (Su b hi j dL)
  ·by_cases dL:j=k
   ·subst dL;exact absurd (h1 i yG hi) (Su b hj i yG)
   ·exact st.inj _ _ _ (h1 i yG hi) (h1 j dL hj)
 ·by_cases kU:x=k
  ·subst kU;exact Mt b hx
  ·exact st.fresh x b (by simpa [hasB,hρ x kU]using hx)
 ·by_cases kU:x=k
  ·subst kU;exact abI o hx ho
  ·exact st.tV x o hx (by rw [<-hρ x kU];exact ho)
theorem nP{k:Nat}{T:List AV}{a:Act}{K:List AV->ak->Prop}(h:iV k T S K)(st:St M0 O M S w)(tm:Tm O w M T a)
  {O':Env} {w':World} {M':a7} {B:dQ} (eB:bE w M w' M') (hρ:∀j,j≠k->O' j=O j) (abH:(O' k).isSome)
  (mL:∀j,j≠k->∀b,hasB O j b->w'.heap[b]? =w.heap[b]?/\∀off,M' b off↔M b off)
  (kK:gH (λb off=>w0.heap.size<=b\/(M0.pe b/\M0.mask b off)) w w') (aX:∀b off,M' b off->b<w'.heap.size) (pa:∀b off,b<w0.heap.size->M' b off->M b off) (hold:∀b off,b<w0.heap.size->¬M0.pe b->M b off->M' b off) (Mt:∀b,hasB O' k b->w0.heap.size<=b\/M0.pe b)
  (hB:eR O' w' M' k B) (Su:∀b,hasB O' k b->∀j,j≠k->¬hasB O j b):
  ∃T' S',K T' S'/\St M0 O' M' ((k,B)::S') w'/\Tm O' w' M' T' a/\T'.length=T.length:=by
 unfold iV at h;obtain⟨fV,h⟩:=aq.1 h;exact fX h st tm eB hρ abH mL kK aX pa hold Mt hB Su λo hl=>by rw [fV]at hl;cases hl
theorem bR{t ty e:Nat}{i:TypeInfo}(ht:P.underlying t=some (.slice e))(hi:P.info? e=some i)(base ad:Option Addr)(n cap c:Nat)(h:n<=cap)(w:World):
  (Builtin.append_ #[t,t] ty #[.slice base n cap,.slice ad 0 c]).run P w= .ok (.slice base n cap) w:=by
 cases base<;>cases ad<;>simp [Builtin.append_,underlying,ht,sizeOf,typeInfo,hi,Builtin.lenOf,h,Builtin.firstCells,loadCells,loadCellsFrom,storeCells]
theorem iY{k:Nat}{T:List AV}{a:Act}{K:List AV->ak->Prop}(h:iV k T S K)(st:St M0 O M S w)(tm:Tm O w M T a)
  {w':World} {cs:Array Value} {ty cap wm:Nat} {r:RO} (hw:w'.heap=w.heap.push (.cells cs ty (0,0))) (oK:kg w w') (bU:cs.size=cap*r.sz) (dZ:r.len<=cap) (Pf:r.len<=LB) (SF:wm<=r.len)
  (hc:∀q,q<r.cells->∃c,cs[q]? =some c/\ay w M r q c):
  ∃T' S' O' M',K T' S'/\St M0 O' M' ((k,.vec wm r [])::S') w'/\Tm O' w' M' T' a/\T'.length=T.length/\O' k=some (.sl ⟨some w.heap.size,r.len,cap,r.sz⟩):=by
 have hs:gH (λ_ _=>False) w w':=⟨by rw [hw];simp,λb hb=>.inl (by rw [hw];simp [Array.getElem?_push,Nat.ne_of_lt hb]),oK⟩
 let M':a7:=λb off=>dB M O k b off\/(b=w.heap.size/\wm*r.sz<=off/\off<cs.size)
 have eB:bE w M w' M':=λb off c h1 h2=>⟨hs.cell h1 (λh=>h),λhm=>hm.elim (λhm=>h2 hm.1) (λhm=>absurd hm.1 (akk (n6 h1)))⟩;have Pr:∀off,¬dB M O k w.heap.size off:=λoff hm=>absurd (st.mlt _ _ hm.1) (Nat.lt_irrefl _)
 refine(λ⟨T',S',g1,g2,g3,g4⟩=>⟨T',S',λj=>if j=k then some (.sl ⟨some w.heap.size,r.len,cap,r.sz⟩) else O j,M',g1,g2,g3,g4,by simp⟩)
  (nP h st tm (O':=λj=>if j=k then some (.sl ⟨some w.heap.size,r.len,cap,r.sz⟩) else O j) (w':=w') (M':=M') (B:=.vec wm r []) eB (λj hj=>by simp [hj]) (by simp) (λj hj b hb=>?_) ?_ (λb off hm=>?_) (λb off hb hm=>?_) (λb off hb hl hm=>.inl ⟨hm,st.iv hb hl⟩) (λb hb=>?_) ?_ (λb hb j hj zY=>?_))
 ·have Qr:=e8 st hb
  refine⟨by rw [hw];simp [Array.getElem?_push,Nat.ne_of_lt Qr],λoff=>⟨λhm=>hm.elim (λhm=>hm.1) (λhm=>absurd hm.1 (akk Qr)),λhm=>.inl ⟨hm,λhk=>hj (st.inj _ _ _ hb hk)⟩⟩⟩
 ·exact⟨hs.1,λb hb=>(hs.2 b hb).imp id λhh=>hh.imp (λ⟨c1,c2,t,h1,h2,h3,h4⟩=>⟨c1,c2,t,h1,h2,h3,λoff _=>h4 off (by simp)⟩) (λ⟨_,_,_,_,_,_,hf⟩=>hf.elim),hs.3⟩
 ·rw [hw];simp
  rcases hm with hm|hm
  ·exact Nat.lt_succ_of_lt (st.mlt _ _ hm.1)
  ·rw [hm.1];exact Nat.lt_succ_self _
 ·have cy:=ajT hb st.lS.1
  exact hm.elim (λhm=>hm.1) (λhm=>absurd hm.1 (akk cy))
 ·simp [hasB,b6.has]at hb
  rw [<-hb];exact .inl st.lS.1
 ·refine⟨⟨⟨some w.heap.size,r.len,cap,r.sz⟩,by simp,rfl,rfl,Pf,SF,dZ,cs,ty,by rw [hw];simp,bU,λoff=>?_,λq hq=>?_⟩,.inl rfl⟩
  ·exact⟨λhm=>hm.elim (λhm=>absurd hm (Pr off)) (λhm=>hm.2),λhm=>.inr ⟨rfl,hm⟩⟩
  ·obtain⟨c,h1,h2⟩:=hc q hq;exact⟨c,h1,h2.keep eB⟩
 ·have:=e8 st zY
  simp [hasB,b6.has]at hb;omega
theorem rO{k:Nat}{T:List AV}{a:Act}{K:List AV->ak->Prop}(h:iV k T S K)(st:St M0 O M S w)(tm:Tm O w M T a){wm:Nat}{r:RO}(hr:r.len=0)(SF:wm<=r.len):
  ∃T' S' O' M',K T' S'/\St M0 O' M' ((k,.vec wm r [])::S') w/\Tm O' w M' T' a/\T'.length=T.length/\O' k=some (.sl ⟨none,0,0,r.sz⟩):=by
 refine(λ⟨T',S',g1,g2,g3,g4⟩=>⟨T',S',λj=>if j=k then some (.sl ⟨none,0,0,r.sz⟩) else O j,dB M O k,g1,g2,g3,g4,by simp⟩)
  (nP h st tm (O':=λj=>if j=k then some (.sl ⟨none,0,0,r.sz⟩) else O j) (w':=w) (M':=dB M O k) (B:=.vec wm r []) (jg _ _ _ _) (λj hj=>by simp [hj]) (by simp) (λj hj b hb=>?_) (gH.refl _ _) (λb off hm=>st.mlt b off hm.1) (λb off hb hm=>hm.1) (λb off hb hl hm=>⟨hm,st.iv hb hl⟩) (λb hb=>by simp [hasB,b6.has]at hb) ?_ (λb hb=>?_))
 ·exact⟨rfl,λoff=>⟨λhm=>hm.1,λhm=>⟨hm,λhk=>hj (st.inj _ _ _ hb hk)⟩⟩⟩
 ·exact⟨⟨⟨none,0,0,r.sz⟩,by simp,hr.symm,rfl,by rw [hr];exact ajk _,SF,hr,rfl⟩,.inl rfl⟩
 ·simp [hasB,b6.has]at hb
theorem yn{k b:Nat}{T:List AV}{a:Act}{K:List AV->ak->Prop}(h:iV k T S K)(st:St M0 O M S w)(tm:Tm O w M T a)
  {o:Sl} {wm:Nat} {r r':RO} {cs cs':Array Value} {ty:Nat} (hk:O k=some (.sl o)) (hb:o.aZ=some b) (hf:an S k=some (.vec wm r [])) (bU:w.heap[b]? =some (.cells cs ty (0,0)))
  (bu:cs'.size=cs.size) (gP:∀q,q<wm*r.sz->cs'[q]? =cs[q]?) (hz:r'.sz=r.sz) (hle:r.len<=r'.len) (dZ:r'.len<=o.cap) (Pf:r'.len<=LB)
  (hc:∀q,q<r'.cells->∃c,cs'[q]? =some c/\ay w M r' q c):
  ∃T' S' O' M',K T' S'/\St M0 O' M' ((k,.vec wm r' [])::S') (w.setRow b cs')/\Tm O' (w.setRow b cs') M' T' a/\T'.length=T.length/\O' k=some (.sl ⟨some b,r'.len,o.cap,r'.sz⟩):=by
 obtain⟨⟨o',g1,g2,g3,g4,g5,g6⟩,_⟩:=st.aZ k _ hf;rw [hk]at g1;cases g1;simp only [hb]at g6;obtain⟨g7,cs0,ty0,g8,g9,g10,g11⟩:=g6;rw [bU]at g8;cases g8
 have o5:∀off,¬M b off->cs'[off]? =cs[off]? :=λoff hn=>by
  by_cases h1:off<wm*r.sz
  ·exact gP off h1
  ·have h2:cs.size<=off:=Nat.le_of_not_lt λaX=>hn ((g10 off).2 ⟨by rw [g3];omega,aX⟩)
   rw [ajD h2,ajD (by rw [bu];exact h2)]
 have kK:=gW (M:=M) bU bu o5;have eB:bE w M (w.setRow b cs') M:=kK.keep λ_ _ _ h=>h;have JE:hasB O k b:=by simp [hasB,hk,b6.has,hb]
 refine(λ⟨T',S',g1,g2,g3,g4⟩=>⟨T',S',λj=>if j=k then some (.sl ⟨some b,r'.len,o.cap,r'.sz⟩) else O j,M,g1,g2,g3,g4,by simp⟩)
  (nP h st tm (O':=λj=>if j=k then some (.sl ⟨some b,r'.len,o.cap,r'.sz⟩) else O j) (w':=w.setRow b cs') (M':=M) (B:=.vec wm r' []) eB (λj hj=>by simp [hj]) (by simp) (λj hj b' cy=>?_) ((gW (M:=λb' off=>b'=b/\M b' off) bU bu λoff hn=>o5 off λhm=>hn ⟨rfl,hm⟩).weaken λb' off he=>by obtain⟨rfl,hm⟩:=he;exact(ajF b' w0.heap.size).elim (λaX=>.inr ⟨(st.fresh k b' JE).resolve_left (Nat.not_le_of_lt aX),st.sub b' off aX hm⟩) .inl) (λb' off hm=>ajT (st.mlt b' off hm) kK.1) (λ_ _ _ hm=>hm) (λ_ _ _ _ hm=>hm) (λb' cy=>by simp [hasB,b6.has]at cy;rw [<-cy];exact st.fresh k b JE) ?_ (λb' cy j hj zY=>?_))
 ·exact⟨setRow_other w b b' cs' λe=>hj (st.inj _ _ b (e▸cy) JE),λ_=>Iff.rfl⟩
 ·refine⟨⟨⟨some b,r'.len,o.cap,r'.sz⟩,by simp,rfl,rfl,Pf,aa,dZ,cs',ty,setRow_heap w b cs cs' ty _ bU,by rw [bu,g9,g3,hz],λoff=>?_,λq hq=>?_⟩,.inl rfl⟩
  ·rw [g10 off,bu,g3,hz]
  ·obtain⟨c,h1,h2⟩:=hc q hq;exact⟨c,h1,h2.keep eB⟩
 ·simp [hasB,b6.has]at cy
  subst cy;exact hj (st.inj _ _ _ zY JE)
theorem BP{k n:Nat}{T:List AV}{a:Act}{K:List AV->ak->Prop}(h:lh S k λS=>c6 k .any T λT=>cf k .any S λS=>K T S)(st:St M0 O M S w)(tm:Tm O w M T a)
  {o cur:Sl} (hk:O k=some (.st o cur)) {w':World} {cs:Array Value} {ty cap:Nat} {r:RO} (hj:xq w M o n r.sz) (hw:w'.heap=w.heap.push (.cells cs ty (0,0))) (oK:kg w w') (bU:cs.size=cap*r.sz) (dZ:r.len<=cap) (Pf:r.len<=LB)
  (hc:∀q,q<r.cells->∃c,cs[q]? =some c/\ay w M r q c):
  ∃T' S' O' M',K T' S'/\St M0 O' M' ((k,.dK n r)::S') w'/\Tm O' w' M' T' a/\T'.length=T.length/\O' k=some (.st o ⟨some w.heap.size,r.len,cap,r.sz⟩):=by
 have hs:gH (λ_ _=>False) w w':=⟨by rw [hw];simp,λb hb=>.inl (by rw [hw];simp [Array.getElem?_push,Nat.ne_of_lt hb]),oK⟩
 let M':a7:=λb off=>M b off\/(b=w.heap.size/\off<cs.size)
 have eB:bE w M w' M':=λb off c h1 h2=>⟨hs.cell h1 (λh=>h),λhm=>hm.elim h2 (λhm=>absurd hm.1 (akk (n6 h1)))⟩;have Pr:∀off,¬M w.heap.size off:=λoff hm=>absurd (st.mlt _ _ hm) (Nat.lt_irrefl _)
 have hold:∀b,b<w.heap.size->w'.heap[b]? =w.heap[b]?/\∀off,M' b off↔M b off:=λb hb=>
  ⟨by rw [hw];simp [Array.getElem?_push,Nat.ne_of_lt hb],λoff=>⟨λhm=>hm.elim id (λhm=>absurd hm.1 (akk hb)),.inl⟩⟩
 have ho:∀b,o.aZ=some b->hasB O k b:=λb hb=>by simp [hasB,hk,b6.has,hb]
 refine(λ⟨T',S',g1,g2,g3,g4⟩=>⟨T',S',λj=>if j=k then some (.st o ⟨some w.heap.size,r.len,cap,r.sz⟩) else O j,M',g1,g2,g3,g4,by simp⟩)
  (fX h st tm (O':=λj=>if j=k then some (.st o ⟨some w.heap.size,r.len,cap,r.sz⟩) else O j) (w':=w') (M':=M') (B:=.dK n r) eB (λj hj=>by simp [hj]) (by simp) (λj hj b hb=>hold b (e8 st hb)) ?_ (λb off hm=>?_) (λb off hb hm=>?_) (λb off hb hl hm=>.inl hm) (λb hb=>?_) ?_ (λb hb j hj zY=>?_) (λow hl ho=>by simp at ho;subst ho;exact st.tV k (.st o cur) hl hk))
 ·exact⟨hs.1,λb hb=>(hs.2 b hb).imp id λhh=>hh.imp (λ⟨c1,c2,t,h1,h2,h3,h4⟩=>⟨c1,c2,t,h1,h2,h3,λoff _=>h4 off (by simp)⟩) (λ⟨_,_,_,_,_,_,hf⟩=>hf.elim),hs.3⟩
 ·rw [hw];simp
  rcases hm with hm|hm
  ·exact Nat.lt_succ_of_lt (st.mlt _ _ hm)
  ·rw [hm.1];exact Nat.lt_succ_self _
 ·have cy:=ajT hb st.lS.1
  exact hm.elim id (λhm=>absurd hm.1 (akk cy))
 ·simp [hasB,b6.has]at hb
  rcases hb with hb|hb
  ·exact st.fresh k b (ho b hb)
  ·rw [<-hb];exact .inl st.lS.1
 ·refine⟨o,⟨some w.heap.size,r.len,cap,r.sz⟩,by simp,⟨rfl,rfl,Pf,ajk _,dZ,cs,ty,by rw [hw];simp,bU,λoff=>?_,λq hq=>?_⟩,hj.ext λb hb=>hold b (e8 st (ho b hb))⟩
  ·exact⟨λhm=>⟨by simp,hm.elim (λhm=>absurd hm (Pr off)) (λhm=>hm.2)⟩,λhm=>.inr ⟨rfl,hm.2⟩⟩
  ·obtain⟨c,h1,h2⟩:=hc q hq;exact⟨c,h1,h2.keep eB⟩
 ·have:=e8 st zY
  simp [hasB,b6.has]at hb;rcases hb with hb|hb
  ·exact hj (st.inj _ _ _ zY (ho b hb))
  ·omega
theorem yo{k n:Nat}{T:List AV}{a:Act}{K:List AV->ak->Prop}(h:lh S k λS=>c6 k .any T λT=>cf k .any S λS=>K T S)(st:St M0 O M S w)(tm:Tm O w M T a)
  {o cur cur':Sl} (hk:O k=some (.st o cur)) {r:RO} (hj:xq w M o n r.sz) (hb:cur'.aZ=cur.aZ) (hV:fp O w M cur' 0 r []):
  ∃T' S' O',K T' S'/\St M0 O' M ((k,.dK n r)::S') w/\Tm O' w M T' a/\T'.length=T.length/\O' k=some (.st o cur'):=by
 have ho:∀b,(b6.st o cur').has b->hasB O k b:=λb h=>by simp only [hasB,hk];simp only [b6.has,hb]at h;exact h
 refine(λ⟨T',S',g1,g2,g3,g4⟩=>⟨T',S',λj=>if j=k then some (.st o cur') else O j,g1,g2,g3,g4,by simp⟩)
  (fX h st tm (O':=λj=>if j=k then some (.st o cur') else O j) (w':=w) (M':=M) (B:=.dK n r) (bE.refl _ _) (λj hj=>by simp [hj]) (by simp) (λj hj b hb=>⟨rfl,λ_=>Iff.rfl⟩) (gH.refl _ _) st.mlt (λ_ _ _ hm=>hm) (λ_ _ _ _ hm=>hm) (λb cy=>st.fresh k b (ho b (by simpa [hasB]using cy)))
   ⟨o,cur',by simp,hV.env,hj⟩ (λb cy j hj zY=>hj (st.inj _ _ _ zY (ho b (by simpa [hasB]using cy)))) (λow hl ho=>by simp at ho;subst ho;exact st.tV k (.st o cur) hl hk))
theorem xA{k n b:Nat}{T:List AV}{a:Act}{K:List AV->ak->Prop}(h:lh S k λS=>c6 k .any T λT=>cf k .any S λS=>K T S)(st:St M0 O M S w)(tm:Tm O w M T a)
  {o cur:Sl} {r r':RO} {cs cs':Array Value} {ty:Nat} (hk:O k=some (.st o cur)) (hj:xq w M o n r.sz) (hV:fp O w M cur 0 r []) (hb:cur.aZ=some b) (bU:w.heap[b]? =some (.cells cs ty (0,0)))
  (bu:cs'.size=cs.size) (hz:r'.sz=r.sz) (dZ:r'.len<=cur.cap) (Pf:r'.len<=LB)
  (hc:∀q,q<r'.cells->∃c,cs'[q]? =some c/\ay w M r' q c):
  ∃T' S' O' M',K T' S'/\St M0 O' M' ((k,.dK n r')::S') (w.setRow b cs')/\Tm O' (w.setRow b cs') M' T' a/\T'.length=T.length/\O' k=some (.st o ⟨some b,r'.len,cur.cap,r'.sz⟩):=by
 obtain⟨g2,g3,g4,g5,g6⟩:=hV;simp only [hb]at g6;obtain⟨g7,cs0,ty0,g8,g9,g10,g11⟩:=g6;rw [bU]at g8;cases g8
 have o5:∀off,¬M b off->cs'[off]? =cs[off]? :=λoff hn=>by
  have h2:cs.size<=off:=Nat.le_of_not_lt λaX=>hn ((g10 off).2 ⟨by simp,aX⟩);rw [ajD h2,ajD (by rw [bu];exact h2)]
 have kK:=gW (M:=M) bU bu o5;have eB:bE w M (w.setRow b cs') M:=kK.keep λ_ _ _ h=>h;have JE:hasB O k b:=by simp [hasB,hk,b6.has,hb]
 have ho:∀b,(b6.st o ⟨cur.aZ,r'.len,cur.cap,r'.sz⟩).has b->hasB O k b:=λb h=>by simp only [hasB,hk];simp only [b6.has]at h;exact h
 refine(λ⟨T',S',g1,g2,g3,g4⟩=>⟨T',S',λj=>if j=k then some (.st o ⟨some b,r'.len,cur.cap,r'.sz⟩) else O j,M,g1,g2,g3,g4,by simp⟩)
  (fX h st tm (O':=λj=>if j=k then some (.st o ⟨some b,r'.len,cur.cap,r'.sz⟩) else O j) (w':=w.setRow b cs') (M':=M) (B:=.dK n r') eB (λj hj=>by simp [hj]) (by simp) (λj hj b' cy=>?_) ((gW (M:=λb' off=>b'=b/\M b' off) bU bu λoff hn=>o5 off λhm=>hn ⟨rfl,hm⟩).weaken λb' off he=>by obtain⟨rfl,hm⟩:=he;exact(ajF b' w0.heap.size).elim (λaX=>.inr ⟨(st.fresh k b' JE).resolve_left (Nat.not_le_of_lt aX),st.sub b' off aX hm⟩) .inl) (λb' off hm=>ajT (st.mlt b' off hm) kK.1) (λ_ _ _ hm=>hm) (λ_ _ _ _ hm=>hm) (λb' cy=>st.fresh k b' (ho b' (by simpa [hasB,hb]using cy))) ?_ (λb' cy j hj zY=>hj (st.inj _ _ _ zY (ho b' (by simpa [hasB,hb]using cy)))) (λow hl ho=>by simp at ho;subst ho;exact st.tV k (.st o cur) hl hk))
 ·exact⟨setRow_other w b b' cs' λe=>hj (st.inj _ _ b (e▸cy) JE),λ_=>Iff.rfl⟩
 ·refine⟨o,⟨some b,r'.len,cur.cap,r'.sz⟩,by simp,⟨rfl,rfl,Pf,ajk _,dZ,cs',ty,setRow_heap w b cs cs' ty _ bU,by rw [bu,g9,g3,hz],λoff=>?_,λq hq=>?_⟩,?_⟩
  ·rw [g10 off,bu];simp
  ·obtain⟨c,h1,h2⟩:=hc q hq;exact⟨c,h1,h2.keep eB⟩
  ·rw [hz]
   obtain⟨j1,j2,j3,j4⟩:=hj;refine⟨j1,j2,j3,?_⟩;cases rS:o.aZ with
   |none=>simp only [rS]at j4 ⊢;exact j4
   |some b2=>
    simp only [rS]at j4 ⊢;obtain⟨j5,cs2,ty2,j6,j7,j8⟩:=j4
    by_cases Jw:b2=b
    ·subst Jw
     rw [bU]at j6;cases j6;exact⟨j5,cs',ty,setRow_heap w b2 cs cs' ty _ bU,by rw [bu];exact j7,λoff=>by rw [bu];exact j8 off⟩
    ·exact⟨j5,cs2,ty2,by rw [setRow_other w b b2 cs' Jw];exact j6,j7,j8⟩
theorem sW (t ty e:TypeId)(i:TypeInfo)(ht:P.underlying t=some (.slice e))(hi:P.info? e=some i)
  (g sLen sCap tag:Nat) (cur:Array Value) (hg:w.heap[g]? =some (.cells cur tag (0,0)))
  (a:Addr) (m c:Nat) (news:List Value) (hl:news.length=m*i.size) (wZ:∀j u,news[j]? =some u->w.cell? (a.add j)=some u) (h1:∀u∈news,u.oneCell'=true)
  (ku:sLen+m<=sCap) (tZ:sLen*i.size+news.length<=cur.size):
  (Builtin.append_ #[t,t] ty #[.slice (some ⟨g,0,none⟩) sLen sCap,.slice (some a) m c]).run P w=
   .ok (.slice (some ⟨g,0,none⟩) (sLen+m) sCap) (w.setRow g (cur.toList.take (sLen*i.size)++news++cur.toList.drop (sLen*i.size+news.length)).toArray):=by
 have hf:=run_firstCells_some (P:=P) w i.size m a m c news hl wZ;have cX:=run_storeCells_at P g (sLen*i.size) tag news 0 cur w hg (by simpa using tZ) h1;simp only [akb]at cX;have cd:(underlying t).run P w= .ok (.slice e) w:=by simp [underlying,ht]
 have NV:(⟨g,0,none⟩:Addr).add (sLen*i.size)=⟨g,sLen*i.size,none⟩:=by rw [aU,ajQ]
 simp [Builtin.append_,cd,sizeOf,typeInfo,hi,Builtin.lenOf,ku,hf,NV,cX]
def bM(w0:World)(M0:eE w0)(a:Act)(n:Nat)(K:AV->List AV->ak->Prop)(u:Value)(w':World):Prop:=
 ∃O' M' T' S' v,K v T' S'/\St M0 O' M' S' w'/\Tm O' w' M' T' a/\T'.length=n/\aC O' w' M' v u
theorem Ax(az:aR P TY){F:Spec}{c:Call}{T:List AV}{K:AV->List AV->ak->Prop}{a:Act}{oo:Oper}(dJ:c.callee= .builtin .append)(h:xW TY F d (.call c) T S K)
  (ho:oo.op= .call c) (st:St M0 O M S w) (tm:Tm O w M T a):fj P (execOp a.eval oo) w (bM w0 M0 a T.length K):=by
 simp only [xW,bS,dJ]at h;split at h
 ·rename_i x y t t' bw Aq
  split at h
  ·rename_i e UA hd
   have UA:=aA.1 UA;subst UA;have hu:=bY az hd;have s3:c.args= #[x,y]:=by simpa using ajs List.toArray bw
   have mX:c.argTypes= #[t,t]:=by simpa using ajs List.toArray Aq
   rw [aq,aD,aD]at h;obtain⟨vI,h⟩:=h;have hx:=a8 tm x;have hy:=a8 tm y
   have bT:∀v w',(Builtin.append_ #[t,t] oo.type #[a.eval x,a.eval y]).run P w= .ok v w'->(execOp a.eval oo).run P w= .ok (.value v) w':=λv w' hr=>by
    simp [execOp,ho,resolve,dJ,s3,mX,invoke,builtin,hr]
   generalize aT T x=ax at h hx;have bn:(au TY e).zero≠[]:=λhe=>by rw [he]at vI;cases vI
   have aH:iU P e (au TY e):=by
    rcases ajF e TY.length with h'|h'
    ·exact az.row e h'
    ·rw [pM h']at bn;exact absurd rfl bn
   obtain⟨i,_,hi,_,hs,tY,_,hz⟩:=aH.row;obtain⟨z,gE,uE⟩:=hz bn;have xX:z.cells.size=(au TY e).sz:=by rw [<-uE.2.2.2.2,uE.1.length,ajw]
   have elem:∀r,eF TY t r=true->i.size=r.sz/\z.cells.size=r.sz:=λr aY=>by
    obtain⟨e',iK,_,oT,_⟩:=bW az aY;rw [hd]at iK;cases iK;exact⟨by rw [hs,oT],by rw [xX,oT]⟩
   have dZ:∀{k:Nat} {o:Sl},(O k).bind b6.yM=some o->o.len<=o.cap/\(o.aZ=none->o.len=0/\o.cap=0):=λ{k o} hk=>by
    have mB:(an S k).isSome:=by rw [<-st.gq k];exact kB hk
    obtain⟨B,hB⟩:=ajM.1 mB;have Pb:=st.aZ k B hB;cases B with
    |box l=>obtain⟨b,h1,_⟩:=Pb;rw [h1]at hk;cases hk
    |map kd vk m=>obtain⟨b,h1,_⟩:=Pb;rw [h1]at hk;cases hk
    |dK n r=>
     obtain⟨o',cur,h1,h2,_⟩:=Pb;have Ji:cur=o:=by rw [mD h1]at hk;exact ajN hk
     rw [Ji]at h2;obtain⟨h2,_,_,_,h3⟩:=h2;cases hb:o.aZ with
     |none=>simp only [hb]at h3;exact⟨aa,λ_=>⟨aa,h3.2⟩⟩
     |some b=>simp only [hb]at h3;exact⟨h3.1,λhe=>by cases he⟩
    |mA n z=>
     obtain⟨o',h1,h2,_,_,h3⟩:=Pb;obtain rfl:=cC h1 hk;cases hb:o.aZ with
     |none=>simp only [hb]at h3;exact⟨aa,λ_=>⟨aa,h3.2⟩⟩
     |some b=>simp only [hb]at h3;exact⟨h3.1,λhe=>by cases he⟩
    |deep r hole=>
     obtain⟨o',rows,h1,h2⟩:=Pb;rw [h1]at hk;cases hk;have h3:=h2.outer;have h4:=h2.len;cases hb:o.aZ with
     |none=>simp only [hb]at h3;exact⟨aa,λ_=>⟨aa,h3.2⟩⟩
     |some b=>simp only [hb]at h3;exact⟨h3.1,λhe=>by cases he⟩
    |vec wm r ov=>
     obtain⟨⟨o',h1,h2,_,_,_,h3⟩,_⟩:=Pb;obtain rfl:=cC h1 hk;cases hb:o.aZ with
     |none=>simp only [hb]at h3;exact⟨aa,λ_=>⟨aa,h3.2⟩⟩
     |some b=>simp only [hb]at h3;exact⟨h3.1,λhe=>by cases he⟩
   rcases Hk h st hy with ⟨h,rR⟩|⟨r',h,Md,ad,cap',rR,Ar⟩
   ·
    cases ax<;>try exact h.elim
    ·rename_i k
     obtain⟨o,g1,g2⟩:=hx;refine .val (bT o.val w ?_) ⟨O,M,T,S,_,h,st,tm,rfl,o,g1,rfl⟩;rw [g2,rR];exact bR hu hi _ _ _ _ _ (dZ g1).1 w
    ·have db:a.eval x= .slice none 0 0:=hx
     refine .val (bT (.slice none 0 0) w ?_) ⟨O,M,T,S,_,h,st,tm,rfl,rfl⟩;rw [db,rR];exact bR hu hi _ _ _ _ _ (ajl _) w
    ·rename_i r
     obtain⟨hr,ad,db⟩:=hx;refine .val (bT (a.eval x) w ?_) ⟨O,M,T,S,_,h,st,tm,rfl,hr⟩;rw [db,rR];exact bR hu hi _ _ _ _ _ (ajl _) w
   ·
    have wZ:∀n,n=r'.cells->0<n->∃b off,ad=some ⟨b,off,none⟩/\∃l:List Value,l.length=n/\(∀j v,l[j]? =some v->w.cell? ((⟨b,off,none⟩:Addr).add j)=some v)/\∀q,q<n->∃c,l[q]? =some c/\ay w M r' q c:=by
     intro n hn iu;subst hn;rcases Ar with h0|⟨b,off,h1,h2⟩
     ·omega
     ·obtain⟨l,h3,h4,h5⟩:=ju h2
      exact⟨b,off,h1,l,h3,λj v hj=>by rw [aU];exact h4 j v hj,h5⟩
    have fresh:∀{r:RO} {eI:Nat} {news:List Value},eF TY t r=true->news.length=r.cells->(∀q,q<r.cells->∃c,news[q]? =some c/\ay w M r q c)->
      (Builtin.append_ #[t,t] oo.type #[a.eval x,a.eval y]).run P w= .ok (.slice (some ⟨w.heap.size,0,none⟩) r.len (grownCap w r.len eI e)) (w.drew.alloc (.cells (news.toArray++Builtin.zeroCells z.cells (grownCap w r.len eI e - r.len)) e))->
      (∀{cs:Array Value} {cap:Nat} {w':World},w'.heap=w.heap.push (.cells cs e (0,0))->kg w w'->cs.size=cap*r.sz->r.len<=cap->(∀q,q<r.cells->∃c,cs[q]? =some c/\ay w M r q c)->
        bM w0 M0 a T.length K (.slice (some ⟨w.heap.size,0,none⟩) r.len cap) w')->fj P (execOp a.eval oo) w (bM w0 M0 a T.length K):=by
     intro r eI news aY O1 hnc aN fin
     refine .val (bT _ _ aN) (fin (w':=w.drew.alloc (.cells (news.toArray++Builtin.zeroCells z.cells (grownCap w r.len eI e - r.len)) e))
      (cs:=news.toArray++Builtin.zeroCells z.cells (grownCap w r.len eI e - r.len)) (cap:=grownCap w r.len eI e) rfl (by first|exact kg.refl _|exact⟨⟨rfl,rfl⟩,rfl,akg _⟩) (by
       have FC:=grownCap_ge w r.len eI e;simp only [Array.size_append,List.size_toArray,size_zeroCells,O1,(elem r aY).2,RO.cells,<-ake]
       congr 1;omega) (grownCap_ge _ _ _ _) λq hq=>?_)
     obtain⟨c,h1,h2⟩:=hnc q hq;refine⟨c,?_,h2⟩;rw [akh (by simp [O1];exact hq)]
     simpa using h1
    have grow:∀{o:Sl} {wm:Nat} {r r2:RO},fp O w M o wm r []->a.eval x=o.val->eF TY t r=true->r2.len=r.len+r'.len->r2.sz=r.sz->r'.sz=r.sz->
      (∀(w:World) (M:a7) q c,(if q<r.cells then ay w M r q c else ay w M r' (q - r.cells) c)->ay w M r2 q c)->((au TY e).bytes:Int)*r2.len<=140737488355328->(r2.len:Int)<=17592186044416->
      (o.aZ=none->r2.len=0->bM w0 M0 a T.length K o.val w)->
      (∀b cs cs' ty,o.aZ=some b->w.heap[b]? =some (.cells cs ty (0,0))->cs'.size=cs.size->(∀q,q<wm*r.sz->cs'[q]? =cs[q]?)->r2.len<=o.cap->(∀q,q<r2.cells->∃c,cs'[q]? =some c/\ay w M r2 q c)->
        bM w0 M0 a T.length K (.slice (some ⟨b,0,none⟩) r2.len o.cap) (w.setRow b cs'))->
      (∀{cs:Array Value} {cap:Nat} {w':World},w'.heap=w.heap.push (.cells cs e (0,0))->kg w w'->cs.size=cap*r2.sz->r2.len<=cap->(∀q,q<r2.cells->∃c,cs[q]? =some c/\ay w M r2 q c)->
        bM w0 M0 a T.length K (.slice (some ⟨w.heap.size,0,none⟩) r2.len cap) w')->fj P (execOp a.eval oo) w (bM w0 M0 a T.length K):=by
      intro o wm r r2 hV g2 aY xM sX lI gk xB OU finN finS finF;have BQ:r2.len<=LB:=by simp only [LB];omega
      obtain⟨g4,g5,g6,g7,g8⟩:=hV
      have An:eF TY t r2=true:=by
       have key:∀r:RO,eF TY t r=(match (au TY t).d with|.slice e=>Nat.beq (au TY e).sz r.sz|_=>false):=λr=>by
        unfold eF;cases (au TY t).d<;>first|rfl|(cases r<;>rfl)
       rw [key]at aY ⊢;rw [sX];exact aY
      have bu:i.size=r.sz:=(elem r aY).1
      have VV:r2.len*i.bytes<=140737488355328:=by
       have:((r2.len*i.bytes:Nat):Int)=((au TY e).bytes:Int)*r2.len:=by rw [tY,aki];push_cast;rfl
       omega
      have KV:o.len<=o.cap/\(o.aZ=none->o.len=0/\o.cap=0):=by
       cases hb:o.aZ with
       |none=>simp only [hb]at g8;exact⟨aa,λ_=>⟨aa,g8.2⟩⟩
       |some b=>simp only [hb]at g8;exact⟨g8.1,λhe=>by cases he⟩
      have mX:r2.cells=r.cells+r'.cells:=by simp only [RO.cells,xM,sX,lI,ake]
      by_cases s7:r'.len=0
      ·
       have Ps:r'.cells=0:=by simp [RO.cells,s7]
       have aN:(Builtin.append_ #[t,t] oo.type #[a.eval x,a.eval y]).run P w= .ok o.val w:=by
        rw [g2,rR,s7];exact bR hu hi _ _ _ _ _ KV.1 w
       cases hb:o.aZ with
       |none=>
        simp only [hb]at g8;exact .val (bT _ _ aN) (finN hb aa)
       |some b=>
        simp only [hb]at g8;obtain⟨g9,cs,ty,g10,g11,g12,g13⟩:=g8
        have:=finS b cs cs ty hb g10 rfl (λ_ _=>rfl) aa (λq hq=>by
         obtain⟨c,h1,h2⟩:=g13 q aa;exact⟨c,h1,gk w M q c (by rw [ajq aa];exact h2)⟩)
        rw [setRow_self w b cs ty (0,0) g10]at this;refine .val (bT _ _ aN) ?_;rw [Sl.val,hb];rw [show o.len=r2.len from by omega];exact this
      ·have iu:0<r'.cells:=Nat.mul_pos aa r'.e9
       obtain⟨b',off',rfl,l,n1,n2,n3⟩:=wZ _ rfl iu;cases hb:o.aZ with
       |none=>
        simp only [hb]at g8
        have aN:=run_append_nil (P:=P) w t oo.type e i z hu hi gE ⟨b',off',none⟩ r'.len cap' l (by rw [n1,RO.cells,bu,lI]) n2 aa (by simp only [LB]at Md;omega) (by
         have:r'.len*i.bytes<=r2.len*i.bytes:=ajO _ aa;omega)
        have hlen:r2.len=r'.len:=aa;refine fresh (r:=r2) (eI:=0) (news:=l) An (by rw [n1,mX];simp [RO.cells,g8.1]) (λq hq=>?_) ?_ finF
        ·have Sv:r.cells=0:=by simp [RO.cells,g8.1]
         obtain⟨c,h1,h2⟩:=n3 q aa;exact⟨c,h1,gk w M q c (by rw [ajm aa,Sv];exact h2)⟩
        ·rw [g2,rR,hlen,Sl.val,hb,g4,g8.1,g8.2]
         exact aN
       |some b=>
        simp only [hb]at g8;obtain⟨g9,cs,ty,g10,g11,g12,g13⟩:=g8;have KN:r.cells<=cs.size:=by rw [g11,g5];exact ajO _ aa
        by_cases ku:o.len+r'.len<=o.cap
        ·
         have tZ:o.len*i.size+l.length<=cs.size:=by
          rw [n1,g11,bu,g5,RO.cells,lI,<-ake];exact ajO _ ku
         have Me:∀v∈l,v.oneCell'=true:=λv hv=>by
          obtain⟨j,hj⟩:=List.mem_iff_getElem?.1 hv
          have oR:j<r'.cells:=by
           rw [<-n1];rcases ajF j l.length with h'|h'
           ·exact h'
           ·rw [aj0 h']at hj;cases hj
          obtain⟨c,h1,h2⟩:=n3 j oR;rw [hj]at h1;cases h1;exact lW h2.aO
         have aN:=sW (P:=P) (w:=w) t oo.type e i hu hi b o.len o.cap ty cs g10 ⟨b',off',none⟩ r'.len cap' l (by rw [n1,RO.cells,bu,lI]) n2 Me ku tZ;have M4:o.len*i.size=r.cells:=by rw [g4,bu];rfl
         let cs':=(cs.toList.take (o.len*i.size)++l++cs.toList.drop (o.len*i.size+l.length)).toArray
         have eY:∀q,cs'[q]? =if r.cells<=q/\q<r.cells+r'.cells then l[q - r.cells]? else cs[q]? :=λq=>by
          have:=mr (l:=cs.toList) (m:=l) (o:=o.len*i.size) (q:=q) (by simpa using tZ);simp only [ajt,M4,n1]at this;simp only [cs',List.getElem?_toArray,M4,n1];exact this
         have oE:cs'.size=cs.size:=by simp [cs'];omega
         have B7:=finS b cs cs' ty hb g10 oE (λq hq=>by
          have:wm*r.sz<=r.cells:=ajO _ g7;rw [eY q,ajm aa]) aa (λq hq=>by
          rw [eY q]
          by_cases OV:q<r.cells
          ·obtain⟨c,h1,h2⟩:=g13 q OV
           rw [ajm aa];exact⟨c,h1,gk w M q c (by rw [ajq OV];exact h2)⟩
          ·obtain⟨c,h1,h2⟩:=n3 (q - r.cells) aa
           rw [ajq aa];exact⟨c,h1,gk w M q c (by rw [ajm OV];exact h2)⟩)
         rw [show r2.len=o.len+r'.len from by omega]at B7;exact .val (bT _ _ (by rw [g2,rR,Sl.val,hb];exact aN)) B7
        ·
         have holds:∃olds:List Value,olds.length=r.cells/\(∀j v,olds[j]? =some v->w.cell? ((⟨b,0,none⟩:Addr).add j)=some v)/\∀q,q<r.cells->∃c,olds[q]? =some c/\ay w M r q c:=by
          obtain⟨l,h1,h2,h3⟩:=ju (w:=w) (b:=b) (off:=0) (n:=r.cells) (C:=ay w M r) (λq hq=>by
           obtain⟨c,h1,h2⟩:=g13 q hq;exact⟨c,by rw [cell_of_heap g10,ajQ];exact h1,h2⟩)
          exact⟨l,h1,λj v hj=>by rw [aU];exact h2 j v hj,h3⟩
         obtain⟨olds,m1,m2,m3⟩:=holds;have M5:r2.len=o.len+r'.len:=aa
         have aN:=run_append_grow (P:=P) w t oo.type e i z hu hi gE ⟨b,0,none⟩ o.len o.cap olds (by rw [m1,RO.cells,bu,g4]) m2 ⟨b',off',none⟩ r'.len cap' l (by rw [n1,RO.cells,bu,lI]) n2 aa
          aa (growslice_fits aa (by rw [<-M5];exact VV))
         refine fresh (r:=r2) (eI:=o.cap) (news:=olds++l) An (by rw [ajp,m1,n1,mX]) (λq hq=>?_) ?_ finF
         ·by_cases OV:q<r.cells
          ·obtain⟨c,h1,h2⟩:=m3 q OV
           exact⟨c,by rw [ajI aa];exact h1,gk w M q c (by rw [ajq OV];exact h2)⟩
          ·obtain⟨c,h1,h2⟩:=n3 (q - r.cells) aa
           exact⟨c,by rw [aj2 aa,m1];exact h1,gk w M q c (by rw [ajm OV];exact h2)⟩
         ·rw [g2,rR,M5,Sl.val,hb]
          simp only [Option.map_some];rw [aN];simp
    cases ax<;>try exact h.elim
    ·
     rename_i k _;obtain⟨o,g1,g2⟩:=hx;simp only at h;split at h
     ·rename_i wm r hf
      rw [aq]at h;obtain⟨aY,h⟩:=h;obtain⟨r2,h,xM,sX,lI,gk⟩:=oy h;rw [bV]at h;obtain⟨xB,OU,h⟩:=rK h aa;have BQ:r2.len<=LB:=by simp only [LB];omega
      obtain⟨⟨o',g3,g4⟩,_⟩:=st.aZ k _ hf;obtain rfl:=cC g3 g1;have g7:=g4.2.2.2.1;refine grow g4 g2 aY xM sX lI gk (by rw [Int.mul_comm];omega) OU (λhb h0=>?_) (λb cs cs' ty hb bU bu gP dZ hc=>?_) (λhw oK bU dZ hc=>?_)
      ·obtain⟨T',S',O',M',q1,q2,q3,q4,q5⟩:=rO h st tm (wm:=wm) (r:=r2) h0 aa
       refine⟨O',M',T',_,_,q1,q2,q3,q4,_,iR q5,?_⟩;have:=g4.2.2.2.2;simp only [hb]at this;rw [Sl.val,Sl.val,hb,g4.1,this.1,this.2]
      ·obtain⟨T',S',O',M',q1,q2,q3,q4,q5⟩:=yn h st tm (r':=r2) (cs':=cs') g3 hb hf bU bu gP sX aa dZ BQ hc
       exact⟨O',M',T',_,_,q1,q2,q3,q4,_,iR q5,rfl⟩
      ·obtain⟨T',S',O',M',q1,q2,q3,q4,q5⟩:=iY h st tm (wm:=wm) hw oK bU dZ BQ aa hc
       exact⟨O',M',T',_,_,q1,q2,q3,q4,_,iR q5,rfl⟩
     ·rename_i n0 r hf
      rw [aq]at h;obtain⟨aY,h⟩:=h;obtain⟨r2,h,xM,sX,lI,gk⟩:=oy h;rw [bV]at h;obtain⟨xB,OU,h⟩:=rK h aa;have BQ:r2.len<=LB:=by simp only [LB];omega
      obtain⟨o0,cur,g3,g4,gj⟩:=st.aZ k _ hf;have Ji:o=cur:=by rw [mD g3]at g1;exact(ajN g1).symm
      subst Ji;refine grow g4 g2 aY xM sX lI gk (by rw [Int.mul_comm];omega) OU (λhb h0=>?_) (λb cs cs' ty hb bU bu gP dZ hc=>?_) (λhw oK bU dZ hc=>?_)
      ·have g8:=g4.2.2.2.2
       simp only [hb]at g8;obtain⟨T',S',O',q1,q2,q3,q4,q5⟩:=yo h st tm (cur':=⟨o.aZ,0,0,r2.sz⟩) g3 (r:=r2) (by rw [sX];exact gj) rfl ⟨h0.symm,rfl,BQ,ajk _,by simp only [hb];exact⟨h0,ag⟩⟩;refine⟨O',M,T',_,_,q1,q2,q3,q4,_,mD q5,?_⟩;rw [Sl.val,Sl.val,g4.1,g8.1,g8.2]
      ·obtain⟨T',S',O',M',q1,q2,q3,q4,q5⟩:=xA h st tm (r':=r2) (cs':=cs') g3 gj g4 hb bU bu sX dZ BQ hc
       exact⟨O',M',T',_,_,q1,q2,q3,q4,_,mD q5,rfl⟩
      ·obtain⟨T',S',O',M',q1,q2,q3,q4,q5⟩:=BP h st tm g3 (by rw [sX];exact gj) hw oK bU dZ BQ hc
       exact⟨O',M',T',_,_,q1,q2,q3,q4,_,mD q5,rfl⟩
     ·exact h.elim
    ·
     simp only at h;rw [aq,bV]at h;obtain⟨aY,h⟩:=h;obtain⟨xB,_,h⟩:=rK h aa;have db:a.eval x= .slice none 0 0:=hx;have bu:i.size=r'.sz:=(elem r' aY).1
     by_cases s7:r'.len=0
     ·obtain⟨T',S',O',M',q1,q2,q3,q4,q5⟩:=rO h st tm (wm:=0) (r:=r') s7 (ajk _)
      refine .val (bT (.slice none 0 0) w ?_) ⟨O',M',T',_,_,q1,q2,q3,q4,_,iR q5,rfl⟩;rw [db,rR,s7];exact bR hu hi _ _ _ _ _ (ajl _) w
     ·have iu:0<r'.cells:=Nat.mul_pos aa r'.e9
      obtain⟨b',off',rfl,l,n1,n2,n3⟩:=wZ _ rfl iu;have aN:=run_append_nil (P:=P) w t oo.type e i z hu hi gE ⟨b',off',none⟩ r'.len cap' l (by rw [n1,RO.cells,bu]) n2 aa (by simp only [LB]at Md;omega) (by rw [tY];omega);refine fresh (r:=r') (eI:=0) (news:=l) aY n1 n3 (by rw [db,rR];exact aN) λhw oK bU dZ hc=>?_;obtain⟨T',S',O',M',q1,q2,q3,q4,q5⟩:=iY h st tm (wm:=0) hw oK bU dZ Md (ajk _) hc;exact⟨O',M',T',_,_,q1,q2,q3,q4,_,iR q5,rfl⟩
    ·
     rename_i r _;simp only at h;rw [aq]at h;obtain⟨aY,h⟩:=h;obtain⟨r2,h,xM,sX,lI,gk⟩:=oy h;rw [bV,bV]at h;obtain⟨xB,OU,XT,h⟩:=rK h aa;obtain⟨hr,ad0,db⟩:=hx
     by_cases s7:r'.len=0
     ·refine .val (bT (a.eval x) w ?_) ⟨O,M,T,S,_,XT s7,st,tm,rfl,hr⟩
      rw [db,rR,s7];exact bR hu hi _ _ _ _ _ (ajl _) w
     ·have h:=h s7
      have BQ:r2.len<=LB:=by simp only [LB];omega
      have bu:i.size=r.sz:=(elem r aY).1
      have An:eF TY t r2=true:=by
       have key:∀r:RO,eF TY t r=(match (au TY t).d with|.slice e=>Nat.beq (au TY e).sz r.sz|_=>false):=λr=>by
        unfold eF;cases (au TY t).d<;>first|rfl|(cases r<;>rfl)
       rw [key]at aY ⊢;rw [sX];exact aY
      have VV:r2.len*i.bytes<=140737488355328:=by
       have:((r2.len*i.bytes:Nat):Int)=((au TY e).bytes:Int)*r2.len:=by rw [tY,aki];push_cast;rfl
       rw [Int.mul_comm]at xB;omega
      have mX:r2.cells=r.cells+r'.cells:=by simp only [RO.cells,xM,sX,lI,ake]
      have iu:0<r'.cells:=Nat.mul_pos aa r'.e9;obtain⟨b',off',rfl,l,n1,n2,n3⟩:=wZ _ rfl iu
      have fin:∀{cs:Array Value} {cap:Nat} {w':World},w'.heap=w.heap.push (.cells cs e (0,0))->kg w w'->cs.size=cap*r2.sz->r2.len<=cap->(∀q,q<r2.cells->∃c,cs[q]? =some c/\ay w M r2 q c)->
        bM w0 M0 a T.length K (.slice (some ⟨w.heap.size,0,none⟩) r2.len cap) w':=λhw oK bU dZ hc=>by
       obtain⟨T',S',O',M',q1,q2,q3,q4,q5⟩:=iY h st tm (wm:=0) hw oK bU dZ BQ (ajk _) hc;exact⟨O',M',T',_,_,q1,q2,q3,q4,_,iR q5,rfl⟩
      cases ad0 with
      |none=>
       have Sv:r.len=0/\r.cells=0:=by
        obtain⟨_,a1,cap1,h1,_,h2⟩:=hr;rw [db]at h1;cases h1;rcases h2 with h2|⟨b,off,h2,_⟩
        ·exact⟨by
          rcases aj1 r.len with h3|h3
          ·exact h3
          ·have:0<r.cells:=Nat.mul_pos h3 r.e9
           omega,h2⟩
        ·cases h2
       have aN:=run_append_nil (P:=P) w t oo.type e i z hu hi gE ⟨b',off',none⟩ r'.len cap' l (by rw [n1,RO.cells,bu,lI]) n2 aa (by simp only [LB]at Md;omega) (by
        have:r'.len*i.bytes<=r2.len*i.bytes:=ajO _ aa;omega)
       have hlen:r2.len=r'.len:=aa;refine fresh (r:=r2) (eI:=0) (news:=l) An (by rw [n1,mX];omega) (λq hq=>?_) ?_ fin
       ·obtain⟨c,h1,h2⟩:=n3 q aa
        exact⟨c,h1,gk w M q c (by rw [ajm aa,Sv.2];exact h2)⟩
       ·rw [db,rR,hlen,Sv.1]
        exact aN
      |some a0=>
       have holds:∃olds:List Value,olds.length=r.cells/\(∀j v,olds[j]? =some v->w.cell? (a0.add j)=some v)/\∀q,q<r.cells->∃c,olds[q]? =some c/\ay w M r q c:=by
        obtain⟨_,a1,cap1,h1,_,h2⟩:=hr;rw [db]at h1;cases h1;rcases h2 with h2|⟨b,off,h2,h3⟩
        ·exact⟨[],by rw [h2];rfl,λj v hj=>by simp at hj,λq hq=>by omega⟩
        ·cases h2
         obtain⟨l,h1,h2,h3⟩:=ju (w:=w) (b:=b) (off:=off) (n:=r.cells) (C:=ay w M r) (λq hq=>by obtain⟨c,h4,_,h5⟩:=h3 q hq;exact⟨c,h4,h5⟩);exact⟨l,h1,λj v hj=>by rw [aU];exact h2 j v hj,h3⟩
       obtain⟨olds,m1,m2,m3⟩:=holds
       have aN:=run_append_grow (P:=P) w t oo.type e i z hu hi gE a0 r.len r.len olds (by rw [m1,RO.cells,bu]) m2 ⟨b',off',none⟩ r'.len cap' l (by rw [n1,RO.cells,bu,lI]) n2 aa
        aa (growslice_fits aa (by rw [<-xM];exact VV))
       refine fresh (r:=r2) (eI:=r.len) (news:=olds++l) An (by rw [ajp,m1,n1,mX]) (λq hq=>?_) ?_ fin
       ·by_cases OV:q<r.cells
        ·obtain⟨c,h1,h2⟩:=m3 q OV
         exact⟨c,by rw [ajI aa];exact h1,gk w M q c (by rw [ajq OV];exact h2)⟩
        ·obtain⟨c,h1,h2⟩:=n3 (q - r.cells) aa
         exact⟨c,by rw [aj2 aa,m1];exact h1,gk w M q c (by rw [ajm OV];exact h2)⟩
       ·rw [db,rR,xM]
        rw [aN];simp
  ·exact h.elim
 ·exact h.elim
theorem si:∀{ps:List (Nat × Operand)} {n:Nat} {K:List Operand->Prop},pk n ps K->K (ps.map (·.2))/\∀j p,ps[j]? =some p->p.1=n+j
 |[],n,K,h=>⟨h,λj p hj=>by simp at hj⟩
 |(i,x)::ps,n,K,h=>by
  simp only [pk]at h;split at h
  ·rename_i hb
   obtain⟨h1,h2⟩:=si h;refine⟨h1,λj p hj=>?_⟩;cases j with
   |zero=>simp at hj;subst hj;exact aA.1 hb
   |succ j=>rw [h2 j p (by simpa using hj)];omega
  ·exact h.elim
theorem II(k:IntKind):kq k k=true:=by cases k<;>rfl
theorem OW{r:RO}{a:AV}{l:List AV}{K:RO->Prop}(h:bA r (a::l) K):
  ∃s,Ep r s (λr1=>bA r1 l K)/\s.len=1/\∀(O:Env) (w:World) (M:a7) (u:Value),aC O w M a u->u.cells.size=s.sz/\∀q c,u.cells[q]? =some c->ay w M s q c:=by
 have one:∀{s:RO} {u:Value} {w:World} {M:a7},s.sz=1->aO u->ay w M s 0 u->u.cells.size=s.sz/\∀q c,u.cells[q]? =some c->ay w M s q c:=by
  intro s u w M hs hu hc;have bU:u.cells= #[u]:=by cases u<;>first|rfl|exact hu.elim
  rw [bU,hs];refine⟨rfl,λq c hq=>?_⟩;rcases q with _|q
  ·simp at hq;subst hq;exact hc
  ·simp at hq
 have nil1:∀{w:World} {M:a7} {C:Nat->Value->Prop},kN w M 0 C 0 (.slice none 0 0):=λ{w M C}=>⟨none,0,rfl,ajl _,.inl rfl⟩;cases r with
 |ints k m=>
  cases a<;>try exact h.elim
  rename_i k' n;simp only [bA,cH]at h;refine⟨.ints k' [n],h,rfl,λO w M u hu=>?_⟩;obtain⟨rfl,hr⟩:=hu;exact one rfl trivial ⟨rfl,hr⟩
 |aI m=>
  cases a<;>try exact h.elim
  rename_i e;simp only [bA,cH]at h;refine⟨.aI [e.val],h,rfl,λO w M u hu=>?_⟩;have hu:u= .bool e.val:=hu;subst hu;exact one rfl trivial rfl
 |rows k m=>
  cases a<;>try exact h.elim
  ·rename_i s
   cases s<;>try exact h.elim
   rename_i k' x;simp only [bA,cH]at h;refine⟨.rows k' [x],h,rfl,λO w M u hu=>one rfl (aJ.aO (a:=.ro (.ints k' x)) (O:=O) hu) (iw.1 hu)⟩
  ·simp only [bA,cH]at h
   refine⟨.rows k [[]],aq.2 ⟨II k,h⟩,rfl,λO w M u hu=>?_⟩;have hu:u= .slice none 0 0:=hu;subst hu;exact one rfl trivial ⟨ajk _,nil1⟩
 |bC m=>
  cases a<;>try exact h.elim
  ·rename_i s
   cases s<;>try exact h.elim
   rename_i x;simp only [bA,cH]at h;refine⟨.bC [x],h,rfl,λO w M u hu=>one rfl (aJ.aO (a:=.ro (.aI x)) (O:=O) hu) (gV.1 hu)⟩
  ·simp only [bA,cH]at h
   refine⟨.bC [[]],h,rfl,λO w M u hu=>?_⟩;have hu:u= .slice none 0 0:=hu;subst hu;exact one rfl trivial ⟨ajk _,nil1⟩
 |bH m=>
  cases a<;>try exact h.elim
  ·rename_i s
   cases s<;>try exact h.elim
   rename_i k' x;cases k'<;>try exact h.elim
   simp only [bA,cH]at h;refine⟨.bH [x],h,rfl,λO w M u hu=>one rfl (aJ.aO (a:=.ro (.rows .i64 x)) (O:=O) hu) (jB.1 hu)⟩
  ·simp only [bA,cH]at h
   refine⟨.bH [[]],h,rfl,λO w M u hu=>?_⟩;have hu:u= .slice none 0 0:=hu;subst hu;exact one rfl trivial ⟨ajk _,nil1⟩
 |aW m=>
  simp only [bA,cH]at h;split at h<;>first|exact h.elim|(rename_i heq;cases heq)|skip
  rename_i x y;refine⟨.aW [(x,y)],h,rfl,λO w M u hu=>?_⟩;obtain⟨cs,rfl,bU⟩:=hu;obtain⟨l⟩:=cs
  match l,bU with
  |[c,d],bU=>
   obtain⟨⟨rfl,r1⟩,⟨rfl,r2⟩,_⟩:=bU;refine⟨rfl,λq c hq=>?_⟩;rcases q with _|_|q
   ·simp [Value.cells]at hq;subst hq;exact⟨rfl,r1⟩
   ·simp [Value.cells]at hq;subst hq;exact⟨rfl,r2⟩
   ·simp [Value.cells]at hq
 |strs m=>
  cases a<;>try exact h.elim
  rename_i x;simp only [bA,cH]at h;exact⟨.strs [x],h,rfl,λO w M u hu=>one rfl (aJ.aO (a:=.str x) (O:=O) (w:=w) (M:=M) hu) hu⟩
 |ec m=>
  simp only [bA,cH]at h;split at h<;>first|exact h.elim|(rename_i heq;cases heq)|skip
  rename_i x y z;refine⟨.ec [(x,y,z)],h,rfl,λO w M u hu=>?_⟩;obtain⟨cs,rfl,bU⟩:=hu;obtain⟨l⟩:=cs
  match l,bU with
  |[c,d,e],bU=>
   obtain⟨⟨rfl,r1⟩,r2,⟨rfl,r3⟩,_⟩:=bU;refine⟨rfl,λq c hq=>?_⟩;rcases q with _|_|_|q
   ·simp [Value.cells]at hq;subst hq;exact⟨rfl,r1⟩
   ·simp [Value.cells]at hq;subst hq;exact gV.1 r2
   ·simp [Value.cells]at hq;subst hq;exact⟨rfl,r3⟩
   ·simp [Value.cells]at hq
 |dS m=>
  simp only [bA,cH]at h;split at h<;>first|exact h.elim|(rename_i heq;cases heq)|skip
  rename_i x y;refine⟨.dS [(x,y)],h,rfl,λO w M u hu=>?_⟩;obtain⟨cs,rfl,bU⟩:=hu;obtain⟨l⟩:=cs
  match l,bU with
  |[c,d],bU=>
   obtain⟨r1,r2,_⟩:=bU;refine⟨by rw [show(RO.dS [(x,y)]).sz=2 from rfl];rfl,λq c hq=>?_⟩;rcases q with _|_|q
   ·simp [Value.cells]at hq;subst hq;exact r1
   ·simp [Value.cells]at hq;subst hq;exact r2
   ·simp [Value.cells]at hq
 |fb n k m=>
  cases a<;>try exact h.elim
  rename_i x;simp only [bA,aq]at h;obtain⟨hx,h⟩:=h;obtain⟨y,h2,rfl⟩:=zG h;clear h;have h:=h2;clear h2;rw [cH]at h;refine⟨.fb n k [y],aq.2 ⟨Nat.beq_refl n,aq.2 ⟨II k,h⟩⟩,rfl,λO w M u hu=>?_⟩;obtain⟨cs,rfl,bU⟩:=hu;have hl:=bU.length;rw [dD hx]at hl;have n7:n+2=cs.size:=by simpa using hl
  refine⟨n7.symm,λq c hq=>?_⟩
  have K5:q<n+2:=by
   rw [n7];rcases ajF q cs.size with h'|h'
   ·exact h'
   ·rw [show(Value.agg cs).cells=cs from rfl,ajD h']at hq;cases hq
  obtain⟨v,h1,h2⟩:=bU.get q (by rw [dD hx];exact K5)
  have Co:c=v:=by
   have:cs[q]? =some c:=hq;rw [ajt]at h1;rw [h1]at this;exact(ajN this).symm
  subst Co
  have abJ:nth (y.map (AV.int k)) q= .int k (y.getD q 0):=by
   have hyq:q<(y.map (AV.int k)).length:=by rw [dD hx];exact K5
   have:=IG _ q hyq;rw [ajR]at this;cases hy:y[q]? with
   |none=>rw [hy]at this;cases this
   |some z=>rw [hy]at this;simp only [List.getD,hy];exact(ajN this).symm
  rw [abJ]at h2;simp only [ay,Nat.div_eq_of_lt K5,Nat.mod_eq_of_lt K5];exact h2
 |cN m=>
  cases a<;>try exact h.elim
  ·rename_i s
   cases s<;>try exact h.elim
   rename_i x;simp only [bA,cH]at h;refine⟨.cN [x],h,rfl,λO w M u hu=>one rfl (aJ.aO (a:=.ro (.aW x)) (O:=O) hu) (zH.1 hu)⟩
  ·simp only [bA,cH]at h
   refine⟨.cN [[]],h,rfl,λO w M u hu=>?_⟩;have hu:u= .slice none 0 0:=hu;subst hu;exact one rfl trivial ⟨ajk _,nil1⟩
 |cY k m=>cases a<;>exact h.elim
theorem ni:∀{l:List AV} {r:RO} {K:RO->Prop},bA r l K->
  ∃r',K r'/\r'.len=r.len+l.length/\r'.sz=r.sz/\∀(O:Env) (w:World) (M:a7) (us:List Value),aM (aC O w M) l us->
   (∀u∈us,u.cells.size=r.sz)/\∀q c,(if q<r.cells then ay w M r q c else (us.flatMap λu=>u.cells.toList)[q - r.cells]? =some c)->ay w M r' q c
 |[],r,K,h=>⟨r,h,rfl,rfl,λO w M us hu=>by
    cases us with
    |nil=>exact⟨by simp,λq c hc=>by split at hc;exact hc;simp at hc⟩
    |cons=>exact hu.elim⟩
 |a::l,r,K,h=>by
  have step:∀(r1:RO),bA r1 l K->r1.len=r.len+1->r1.sz=r.sz->
    (∀(O:Env) (w:World) (M:a7) (u:Value),aC O w M a u->u.cells.size=r.sz/\∀q c,(if q<r.cells then ay w M r q c else u.cells[q - r.cells]? =some c)->ay w M r1 q c)->
    ∃r',K r'/\r'.len=r.len+(a::l).length/\r'.sz=r.sz/\∀(O:Env) (w:World) (M:a7) (us:List Value),aM (aC O w M) (a::l) us->
     (∀u∈us,u.cells.size=r.sz)/\∀q c,(if q<r.cells then ay w M r q c else (us.flatMap λu=>u.cells.toList)[q - r.cells]? =some c)->ay w M r' q c:=by
   intro r1 h1 hl hz cT;obtain⟨r',h2,h3,h4,h5⟩:=ni h1;refine⟨r',h2,by rw [h3,hl];simp;omega,h4.trans hz,λO w M us hu=>?_⟩;cases us with
   |nil=>exact hu.elim
   |cons u us=>
    obtain⟨c1,c2⟩:=cT O w M u hu.1;obtain⟨c3,c4⟩:=h5 O w M us hu.2;refine⟨λv hv=>?_,λq c hc=>c4 q c ?_⟩
    ·rcases ajo.1 hv with rfl|hv
     ·exact c1
     ·rw [c3 v hv,hz]
    ·have u5:r1.cells=r.cells+r.sz:=by simp only [RO.cells,hl,hz,ake,Nat.one_mul]
     by_cases hq:q<r.cells
     ·rw [ajq hq]at hc
      rw [ajq aa];exact c2 q c (by rw [ajq hq];exact hc)
     ·rw [ajm hq]at hc
      simp only [List.flatMap_cons]at hc
      by_cases IP:q<r1.cells
      ·rw [ajq IP]
       rw [ajI (by simp;omega),ajt]at hc;exact c2 q c (by rw [ajm hq];exact hc)
      ·rw [ajm IP]
       rw [aj2 (by simp;omega)]at hc;rw [<-hc];congr 1;simp;omega
  obtain⟨s,hs,gv,hsr⟩:=OW h;obtain⟨r1,h1,rX,gE,uE,s3⟩:=oy hs;refine step r1 h1 aa gE λO w M u hu=>?_;obtain⟨g1,g2⟩:=hsr O w M u hu;refine⟨aa,λq c hc=>s3 w M q c ?_⟩;split at hc
  ·rename_i hq;rw [ajq hq];exact hc
  ·rename_i hq;rw [ajm hq];exact g2 _ c hc
end
end Go.AM
end
