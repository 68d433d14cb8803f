import Derived.Test.YtjabhmhhhlcopaaGreatDoorAmQAll2
import Derived.MapKept
import Derived.WideKeyArr
import Derived.Carry
import Derived.Laws.BytesString
import Derived.Laws.CopyRow
section
namespace Go.AM
open Go Go.MapKept
section
variable {P:Program} {w:World} {vk:Option IntKind}
theorem bytes_inj {a b:List Int} (ha:∀x∈a,byteP x) (hb:∀x∈b,byteP x) (h:a.map (fun x=>UInt8.ofNat x.toNat)=b.map (fun x=>UInt8.ofNat x.toNat)):a=b:=by
  induction a generalizing b with
  |nil=>cases b with
   |nil=>rfl
   |cons y b=>simp at h
  |cons x a ih=>cases b with
   |nil=>simp at h
   |cons y b=>
    simp only [List.map_cons,List.cons.injEq] at h
    have h1:=congrArg UInt8.toNat h.1
    have hx:=ha x (by simp)
    have hy:=hb y (by simp)
    unfold byteP at hx hy
    simp only [UInt8.toNat_ofNat'] at h1
    rw [ih (fun z hz=>ha z (List.mem_cons_of_mem _ hz)) (fun z hz=>hb z (List.mem_cons_of_mem _ hz)) h.2,show x=y by omega]
theorem strB_inj {a b:List Int} (ha:∀x∈a,byteP x) (hb:∀x∈b,byteP x) (h:strB a=strB b):a=b:=by
  refine bytes_inj ha hb ?_
  have:=congrArg (fun s=>s.data.toList) h
  simpa [strB] using this
theorem strB_fold (l:List Int):l.foldl (fun r n=>r.push (UInt8.ofNat n.toNat)) ByteArray.empty=strB l:=by
  have key:∀(l:List Int) (s:ByteArray),(l.foldl (fun r n=>r.push (UInt8.ofNat n.toNat)) s).data=s.data++(l.map fun x=>UInt8.ofNat x.toNat).toArray:=by
    intro l
    induction l with
    |nil=>intro s;simp
    |cons x l ih=>intro s;simp only [List.foldl_cons,ih];simp [ByteArray.push]
  have h:=key l ByteArray.empty
  have e:∀s:ByteArray,s=⟨s.data⟩:=fun s=>by cases s;rfl
  rw [e (l.foldl _ _),h]
  simp [strB,ByteArray.empty,ByteArray.emptyWithCapacity]
  rfl
theorem key_inj {kd:KeyD} {a b:List Int} {v:Value} (ha:KeyV kd a v) (hb:KeyV kd b v):a=b:=by
  cases kd with
  |int k=>
   obtain ⟨n,rfl,h1,_⟩:=ha
   obtain ⟨m,rfl,h2,_⟩:=hb
   rw [h1] at h2;cases h2;rfl
  |arr n k=>
   obtain ⟨_,h1,_⟩:=ha
   obtain ⟨_,h2,_⟩:=hb
   rw [h1] at h2
   simp only [Value.agg.injEq] at h2
   have h3:a.map (fun x=>Value.int k x)=b.map (fun x=>Value.int k x):=by
     have:=congrArg Array.toList h2
     simpa using this
   exact List.map_inj_right (fun x y h=>by cases h;rfl) |>.1 h3
  |str=>
   obtain ⟨h1,ha⟩:=ha
   obtain ⟨h2,hb⟩:=hb
   rw [h1] at h2
   exact strB_inj ha hb (by injection h2)
theorem key_fun {kd:KeyD} {a:List Int} {v v':Value} (ha:KeyV kd a v) (hb:KeyV kd a v'):v=v':=by
  cases kd with
  |int k=>
   obtain ⟨n,rfl,h1,_⟩:=ha
   obtain ⟨m,h,h2,_⟩:=hb
   cases h
   rw [h1,h2]
  |arr n k=>rw [ha.2.1,hb.2.1]
  |str=>rw [ha.1,hb.1]
def Found (_P:Program) (_kt:TypeId) (w:World) (vk:Option IntKind) (key:List Int) (kv:Value) (m:List (List Int × Int)) (es:List MapEntry) (i:Nat) (run:Result (Option (Nat × Value))):Prop:=
  (run= .ok none w∧getM m key=none∧setM m key=fun v=>m++[(key,v)])∨
    ∃j e n,run= .ok (some (i+j,e.val)) w∧es[j]? =some e∧e.key=kv∧getM m key=some n∧ValV vk n e.val∧∀v,setM m key v=m.set j (key,v)
structure KeyL (P:Program) (kd:KeyD) (kt:TypeId):Prop where
  check:∀(w:World) (em:Bool) {l:List Int} {v:Value},KeyV kd l v→(Instr.checkKey em 10000 kt v).run P w= .ok () w
  find:∀(w:World) (vk:Option IntKind) {key:List Int} {kv:Value} {m:List (List Int × Int)} {es:List MapEntry},KeyV kd key kv→RepM kd vk m es→Found P kt w vk key kv m es 0 ((Instr.findKey kt kv es).run P w)
  stays:∀(w:World) {l:List Int} {v:Value},KeyV kd l v→(Instr.keyThatStays v v).run P w= .ok v w
theorem found_cons {kd:KeyD} {kt:TypeId} {key:List Int} {kv:Value} {p:List Int × Int} {m:List (List Int × Int)} {e:MapEntry} {es:List MapEntry} {i:Nat} {run:Result (Option (Nat × Value))} (hk:KeyV kd key kv) (hp:KeyV kd p.1 e.key) (hne:e.key≠kv) (h:Found P kt w vk key kv m es (i+1) run):
    Found P kt w vk key kv (p::m) (e::es) i run:=by
  have hne:p.1≠key:=fun he=>hne (key_fun hp (he▸hk))
  rcases h with ⟨h1,h2,h3⟩|⟨j,e',x,h1,h2,h3,h4,h5,h6⟩
  · exact .inl ⟨h1,by simp [getM,hne,h2],by funext v;simp [setM,hne,h3]⟩
  · exact .inr ⟨j+1,e',x,by rw [h1];simp;omega,by simpa using h2,h3,by simp [getM,hne,h4],h5,fun v=>by simp [setM,hne,h6]⟩
theorem found_here {kd:KeyD} {kt:TypeId} {key:List Int} {kv:Value} {p:List Int × Int} {m:List (List Int × Int)} {e:MapEntry} {es:List MapEntry} {i:Nat} (hk:KeyV kd key kv) (hp:KeyV kd p.1 e.key) (hv:ValV vk p.2 e.val) (he:e.key=kv):
    Found P kt w vk key kv (p::m) (e::es) i (.ok (some (i,e.val)) w):=by
  have:p.1=key:=key_inj (he▸hp) hk
  exact .inr ⟨0,e,p.2,by simp,rfl,he,by simp [getM,this],hv,fun v=>by simp [setM,this]⟩
theorem find_int {k:IntKind} {kt:TypeId} {key:List Int} {kv:Value} (w:World) (hkv:KeyV (.int k) key kv):∀{m:List (List Int × Int)} {es:List MapEntry} (i:Nat),RepM (.int k) vk m es→
    ∃r,Instr.findNow (.int k) kv es i=some r∧Found P kt w vk key kv m es i (.ok r w)
  |[],[],i,_=>⟨none,rfl,.inl ⟨rfl,rfl,rfl⟩⟩
  |p::m,e::es,i,h=>by
   obtain ⟨n,rfl,rfl,hn⟩:=id hkv
   obtain ⟨n',hn',hk',_⟩:=h.1.1
   by_cases he:n=n'
   · subst he
     exact ⟨_,by simp [Instr.findNow,hk',Instr.sameNow],found_here hkv h.1.1 h.1.2 hk'⟩
   · have hs:Instr.sameNow (.int k) (.int k n) e.key=some false:=by simp [Instr.sameNow,hk',he]
     obtain ⟨r,h1,h2⟩:=find_int w hkv (i+1) h.2
     exact ⟨r,by simp [Instr.findNow,hs,h1],found_cons hkv h.1.1 (by rw [hk'];simp;exact fun e=>he e.symm) h2⟩
  |[],_::_,_,h=>h.elim
  |_::_,[],_,h=>h.elim
theorem int_key {k:IntKind} {kt:TypeId} (hk:P.underlying kt=some (.int k)):KeyL P (.int k) kt where
  check w em l v h:=run_checkKey hk (by obtain ⟨y,_,rfl,_⟩:=h;simp [IsKey]) em 9999
  find w vk key kv m es hkv hr:=by
    obtain ⟨r,h1,h2⟩:=find_int (P:=P) (kt:=kt) w hkv 0 hr
    rw [run_findKey hk h1];exact h2
  stays w l v h:=run_keyThatStays (d:=.int k) (by obtain ⟨y,_,rfl,_⟩:=h;simp [IsKey])
theorem find_str {kt:TypeId} {key:List Int} {kv:Value} (w:World) (hkv:KeyV .str key kv):∀{m:List (List Int × Int)} {es:List MapEntry} (i:Nat),RepM .str vk m es→
    ∃r,Instr.findNow .string kv es i=some r∧Found P kt w vk key kv m es i (.ok r w)
  |[],[],i,_=>⟨none,rfl,.inl ⟨rfl,rfl,rfl⟩⟩
  |p::m,e::es,i,h=>by
   obtain ⟨h1,h2⟩:=id hkv
   obtain ⟨hk',h3⟩:=h.1.1
   by_cases he:strB key=strB p.1
   · have hbe:=(bytes_beq _ _).2 he
     exact ⟨_,by simp [Instr.findNow,hk',h1,Instr.sameNow,hbe],found_here hkv h.1.1 h.1.2 (by rw [hk',h1,he])⟩
   · have hbe:(strB key==strB p.1)=false:=by rw [←Bool.not_eq_true,bytes_beq];exact he
     have hs:Instr.sameNow .string kv e.key=some false:=by simp [Instr.sameNow,hk',h1,hbe]
     obtain ⟨r,h4,h5⟩:=find_str w hkv (i+1) h.2
     exact ⟨r,by simp [Instr.findNow,hs,h4],found_cons hkv h.1.1 (by rw [hk',h1];simp;exact fun e=>he e.symm) h5⟩
  |[],_::_,_,h=>h.elim
  |_::_,[],_,h=>h.elim
theorem str_key {kt:TypeId} (hk:P.underlying kt=some .string):KeyL P .str kt where
  check w em l v h:=run_checkKey hk (by obtain ⟨rfl,_⟩:=h;simp [IsKey]) em 9999
  find w vk key kv m es hkv hr:=by
    obtain ⟨r,h1,h2⟩:=find_str (P:=P) (kt:=kt) w hkv 0 hr
    rw [run_findKey hk h1];exact h2
  stays w l v h:=run_keyThatStays (d:=.string) (by obtain ⟨rfl,_⟩:=h;simp [IsKey])
theorem find_asking {kd:KeyD} {kt:TypeId} {key:List Int} {kv:Value} (w:World) (heq:∀{lx ly:List Int} {x y:Value},KeyV kd lx x→KeyV kd ly y→∃r:Bool,(Op.equal kt x y).run P w= .ok r w∧(r=true↔x=y)) (hkv:KeyV kd key kv):
    ∀{m:List (List Int × Int)} {es:List MapEntry} (i:Nat),RepM kd vk m es→Found P kt w vk key kv m es i ((Instr.findAsking kt kv es i).run P w)
  |[],[],i,_=>.inl ⟨rfl,rfl,rfl⟩
  |p::m,e::es,i,h=>by
   obtain ⟨r,hr,hiff⟩:=heq hkv h.1.1
   cases r
   · have hne:e.key≠kv:=fun he=>by cases hiff.2 he.symm
     have:=find_asking w heq hkv (i+1) h.2
     have e1:(Instr.findAsking kt kv (e::es) i).run P w=(Instr.findAsking kt kv es (i+1)).run P w:=by simp [Instr.findAsking,hr]
     rw [e1]
     exact found_cons hkv h.1.1 hne this
   · have e1:(Instr.findAsking kt kv (e::es) i).run P w= .ok (some (i,e.val)) w:=by simp [Instr.findAsking,hr]
     rw [e1]
     exact found_here hkv h.1.1 h.1.2 (hiff.1 rfl).symm
  |[],_::_,_,h=>h.elim
  |_::_,[],_,h=>h.elim
theorem in_wf {k:IntKind} {n:Int} (h:inK k n):(Lit.int k n).wf=true:=by
  unfold inK at h
  simp only [Lit.wf,decide_eq_true_eq,Bool.and_eq_true]
  exact h
theorem mapM_all {α β:Type} {f:α→Option β}:∀{l:List α},(∀x∈l,∃y,f x=some y)→∃r,l.mapM f=some r
  |[],_=>⟨[],rfl⟩
  |a::as,h=>by
   obtain ⟨b,hb⟩:=h a (.head _)
   obtain ⟨r,hr⟩:=mapM_all (l:=as) fun x hx=>h x (.tail _ hx)
   exact ⟨b::r,by simp [List.mapM_cons,hb,hr]⟩
theorem arr_key {n:Nat} {k:IntKind} {kt e:TypeId} (A:WideMaps.ArrKey P kt e n) (he:P.underlying e=some (.int k)) (hsz:∃m,P.types.size=m+1):KeyL P (.arr n k) kt:=by
  have lit:∀{l:List Int} {v:Value},KeyV (.arr n k) l v→∃x,keyOf P kt v=some x:=by
    intro l v h
    obtain ⟨h1,rfl,h2⟩:=h
    have hf:(Value.agg (l.map fun x=>Value.int k x).toArray).formed P kt=true:=by simp [Value.formed,A.hu,A.size,h1]
    have hl:∃L,P.keyLits (P.types.size+1) kt (l.map fun x=>Value.int k x)=some L:=by
      obtain ⟨m,hm⟩:=hsz
      rw [hm]
      unfold Program.keyLits
      simp only [A.hu,A.size,A.one]
      rw [if_pos (by simpa using h1)]
      have:∃r,((List.range n).mapM fun i=>P.keyLits (m+1) e (((l.map fun x=>Value.int k x).drop (i*1)).take 1))=some r:=by
        refine mapM_all fun i hi=>?_
        have hi:i<l.length:=by rw [h1];simpa using hi
        have e1:((l.map fun x=>Value.int k x).drop (i*1)).take 1=[.int k l[i]]:=by
          rw [Nat.mul_one]
          apply List.ext_getElem?
          intro j
          rcases j with _|j
          · simp [hi]
          · simp [List.getElem?_take]
        refine ⟨[.int k l[i]],?_⟩
        rw [e1]
        unfold Program.keyLits
        simp only [he]
        simp [in_wf (h2 _ (List.getElem_mem hi))]
      obtain ⟨r,hr⟩:=this
      exact ⟨_,by rw [hr];rfl⟩
    obtain ⟨L,hL⟩:=hl
    refine ⟨.string (keyBytes L),?_⟩
    unfold keyOf
    rw [A.hu]
    simp only [A.keyType hsz,hf,Bool.and_self,if_true]
    show (P.keyLits (P.types.size+1) kt (l.map fun x=>Value.int k x)).map _=_
    rw [hL];rfl
  have heq:∀(w:World) {lx ly:List Int} {x y:Value},KeyV (.arr n k) lx x→KeyV (.arr n k) ly y→∃r:Bool,(Op.equal kt x y).run P w= .ok r w∧(r=true↔x=y):=fun w lx ly x y hx hy=>by
    obtain ⟨a,ha⟩:=lit hx
    obtain ⟨b,hb⟩:=lit hy
    obtain ⟨r,h1,h2⟩:=run_equal_deep w (m:=2) (by omega) (A.at 0) A.wide ha hb
    refine ⟨r,h1,h2.trans ⟨fun e=>keyOf_inj_deep A.tiled A.wide ha (e▸hb),fun e=>?_⟩⟩
    subst e;rw [ha] at hb;exact Option.some.inj hb
  exact {
    check:=fun w em l v h=>by obtain ⟨x,hx⟩:=lit h;exact A.law.check w em hx
    find:=fun w vk key kv m es hkv hr=>by rw [run_findKey_eq w A.wide];exact find_asking w (heq w) hkv 0 hr
    stays:=fun w l v h=>by obtain ⟨x,hx⟩:=lit h;exact A.law.stays w hx }
theorem RepM.set {kd:KeyD} {key:List Int} {v:Int}:∀{m:List (List Int × Int)} {es:List MapEntry} {j:Nat} {e e':MapEntry},RepM kd vk m es→es[j]? =some e→KeyV kd key e'.key→ValV vk v e'.val→RepM kd vk (m.set j (key,v)) (es.set j e')
  |_::_,_::_,0,_,_,h,_,hk,hv=>⟨⟨hk,hv⟩,h.2⟩
  |_::_,_::_,j+1,_,_,h,he,hk,hv=>⟨h.1,RepM.set (j:=j) h.2 (by simpa using he) hk hv⟩
  |[],[],_,_,_,_,he,_,_=>by simp at he
  |[],_::_,_,_,_,h,_,_,_=>h.elim
  |_::_,[],_,_,_,h,_,_,_=>h.elim
theorem RepM.push {kd:KeyD} {key:List Int} {v:Int} {e':MapEntry}:∀{m:List (List Int × Int)} {es:List MapEntry},RepM kd vk m es→KeyV kd key e'.key→ValV vk v e'.val→RepM kd vk (m++[(key,v)]) (es++[e'])
  |[],[],_,hk,hv=>⟨⟨hk,hv⟩,trivial⟩
  |_::_,_::_,h,hk,hv=>⟨h.1,RepM.push h.2 hk hv⟩
  |[],_::_,h,_,_=>h.elim
  |_::_,[],h,_,_=>h.elim
theorem RepM.length {kd:KeyD}:∀{m:List (List Int × Int)} {es:List MapEntry},RepM kd vk m es→m.length=es.length
  |[],[],_=>rfl
  |_::_,_::_,h=>by simp [RepM.length h.2]
  |[],_::_,h=>h.elim
  |_::_,[],h=>h.elim
theorem run_mapUpdate {kd:KeyD} {mty kt et:TypeId} {b n:Nat} {es:Array MapEntry} {m:List (List Int × Int)} {key:List Int} {kv value:Value} {x:Int} (hm:P.underlying mty=some (.map kt et)) (hk:KeyL P kd kt) (hb:w.heap[b]? =some (.map es n)) (hr:RepM kd vk m es.toList) (hkv:KeyV kd key kv) (hv:ValV vk x value):
    ∃es' n',(Instr.mapUpdate mty (.map (some b)) kv value).run P w= .ok () { w with heap:=w.heap.setIfInBounds b (.map es' n') }∧RepM kd vk (setM m key x) es'.toList:=by
  have hc:=hk.check w false hkv
  rcases hk.find w vk hkv hr with ⟨h1,_,h3⟩|⟨j,e,y,h1,h2,h3,_,_,h6⟩
  · refine ⟨es.push { key:=kv,val:=value,born:=n },n+1,?_,?_⟩
    · simp [Instr.mapUpdate,run_underlying hm,MapKept.run_getObj_map hb,hc,h1,run_setObj_map _ hb,Result.andThen]
    · rw [h3];simpa using hr.push hkv hv
  · rw [Nat.zero_add] at h1
    have hj:es[j]? =some e:=by simpa using h2
    refine ⟨es.modify j fun e=>{ e with key:=kv,val:=value },n,?_,?_⟩
    · simp [Instr.mapUpdate,run_underlying hm,MapKept.run_getObj_map hb,hc,h1,hj,h3,hk.stays w hkv,run_setObj_map _ hb,Result.andThen]
    · have hl:(es.modify j fun e=>{ e with key:=kv,val:=value }).toList=es.toList.set j { e with key:=kv,val:=value }:=by
        apply List.ext_getElem?
        intro i
        rw [Array.getElem?_toList,Array.getElem?_modify,List.getElem?_set]
        by_cases hij:j=i
        · subst hij
          have hlt:j<es.toList.length:=by
            rcases Nat.lt_or_ge j es.toList.length with h|h
            · exact h
            · rw [List.getElem?_eq_none h] at h2;cases h2
          simp [hj]
          simpa using hlt
        · simp [hij]
      rw [h6,hl]
      exact hr.set h2 hkv hv
theorem run_lookup {kd:KeyD} {mty kt et:TypeId} {b n:Nat} {es:Array MapEntry} {m:List (List Int × Int)} {key:List Int} {kv z:Value} (hm:P.underlying mty=some (.map kt et)) (hk:KeyL P kd kt) (hb:w.heap[b]? =some (.map es n)) (hr:RepM kd vk m es.toList) (hkv:KeyV kd key kv)
    (hz:(zeroValue et).run P w= .ok z w) (hzv:ValV vk 0 z) (ok:Bool):
    ∃v,(Instr.lookup mty (.map (some b)) kv ok).run P w= .ok (if ok then .tuple #[v,.bool (getM m key).isSome] else v) w∧ValV vk ((getM m key).getD 0) v:=by
  have hc:=hk.check w es.isEmpty hkv
  rcases hk.find w vk hkv hr with ⟨h1,h2,_⟩|⟨j,e,y,h1,h2,h3,h4,h5,_⟩
  · refine ⟨z,?_,by rw [h2];exact hzv⟩
    simp [Instr.lookup,run_underlying hm,MapKept.run_getObj_map hb,hc,h1,hz,h2,Result.andThen]
  · refine ⟨e.val,?_,by rw [h4];exact h5⟩
    simp [Instr.lookup,run_underlying hm,MapKept.run_getObj_map hb,hc,h1,h4,Result.andThen]
end
section
variable {P:Program} {TY:List TyE} {w0 w:World} {M0:Base w0} {ρ:Env} {M:Msk} {S S0:Store} {d:Nat}
theorem kdq_eq {a b:KeyD} (h:kdq a b=true):a=b:=by
  cases a<;>cases b<;>try (cases h;done)
  · exact congrArg _ (kq_eq h)
  · rename_i n k n' k'
    simp only [kdq] at h
    cases hn:Nat.beq n n' with
    |true=>simp only [hn] at h;rw [beq_iff'.1 hn,kq_eq h]
    |false=>simp only [hn] at h;cases h
  · rfl
theorem vkq_eq {a b:Option IntKind} (h:vkq a b=true):a=b:=by
  cases a<;>cases b<;>try (cases h;done)
  · rfl
  · exact congrArg _ (kq_eq h)
theorem map_row (hty:TyOk P TY) {t:Nat} {K:KeyD→Option IntKind→Prop} (h:mapT TY t K):
    ∃kt et kd vk,K kd vk∧P.underlying t=some (.map kt et)∧KeyL P kd kt∧∃z,(∀w,(zeroValue et).run P w= .ok z w)∧ValV vk 0 z:=by
  unfold mapT at h
  split at h
  · rename_i kt et hd
    have hu:P.underlying t=some (.map kt et):=by
      obtain ⟨i,u,_,hu,_,_,hdesc,_⟩:=(hty.at (t:=t) (.inr (by rw [hd];simp))).row
      rw [hd] at hdesc
      cases u<;>simp only [descOK] at hdesc
      rw [hu,hdesc.1,hdesc.2]
    have ints:∀{e:Nat} {k:IntKind},(nthT TY e).d= .int k→P.underlying e=some (.int k):=fun {e k} hd=>by
      obtain ⟨i,u,_,hu,_,_,hdesc,_⟩:=(hty.at (t:=e) (.inr (by rw [hd];simp))).row
      rw [hd] at hdesc
      cases u<;>simp only [descOK] at hdesc
      rw [hu,hdesc]
    have val:∀{K:Option IntKind→Prop},(valT TY et fun vk=>ifK (zeroB (nthT TY et).zero) (K vk))→∃vk,K vk∧∃z,(∀w,(zeroValue et).run P w= .ok z w)∧ValV vk 0 z:=fun {K} h=>by
      unfold valT at h
      have zv:zeroB (nthT TY et).zero=true→(nthT TY et).d≠.other→∃z,(∀w,(zeroValue et).run P w= .ok z w)∧zKind (nthT TY et).d z:=fun hz ho=>by
        obtain ⟨i,u,hi,hu',_,_,_,hzero⟩:=(hty.at (t:=et) (.inr ho)).row
        obtain ⟨z,hz1,hz2⟩:=hzero fun he=>by rw [he] at hz;cases hz
        exact ⟨z,fun w=>by simp [zeroValue,typeInfo,hi,hz1],hz2.2.2.2.1⟩
      split at h
      · rename_i k hk
        rw [ifK_iff] at h
        obtain ⟨z,h1,h2⟩:=zv h.1 (by rw [hk];simp)
        rw [hk] at h2
        exact ⟨_,h.2,z,h1,h2,in_zero k⟩
      · rename_i hk
        rw [ifK_iff] at h
        obtain ⟨z,h1,h2⟩:=zv h.1 (by rw [hk];simp)
        rw [hk] at h2
        exact ⟨_,h.2,z,h1,by rw [h2];simp,.inl rfl⟩
      · exact h.elim
    unfold keyT at h
    split at h
    · rename_i k hk
      obtain ⟨vk,h1,h2⟩:=val h
      exact ⟨kt,et,_,vk,h1,hu,int_key (ints hk),h2⟩
    · rename_i n e hk
      rw [ifK_iff,ifK_iff] at h
      obtain ⟨hs1,hs2,h⟩:=h
      unfold intT at h
      split at h
      · rename_i k he
        obtain ⟨vk,h1,h2⟩:=val h
        have szc:∀{t:Nat},(nthT TY t).d≠.other→P.cellsOf t=(nthT TY t).sz:=fun {t} ho=>by
          obtain ⟨i,u,hi,_,hs,_⟩:=(hty.at (t:=t) (.inr ho)).row
          simp [Program.cellsOf,hi,hs]
        refine ⟨kt,et,_,vk,h1,hu,arr_key (e:=e) ⟨arr_row hty hk,?_,?_,?_⟩ (ints he) hty.pos,h2⟩
        · simp [Program.plainKey,ints he]
        · rw [szc (by rw [he];simp),beq_iff'.1 hs2]
        · rw [szc (by rw [hk];simp),beq_iff'.1 hs1]
      · exact h.elim
    · rename_i hk
      obtain ⟨vk,h1,h2⟩:=val h
      have hus:P.underlying kt=some .string:=by
        obtain ⟨i,u,_,hu,_,_,hdesc,_⟩:=(hty.at (t:=kt) (.inr (by rw [hk];simp))).row
        rw [hk] at hdesc
        cases u<;>simp only [descOK] at hdesc
        exact hu
      exact ⟨kt,et,_,vk,h1,hu,str_key hus,h2⟩
    · exact h.elim
  · exact h.elim
def intsF (k:IntKind):List AV→Option (List Int)
  |[]=>some []|.int k' n::l=>if kq k k'=true then (intsF k l).map (n::·) else none|_::_=>none
def keyF (kd:KeyD) (a:AV):Option (List Int):=
  match kd,a with
  |.int k,.int k' n=>if kq k k'=true then some [n] else none
  |.arr n k,.agg l=>if sameLen l n=true then intsF k l else none
  |.str,.str l=>some l
  |_,_=>none
def valF (vk:Option IntKind) (a:AV):Option Int:=
  match vk,a with
  |some k,.int k' n=>if kq k k'=true then some n else none
  |none,.bool e=>some (if e.val=true then 1 else 0)
  |_,_=>none
theorem intsK_iff {k:IntKind}:∀{l:List AV} {K:List Int→Prop},intsK k l K→∃m,intsF k l=some m∧K m
  |[],_,h=>⟨[],rfl,h⟩
  |a::l,K,h=>by
   cases a<;>try exact h.elim
   rename_i k' n
   simp only [intsK,ifK_iff] at h
   obtain ⟨m,h1,h2⟩:=intsK_iff h.2
   exact ⟨n::m,by simp [intsF,h.1,h1],h2⟩
theorem key_iff {kd:KeyD} {a:AV} {K:List Int→Prop} (h:keyK kd a K):∃m,keyF kd a=some m∧K m:=by
  cases kd with
  |int k=>
   cases a<;>try exact h.elim
   simp only [keyK,ifK_iff] at h
   exact ⟨_,by simp [keyF,h.1],h.2⟩
  |arr n k=>
   cases a<;>try exact h.elim
   simp only [keyK,ifK_iff] at h
   obtain ⟨m,h1,h2⟩:=intsK_iff h.2
   exact ⟨m,by simp [keyF,h.1,h1],h2⟩
  |str=>
   cases a<;>try exact h.elim
   exact ⟨_,rfl,h⟩
theorem val_iff {vk:Option IntKind} {a:AV} {K:Int→Prop} (h:valK vk a K):∃m,valF vk a=some m∧K m:=by
  cases vk with
  |some k=>
   cases a<;>try exact h.elim
   simp only [valK,ifK_iff] at h
   exact ⟨_,by simp [valF,h.1],h.2⟩
  |none=>
   cases a<;>try exact h.elim
   rename_i e
   cases e with
   |lit b=>cases b<;>exact ⟨_,rfl,h⟩
   |_=>exact ⟨_,rfl,h⟩
theorem ints_key {k:IntKind}:∀{l:List AV} {vs:List Value} {m:List Int},intsF k l=some m→RepL (RepC ρ w M) l vs→m.length=l.length∧vs=m.map (fun x=>Value.int k x)∧∀x∈m,inK k x
  |[],[],m,h,_=>by cases h;exact ⟨rfl,rfl,by simp⟩
  |[],_::_,_,_,hv=>hv.elim
  |a::l,[],_,_,hv=>hv.elim
  |a::l,v::vs,m,h,hv=>by
   cases a<;>try (cases h;done)
   rename_i k' n
   simp only [intsF] at h
   split at h
   · rename_i hk
     obtain rfl:=kq_eq hk
     cases hm:intsF k l with
     |none=>rw [hm] at h;cases h
     |some m'=>
      rw [hm] at h
      cases h
      obtain ⟨h2,h3,h4⟩:=ints_key hm hv.2
      obtain ⟨h5,h6⟩:=hv.1
      exact ⟨by simp [h2],by rw [h5,h3];rfl,fun x hx=>(List.mem_cons.1 hx).elim (fun e=>e▸h6) (h4 x)⟩
   · cases h
theorem key_rep {kd:KeyD} {a:AV} {v:Value} {l:List Int} (h:keyF kd a=some l) (hv:RepT ρ w M a v):KeyV kd l v:=by
  cases kd with
  |int k=>
   cases a<;>simp only [keyF] at h<;>try (cases h;done)
   split at h
   · rename_i hk
     obtain rfl:=kq_eq hk
     cases h
     exact ⟨_,rfl,hv⟩
   · cases h
  |arr n k=>
   cases a<;>simp only [keyF] at h<;>try (cases h;done)
   split at h
   · rename_i hl
     obtain ⟨cs,rfl,hcs⟩:=hv
     obtain ⟨h2,h3,h4⟩:=ints_key h hcs
     exact ⟨by rw [h2,same_len hl],by rw [←h3],h4⟩
   · cases h
  |str=>
   cases a<;>simp only [keyF] at h<;>try (cases h;done)
   cases h
   exact hv
theorem val_rep {vk:Option IntKind} {a:AV} {v:Value} {n:Int} (h:valF vk a=some n) (hv:RepT ρ w M a v):ValV vk n v:=by
  cases vk with
  |some k=>
   cases a<;>simp only [valF] at h<;>try (cases h;done)
   split at h
   · rename_i hk
     obtain rfl:=kq_eq hk
     cases h
     exact hv
   · cases h
  |none=>
   cases a<;>simp only [valF] at h<;>try (cases h;done)
   rename_i e
   cases h
   have hv:v= .bool e.val:=hv
   refine ⟨?_,by split<;>simp⟩
   rw [hv]
   cases e.val<;>simp
theorem valA_rep {vk:Option IntKind} {n:Int} {v:Value} (h:ValV vk n v):RepC ρ w M (valA vk n) v:=by
  cases vk with
  |some k=>exact h
  |none=>exact h.1
theorem makeMap_sound (hty:TyOk P TY) {F:Spec} {t:Nat} {r:Option Operand} {T:List AV} {K:AV→Option Blk→Prop} (h:qK TY F d (.makeMap t r) T S0 K):
    ∃v B,K v B∧QS P d (.makeMap t r) T S0 v B:=by
  cases r with
  |some y=>
   simp only [qK,eval_iff] at h
   obtain ⟨kt,et,kd,vk,h,hu,hk,z,hz,hzv⟩:=map_row hty h
   split at h
   · rename_i ky ny hy
     refine ⟨_,_,h,fun w0 M0 ρ M w S' e oo ho hc st he hd=>?_,fun _ hb=>by first|(cases hb;done)|(subst_vars;simp_all)⟩
     have hyv:=he y (by simp [Op.operands])
     rw [hy] at hyv
     obtain ⟨ρ',M',h1,h2,h3,h4⟩:=st.pushO (w':={ w with heap:=w.heap.push (.map #[] 0) }) (ob:=.map #[] 0) (fun off=>off=0) (own:=.mp w.heap.size) (B:=.map kd vk []) (hd (by simp)).1 (hd (by simp)).2 rfl (by first|exact IoS.refl _|exact ⟨⟨rfl,rfl⟩,rfl,Nat.le_succ _⟩) (fun _ h=>h.symm)
       (fun ρ' M' hρ hM hk hext=>⟨w.heap.size,hρ,#[],0,by simp,hM,trivial⟩)
     refine .val (v:=.map (some w.heap.size)) (w':={ w with heap:=w.heap.push (.map #[] 0) }) ?_ ⟨ρ',M',h1,of_mp 0 h2,h3,h4⟩
     have hub:(underlying t).run P w= .ok (.map kt et) w:=by simp [underlying,hu]
     simp [execOp,ho,Instr.makeMap,hub,hyv.1,asInt,asIntOf,newObj,Result.andThen,Sem.run]
   · exact h.elim
  |none=>
   simp only [qK] at h
   obtain ⟨kt,et,kd,vk,h,hu,hk,z,hz,hzv⟩:=map_row hty h
   refine ⟨_,_,h,fun w0 M0 ρ M w S' e oo ho hc st he hd=>?_,fun _ hb=>by first|(cases hb;done)|(subst_vars;simp_all)⟩
   obtain ⟨ρ',M',h1,h2,h3,h4⟩:=st.pushO (w':={ w with heap:=w.heap.push (.map #[] 0) }) (ob:=.map #[] 0) (fun off=>off=0) (own:=.mp w.heap.size) (B:=.map kd vk []) (hd (by simp)).1 (hd (by simp)).2 rfl (by first|exact IoS.refl _|exact ⟨⟨rfl,rfl⟩,rfl,Nat.le_succ _⟩) (fun _ h=>h.symm)
     (fun ρ' M' hρ hM hk hext=>⟨w.heap.size,hρ,#[],0,by simp,hM,trivial⟩)
   refine .val (v:=.map (some w.heap.size)) (w':={ w with heap:=w.heap.push (.map #[] 0) }) ?_ ⟨ρ',M',h1,of_mp 0 h2,h3,h4⟩
   simp only [execOp,ho,Sem.run_bind,Sem.run_pure]
   rfl
theorem lookup_sound (hty:TyOk P TY) {F:Spec} {t:Nat} {x k:Operand} {ok:Bool} {T:List AV} {K:AV→Option Blk→Prop} (h:qK TY F d (.lookup t x k ok) T S0 K):
    ∃v B,K v B∧QS P d (.lookup t x k ok) T S0 v B:=by
  simp only [qK,eval_iff] at h
  obtain ⟨kt,et,kd,vk,h,hu,hk,z,hz,hzv⟩:=map_row hty h
  split at h
  · rename_i j off hx
    split at h
    · rename_i kd' vk' m hf
      rw [ifK_iff,ifK_iff] at h
      obtain ⟨h1,h2,h⟩:=h
      obtain rfl:=kdq_eq h1
      obtain rfl:=vkq_eq h2
      obtain ⟨key,hkey,h⟩:=key_iff h
      have go:∀(w0:World) (M0:Base w0) (ρ:Env) (w:World) (M:Msk) (S':Store) (e:Operand→Value) (oo:Oper),oo.op= .lookup t x k ok→Cmp S0 S'→St M0 ρ M S' w→(∀y∈(Op.lookup t x k ok).operands,RepT ρ w M (evalF T y) (e y))→
          ∃v,(execOp e oo).run P w= .ok (.value (if ok then .tuple #[v,.bool (getM m key).isSome] else v)) w∧ValV vk ((getM m key).getD 0) v:=fun w0 M0 ρ w M S' e oo ho hc st he=>by
        have hx':=he x (by simp [Op.operands])
        have hk':=he k (by simp [Op.operands])
        rw [hx] at hx'
        have hx':(ρ j).bind (Own.ref · off)=some (e x):=hx'
        obtain ⟨b,g1,es,n,g2,g3,g4⟩:=st.blk j _ (st.find' hc hf hx')
        have hex:=ref_mp g1 hx'
        obtain ⟨v,hr,hv⟩:=run_lookup (mty:=t) (kv:=e k) hu hk g2 g4 (key_rep hkey hk') (hz w) hzv ok
        exact ⟨v,by simp [execOp,ho,hex,hr],hv⟩
      cases ok with
      |true=>
       refine q_look h fun w0 M0 ρ w M S' e oo ho hc st he=>?_
       obtain ⟨v,h1,h2⟩:=go w0 M0 ρ w M S' e oo ho hc st he
       refine ⟨_,h1,_,rfl,?_,?_,trivial⟩
       · have:=valA_rep (ρ:=ρ) (w:=w) (M:=M) h2
         cases vk<;>exact this
       · show Value.bool _=Value.bool _;rfl
      |false=>
       refine q_look h fun w0 M0 ρ w M S' e oo ho hc st he=>?_
       obtain ⟨v,h1,h2⟩:=go w0 M0 ρ w M S' e oo ho hc st he
       refine ⟨_,h1,?_⟩
       have:=valA_rep (ρ:=ρ) (w:=w) (M:=M) h2
       cases vk<;>exact this
    · exact h.elim
  · exact h.elim
end
end Go.AM
end
section
namespace Go.AM
open Go
section
variable {P:Program} {TY:List TyE} {w0 w:World} {M0:Base w0} {ρ:Env} {M:Msk} {S S0:Store} {d:Nat}
theorem facP_ok {l:List (Int × Bool)} {i:Int} {o:Nat} {K:AV→Prop} (h:facP o (l.getD i.toNat (0,false)) K):
    ∃v,K v∧∀(ρ:Env) (w:World) (M:Msk) (b off cap:Nat),RepRO w M (.facs l) (.slice (some ⟨b,off,none⟩) (RO.facs l).len cap)→0≤i→i<(RO.facs l).len→RepT ρ w M v (.pointer (some ⟨b,off+i.toNat*2+o,none⟩)):=by
  have cell:∀{w:World} {M:Msk} {b off cap:Nat} (o:Nat),o<2→RepRO w M (.facs l) (.slice (some ⟨b,off,none⟩) (RO.facs l).len cap)→0≤i→i<(RO.facs l).len→
      ∃c,w.cell? ⟨b,off+i.toNat*2+o,none⟩=some c∧¬M b (off+i.toNat*2+o)∧CellP w M (.facs l) (i.toNat*2+o) c:=fun {w M b off cap} o ho2 hr h0 hi=>by
    obtain ⟨_,a,cap',hv,_,hh⟩:=hr
    cases hv
    have hl:(RO.facs l).len=l.length:=rfl
    have hc:(RO.facs l).cells=l.length*2:=rfl
    rcases hh with hh|⟨b',off',ha,hh⟩
    · omega
    · cases ha
      obtain ⟨c,k1,k2,k3⟩:=hh (i.toNat*2+o) (by omega)
      exact ⟨c,by rw [Nat.add_assoc];exact k1,by rw [Nat.add_assoc];exact k2,k3⟩
  unfold facP at h
  split at h
  · refine ⟨_,h,fun ρ w M b off cap hr h0 hi=>?_⟩
    obtain ⟨c,k1,k2,k3⟩:=cell 0 (by omega) hr h0 hi
    simp only [CellP] at k3
    rw [if_pos (by omega),show (i.toNat*2+0) / 2=i.toNat from by omega] at k3
    refine ⟨b,off+i.toNat*2,1,⟨(show (1:Nat)≤140737488355328 by decide),some ⟨b,off+i.toNat*2,none⟩,1,rfl,Nat.le_refl _,.inr ⟨b,off+i.toNat*2,rfl,fun q hq=>?_⟩⟩,Int.le_refl _,(show (0:Int)<((1:Nat):Int) by decide),rfl⟩
    have hq0:q=0:=by have:q<1:=hq;omega
    subst hq0
    exact ⟨c,k1,k2,k3⟩
  · refine ⟨_,h,fun ρ w M b off cap hr h0 hi=>?_⟩
    obtain ⟨c,k1,k2,k3⟩:=cell 1 (by omega) hr h0 hi
    simp only [CellP] at k3
    rw [if_neg (by omega),show (i.toNat*2+1) / 2=i.toNat from by omega] at k3
    refine ⟨b,off+i.toNat*2+1,1,⟨(show (1:Nat)≤140737488355328 by decide),some ⟨b,off+i.toNat*2+1,none⟩,1,rfl,Nat.le_refl _,.inr ⟨b,off+i.toNat*2+1,rfl,fun q hq=>?_⟩⟩,Int.le_refl _,(show (0:Int)<((1:Nat):Int) by decide),rfl⟩
    have hq0:q=0:=by have:q<1:=hq;omega
    subst hq0
    exact ⟨c,k1,k2,k3⟩
  · exact h.elim
theorem fieldAddr_sound (hty:TyOk P TY) {F:Spec} {t:Nat} {x:Operand} {f:Nat} {T:List AV} {K:AV→Option Blk→Prop} (h:qK TY F d (.fieldAddr t x f) T S0 K):
    ∃v B,K v B∧QS P d (.fieldAddr t x f) T S0 v B:=by
  simp only [qK,eval_iff] at h
  split at h
  · rename_i k off fs hx hd
    split at h
    · rename_i lb hfk
      split at h
      · rename_i o u ho'
        split at h
        · rename_i hz
          obtain ⟨F',hu,hfs⟩:=struct_row hty hd
          have hg:=fieldOff_get ho'
          rw [hfs,List.getElem?_map] at hg
          cases hF:F'.toList[f]? with
          |none=>rw [hF] at hg;cases hg
          |some g=>
           rw [hF] at hg;cases hg
           rw [Array.getElem?_toList] at hF
           have hrow:=hty.at (t:=g.type) (.inl (fun e=>by rw [e] at hz;cases hz))
           refine q_look h fun w0 M0 ρ w M S' e oo ho hc st he=>?_
           have h1:=he x (by simp [Op.operands])
           rw [hx] at h1
           have h1:(ρ k).bind (Own.ref · off)=some (e x):=h1
           obtain ⟨b,h3,_⟩:=st.blk k _ (st.find' hc hfk h1)
           have h2:=ref_bx h3 h1
           refine ⟨.pointer (some ⟨b,off+g.offset,none⟩),?_,of_bx _ h3⟩
           have hub:(underlying t).run P w= .ok (.struct F') w:=by simp [underlying,hu]
           have hsz:=hrow.size w
           have hne:(nthT TY g.type).sz≠0:=fun e=>by rw [e] at hz;cases hz
           simp [execOp,ho,h2,Instr.fieldAt,hub,hF,Instr.sureAddr,fieldPlace,hsz,hne,addr_add]
        · exact h.elim
      · exact h.elim
    · exact h.elim
  · rename_i k i fs hx hd
    split at h
    · rename_i o u ho'
      split at h
      · rename_i hz
        obtain ⟨F',hu,hfs⟩:=struct_row hty hd
        have hg:=fieldOff_get ho'
        rw [hfs,List.getElem?_map] at hg
        cases hF:F'.toList[f]? with
        |none=>rw [hF] at hg;cases hg
        |some g=>
         rw [hF] at hg;cases hg
         rw [Array.getElem?_toList] at hF
         have hrow:=hty.at (t:=g.type) (.inl (fun e=>by rw [e] at hz;cases hz))
         refine q_look h fun w0 M0 ρ w M S' e oo ho hc st he=>?_
         have h1:=he x (by simp [Op.operands])
         rw [hx] at h1
         obtain ⟨o',b,g1,g2,g3,g4,g5⟩:=h1
         refine ⟨.pointer (some ⟨b,i.toNat*o'.sz+g.offset,none⟩),?_,o',b,g1,g2,g3,g4,rfl⟩
         have hub:(underlying t).run P w= .ok (.struct F') w:=by simp [underlying,hu]
         have hsz:=hrow.size w
         have hne:(nthT TY g.type).sz≠0:=fun e=>by rw [e] at hz;cases hz
         simp [execOp,ho,g5,Instr.fieldAt,hub,hF,Instr.sureAddr,fieldPlace,hsz,hne,addr_add]
      · exact h.elim
    · exact h.elim
  · rename_i l i fs hx hd
    split at h
    · rename_i o u ho'
      split at h
      · rename_i hz
        obtain ⟨F',hu,hfs⟩:=struct_row hty hd
        have hg:=fieldOff_get ho'
        rw [hfs,List.getElem?_map] at hg
        cases hF:F'.toList[f]? with
        |none=>rw [hF] at hg;cases hg
        |some g=>
         rw [hF] at hg;cases hg
         rw [Array.getElem?_toList] at hF
         have hrow:=hty.at (t:=g.type) (.inl (fun e=>by rw [e] at hz;cases hz))
         obtain ⟨v,hK,hv⟩:=facP_ok h
         refine q_look hK fun w0 M0 ρ w M S' e oo ho hc st he=>?_
         have h1:=he x (by simp [Op.operands])
         rw [hx] at h1
         obtain ⟨b,off,cap,g1,g2,g3,g4⟩:=h1
         refine ⟨.pointer (some ⟨b,off+i.toNat*2+g.offset,none⟩),?_,hv ρ w M b off cap g1 g2 g3⟩
         have hub:(underlying t).run P w= .ok (.struct F') w:=by simp [underlying,hu]
         have hsz:=hrow.size w
         have hne:(nthT TY g.type).sz≠0:=fun e=>by rw [e] at hz;cases hz
         have g4:e x= .pointer (some ⟨b,off+i.toNat*2,none⟩):=g4
         simp [execOp,ho,g4,Instr.fieldAt,hub,hF,Instr.sureAddr,fieldPlace,hsz,hne,addr_add]
      · exact h.elim
    · exact h.elim
  · exact h.elim
theorem field_sound (hty:TyOk P TY) {F:Spec} {t:Nat} {x:Operand} {f:Nat} {T:List AV} {K:AV→Option Blk→Prop} (h:qK TY F d (.field t x f) T S0 K):
    ∃v B,K v B∧QS P d (.field t x f) T S0 v B:=by
  simp only [qK,eval_iff] at h
  split at h
  · rename_i l fs hx hd
    split at h
    · rename_i o u ho'
      obtain ⟨F',hu,hfs⟩:=struct_row hty hd
      have hg:=fieldOff_get ho'
      rw [hfs,List.getElem?_map] at hg
      cases hF:F'.toList[f]? with
      |none=>rw [hF] at hg;cases hg
      |some g=>
       rw [hF] at hg;cases hg
       rw [Array.getElem?_toList] at hF
       obtain ⟨a,hK,_⟩:=part_iff h
       have hpart:=part_iff h
       obtain ⟨a,hK,hlen,ha⟩:=hpart
       refine q_pure hK fun ρ w M e oo ho he=>?_
       have:=he x (by simp [Op.operands])
       rw [hx] at this
       obtain ⟨cs,h1,h2⟩:=this
       have hsize:l.length=cs.size:=by rw [h2.length,Array.length_toList]
       have hub:(underlying t).run P w= .ok (.struct F') w:=by simp [underlying,hu]
       rcases ha with ⟨hag,rfl⟩|⟨hag,hs,rfl⟩
       · have hrow:=hty.at (t:=g.type) (.inr (fun e=>by rw [e] at hag;cases hag))
         refine ⟨.agg (cs.extract g.offset (g.offset+(nthT TY g.type).sz)),by simp [execOp,ho,h1,Instr.field,hub,hF,asAgg,part,hrow.agg,hag,hrow.size],_,rfl,?_⟩
         have:(cs.extract g.offset (g.offset+(nthT TY g.type).sz)).toList=(cs.toList.drop g.offset).take (nthT TY g.type).sz:=by
           rw [Array.toList_extract,List.extract_eq_take_drop];simp
         rw [this]
         exact (h2.drop _).take _
       · have hrow:=hty.at (t:=g.type) (.inl (by rw [hs];decide))
         obtain ⟨c,h7,h8⟩:=h2.get g.offset (by omega)
         rw [Array.getElem?_toList] at h7
         exact ⟨c,by simp [execOp,ho,h1,Instr.field,hub,hF,asAgg,part,hrow.agg,hag,h7],repT_of_repC h8⟩
    · exact h.elim
  · exact h.elim
theorem convert_sound (hty:TyOk P TY) {F:Spec} {s t:Nat} {x:Operand} {T:List AV} {K:AV→Option Blk→Prop} (h:qK TY F d (.convert s t x) T S0 K):
    ∃v B,K v B∧QS P d (.convert s t x) T S0 v B:=by
  simp only [qK,eval_iff] at h
  have und:∀{t:Nat} {k:IntKind},(nthT TY t).d= .int k→P.underlying t=some (.int k):=fun {t k} hd=>by
    obtain ⟨u,h1,h2,_⟩:=(hty.at (t:=t) (.inr (by rw [hd];simp))).under
    rw [hd] at h2
    cases u<;>first|(cases h2;exact h1)|exact h2.elim
  split at h
  · rename_i k k' k'' n hd hd' hx
    rw [ifK_iff,rangeP_iff] at h
    obtain ⟨hk,hr,h⟩:=h
    refine q_pure h fun ρ w M e oo ho he=>?_
    have hxv:=he x (by simp [Op.operands])
    rw [hx] at hxv
    have us:(underlying s).run P w= .ok (.int k) w:=by simp [underlying,und hd]
    have ut:(underlying t).run P w= .ok (.int k') w:=by simp [underlying,und hd']
    exact ⟨.int k' (k'.wrap n),by simp [execOp,ho,hxv.1,convert,us,ut,Conv.intToInt],wrap_rep hr⟩
  · rename_i k k'' n hd hd' hx
    rw [ifK_iff] at h
    obtain ⟨hk,hr,h⟩:=h
    refine q_pure h fun ρ w M e oo ho he=>?_
    have hxv:=he x (by simp [Op.operands])
    rw [hx] at hxv
    have us:(underlying s).run P w= .ok (.int k) w:=by simp [underlying,und hd]
    have ut:(underlying t).run P w= .ok .string w:=by
      obtain ⟨u,h1,h2,_⟩:=(hty.at (t:=t) (.inr (by rw [hd'];simp))).under
      rw [hd'] at h2
      cases u<;>first|(simp [underlying,h1];done)|exact h2.elim
    refine ⟨.string (strB [n]),by simp [execOp,ho,hxv.1,convert,us,ut,Conv.intToString,utf8_ascii hr.1 hr.2],rfl,fun z hz=>?_⟩
    rw [List.mem_singleton.1 hz]
    exact ⟨hr.1,by omega⟩
  · rename_i e a hd hd'
    split at h
    · rename_i he8
      have us:=slice_row hty hd
      have ue:=und he8
      have ut:P.underlying t=some .string:=by
        obtain ⟨u,h1,h2,_⟩:=(hty.at (t:=t) (.inr (by rw [hd'];simp))).under
        rw [hd'] at h2
        cases u<;>first|exact h1|exact h2.elim
      have key:∃l,K (.str l) none∧∀(w0:World) (M0:Base w0) (ρ:Env) (w:World) (M:Msk) (S':Store) (v:Value),Cmp S0 S'→St M0 ρ M S' w→RepT ρ w M (evalF T x) v→
          ∃ad cap,v= .slice ad l.length cap∧(l.length=0∨∃b off,ad=some ⟨b,off,none⟩∧∀q,q<l.length→∃c,w.cell? ⟨b,off+q,none⟩=some c∧c= .int .u8 (l.getD q 0)∧inK .u8 (l.getD q 0)):=by
        unfold srcK at h
        split at h
        · rename_i r hx
          split at h
          · rename_i l hl
            cases hl
            refine ⟨l,h,fun w0 M0 ρ w M S' v hc st hv=>?_⟩
            rw [hx] at hv
            obtain ⟨_,ad,cap,h2,_,h3⟩:=hv
            refine ⟨ad,cap,h2,?_⟩
            rcases h3 with h3|⟨b,off,h4,h5⟩
            · exact .inl (by simpa [RO.cells,RO.len,RO.sz] using h3)
            · exact .inr ⟨b,off,h4,fun q hq=>by obtain ⟨c,h6,_,h7⟩:=h5 q (by simpa [RO.cells,RO.len,RO.sz] using hq);exact ⟨c,h6,h7⟩⟩
          · exact h.elim
        · exact h.elim
        · rename_i j hx
          split at h
          · rename_i wm r hf
            split at h
            · rename_i l hl
              cases hl
              refine ⟨l,h,fun w0 M0 ρ w M S' v hc st hv=>?_⟩
              rw [hx] at hv
              obtain ⟨o,g1,rfl⟩:=hv
              obtain ⟨⟨o',g2,g3,g4,g5,_,g6⟩,_⟩:=st.blk j _ (st.find' hc hf g1)
              obtain rfl:=sli_sl g2 g1
              refine ⟨_,_,by rw [Sl.val,g3];rfl,?_⟩
              cases hb:o.blk with
              |none=>simp only [hb] at g6;exact .inl g6.1
              |some b=>
               simp only [hb] at g6
               obtain ⟨_,cs,ty,g7,_,_,g8⟩:=g6
               exact .inr ⟨b,0,rfl,fun q hq=>by obtain ⟨c,g9,g10⟩:=g8 q (by simpa [RO.cells,RO.len,RO.sz] using hq);exact ⟨c,by rw [cell_of_heap g7,Nat.zero_add];exact g9,g10⟩⟩
            · exact h.elim
          · exact h.elim
        · exact h.elim
      obtain ⟨l,h,hrep⟩:=key
      refine q_look h fun w0 M0 ρ w M S' e oo ho hc st he=>?_
      obtain ⟨ad,cap,hv,hcs⟩:=hrep w0 M0 ρ w M S' _ hc st (he x (by simp [Op.operands]))
      have hcv:∀v w',(Conv.bytesToString (e x)).run P w= .ok v w'→(execOp e oo).run P w= .ok (.value v) w':=fun v w' hr=>by
        rw [hv] at hr
        have:=run_convert_bytes_string (P:=P) w s t _ ad l.length cap us ue ut
        simp [execOp,ho,hv,this,hr]
      have hall:∀z∈l,byteP z∨l.length=0:=fun z hz=>by
        rcases hcs with h0|⟨b,off,_,hq⟩
        · exact .inr h0
        · obtain ⟨q,hq',rfl⟩:=List.mem_iff_getElem.1 hz
          obtain ⟨_,_,_,h9⟩:=hq q hq'
          refine .inl ?_
          simp only [List.getD,List.getElem?_eq_getElem hq',Option.getD_some] at h9
          exact h9
      have hbp:∀z∈l,byteP z:=fun z hz=>(hall z hz).elim id fun h0=>by rw [List.length_eq_zero_iff.1 h0] at hz;cases hz
      rcases hcs with h0|⟨b,off,rfl,hq⟩
      · have hl0:l=[]:=List.length_eq_zero_iff.1 h0
        subst hl0
        refine ⟨.string (strB []),hcv _ _ ?_,rfl,hbp⟩
        rw [hv]
        cases ad with
        |none=>rfl
        |some a=>
         have:=run_bytesToString (P:=P) w a 0 cap [] rfl
         exact this
      · refine ⟨.string (strB l),hcv _ _ ?_,rfl,hbp⟩
        rw [hv,run_bytesToString w _ _ cap l ?_,strB_fold]
        have:=run_loadCells_list (P:=P) (w:=w) (⟨b,off,none⟩:Addr) (l.map (Value.int .u8)) (fun j v hj=>by
          rw [List.getElem?_map] at hj
          cases hjl:l[j]? with
          |none=>rw [hjl] at hj;cases hj
          |some n=>
           rw [hjl] at hj
           have hj:some (Value.int .u8 n)=some v:=hj
           have hlt:j<l.length:=by
             rcases Nat.lt_or_ge j l.length with h'|h'
             · exact h'
             · rw [List.getElem?_eq_none h'] at hjl;cases hjl
           obtain ⟨c,h1,h2,_⟩:=hq j hlt
           rw [addr_add,h1,h2]
           simp only [List.getD,hjl,Option.getD_some]
           exact hj)
        rw [List.length_map] at this
        exact this
    · exact h.elim
  · exact h.elim
theorem indexAddr_sound (hty:TyOk P TY) {F:Spec} {t:Nat} {x i:Operand} {T:List AV} {K:AV→Option Blk→Prop} (h:qK TY F d (.indexAddr t x i) T S0 K):
    ∃v B,K v B∧QS P d (.indexAddr t x i) T S0 v B:=by
  simp only [qK,eval_iff] at h
  obtain ⟨k,n,hi,h⟩:=bound_iff h
  split at h
  · rename_i r hx
    rw [ifK_iff,len_iff] at h
    obtain ⟨hok,⟨h1,h2⟩,h⟩:=h
    obtain ⟨e',hd',hu,hes,hrow⟩:=okSl_row hty hok
    refine q_pure h fun ρ w M e oo ho he=>?_
    have hxv:=he x (by simp [Op.operands])
    have hiv:=he i (by simp [Op.operands])
    rw [hx] at hxv
    rw [hi] at hiv
    obtain ⟨b,off,cap,hv⟩:=ro_addr hxv (by omega)
    have hub:(underlying t).run P w= .ok (.slice e') w:=by simp [underlying,hu]
    refine ⟨.pointer (some ⟨b,off+n.toNat*r.sz,none⟩),?_,b,off,cap,by rw [←hv];exact hxv,h1,h2,rfl⟩
    simp [execOp,ho,hv,hiv.1,Instr.indexAt,asIntOf,hub,h1,h2,hrow.size,hes,addr_add]
  · rename_i kk hx
    split at h
    · rename_i wm r ov hf
      rw [ifK_iff,len_iff] at h
      obtain ⟨hok,⟨h1,h2⟩,h⟩:=h
      obtain ⟨e',hd',hu,hes,hrow⟩:=okSl_row hty hok
      refine q_look h fun w0 M0 ρ w M S' e oo ho hc st he=>?_
      have hxv:=he x (by simp [Op.operands])
      have hiv:=he i (by simp [Op.operands])
      rw [hx] at hxv
      rw [hi] at hiv
      obtain ⟨o,g1,g2⟩:=hxv
      obtain ⟨⟨o',g3,g4,g5,_,_,g6⟩,_⟩:=st.blk kk _ (st.find' hc hf g1)
      obtain rfl:=sli_sl g3 g1
      have hub:(underlying t).run P w= .ok (.slice e') w:=by simp [underlying,hu]
      cases hb:o.blk with
      |none=>simp only [hb] at g6;omega
      |some b=>
       refine ⟨.pointer (some ⟨b,n.toNat*o.sz,none⟩),?_,o,b,g1,hb,h1,by rw [g4];exact h2,rfl⟩
       have hlt:n<(o.len:Int):=by rw [g4];exact h2
       simp [execOp,ho,g2,Sl.val,hb,hiv.1,Instr.indexAt,asIntOf,hub,h1,hlt,hrow.size,hes,addr_add,g5]
    · rename_i r hole hf
      rw [ifK_iff,len_iff] at h
      obtain ⟨hok,⟨h1,h2⟩,h⟩:=h
      obtain ⟨e',hd',hu,hes,hrow⟩:=okSl_row hty hok
      refine q_look h fun w0 M0 ρ w M S' e oo ho hc st he=>?_
      have hxv:=he x (by simp [Op.operands])
      have hiv:=he i (by simp [Op.operands])
      rw [hx] at hxv
      rw [hi] at hiv
      obtain ⟨o,g1,g2⟩:=hxv
      obtain ⟨o',rows,g3,g4⟩:=st.blk kk _ (st.find' hc hf g1)
      have g1':=g1
      rw [of_dp g3] at g1;cases g1
      have g6:=g4.outer
      have hub:(underlying t).run P w= .ok (.slice e') w:=by simp [underlying,hu]
      cases hb:o.blk with
      |none=>simp only [hb] at g6;omega
      |some b=>
       refine ⟨.pointer (some ⟨b,n.toNat*o.sz,none⟩),?_,o,b,g1',hb,h1,by rw [g4.len];exact h2,rfl⟩
       have hlt:n<(o.len:Int):=by rw [g4.len];exact h2
       have hsz:o.sz=r.sz:=by rw [g4.osz,rowsQ_sz g4.rq]
       simp [execOp,ho,g2,Sl.val,hb,hiv.1,Instr.indexAt,asIntOf,hub,h1,hlt,hrow.size,hes,addr_add,hsz]
    · rename_i l _ _ hf
      rw [ifK_iff] at h
      obtain ⟨hok,⟨h1,h2⟩,h⟩:=h
      obtain ⟨e',hd',hu,hes,hrow⟩:=okSl_row hty hok
      refine q_look h fun w0 M0 ρ w M S' e oo ho hc st he=>?_
      have hxv:=he x (by simp [Op.operands])
      have hiv:=he i (by simp [Op.operands])
      rw [hx] at hxv
      rw [hi] at hiv
      obtain ⟨o,g1,g2⟩:=hxv
      obtain ⟨o',rows,g3,g4,_⟩:=st.blk kk _ (st.find' hc hf g1)
      have g1':=g1
      rw [of_dp g3] at g1;cases g1
      have g6:=g4.outer
      have hl:o.len=l.length:=g4.len
      have hub:(underlying t).run P w= .ok (.slice e') w:=by simp [underlying,hu]
      cases hb:o.blk with
      |none=>simp only [hb,RO.len] at g6;omega
      |some b=>
       refine ⟨.pointer (some ⟨b,n.toNat*o.sz,none⟩),?_,o,b,g1',hb,h1,by rw [hl];exact h2,rfl⟩
       have hlt:n<(o.len:Int):=by rw [hl];exact h2
       have hsz:o.sz=(RO.gi l).sz:=g4.osz
       simp [execOp,ho,g2,Sl.val,hb,hiv.1,Instr.indexAt,asIntOf,hub,h1,hlt,hrow.size,hes,addr_add,hsz]
    · rename_i n0 r hf
      rw [ifK_iff,len_iff] at h
      obtain ⟨hok,⟨h1,h2⟩,h⟩:=h
      obtain ⟨e',hd',hu,hes,hrow⟩:=okSl_row hty hok
      refine q_look h fun w0 M0 ρ w M S' e oo ho hc st he=>?_
      have hxv:=he x (by simp [Op.operands])
      have hiv:=he i (by simp [Op.operands])
      rw [hx] at hxv
      rw [hi] at hiv
      obtain ⟨o,g1,g2⟩:=hxv
      obtain ⟨o0,cur,g3,g4',_⟩:=st.blk kk _ (st.find' hc hf g1)
      have hco:cur=o:=by rw [of_st g3] at g1;exact Option.some.inj g1
      rw [hco] at g4'
      obtain ⟨g4,g5,_,_,g6⟩:=g4'
      have hub:(underlying t).run P w= .ok (.slice e') w:=by simp [underlying,hu]
      cases hb:o.blk with
      |none=>simp only [hb] at g6;omega
      |some b=>
       refine ⟨.pointer (some ⟨b,n.toNat*o.sz,none⟩),?_,o,b,g1,hb,h1,by rw [g4];exact h2,rfl⟩
       have hlt:n<(o.len:Int):=by rw [g4];exact h2
       simp [execOp,ho,g2,Sl.val,hb,hiv.1,Instr.indexAt,asIntOf,hub,h1,hlt,hrow.size,hes,addr_add,g5]
    · exact h.elim
  · rename_i kk q hx
    have key:∀{m:Nat} {r':RO},okSl TY t r'=true→r'.sz=1→0≤n→n<(m:Int)→K (.gptr kk q n) none→
        (∀{w0 w:World} {M0:Base w0} {ρ:Env} {M:Msk} {S':Store},St M0 ρ M S' w→Cmp S0 S'→∀l,(ρ kk).bind Own.rws=some l→q.toNat<l.length→(l.getD q.toNat nilSl).len=m∧((l.getD q.toNat nilSl).blk=none→m=0))→∃v B,K v B∧QS P d (.indexAddr t x i) T S0 v B:=fun {m r'} hok hs1 h1 h2 h hrow2=>by
      obtain ⟨e',hd',hu,hes,hrow⟩:=okSl_row hty hok
      refine q_look h fun w0 M0 ρ w M S' e oo ho hc st he=>?_
      have hxv:=he x (by simp [Op.operands])
      have hiv:=he i (by simp [Op.operands])
      rw [hx] at hxv
      rw [hi] at hiv
      obtain ⟨l,g1,g2,g3,g4⟩:=hxv
      obtain ⟨k1,k2⟩:=hrow2 st hc l g1 g3
      have hub:(underlying t).run P w= .ok (.slice e') w:=by simp [underlying,hu]
      obtain ⟨sl,hsl⟩:∃sl,sl=l.getD q.toNat nilSl:=⟨_,rfl⟩
      rw [←hsl] at k1 k2 g4
      cases hb:sl.blk with
      |none=>have:=k2 hb;omega
      |some b=>
       have hlt:n<(sl.len:Int):=by rw [k1];exact h2
       refine ⟨.pointer (some ⟨b,n.toNat,none⟩),?_,l,b,g1,g2,g3,by rw [←hsl];exact hb,⟨h1,by rw [←hsl];exact hlt⟩,rfl⟩
       simp [execOp,ho,g4,Sl.val,hb,hiv.1,Instr.indexAt,asIntOf,hub,h1,hlt,hrow.size,hes,hs1,addr_add]
    split at h
    · rename_i l hf
      rw [ifK_iff] at h
      obtain ⟨hok,⟨h1,h2⟩,h⟩:=h
      refine key hok rfl h1 h2 h fun {w0 w M0 ρ M S'} st hc ll g1 g2=>?_
      obtain ⟨o,rows,g3,hD⟩:=st.blk kk _ (st.find' hc hf g1)
      rw [of_rws g3] at g1;cases g1
      rw [List.length_map] at g2
      rw [getD_sl]
      obtain ⟨_,hv1,_,_,_,hv5⟩:=hD.row q.toNat (by rw [←hD.rlen];exact g2) (by simp)
      have hv1:(rows.getD q.toNat nilRow).sl.len=(l.getD q.toNat []).length:=hv1
      exact ⟨hv1,fun hb=>by simp only [hb] at hv5;exact hv5.1⟩
    · rename_i l hf
      rw [ifK_iff] at h
      obtain ⟨hok,⟨h1,h2⟩,h⟩:=h
      refine key hok rfl h1 h2 h fun {w0 w M0 ρ M S'} st hc ll g1 g2=>?_
      obtain ⟨o,rows,g3,hD⟩:=st.blk kk _ (st.find' hc hf g1)
      rw [of_rws g3] at g1;cases g1
      rw [List.length_map] at g2
      rw [getD_sl]
      have hv:DeepI _ _ _ _ _ _:=hD.row q.toNat (by rw [←hD.rlen];exact g2) (by simp)
      exact ⟨hv.len,fun hb=>by have:=hv.outer;simp only [hb] at this;exact this.1⟩
    · rename_i l _ _ hf
      rw [ifK_iff] at h
      obtain ⟨hok,⟨h1,h2⟩,h⟩:=h
      refine key hok rfl h1 h2 h fun {w0 w M0 ρ M S'} st hc ll g1 g2=>?_
      obtain ⟨o,rows,g3,hD,_⟩:=st.blk kk _ (st.find' hc hf g1)
      rw [of_rws g3] at g1;cases g1
      rw [List.length_map] at g2
      rw [getD_sl]
      have hv:DeepI _ _ _ _ _ _:=hD.row q.toNat (by rw [←hD.rlen];exact g2) (by simp)
      exact ⟨hv.len,fun hb=>by have:=hv.outer;simp only [hb] at this;exact this.1⟩
    · exact h.elim
  · rename_i kk off hx
    split at h
    · rename_i n' e' l hd hf
      rw [ifK_iff] at h
      obtain ⟨hs,⟨h1,h2⟩,h⟩:=h
      have h:=idxP_at h (by omega) (by omega)
      obtain ⟨u,hu,hdesc,_⟩:=(hty.at (t:=t) (.inr (by rw [hd];simp))).under
      rw [hd] at hdesc
      have hu':P.underlying t=some (.array n' e'):=by
        cases u<;>first|(obtain ⟨rfl,rfl⟩:=hdesc;exact hu)|(cases hdesc;exact hu)|exact hdesc.elim
      have hrow:=hty.at (t:=e') (.inl (by rw [beq_iff'.1 hs];decide))
      refine q_look h fun w0 M0 ρ w M S' e oo ho hc st he=>?_
      have hxv:=he x (by simp [Op.operands])
      have hiv:=he i (by simp [Op.operands])
      rw [hx] at hxv
      rw [hi] at hiv
      have hxv:(ρ kk).bind (Own.ref · off)=some (e x):=hxv
      obtain ⟨b,g1,_⟩:=st.blk kk _ (st.find' hc hf hxv)
      have g2:=ref_bx g1 hxv
      have hub:(underlying t).run P w= .ok (.array n' e') w:=by simp [underlying,hu']
      refine ⟨.pointer (some ⟨b,off+n.toNat,none⟩),?_,of_bx (off+n.toNat) g1⟩
      simp [execOp,ho,g2,hiv.1,Instr.indexAt,asIntOf,Instr.sureAddr,hub,h1,h2,hrow.size,beq_iff'.1 hs,addr_add]
    · exact h.elim
  · rename_i kk off hx
    split at h
    · rename_i n' e' hd
      obtain ⟨u,hu,hdesc,_⟩:=(hty.at (t:=t) (.inr (by rw [hd];simp))).under
      rw [hd] at hdesc
      have hu':P.underlying t=some (.array n' e'):=by
        cases u<;>first|(obtain ⟨rfl,rfl⟩:=hdesc;exact hu)|(cases hdesc;exact hu)|exact hdesc.elim
      split at h
      · split at h
        · rename_i wm l hf
          rw [ifK_iff] at h
          obtain ⟨hs,⟨h0,⟨h1,h2⟩,h3⟩,h⟩:=h
          have hrow:=hty.at (t:=e') (.inl (by rw [beq_iff'.1 hs];decide))
          refine q_look h fun w0 M0 ρ w M S' e oo ho hc st he=>?_
          have hxv:=he x (by simp [Op.operands])
          have hiv:=he i (by simp [Op.operands])
          rw [hx] at hxv
          rw [hi] at hiv
          obtain ⟨o',b,g1,g2,g3,g4,g5⟩:=hxv
          obtain ⟨⟨o2,k1,k2,k3,_⟩,_⟩:=st.blk kk _ (st.find' hc hf g1)
          obtain rfl:=sli_sl k1 g1
          have hub:(underlying t).run P w= .ok (.array n' e') w:=by simp [underlying,hu']
          have k3:o'.sz=1:=k3
          have k2:o'.len=l.length:=k2
          subst h0
          refine ⟨.pointer (some ⟨b,n.toNat*o'.sz,none⟩),?_,o',b,g1,g2,h1,by rw [k2];exact h3,rfl⟩
          simp [execOp,ho,g5,hiv.1,Instr.indexAt,asIntOf,Instr.sureAddr,hub,h1,h2,hrow.size,beq_iff'.1 hs,addr_add,k3]
        · exact h.elim
      rw [ifK_iff] at h
      obtain ⟨hs,⟨h1,h2⟩,h⟩:=h
      have h:=idxP_at h (by omega) (by omega)
      have hrow:=hty.at (t:=e') (.inl (by rw [beq_iff'.1 hs];decide))
      refine q_look h fun w0 M0 ρ w M S' e oo ho hc st he=>?_
      have hxv:=he x (by simp [Op.operands])
      have hiv:=he i (by simp [Op.operands])
      rw [hx] at hxv
      rw [hi] at hiv
      obtain ⟨o',b,g1,g2,g3,g4,g5⟩:=hxv
      have hub:(underlying t).run P w= .ok (.array n' e') w:=by simp [underlying,hu']
      refine ⟨.pointer (some ⟨b,off.toNat*o'.sz+n.toNat,none⟩),?_,o',b,g1,g2,g3,g4,rfl⟩
      simp [execOp,ho,g5,hiv.1,Instr.indexAt,asIntOf,Instr.sureAddr,hub,h1,h2,hrow.size,beq_iff'.1 hs,addr_add]
    · exact h.elim
  · exact h.elim
theorem idx_iff:∀{l:List AV} {j i:Int} {K:AV→Prop},idxK l j i K→∀n:Nat,i=j+n→n<l.length→K (nth l n)
  |[],_,_,_,_,n,_,hn=>by simp at hn
  |a::l,j,i,K,h,0,hi,_=>force_iff.1 (h.1 (by omega))
  |a::l,j,i,K,h,n+1,hi,hn=>idx_iff (l:=l) (j:=j+1) h.2 n (by omega) (by simpa using hn)
theorem index_sound (hty:TyOk P TY) {F:Spec} {t:Nat} {x i:Operand} {T:List AV} {K:AV→Option Blk→Prop} (h:qK TY F d (.index t x i) T S0 K):
    ∃v B,K v B∧QS P d (.index t x i) T S0 v B:=by
  simp only [qK,eval_iff] at h
  obtain ⟨k,n,hi,h⟩:=bound_iff h
  split at h
  · rename_i l m e' hx hd
    split at h
    · rename_i hs hz hag
      obtain ⟨⟨h1,h2⟩,h⟩:=h
      have hu:=arr_row hty hd
      have hz:=beq_iff'.1 hz
      have hrow:=hty.at (t:=e') (.inl (by rw [hz];decide))
      have hlen:=same_len hs
      refine q_pure (idx_iff h n.toNat (by omega) (by omega)) fun ρ w M e oo ho he=>?_
      have hxv:=he x (by simp [Op.operands])
      have hiv:=he i (by simp [Op.operands])
      rw [hx] at hxv
      rw [hi] at hiv
      obtain ⟨cs,g1,g2⟩:=hxv
      obtain ⟨c,g3,g4⟩:=g2.get n.toNat (by omega)
      rw [Array.getElem?_toList] at g3
      have hub:(underlying t).run P w= .ok (.array m e') w:=by simp [underlying,hu]
      have h2':n<(m:Int):=h2
      exact ⟨c,by simp [execOp,ho,g1,hiv.1,Instr.index,asIntOf,hub,h1,h2',part,hrow.agg,hag,hrow.size,hz,g3],repT_of_repC g4⟩
    · exact h.elim
  · exact h.elim
theorem slice_bound {_n y:Nat} {k:IntKind} {i:Int} {code:BoundsCode} (h0:0≤i) (h1:i≤y) (w:World):(Instr.sliceBound (.int k i) y code).run P w= .ok i.toNat w:=by
  simp [Instr.sliceBound,asIntOf,h0,h1]
theorem lo_iff {lo:Option Operand} {T:List AV} {K:Int→Prop} (h:qK.loK T lo K):
    ∃n,K n∧((lo=none∧n=0)∨∃x k,lo=some x∧evalF T x= .int k n):=by
  cases lo with
  |none=>exact ⟨0,h,.inl ⟨rfl,rfl⟩⟩
  |some x=>
   simp only [qK.loK,eval_iff] at h
   obtain ⟨k,n,h1,h2⟩:=bound_iff h
   exact ⟨n,h2,.inr ⟨x,k,rfl,h1⟩⟩
theorem hi_iff {hi:Option Operand} {T:List AV} {m:Nat} {K:Int→Prop} (h:qK.hiK T hi m K):
    ∃n,K n∧((hi=none∧n=m)∨∃x k,hi=some x∧evalF T x= .int k n):=by
  cases hi with
  |none=>exact ⟨m,h,.inl ⟨rfl,rfl⟩⟩
  |some x=>
   simp only [qK.hiK,eval_iff] at h
   obtain ⟨k,n,h1,h2⟩:=bound_iff h
   exact ⟨n,h2,.inr ⟨x,k,rfl,h1⟩⟩
theorem run_bounds {T:List AV} {e:Operand→Value} {len cap:Nat} {l h:Int} {lo hi:Option Operand} (hlc:len≤cap)
    (h1:(lo=none∧l=0)∨∃x k,lo=some x∧evalF T x= .int k l) (h2:(hi=none∧h=len)∨∃x k,hi=some x∧evalF T x= .int k h)
    (he:∀x,lo=some x∨hi=some x→RepT ρ w M (evalF T x) (e x)) (hl0:0≤l) (hlh:l≤h) (hh:h≤len):
    (Instr.sliceBounds true len cap (lo.map e) (hi.map e) none).run P w= .ok (l.toNat,h.toNat,cap) w:=by
  have hlow:∀(x:Operand) (k:IntKind) (y:Nat),lo=some x→evalF T x= .int k l→h.toNat=y→(Instr.sliceBound (e x) y .sliceB).run P w= .ok l.toNat w:=fun x k y h3 h4 h5=>by
    have:=he x (.inl h3)
    rw [h4] at this
    rw [this.1]
    exact slice_bound (_n:=0) hl0 (by omega) w
  rcases h2 with ⟨rfl,rfl⟩|⟨y,k',rfl,hy⟩
  · rcases h1 with ⟨rfl,rfl⟩|⟨x,k,rfl,hx⟩
    · simp [Instr.sliceBounds]
    · simp [Instr.sliceBounds,hlow x k len rfl hx (by omega)]
  · have hy':=he y (.inr rfl)
    rw [hy] at hy'
    have hb:=slice_bound (P:=P) (_n:=0) (k:=k') (i:=h) (y:=cap) (code:=.sliceAcap) (by omega) (by omega) w
    rcases h1 with ⟨rfl,rfl⟩|⟨x,k,rfl,hx⟩
    · simp [Instr.sliceBounds,hy'.1,hb]
    · simp [Instr.sliceBounds,hy'.1,hb,hlow x k h.toNat rfl hx rfl]
theorem slice_sound (hty:TyOk P TY) {F:Spec} {t:Nat} {x:Operand} {lo hi:Option Operand} {T:List AV} {K:AV→Option Blk→Prop} (h:qK TY F d (.slice t x lo hi none) T S0 K):
    ∃v B,K v B∧QS P d (.slice t x lo hi none) T S0 v B:=by
  simp only [qK,eval_iff] at h
  split at h
  · rename_i r hx
    rw [ifK_iff,len_iff] at h
    obtain ⟨hok,h⟩:=h
    obtain ⟨l,h,hl⟩:=lo_iff h
    obtain ⟨m,h,hm⟩:=hi_iff h
    obtain ⟨⟨⟨h0,h1⟩,h2⟩,h⟩:=h
    obtain ⟨r',hK,g1,g2,g3⟩:=cut_cells h (by omega) (by omega)
    obtain ⟨e',hd',hu,hes,hrow⟩:=okSl_row hty hok
    refine q_pure hK fun ρ w M e oo ho he=>?_
    have hxv:=he x (by simp [Op.operands])
    rw [hx] at hxv
    obtain ⟨h5,a,cap,hv,hcap,h6⟩:=hxv
    have hub:(underlying t).run P w= .ok (.slice e') w:=by simp [underlying,hu]
    have hb:=run_bounds (P:=P) (ρ:=ρ) (w:=w) (M:=M) (T:=T) (e:=e) (l:=l) (h:=m) hcap hl hm (fun y hy=>he y (by rcases hy with rfl|rfl<;>simp [Op.operands])) h0 h1 h2
    refine ⟨.slice (if cap=l.toNat then a else a.map (·.add (l.toNat*r.sz))) (m.toNat - l.toNat) (cap - l.toNat),?_,?_⟩
    · simp [execOp,ho,hv,Instr.sliceAt,hub,Instr.slice,hb,hrow.size,hes]
    · refine ⟨by rw [g1];simp only [LB] at h5 ⊢;omega,_,_,by rw [g1],by rw [g1];omega,?_⟩
      rcases Nat.eq_zero_or_pos r'.cells with h7|h7
      · exact .inl h7
      · have hlen:0<r'.len:=by
          rcases Nat.eq_zero_or_pos r'.len with h8|h8
          · simp [RO.cells,h8] at h7
          · exact h8
        rw [g1] at hlen
        rcases h6 with h6|⟨b,off,rfl,h6⟩
        · have:=r.sz_pos
          have:0<r.cells:=Nat.mul_pos (by omega) this
          omega
        · refine .inr ⟨b,off+l.toNat*r.sz,?_,fun q hq=>?_⟩
          · rw [if_neg (by omega)];simp [addr_add]
          · have hlt:l.toNat*r.sz+q<r.cells:=by
              have h8:r'.cells=(m.toNat - l.toNat)*r.sz:=by simp [RO.cells,g1,g2]
              have h9:l.toNat*r.sz+(m.toNat - l.toNat)*r.sz=m.toNat*r.sz:=by rw [←Nat.add_mul];congr 1;omega
              have h10:m.toNat*r.sz≤r.len*r.sz:=Nat.mul_le_mul_right _ (by omega)
              simp only [RO.cells] at h8 hq ⊢
              omega
            obtain ⟨c,h8,h9,h10⟩:=h6 _ hlt
            rw [←Nat.add_assoc] at h8 h9
            exact ⟨c,h8,h9,g3 w M q c hq h10⟩
  · exact h.elim
theorem run_bounds3 {e:Operand→Value} {len cap:Nat} {h m:Int} {y z:Operand} {k k':IntKind} (hlc:len≤cap)
    (h1:e y= .int k h) (h2:e z= .int k' m) (h0:0≤h) (hm:h=m) (hh:m≤len):
    (Instr.sliceBounds true len cap none (some (e y)) (some (e z))).run P w= .ok (0,h.toNat,m.toNat) w:=by
  have a:=slice_bound (P:=P) (_n:=0) (k:=k') (i:=m) (y:=cap) (code:=.slice3Acap) (by omega) (by omega) w
  have b:=slice_bound (P:=P) (_n:=0) (k:=k) (i:=h) (y:=m.toNat) (code:=.slice3B) (by omega) (by omega) w
  simp [Instr.sliceBounds,h1,h2,a,b]
theorem slice3_sound (hty:TyOk P TY) {F:Spec} {t:Nat} {x:Operand} {lo hi:Option Operand} {z:Operand} {T:List AV} {K:AV→Option Blk→Prop} (h:qK TY F d (.slice t x lo hi (some z)) T S0 K):
    ∃v B,K v B∧QS P d (.slice t x lo hi (some z)) T S0 v B:=by
  cases lo with
  |some y=>cases hi<;>exact h.elim
  |none=>
  cases hi with
  |none=>exact h.elim
  |some y=>
  simp only [qK,eval_iff] at h
  split at h
  · rename_i r hx
    rw [ifK_iff,len_iff] at h
    obtain ⟨hok,h⟩:=h
    simp only [qK.hiK,eval_iff] at h
    obtain ⟨k,hi,hy,h⟩:=bound_iff h
    obtain ⟨k',mx,hz,h⟩:=bound_iff h
    obtain ⟨⟨⟨h0,h1⟩,h2⟩,h⟩:=h
    obtain ⟨r',hK,g1,g2,g3⟩:=cut_cells h (by omega) (by omega)
    obtain ⟨e',hd',hu,hes,hrow⟩:=okSl_row hty hok
    refine q_pure hK fun ρ w M e oo ho he=>?_
    have hxv:=he x (by simp [Op.operands])
    have hyv:=he y (by simp [Op.operands])
    have hzv:=he z (by simp [Op.operands])
    rw [hx] at hxv
    rw [hy] at hyv
    rw [hz] at hzv
    obtain ⟨h5,a,cap,hv,hcap,h6⟩:=hxv
    have hub:(underlying t).run P w= .ok (.slice e') w:=by simp [underlying,hu]
    have hb:=run_bounds3 (P:=P) (w:=w) (e:=e) hcap hyv.1 hzv.1 h0 h1 h2
    have hl':r'.len=hi.toNat:=by rw [g1];omega
    refine ⟨.slice (if mx.toNat=0 then a else a.map (·.add (0*r.sz))) (hi.toNat - 0) (mx.toNat - 0),?_,?_⟩
    · simp [execOp,ho,hv,Instr.sliceAt,hub,Instr.slice,hb,hrow.size,hes]
    · refine ⟨⟨by rw [hl'];simp only [LB] at h5 ⊢;omega,_,_,by rw [hl',Nat.sub_zero],by rw [hl'];omega,?_⟩,_,by rw [hl',Nat.sub_zero,Nat.sub_zero,←h1]⟩
      rcases Nat.eq_zero_or_pos r'.cells with h7|h7
      · exact .inl h7
      · have hlen:0<r'.len:=by
          rcases Nat.eq_zero_or_pos r'.len with h8|h8
          · simp [RO.cells,h8] at h7
          · exact h8
        rw [hl'] at hlen
        rcases h6 with h6|⟨b,off,rfl,h6⟩
        · have:=r.sz_pos
          have:0<r.cells:=Nat.mul_pos (by omega) this
          omega
        · refine .inr ⟨b,off,?_,fun q hq=>?_⟩
          · rw [if_neg (by omega)];simp [addr_add]
          · have hlt:q<r.cells:=by
              have h8:r'.cells=hi.toNat*r.sz:=by simp only [RO.cells,hl',g2]
              have h10:hi.toNat*r.sz≤r.len*r.sz:=Nat.mul_le_mul_right _ (by omega)
              simp only [RO.cells] at h8 hq ⊢
              omega
            obtain ⟨c,h8,h9,h10⟩:=h6 _ hlt
            refine ⟨c,h8,h9,g3 w M q c hq ?_⟩
            simpa using h10
  · exact h.elim
theorem int_max (a b:Int):(if b>a then b else a)=max a b:=by simp only [gt_iff_lt];split<;>omega
theorem int_min (a b:Int):(if b<a then b else a)=min a b:=by split<;>omega
theorem args_two {c:Call} {x y:Operand} (h:c.args.toList=[x,y]):c.args= #[x,y]:=by simpa using congrArg List.toArray h
theorem args_one {c:Call} {x:Operand} (h:c.args.toList=[x]):c.args= #[x]:=by simpa using congrArg List.toArray h
theorem run_len {t ty e:Nat} {a:Option Addr} {n cap:Nat} (hu:P.underlying t=some (.slice e)) (w:World):(Builtin.len_ #[t] ty #[.slice a n cap]).run P w= .ok (.int .i64 n) w:=by
  simp [Builtin.len_,underlying,hu,goInt]
theorem len_in {n:Nat} (h:n≤LB):inK .i64 (n:Int):=in_i64 (by omega) (by simp only [LB] at h;omega)
theorem builtin_sound (hty:TyOk P TY) {F:Spec} {c:Call} {b:Builtin} {T:List AV} {K:AV→Option Blk→Prop} (hb:c.callee= .builtin b) (h:qK TY F d (.call c) T S0 K):
    ∃v B,K v B∧QS P d (.call c) T S0 v B:=by
  have hops:∀x∈c.args.toList,x∈(Op.call c).operands:=fun x hx=>by simp [Op.operands,Call.operands,hb];exact Array.mem_toList_iff.1 hx
  simp only [qK,hb] at h
  cases b<;>try exact h.elim
  case len=>
    simp only at h
    split at h
    · rename_i x t hargs htys
      have hsl:sliceT TY t=true→∃e,P.underlying t=some (.slice e):=fun hs=>by
        unfold sliceT at hs
        split at hs
        · rename_i e hd;exact ⟨e,slice_row hty hd⟩
        · cases hs
      cases hs:sliceT TY t with
      |false=>
       rw [hs] at h
       obtain ⟨kt,et,kd,vk,h,hu,hk,z,hz,hzv⟩:=map_row hty h
       rw [eval_iff] at h
       have hat:c.argTypes= #[t]:=by simpa using congrArg List.toArray htys
       split at h
       · rename_i k off hx
         split at h
         · rename_i kd' vk' m hf
           obtain ⟨hle,h⟩:=h
           refine q_look h fun w0 M0 ρ w M S' e oo ho hc st he=>?_
           have hv:=he x (hops x (by rw [hargs];simp))
           rw [hx] at hv
           have hv:(ρ k).bind (Own.ref · off)=some (e x):=hv
           obtain ⟨b,g1,es,n,g2,g3,g4⟩:=st.blk k _ (st.find' hc hf hv)
           have hex:=ref_mp g1 hv
           have hlen:m.length=es.size:=by rw [g4.length];simp
           refine ⟨.int .i64 es.size,?_,by rw [hlen],in_i64 (by omega) (by omega)⟩
           simp [execOp,ho,resolve,hb,invoke,builtin,args_one hargs,hat,hex,Builtin.len_,underlying,hu,MapKept.run_getObj_map g2,goInt]
         · exact h.elim
       · exact h.elim
      |true=>
      rw [hs] at h
      simp only [eval_iff] at h
      obtain ⟨e',hu⟩:=hsl hs
      have hat:c.argTypes= #[t]:=by simpa using congrArg List.toArray htys
      have hx':x∈(Op.call c).operands:=hops x (by rw [hargs];simp)
      have fin:∀(w0:World) (M0:Base w0) (ρ:Env) (w:World) (M:Msk) (S':Store) (e:Operand→Value) (oo:Oper) (a:Option Addr) (n cap:Nat),oo.op= .call c→e x= .slice a n cap→(execOp e oo).run P w= .ok (.value (.int .i64 n)) w:=by
        intro w0 M0 ρ w M S' e oo a n cap ho hv
        simp [execOp,ho,resolve,hb,invoke,builtin,args_one hargs,hat,hv,run_len hu]
      split at h
      · rename_i r hr
        rw [len_iff] at h
        refine q_look h fun w0 M0 ρ w M S' e oo ho hc st he=>?_
        have hv:=he x hx'
        rw [hr] at hv
        obtain ⟨h5,a,cap,hv,_⟩:=hv
        exact ⟨_,fin w0 M0 ρ w M S' e oo a r.len cap ho hv,rfl,len_in h5⟩
      · rename_i hr
        refine q_look h fun w0 M0 ρ w M S' e oo ho hc st he=>?_
        have hv:=he x hx'
        rw [hr] at hv
        exact ⟨_,fin w0 M0 ρ w M S' e oo none 0 0 ho hv,rfl,in_zero _⟩
      · rename_i k hr
        split at h
        · rename_i wm r ov hf
          rw [len_iff] at h
          refine q_look h fun w0 M0 ρ w M S' e oo ho hc st he=>?_
          have hv:=he x hx'
          rw [hr] at hv
          obtain ⟨o,g1,g2⟩:=hv
          obtain ⟨⟨o',g3,g4,g5,g6,_⟩,_⟩:=st.blk k _ (st.find' hc hf g1)
          obtain rfl:=sli_sl g3 g1
          refine ⟨_,fin w0 M0 ρ w M S' e oo _ o.len o.cap ho g2,by rw [g4],len_in g6⟩
        · rename_i r hole hf
          rw [len_iff] at h
          refine q_look h fun w0 M0 ρ w M S' e oo ho hc st he=>?_
          have hv:=he x hx'
          rw [hr] at hv
          obtain ⟨o,g1,g2⟩:=hv
          obtain ⟨o',rows,g3,g4⟩:=st.blk k _ (st.find' hc hf g1)
          rw [of_dp g3] at g1;cases g1
          exact ⟨_,fin w0 M0 ρ w M S' e oo _ o.len o.cap ho g2,by rw [g4.len],len_in g4.lb⟩
        · rename_i n0 r hf
          rw [len_iff] at h
          refine q_look h fun w0 M0 ρ w M S' e oo ho hc st he=>?_
          have hv:=he x hx'
          rw [hr] at hv
          obtain ⟨o,g1,g2⟩:=hv
          obtain ⟨o0,cur,g3,g4',_⟩:=st.blk k _ (st.find' hc hf g1)
          have hco:cur=o:=by rw [of_st g3] at g1;exact Option.some.inj g1
          rw [hco] at g4'
          obtain ⟨g4,g5,g6,_⟩:=g4'
          refine ⟨_,fin w0 M0 ρ w M S' e oo _ o.len o.cap ho g2,by rw [g4],len_in g6⟩
        · exact h.elim
      · exact h.elim
    · exact h.elim
  case max=>
    simp only at h
    split at h
    · rename_i x y hargs
      rw [eval_iff,eval_iff] at h
      split at h
      · rename_i k a k' b hx hy
        rw [ifK_iff] at h
        obtain ⟨hk,h⟩:=h
        obtain rfl:=kq_eq hk
        refine q_pure h fun ρ w M e oo ho he=>?_
        have h1:=he x (hops x (by rw [hargs];simp))
        have h2:=he y (hops y (by rw [hargs];simp))
        rw [hx] at h1;rw [hy] at h2
        refine ⟨.int k (max a b),?_,rfl,by obtain ⟨_,h3,h4⟩:=h1;obtain ⟨_,h5,h6⟩:=h2;exact ⟨by omega,by omega⟩⟩
        have:=int_max a b
        simp only [gt_iff_lt] at this
        simp [execOp,ho,resolve,hb,invoke,builtin,args_two hargs,h1.1,h2.1,Builtin.max_,Builtin.max2,this]
      · exact h.elim
    · exact h.elim
  case min=>
    simp only at h
    split at h
    · rename_i x y hargs
      rw [eval_iff,eval_iff] at h
      split at h
      · rename_i k a k' b hx hy
        rw [ifK_iff] at h
        obtain ⟨hk,h⟩:=h
        obtain rfl:=kq_eq hk
        refine q_pure h fun ρ w M e oo ho he=>?_
        have h1:=he x (hops x (by rw [hargs];simp))
        have h2:=he y (hops y (by rw [hargs];simp))
        rw [hx] at h1;rw [hy] at h2
        refine ⟨.int k (min a b),?_,rfl,by obtain ⟨_,h3,h4⟩:=h1;obtain ⟨_,h5,h6⟩:=h2;exact ⟨by omega,by omega⟩⟩
        simp [execOp,ho,resolve,hb,invoke,builtin,args_two hargs,h1.1,h2.1,Builtin.min_,Builtin.min2,int_min a b]
      · exact h.elim
    · exact h.elim
end
end Go.AM
end
section
namespace Go.AM
open Go
def dropMs (M:Msk) (ρ:Env) (ks:List Nat):Msk:=fun b off=>M b off∧∀k∈ks,¬hasB ρ k b
theorem appN_eq:∀(l m:List Nat),appN l m=l++m
  |[],_=>rfl|_::l,m=>by simp [appN,appN_eq l m]
theorem keep_drops (w:World) (M:Msk) (ρ:Env) (ks:List Nat):Keep w M w (dropMs M ρ ks):=fun _ _ _ h h'=>⟨h,fun hm=>h' hm.1⟩
section
variable {P:Program} {TY:List TyE} {w0 w:World} {M0:Base w0} {ρ:Env} {M:Msk} {S S0:Store} {d:Nat}
theorem vec_lent {k:Nat} {B:Blk} {r:RO} {v:Value} {ks:List Nat} (hk:k∈ks) (hB:BlkH ρ w M k B) (hf:frzB B=some r) (hv:RepC ρ w M (.vec k) v):RepRO w (dropMs M ρ ks) r v:=
  blk_reads (fun _ _ h=>h.1) (fun _ _ h h'=>h'.2 k hk h) hB hf hv
theorem suf_rep {r r':RO} {o:Sl} {i:Nat} (hs:o.sz=r.sz) (hi:i≤r.len) (h:RepRO w M r o.val) (g1:r'.len=r.len - i) (g2:r'.sz=r.sz) (g3:∀(w:World) (M:Msk) q c,q<r'.cells→(CellP w M r (i*r.sz+q) c→CellP w M r' q c)):RepRO w M r' (o.suf i):=by
  obtain ⟨h5,a,cap,hv,hcap,h6⟩:=h
  have hv1:(o.blk.map fun b=>(⟨b,0,none⟩:Addr))=a∧o.len=r.len∧o.cap=cap:=by simpa [Sl.val] using hv
  obtain ⟨hv1,hv2,rfl⟩:=hv1
  refine ⟨by rw [g1];simp only [LB] at h5 ⊢;omega,_,_,by unfold Sl.suf;rw [g1,hv2,hv1],by rw [g1];omega,?_⟩
  rcases Nat.eq_zero_or_pos r'.cells with h7|h7
  · exact .inl h7
  · have hlen:0<r'.len:=by
      rcases Nat.eq_zero_or_pos r'.len with h8|h8
      · simp [RO.cells,h8] at h7
      · exact h8
    rw [g1] at hlen
    rcases h6 with h6|⟨b,off,rfl,h6⟩
    · have:=r.sz_pos
      have:0<r.cells:=Nat.mul_pos (by omega) this
      omega
    · refine .inr ⟨b,off+i*r.sz,?_,fun q hq=>?_⟩
      · rw [if_neg (by omega),hs];simp [addr_add]
      · have hlt:i*r.sz+q<r.cells:=by
          have h8:r'.cells=(r.len - i)*r.sz:=by simp [RO.cells,g1,g2]
          have h9:i*r.sz+(r.len - i)*r.sz=r.len*r.sz:=by rw [←Nat.add_mul];congr 1;omega
          simp only [RO.cells] at h8 hq ⊢
          omega
        obtain ⟨c,h8,h9,h10⟩:=h6 _ hlt
        rw [←Nat.add_assoc] at h8 h9
        exact ⟨c,h8,h9,g3 w M q c hq h10⟩
theorem repL_nil {R R':AV→Value→Prop} {m:List Value} (h:RepL R [] m):RepL R' [] m:=by cases m<;>exact h
theorem lendC_sound {a:AV} {K:AV→List Nat→Prop} (h:lendC S a K):
    ∃a' ks,K a' ks∧(∀k∈ks,∃B r,findS S k=some B∧frzB B=some r)∧((∀l,a'≠.agg l)∧∀l,a'≠.tup l)∧
     ∀(ρ:Env) (w:World) (M:Msk),(∀k B,findS S k=some B→(ρ k).isSome→BlkH ρ w M k B)→∀ks' v,(∀k∈ks,k∈ks')→
      (RepC ρ w M a v→RepC noEnv w (dropMs M ρ ks') a' v)∧(RepT ρ w M a v→RepT noEnv w (dropMs M ρ ks') a' v):=by
  cases a with
  |vec k=>
   simp only [lendC] at h
   have go:∀B r,findS S k=some B→frzB B=some r→K (.ro r) [k]→∃a' ks,K a' ks∧(∀k∈ks,∃B r,findS S k=some B∧frzB B=some r)∧((∀l,a'≠.agg l)∧∀l,a'≠.tup l)∧
     ∀(ρ:Env) (w:World) (M:Msk),(∀k B,findS S k=some B→(ρ k).isSome→BlkH ρ w M k B)→∀ks' v,(∀k∈ks,k∈ks')→
      (RepC ρ w M (.vec k) v→RepC noEnv w (dropMs M ρ ks') a' v)∧(RepT ρ w M (.vec k) v→RepT noEnv w (dropMs M ρ ks') a' v):=fun B r hf hr h=>by
     refine ⟨_,_,h,fun j hj=>by simp at hj;subst hj;exact ⟨B,r,hf,hr⟩,by simp,fun ρ w M hB ks' v hks=>?_⟩
     have hk:=hks k (by simp)
     exact ⟨fun hv=>vec_lent hk (hB k _ hf (by obtain ⟨o,h1,_⟩:=hv;exact bind_isSome h1)) hr hv,fun hv=>vec_lent hk (hB k _ hf (by obtain ⟨o,h1,_⟩:=hv;exact bind_isSome h1)) hr hv⟩
   split at h
   · rename_i wm r hf
     exact go _ _ hf rfl h
   · rename_i r hf
     exact go _ _ hf rfl (thw_iff.1 h)
   · exact h.elim
  |vsuf k i=>
   simp only [lendC] at h
   split at h
   · rename_i wm r hf
     rw [len_iff] at h
     obtain ⟨hi,h⟩:=h
     obtain ⟨r',h,g1,g2,g3⟩:=cut_cells h hi (Nat.le_refl _)
     refine ⟨_,_,h,fun j hj=>by simp at hj;subst hj;exact ⟨_,r,hf,rfl⟩,by simp,fun ρ w M hB ks' v hks=>?_⟩
     have hk:=hks k (by simp)
     have main:RepC ρ w M (.vsuf k i) v→RepC noEnv w (dropMs M ρ ks') (.ro r') v:=fun hv=>by
       obtain ⟨o,h1,h2,h3,rfl⟩:=hv
       have hb:=hB k _ hf (bind_isSome h1)
       have hr:=vec_lent (v:=o.val) hk hb rfl ⟨o,h1,rfl⟩
       obtain ⟨⟨o',k2,k3,k4,_⟩,_⟩:=hb
       obtain rfl:=sli_sl k2 h1
       exact suf_rep k4 hi hr g1 g2 g3
     exact ⟨main,main⟩
   · exact h.elim
  |int k n=>exact ⟨_,_,h,by simp,by simp,fun ρ w M _ ks' v _=>⟨id,id⟩⟩
  |bool e=>exact ⟨_,_,h,by simp,by simp,fun ρ w M _ ks' v _=>⟨id,id⟩⟩
  |ro r=>exact ⟨_,_,h,by simp,by simp,fun ρ w M _ ks' v _=>⟨fun hv=>RepRO.keep (keep_drops _ _ _ _) hv,fun hv=>RepRO.keep (keep_drops _ _ _ _) hv⟩⟩
  |nils=>exact ⟨_,_,h,by simp,by simp,fun ρ w M _ ks' v _=>⟨id,id⟩⟩
  |any=>exact ⟨_,_,h,by simp,by simp,fun ρ w M _ ks' v _=>⟨id,id⟩⟩
  |str l=>exact ⟨_,_,h,by simp,by simp,fun ρ w M _ ks' v _=>⟨id,id⟩⟩
  |rptr r i=>refine ⟨_,_,h,by simp,by simp,fun ρ w M _ ks' v _=>⟨fun hv=>?_,fun hv=>?_⟩⟩<;>(obtain ⟨b,off,cap,h1,h2⟩:=hv;exact ⟨b,off,cap,h1.keep (keep_drops _ _ _ _),h2⟩)
  |cfn f r i=>refine ⟨_,_,h,by simp,by simp,fun ρ w M _ ks' v _=>⟨fun hv=>?_,fun hv=>?_⟩⟩<;>(obtain ⟨b,off,cap,h1,h2⟩:=hv;exact ⟨b,off,cap,h1.keep (keep_drops _ _ _ _),h2⟩)
  |fn f l=>
   cases l with
   |nil=>exact ⟨_,_,h,by simp,by simp,fun ρ w M _ ks' v _=>⟨id,fun ⟨cs,h1,h2⟩=>⟨cs,h1,repL_nil h2⟩⟩⟩
   |cons=>exact h.elim
  |_=>exact h.elim
theorem lendL_sound:∀{l:List AV} {K:List AV→List Nat→Prop},lendL S l K→
    ∃l' ks,K l' ks∧(∀k∈ks,∃B r,findS S k=some B∧frzB B=some r)∧
     ∀(ρ:Env) (w:World) (M:Msk),(∀k B,findS S k=some B→(ρ k).isSome→BlkH ρ w M k B)→∀ks' vs,(∀k∈ks,k∈ks')→RepL (RepC ρ w M) l vs→RepL (RepC noEnv w (dropMs M ρ ks')) l' vs
  |[],_,h=>⟨[],[],h,by simp,fun _ _ _ _ _ vs _ hv=>by cases vs<;>exact hv⟩
  |a::l,K,h=>by
   obtain ⟨a',ks,h1,h2,_,h3⟩:=lendC_sound h
   obtain ⟨l',ks2,h4,h5,h6⟩:=lendL_sound h1
   refine ⟨_,_,h4,fun k hk=>?_,fun ρ w M hB ks' vs hks hv=>?_⟩
   · rw [appN_eq] at hk
     rcases List.mem_append.1 hk with hk|hk
     · exact h2 k hk
     · exact h5 k hk
   · cases vs with
     |nil=>exact hv.elim
     |cons v vs=>
      rw [appN_eq] at hks
      exact ⟨(h3 ρ w M hB ks' v fun k hk=>hks k (List.mem_append.2 (.inl hk))).1 hv.1,h6 ρ w M hB ks' vs (fun k hk=>hks k (List.mem_append.2 (.inr hk))) hv.2⟩
theorem lendK_sound:∀{l:List AV} {K:List AV→List Nat→Prop},lendK S l K→
    ∃l' ks,K l' ks∧(∀k∈ks,∃B r,findS S k=some B∧frzB B=some r)∧
     ∀(ρ:Env) (w:World) (M:Msk),(∀k B,findS S k=some B→(ρ k).isSome→BlkH ρ w M k B)→∀ks' vs,(∀k∈ks,k∈ks')→RepL (RepT ρ w M) l vs→RepL (RepT noEnv w (dropMs M ρ ks')) l' vs
  |[],_,h=>⟨[],[],h,by simp,fun _ _ _ _ _ vs _ hv=>by cases vs<;>exact hv⟩
  |a::l,K,h=>by
   have go:∃a' ks,(lendK S l fun l' ks'=>K (a'::l') (appN ks ks'))∧(∀k∈ks,∃B r,findS S k=some B∧frzB B=some r)∧
       ∀(ρ:Env) (w:World) (M:Msk),(∀k B,findS S k=some B→(ρ k).isSome→BlkH ρ w M k B)→∀ks' v,(∀k∈ks,k∈ks')→RepT ρ w M a v→RepT noEnv w (dropMs M ρ ks') a' v:=by
     cases a with
     |agg m=>
      obtain ⟨m',ks,h1,h2,h3⟩:=lendL_sound h
      exact ⟨_,_,h1,h2,fun ρ w M hB ks' v hks ⟨cs,h4,h5⟩=>⟨cs,h4,h3 ρ w M hB ks' _ hks h5⟩⟩
     |_=>
      simp only [lendK] at h
      obtain ⟨a',ks,h1,h2,_,h3⟩:=lendC_sound h
      exact ⟨_,_,h1,h2,fun ρ w M hB ks' v hks hv=>(h3 ρ w M hB ks' v hks).2 hv⟩
   obtain ⟨a',ks,h1,h2,h3⟩:=go
   obtain ⟨l',ks2,h4,h5,h6⟩:=lendK_sound h1
   refine ⟨_,_,h4,fun k hk=>?_,fun ρ w M hB ks' vs hks hv=>?_⟩
   · rw [appN_eq] at hk
     rcases List.mem_append.1 hk with hk|hk
     · exact h2 k hk
     · exact h5 k hk
   · cases vs with
     |nil=>exact hv.elim
     |cons v vs=>
      rw [appN_eq] at hks
      exact ⟨h3 ρ w M hB ks' v (fun k hk=>hks k (List.mem_append.2 (.inl hk))) hv.1,h6 ρ w M hB ks' vs (fun k hk=>hks k (List.mem_append.2 (.inr hk))) hv.2⟩
theorem freezes_sound {a:Act}:∀{ks:List Nat} {T:List AV} {S:Store} {ρ:Env} {M:Msk} {K:List AV→Store→Prop},freezesK ks T S K→St M0 ρ M S w→Tm ρ w M T a→
    ∃T' S' ρ' M',K T' S'∧St M0 ρ' M' S' w∧Tm ρ' w M' T' a∧T'.length=T.length∧∀b off,M' b off↔dropMs M ρ ks b off
  |[],T,S,ρ,M,K,h,st,tm=>⟨T,S,ρ,M,h,st,tm,rfl,fun b off=>⟨fun h=>⟨h,fun k hk=>by cases hk⟩,fun h=>h.1⟩⟩
  |k::ks,T,S,ρ,M,K,h,st,tm=>by
   simp only [freezesK] at h
   split at h
   · rename_i hf
     obtain ⟨T',S',ρ',M',h1,h2,h3,h4,h5⟩:=freezes_sound h st tm
     refine ⟨T',S',ρ',M',h1,h2,h3,h4,fun b off=>?_⟩
     rw [h5 b off]
     have hn:ρ k=none:=by
       have:=st.dom k;rw [hf] at this
       cases hρ:ρ k with|none=>rfl|some o=>rw [hρ] at this;cases this
     refine ⟨fun hm=>⟨hm.1,fun j hj=>?_⟩,fun hm=>⟨hm.1,fun j hj=>hm.2 j (List.mem_cons_of_mem _ hj)⟩⟩
     rcases List.mem_cons.1 hj with rfl|hj
     · simp [hasB,hn]
     · exact hm.2 j hj
   · obtain ⟨B,r,hf,T1,S1,h1,h2,h3,h4,_⟩:=freeze_sound h st tm
     obtain ⟨T',S',ρ',M',h5,h6,h7,h8,h9⟩:=freezes_sound h1 h2 h3
     refine ⟨T',S',ρ',M',h5,h6,h7,h8.trans h4,fun b off=>?_⟩
     rw [h9 b off]
     constructor
     · intro hm
       refine ⟨hm.1.1,fun j hj=>?_⟩
       rcases List.mem_cons.1 hj with rfl|hj
       · exact hm.1.2
       · intro hb
         by_cases hjk:j=k
         · subst hjk;exact hm.1.2 hb
         · exact hm.2 j hj (by simpa [hasB,dropE,hjk] using hb)
     · intro hm
       refine ⟨⟨hm.1,hm.2 k (by simp)⟩,fun j hj hb=>?_⟩
       by_cases hjk:j=k
       · subst hjk;simp [hasB,dropE] at hb
       · exact hm.2 j (List.mem_cons_of_mem _ hj) (by simpa [hasB,dropE,hjk] using hb)
def Flat:RO→Prop
  |.ints _ _=>True|.bools _=>True|.pairs _=>True|.facs _=>True|.arrs _ _ _=>True|.strs _=>True|.ruls _=>True|_=>False
theorem flat_cell {w w':World} {M M':Msk} {r:RO} (hr:Flat r) {q:Nat} {c:Value} (h:CellP w M r q c):CellP w' M' r q c:=by
  cases r<;>first|exact h|exact hr.elim
theorem St.take {w':World} {o:Sl} {r:RO} (st:St M0 ρ M S w') (hd:findS S d=none) (hV:VecH noEnv w' M o 0 r []) (hb:∀b,o.blk=some b→∀k,¬hasB ρ k b) (hfr:∀b,o.blk=some b→w0.heap.size≤b) (hloc:loc d=true):
    St M0 (fun k=>if k=d then some (.sl o) else ρ k) M ((d,.vec 0 r [])::S) w':=by
  have hρd:ρ d=none:=by
    have:=st.dom d;rw [hd] at this
    cases h:ρ d with|none=>rfl|some o=>rw [h] at this;cases this
  have hext:∀k o',ρ k=some o'→(fun k=>if k=d then some (Own.sl o) else ρ k) k=some o':=fun k o' h=>by
    have:k≠d:=fun e=>by subst e;rw [hρd] at h;cases h
    simp [this,h]
  have hold:∀k b,k≠d→hasB (fun k=>if k=d then some (Own.sl o) else ρ k) k b→hasB ρ k b:=fun k b hk h=>by simpa [hasB,hk] using h
  refine ⟨fun k=>?_,fun k B hB=>?_,fun i j b hi hj=>?_,st.mlt,st.stp,st.sub,st.old,fun k b hkb=>?_,fun k o' hk ho=>?_⟩
  · by_cases hkd:k=d
    · subst hkd;simp [find_cons]
    · simp [hkd,find_cons,Ne.symm hkd,st.dom k]
  · by_cases hkd:k=d
    · subst hkd
      simp only [find_cons,if_true] at hB
      cases hB
      refine ⟨⟨o,by simp,?_⟩,.inl rfl⟩
      obtain ⟨h3,h4,h5,h6,h7⟩:=hV
      refine ⟨h3,h4,h5,h6,?_⟩
      cases hbl:o.blk with
      |none=>simp only [hbl] at h7 ⊢;exact h7
      |some b=>simp only [hbl] at h7 ⊢;exact h7
    · simp only [find_cons,Ne.symm hkd,if_false] at hB
      exact BlkH.ext (Keep.refl _ _) hext (fun b hb=>⟨rfl,fun _=>Iff.rfl⟩) (st.blk k B hB)
  · by_cases hid:i=d
    · by_cases hjd:j=d
      · rw [hid,hjd]
      · subst hid
        simp [hasB,Own.has] at hi
        exact absurd (hold j b hjd hj) (hb b hi j)
    · by_cases hjd:j=d
      · subst hjd
        simp [hasB,Own.has] at hj
        exact absurd (hold i b hid hi) (hb b hj i)
      · exact st.inj _ _ _ (hold i b hid hi) (hold j b hjd hj)
  · by_cases hkd:k=d
    · subst hkd
      exact .inl (hfr b (by simpa [hasB,Own.has] using hkb))
    · exact st.fresh k b (hold k b hkd hkb)
  · by_cases hkd:k=d
    · subst hkd;rw [hloc] at hk;cases hk
    · exact st.pin k o' hk (by simpa [hkd] using ho)
theorem newL_cons0 {a:AV} {m:List AV} (h:newA a=0):newL (a::m)=newL m:=by simp [newL,h]
theorem rep_old {a:AV} {v:Value} {w':World} {M' M2:Msk} (hn:newA a=0) (hk:Keep w' M' w' M2) (h:RepRc w w' M' a v):RepG ρ w' M2 a v:=by
  cases a with
  |new r=>cases hn
  |_=>simp only [RepRc] at h;exact RepG.keep hk (fun k o ho=>by cases ho) h
theorem bindL_sound {w':World} {M' M2:Msk} {a:Act} (hw0:w0.heap.size≤w.heap.size) (hk:Keep w' M' w' M2) (hnew:∀b off,w.heap.size≤b→(M2 b off↔M' b off)):
    ∀{l:List AV} {vs:List Value} {T:List AV} {S:Store} {ρ:Env} {K:List AV→List AV→Store→Prop},bindL d l T S K→newL l≤1→RepL (RepRc w w' M') l vs→
     St M0 ρ M2 S w'→Tm ρ w' M2 T a→(∀k b,hasB ρ k b→b<w.heap.size)→
     ∃m T' S' ρ' M3,K m T' S'∧St M0 ρ' M3 S' w'∧Tm ρ' w' M3 T' a∧T'.length=T.length∧RepL (RepG ρ' w' M3) m vs∧Keep w' M2 w' M3
  |[],vs,T,S,ρ,K,h,_,hv,st,tm,_=>⟨[],T,S,ρ,M2,h,st,tm,rfl,by cases vs<;>exact hv,Keep.refl _ _⟩
  |x::l,[],T,S,ρ,K,h,_,hv,st,tm,_=>hv.elim
  |x::l,v::vs,T,S,ρ,K,h,hn,hv,st,tm,hlt=>by
   cases x with
   |new r=>
    obtain ⟨T',S',h1,h2,h3,h4,h5,hloc⟩:=kill_sound (k:=d) h st tm
    obtain ⟨o,rfl,hV,hob⟩:=hv.1
    have hn0:newL l=0:=by simp only [newL,newA] at hn;omega
    have hV':VecH noEnv w' (dropM M2 ρ d) o 0 r []:=by
      obtain ⟨g3,g4,g5,g6,g7⟩:=hV
      refine ⟨g3,g4,g5,g6,?_⟩
      cases hbl:o.blk with
      |none=>simp only [hbl] at g7 ⊢;exact g7
      |some b=>
       simp only [hbl] at g7 ⊢
       obtain ⟨g8,cs,ty,g9,g10,g11,g12⟩:=g7
       have hge:=hob b hbl
       have hne:¬hasB ρ d b:=fun e=>by have:=hlt _ _ e;omega
       refine ⟨g8,cs,ty,g9,g10,fun off=>?_,fun q hq=>?_⟩
       · rw [←g11 off]
         exact ⟨fun hm=>(hnew b off hge).1 hm.1,fun hm=>⟨(hnew b off hge).2 hm,hne⟩⟩
       · obtain ⟨c,g13,g14⟩:=g12 q hq
         exact ⟨c,g13,(g14.keep hk).keep (keep_drop _ _ _ _)⟩
    have hst:=h2.take (d:=d) h5 hV' (fun b hbl k hkb=>by
      have hge:=hob b hbl
      by_cases hkd:k=d
      · subst hkd;simp [hasB,dropE] at hkb
      · have:=hlt k b (by simpa [hasB,dropE,hkd] using hkb);omega) (fun b hbl=>Nat.le_trans hw0 (hob b hbl)) hloc
    have hext:∀k o',dropE ρ d k=some o'→(fun k=>if k=d then some (Own.sl o) else dropE ρ d k) k=some o':=fun k o' hk'=>by
      have:k≠d:=fun e=>by subst e;simp [dropE] at hk'
      simp [this,hk']
    refine ⟨_,T',_,_,_,h1,hst,⟨h3.defers,h3.size,fun i=>RepT.keep (Keep.refl _ _) hext (h3.tmp i)⟩,h4,⟨⟨o,(by simp [Own.sli]:(if d=d then some (Own.sl o) else dropE ρ d d).bind Own.sli=some o),rfl⟩,?_⟩,keep_drop _ _ _ _⟩
    have rest:∀{l:List AV} {vs:List Value},newL l=0→RepL (RepRc w w' M') l vs→RepL (RepG (fun k=>if k=d then some (Own.sl o) else dropE ρ d k) w' (dropM M2 ρ d)) l vs:=by
      intro l
      induction l with
      |nil=>intro vs _ hv;cases vs<;>exact hv
      |cons y l ih=>
       intro vs hn hv
       cases vs with
       |nil=>exact hv.elim
       |cons u vs=>
        have hy:newA y=0:=by
          cases hy:newA y with
          |zero=>rfl
          |succ n=>simp [newL,hy] at hn
        rw [newL_cons0 hy] at hn
        exact ⟨RepG.keep (keep_drop _ _ _ _) (fun k o ho=>by cases ho) (rep_old (ρ:=noEnv) hy hk hv.1),ih hn hv.2⟩
    exact rest hn0 hv.2
   |_=>
    simp only [bindL] at h
    rw [newL_cons0 rfl] at hn
    obtain ⟨m,T',S',ρ',M3,h1,h2,h3,h4,h5,h6⟩:=bindL_sound hw0 hk hnew h hn hv.2 st tm hlt
    exact ⟨_,T',S',ρ',M3,h1,h2,h3,h4,⟨RepG.keep h6 (fun k o ho=>by cases ho) (rep_old (ρ:=noEnv) rfl hk hv.1),h5⟩,h6⟩
theorem bindK_sound {w':World} {M' M2:Msk} {a:Act} (hw0:w0.heap.size≤w.heap.size) (hk:Keep w' M' w' M2) (hnew:∀b off,w.heap.size≤b→(M2 b off↔M' b off))
    {x:AV} {v:Value} {T:List AV} {S:Store} {ρ:Env} {K:AV→List AV→Store→Prop} (h:bindK d x T S K) (hn:news x≤1) (hv:RepR w w' M' x v)
    (st:St M0 ρ M2 S w') (tm:Tm ρ w' M2 T a) (hlt:∀k b,hasB ρ k b→b<w.heap.size):
    ∃y T' S' ρ' M3,K y T' S'∧St M0 ρ' M3 S' w'∧Tm ρ' w' M3 T' a∧T'.length=T.length∧RepT ρ' w' M3 y v:=by
  cases x with
  |tup l=>
   obtain ⟨cs,rfl,hcs⟩:=hv
   obtain ⟨m,T',S',ρ',M3,h1,h2,h3,h4,h5,_⟩:=bindL_sound hw0 hk hnew h hn hcs st tm hlt
   exact ⟨_,T',S',ρ',M3,h1,h2,h3,h4,cs,rfl,h5⟩
  |new r=>
   obtain ⟨m,T',S',ρ',M3,h1,h2,h3,h4,h5,_⟩:=bindL_sound (d:=d) (K:=fun m T S=>match m with|[.vec j]=>K (.vec j) T S|_=>False) (l:=[.new r]) (vs:=[v]) hw0 hk hnew (show killK d T S _ from h) (by simp [newL,newA]) ⟨hv,trivial⟩ st tm hlt
   match m,h1,h5 with
   |[.vec j],h1,h5=>exact ⟨.vec j,T',S',ρ',M3,h1,h2,h3,h4,h5.1⟩
  |_=>
   simp only [bindK] at h
   have h:=force_iff.1 h
   simp only [RepR] at hv
   exact ⟨_,T,S,ρ,M2,h,st,tm,rfl,RepT.keep hk (fun k o ho=>by cases ho) hv⟩
theorem safe_cells {l:List AV} {vs:List Value} {w w':World} {M' M2:Msk} (hnew:∀b off,w.heap.size≤b→(M2 b off↔M' b off)) (hs:safeL l=true) (h:RepL (RepRc w w' M') l vs):RepL (RepRc w w' M2) l vs:=by
  induction l generalizing vs with
  |nil=>cases vs<;>exact h
  |cons a l ih=>
   cases vs with
   |nil=>exact h.elim
   |cons v vs=>
    simp only [safeL] at hs
    cases ha:safeA a with
    |false=>rw [ha] at hs;cases hs
    |true=>
     rw [ha] at hs
     refine ⟨?_,ih hs h.2⟩
     have h1:=h.1
     cases a with
     |int k n=>exact h1
     |bool e=>exact h1
     |nils=>exact h1
     |any=>exact h1
     |str l=>exact h1
     |new r=>
      obtain ⟨o,h2,⟨g3,g4,g5,g6,g7⟩,hob⟩:=h1
      refine ⟨o,h2,⟨g3,g4,g5,g6,?_⟩,hob⟩
      cases hbl:o.blk with
      |none=>simp only [hbl] at g7 ⊢;exact g7
      |some b=>
       simp only [hbl] at g7 ⊢
       obtain ⟨g8,cs,ty,g9,g10,g11,g12⟩:=g7
       have hflat:Flat r:=by cases r<;>first|trivial|cases ha
       exact ⟨g8,cs,ty,g9,g10,fun off=>(hnew b off (hob b hbl)).trans (g11 off),fun q hq=>by obtain ⟨c,g13,g14⟩:=g12 q hq;exact ⟨c,g13,flat_cell hflat g14⟩⟩
     |_=>cases ha
theorem safe_flat {l:List AV} {vs:List Value} {w':World} {M' M2:Msk} {ρ ρ':Env} (hs:safeL l=true) (h:RepL (RepC ρ w' M') l vs):RepL (RepC ρ' w' M2) l vs:=by
  induction l generalizing vs with
  |nil=>cases vs<;>exact h
  |cons a l ih=>
   cases vs with
   |nil=>exact h.elim
   |cons v vs=>
    simp only [safeL] at hs
    cases ha:safeA a with
    |false=>rw [ha] at hs;cases hs
    |true=>
     rw [ha] at hs
     refine ⟨?_,ih hs h.2⟩
     have h1:=h.1
     cases a with
     |int k n=>exact h1
     |bool e=>exact h1
     |nils=>exact h1
     |any=>exact h1
     |str l=>exact h1
     |new r=>exact h1.elim
     |_=>cases ha
theorem safe_rep {ret:AV} {v:Value} {w w':World} {M' M2:Msk} (hnew:∀b off,w.heap.size≤b→(M2 b off↔M' b off)) (hs:safe ret=true) (h:RepR w w' M' ret v):RepR w w' M2 ret v:=by
  cases ret with
  |tup l=>obtain ⟨cs,h1,h2⟩:=h;exact ⟨cs,h1,safe_cells hnew hs h2⟩
  |agg l=>obtain ⟨cs,h1,h2⟩:=h;exact ⟨cs,h1,safe_flat hs h2⟩
  |int k n=>exact h
  |bool e=>exact h
  |nils=>exact h
  |any=>exact h
  |str l=>exact h
  |new r=>exact (safe_cells (l:=[.new r]) (vs:=[v]) hnew (by have hs:safeA (.new r)=true:=hs;simp [safeL,hs]) ⟨h,trivial⟩).1
  |_=>cases hs
theorem callK_callable {F:Spec} (hF:SpecOk P F) {f:FuncId} {as:List AV} {T:List AV} {K:AV→List AV→Store→Prop} (h:callK F d f as T S K):Callable P f:=by
  obtain ⟨as',ks,⟨as2,ret,hf,_⟩,_⟩:=lendK_sound h
  exact (hF.q f as2 ret hf).1
theorem backK_sound {ks:List Nat} {ret:AV} {T:List AV} {K:AV→List AV→Store→Prop} {a:Act} {w':World} {u:Value}
    (h:backK d ks ret T S K) (st:St M0 ρ M S w) (tm:Tm ρ w M T a) (hs:Stp (fun _ _=>False) w w') (hret:RetH (dropMs M ρ ks) w w' ret u):
    ∃ρ' M' T' S' v,K v T' S'∧St M0 ρ' M' S' w'∧Tm ρ' w' M' T' a∧T'.length=T.length∧RepT ρ' w' M' v u:=by
  unfold backK at h
  rw [ifK_iff] at h
  obtain ⟨hn,h⟩:=h
  rw [Nat.ble_eq] at hn
  obtain ⟨M'',hold,hlt,hret⟩:=hret
  have hblk:∀k b,hasB ρ k b→b<w.heap.size:=fun k b hk=>blk_lt st hk
  have goA:safe ret=true→bindK d ret T S K→∃ρ' M' T' S' v,K v T' S'∧St M0 ρ' M' S' w'∧Tm ρ' w' M' T' a∧T'.length=T.length∧RepT ρ' w' M' v u:=by
    intro hsafe h
    let M2:Msk:=fun b off=>(b<w.heap.size∧M b off)∨(w.heap.size≤b∧M'' b off)
    have h2old:∀b off,b<w.heap.size→(M2 b off↔M b off):=fun b off hb=>⟨fun hm=>hm.elim (fun h=>h.2) (fun h=>absurd h.1 (by omega)),fun hm=>.inl ⟨hb,hm⟩⟩
    have h2new:∀b off,w.heap.size≤b→(M2 b off↔M'' b off):=fun b off hb=>⟨fun hm=>hm.elim (fun h=>absurd h.1 (by omega)) (fun h=>h.2),fun hm=>.inr ⟨hb,hm⟩⟩
    obtain ⟨st',hk⟩:=st.same hs h2old (fun b off hm=>by
      rcases hm with hm|hm
      · exact Nat.lt_of_lt_of_le hm.1 hs.1
      · exact hlt b off hm.2)
    have tm':Tm ρ w' M2 T a:=⟨tm.defers,tm.size,fun i=>RepT.keep hk (fun _ _ h=>h) (tm.tmp i)⟩
    obtain ⟨y,T',S',ρ',M3,h1,h2,h3,h4,h5⟩:=bindK_sound st.stp.1 (Keep.refl w' M2) (fun _ _ _=>Iff.rfl) h hn (safe_rep h2new hsafe hret) st' tm' hblk
    exact ⟨ρ',M3,T',S',y,h1,h2,h3,h4,h5⟩
  have goB:∀{T1:List AV} {S1:Store} {ρ1:Env} {M1:Msk},St M0 ρ1 M1 S1 w→Tm ρ1 w M1 T1 a→(∀b off,M1 b off↔dropMs M ρ ks b off)→bindK d ret T1 S1 K→
      ∃ρ' M' T' S' v,K v T' S'∧St M0 ρ' M' S' w'∧Tm ρ' w' M' T' a∧T'.length=T1.length∧RepT ρ' w' M' v u:=by
    intro T1 S1 ρ1 M1 st1 tm1 hM1 h
    obtain ⟨st',hk⟩:=st1.same (M':=M'') hs (fun b off hb=>(hold b off hb).trans (hM1 b off).symm) hlt
    have tm':Tm ρ1 w' M'' T1 a:=⟨tm1.defers,tm1.size,fun i=>RepT.keep hk (fun _ _ h=>h) (tm1.tmp i)⟩
    obtain ⟨y,T',S',ρ',M3,h1,h2,h3,h4,h5⟩:=bindK_sound st.stp.1 (Keep.refl w' M'') (fun _ _ _=>Iff.rfl) h hn hret st' tm' (fun k b hk=>blk_lt st1 hk)
    exact ⟨ρ',M3,T',S',y,h1,h2,h3,h4,h5⟩
  cases hsafe:safe ret with
  |true=>
   rw [hsafe] at h
   exact goA hsafe (by cases ks<;>exact h)
  |false=>
   rw [hsafe] at h
   cases ks with
   |nil=>exact goB st tm (fun b off=>⟨fun hm=>⟨hm,fun k hk=>by cases hk⟩,fun hm=>hm.1⟩) h
   |cons k0 ks0=>
    obtain ⟨T1,S1,ρ1,M1,h1,h2,h3,h4,h5⟩:=freezes_sound h st tm
    obtain ⟨ρ',M',T',S',v,g1,g2,g3,g4,g5⟩:=goB h2 h3 h5 h1
    exact ⟨ρ',M',T',S',v,g1,g2,g3,g4.trans h4,g5⟩
theorem callK_sound {F:Spec} (hF:SpecOk P F) {f:FuncId} {as:List AV} {T:List AV} {K:AV→List AV→Store→Prop} {vs:List Value} {a:Act}
    (h:callK F d f as T S K) (st:St M0 ρ M S w) (tm:Tm ρ w M T a) (hv:RepL (RepT ρ w M) as vs):
    Calls P f vs.toArray w fun e w'=>∃u,e= .returned u∧∃ρ' M' T' S' v,K v T' S'∧St M0 ρ' M' S' w'∧Tm ρ' w' M' T' a∧T'.length=T.length∧RepT ρ' w' M' v u:=by
  obtain ⟨as',ks,⟨as2,ret,hf,hargs,h⟩,hks,hrep⟩:=lendK_sound h
  have hv':=args_none hargs (hrep ρ w M (fun k B h _=>st.blk k B h) ks vs (fun k hk=>hk) hv)
  exact ((hF.q f as2 ret hf).2 (dropMs M ρ ks) w vs (M0.hw w st.stp) (fun b off hm=>st.mlt b off hm.1) hv').mono fun e w' ⟨u,he,hs,hret⟩=>⟨u,he,backK_sound h st tm hs hret⟩
theorem callEK_callable {F:Spec} (hF:SpecOk P F) {f:FuncId} {as:List AV} {T:List AV} {K:AV→List AV→Store→Prop} (h:callEK F d f as T S K):Callable P f:=by
  obtain ⟨as',ks,⟨X,as2,out,ok,hf,_⟩,_⟩:=lendK_sound h
  exact (hF.e f as2 X out ok hf).1
theorem callEK_sound {F:Spec} (hF:SpecOk P F) {f:FuncId} {as:List AV} {T:List AV} {K:AV→List AV→Store→Prop} {vs:List Value} {a:Act}
    (h:callEK F d f as T S K) (st:St M0 ρ M S w) (tm:Tm ρ w M T a) (hv:RepL (RepT ρ w M) as vs):
    Calls P f vs.toArray w fun e w'=>∃u,e= .returned u∧∃ρ' M' T' S' v,K v T' S'∧St M0 ρ' M' S' w'∧Tm ρ' w' M' T' a∧T'.length=T.length∧RepT ρ' w' M' v u:=by
  obtain ⟨as',ks,⟨X,as2,out,ok,hf,hargs,h⟩,hks,hrep⟩:=lendK_sound h
  have hv':=args_none hargs (hrep ρ w M (fun k B h _=>st.blk k B h) ks vs (fun k hk=>hk) hv)
  exact ((hF.e f as2 X out ok hf).2 (dropMs M ρ ks) w vs (M0.hw w st.stp) (fun b off hm=>st.mlt b off hm.1) hv').mono fun e w' ⟨x,hx,u,he,hs,hret⟩=>⟨u,he,backK_sound (h x hx) st tm hs hret⟩
end
end Go.AM
end
section
namespace Go.AM
open Go
theorem nb_ne {a b:Nat} (h:nb a b=true):a≠b:=fun e=>by subst e;simp [nb] at h
structure View (ρ ρ':Env):Prop where
  sli:∀j o,(ρ j).bind Own.sli=some o→(ρ' j).bind Own.sli=some o
  ref:∀j off v,(ρ j).bind (Own.ref · off)=some v→(ρ' j).bind (Own.ref · off)=some v
  rws:∀j l,(ρ j).bind Own.rws=some l→(ρ' j).bind Own.rws=some l
section
variable {P:Program} {TY:List TyE} {w0 w:World} {M0:Base w0} {ρ ρ':Env} {M:Msk} {S S0:Store} {d:Nat}
theorem RepC.view (hv:View ρ ρ') {a:AV} {v:Value} (h:RepC ρ w M a v):RepC ρ' w M a v:=by
  cases a with
  |vec k=>obtain ⟨o,h1,h2⟩:=h;exact ⟨o,hv.sli _ _ h1,h2⟩
  |ptr k off=>exact hv.ref _ _ _ h
  |vptr k i=>obtain ⟨o,b,h1,h2⟩:=h;exact ⟨o,b,hv.sli _ _ h1,h2⟩
  |cptr k i j=>obtain ⟨o,b,h1,h2⟩:=h;exact ⟨o,b,hv.sli _ _ h1,h2⟩
  |vsuf k i=>obtain ⟨o,h1,h2⟩:=h;exact ⟨o,hv.sli _ _ h1,h2⟩
  |row k i=>obtain ⟨l,h1,h2⟩:=h;exact ⟨l,hv.rws _ _ h1,h2⟩
  |gptr k i j=>obtain ⟨l,b,h1,h2⟩:=h;exact ⟨l,b,hv.rws _ _ h1,h2⟩
  |fn f l=>cases l<;>exact h
  |_=>exact h
theorem RepG.view (hv:View ρ ρ') {a:AV} {v:Value} (h:RepG ρ w M a v):RepG ρ' w M a v:=by
  cases a with
  |agg l=>obtain ⟨cs,h1,h2⟩:=h;exact ⟨cs,h1,h2.imp fun _ _=>RepC.view hv⟩
  |any=>trivial
  |_=>simp only [RepG] at h ⊢;exact RepC.view hv h
theorem RepT.view (hv:View ρ ρ') {a:AV} {v:Value} (h:RepT ρ w M a v):RepT ρ' w M a v:=by
  cases a with
  |agg l=>obtain ⟨cs,h1,h2⟩:=h;exact ⟨cs,h1,h2.imp fun _ _=>RepC.view hv⟩
  |tup l=>obtain ⟨cs,h1,h2⟩:=h;exact ⟨cs,h1,h2.imp fun _ _=>RepG.view hv⟩
  |fn f l=>obtain ⟨cs,h1,h2⟩:=h;exact ⟨cs,h1,h2.imp fun _ _=>RepC.view hv⟩
  |any=>trivial
  |_=>simp only [RepT] at h ⊢;exact RepC.view hv h
theorem VecH.view (hv:View ρ ρ') {o:Sl} {wm:Nat} {r:RO} {ov:List (Int × Nat)} (h:VecH ρ w M o wm r ov):VecH ρ' w M o wm r ov:=by
  obtain ⟨h3,h4,h5,h6,h7⟩:=h
  refine ⟨h3,h4,h5,h6,?_⟩
  cases hbl:o.blk with
  |none=>simp only [hbl] at h7 ⊢;exact h7
  |some b=>
   simp only [hbl] at h7 ⊢
   obtain ⟨h8,cs,ty,h9,h10,h12,h13⟩:=h7
   refine ⟨h8,cs,ty,h9,h10,h12,fun q hq=>?_⟩
   obtain ⟨c,h14,h15⟩:=h13 q hq
   refine ⟨c,h14,?_⟩
   split
   · exact h15
   · simp only at h15
     split at h15
     · rename_i he;simp only [he,if_true];exact RepC.view hv h15
     · rename_i he;simp only [he,if_false];exact h15
theorem VecH.env {o:Sl} {wm:Nat} {r:RO} (h:VecH ρ w M o wm r []):VecH ρ' w M o wm r []:=
  VecH.ext0 (Keep.refl _ _) (fun _ _=>⟨rfl,fun _=>Iff.rfl⟩) h
theorem BlkH.view (hv:View ρ ρ') {k:Nat} (hk:ρ' k=ρ k) {B:Blk} (h:BlkH ρ w M k B):BlkH ρ' w M k B:=by
  cases B with
  |box l=>obtain ⟨b,h2,cs,ty,h3,h4,h5⟩:=h;exact ⟨b,by rw [hk];exact h2,cs,ty,h3,h4,h5.imp fun _ _=>RepC.view hv⟩
  |map kd vk m=>obtain ⟨b,h2,h3⟩:=h;exact ⟨b,by rw [hk];exact h2,h3⟩
  |deep r hole=>obtain ⟨o,rows,h2,h3⟩:=h;exact ⟨o,rows,by rw [hk];exact h2,h3⟩
  |gho l i j=>obtain ⟨o,rows,h2,h3⟩:=h;exact ⟨o,rows,by rw [hk];exact h2,h3⟩
  |stk n r=>obtain ⟨o,cur,h2,h3,h4⟩:=h;exact ⟨o,cur,by rw [hk];exact h2,h3.view hv,h4⟩
  |jnk n z=>obtain ⟨o,h2,h3⟩:=h;exact ⟨o,by rw [hk];exact h2,h3⟩
  |vec wm r ov=>obtain ⟨⟨o,h2,h3⟩,hov⟩:=h;exact ⟨⟨o,by rw [hk];exact h2,h3.view hv⟩,hov⟩
theorem getD_set_row (rows:List RowO) (i q:Nat) (x:RowO):(rows.set i x).getD q nilRow=if q=i∧i<rows.length then x else rows.getD q nilRow:=by
  simp only [List.getD,List.getElem?_set]
  by_cases h:i=q
  · subst h
    by_cases hl:i<rows.length
    · simp [hl]
    · simp [hl]
  · simp [h,Ne.symm h]
theorem getD_set_sl (rows:List Sl) (i q:Nat) (x:Sl):(rows.set i x).getD q nilSl=if q=i∧i<rows.length then x else rows.getD q nilSl:=by
  simp only [List.getD,List.getElem?_set]
  by_cases h:i=q
  · subst h
    by_cases hl:i<rows.length
    · simp [hl]
    · simp [hl]
  · simp [h,Ne.symm h]
theorem rowK_iff {r:RO} {i:Int} {K:RO→Prop} (h:rowK r i K):K (r.row i.toNat):=by cases r<;>first|exact h|exact h.elim
theorem setRow_rows {r s:RO} {i:Int} {K:RO→Prop} (hq:rowsQ r=true) (h:setRow r i s K):∃r',K r'∧r'.len=r.len∧(rowsQ r'=true∧gridQ r=false∧gridQ r'=false)∧(i.toNat<r.len→r'.row i.toNat=s)∧∀q,q≠i.toNat→r'.row q=r.row q:=by
  cases r<;>cases s<;>first|exact h.elim|(cases hq;done)|skip
  case rows.ints k l k' m=>
    simp only [setRow,ifK_iff] at h
    obtain ⟨hk,h⟩:=h
    obtain rfl:=kq_eq hk
    exact ⟨_,h,by simp [RO.len],⟨rfl,rfl,rfl⟩,fun hi=>by simp only [RO.len] at hi;simp only [RO.row,getD_set _ _ _ _ _ hi,if_true],fun q hq=>by
      simp only [RO.row,List.getD,List.getElem?_set_ne (Ne.symm hq)]⟩
  case brows.bools l m=>
    exact ⟨_,h,by simp [RO.len],⟨rfl,rfl,rfl⟩,fun hi=>by simp only [RO.len] at hi;simp only [RO.row,getD_set _ _ _ _ _ hi,if_true],fun q hq=>by
      simp only [RO.row,List.getD,List.getElem?_set_ne (Ne.symm hq)]⟩
  case rows3.rows l k' m=>
    cases k'<;>try exact h.elim
    exact ⟨_,h,by simp [RO.len],⟨rfl,rfl,rfl⟩,fun hi=>by simp only [RO.len] at hi;simp only [RO.row,getD_set _ _ _ _ _ hi,if_true],fun q hq=>by
      simp only [RO.row,List.getD,List.getElem?_set_ne (Ne.symm hq)]⟩
theorem St.split {k d:Nat} {X X' Y:Own} {B B':Blk} {S':Store} (st:St M0 ρ M S w) (hd:findS S d=none) (hloc:loc d=true) (hlk:loc k=true) (hρ:ρ k=some X)
    (hS:∀j,findS S' j=if j=d then some B' else if j=k then some B else findS S j)
    (hx:∀b,X'.has b→X.has b) (hy:∀b,Y.has b→X.has b) (hxy:∀b,X'.has b→¬Y.has b) (hs:X.sli=X'.sli) (hr:X.ref=X'.ref) (hw:X.rws=X'.rws)
    (hB:∀ρ':Env,ρ' k=some X'→BlkH ρ' w M k B) (hB':∀ρ':Env,ρ' d=some Y→BlkH ρ' w M d B'):
    ∃ρ',St M0 ρ' M S' w∧View ρ ρ'∧ρ' d=some Y∧ρ' k=some X':=by
  have hρd:ρ d=none:=by
    have:=st.dom d;rw [hd] at this
    cases h:ρ d with|none=>rfl|some o=>rw [h] at this;cases this
  have hdk:d≠k:=fun e=>by subst e;rw [hρ] at hρd;cases hρd
  let ρ':Env:=fun j=>if j=d then some Y else if j=k then some X' else ρ j
  have e1:ρ' d=some Y:=by simp [ρ']
  have e2:ρ' k=some X':=by simp [ρ',Ne.symm hdk]
  have e3:∀j,j≠d→j≠k→ρ' j=ρ j:=fun j h1 h2=>by simp [ρ',h1,h2]
  have gen:∀{β:Type} (f:Own→Option β),f X=f X'→∀j v,(ρ j).bind f=some v→(ρ' j).bind f=some v:=fun f hf j v h=>by
    by_cases hj:j=d
    · subst hj;rw [hρd] at h;cases h
    · by_cases hjk:j=k
      · subst hjk;rw [hρ] at h;rw [e2];exact hf.symm.trans h
      · rw [e3 j hj hjk];exact h
  have hv:View ρ ρ':=⟨gen _ hs,fun j off=>gen (Own.ref · off) (congrFun hr off) j,gen _ hw⟩
  have own:∀j b,hasB ρ' j b→(j=d∧Y.has b)∨(j=k∧X'.has b)∨(j≠d∧j≠k∧hasB ρ j b):=fun j b h=>by
    by_cases hj:j=d
    · subst hj;simp only [hasB,e1] at h;exact .inl ⟨rfl,h⟩
    · by_cases hjk:j=k
      · subst hjk;simp only [hasB,e2] at h;exact .inr (.inl ⟨rfl,h⟩)
      · simp only [hasB,e3 j hj hjk] at h;exact .inr (.inr ⟨hj,hjk,h⟩)
  have toK:∀b,X.has b→hasB ρ k b:=fun b h=>by simp only [hasB,hρ];exact h
  refine ⟨ρ',⟨fun j=>?_,fun j B0 hB0=>?_,fun j j' b hj hj'=>?_,st.mlt,st.stp,st.sub,st.old,fun j b h=>?_,fun j o' hl ho=>?_⟩,hv,e1,e2⟩
  · rw [hS j]
    by_cases hj:j=d
    · simp [hj,e1]
    · by_cases hjk:j=k
      · simp [hjk,e2,Ne.symm hdk]
      · simp [hj,hjk,e3 j hj hjk,st.dom j]
  · rw [hS j] at hB0
    by_cases hj:j=d
    · simp only [hj,if_true,Option.some.injEq] at hB0
      subst hB0;subst hj
      exact hB' ρ' e1
    · by_cases hjk:j=k
      · subst hjk
        simp only [hj,if_false,if_true,Option.some.injEq] at hB0
        subst hB0
        exact hB ρ' e2
      · simp only [hj,hjk,if_false] at hB0
        exact (st.blk j B0 hB0).view hv (e3 j hj hjk)
  · rcases own j b hj with ⟨g1,g2⟩|⟨g1,g2⟩|⟨g1,g1',g2⟩<;>rcases own j' b hj' with ⟨g3,g4⟩|⟨g3,g4⟩|⟨g3,g3',g4⟩
    · rw [g1,g3]
    · exact absurd g2 (hxy b g4)
    · exact absurd (st.inj _ _ _ g4 (toK b (hy b g2))) g3'
    · exact absurd g4 (hxy b g2)
    · rw [g1,g3]
    · exact absurd (st.inj _ _ _ g4 (toK b (hx b g2))) g3'
    · exact absurd (st.inj _ _ _ g2 (toK b (hy b g4))) g1'
    · exact absurd (st.inj _ _ _ g2 (toK b (hx b g4))) g1'
    · exact st.inj _ _ _ g2 g4
  · rcases own j b h with ⟨_,g2⟩|⟨_,g2⟩|⟨_,_,g2⟩
    · exact st.fresh k b (toK b (hy b g2))
    · exact st.fresh k b (toK b (hx b g2))
    · exact st.fresh j b g2
  · by_cases hj:j=d
    · subst hj;rw [hloc] at hl;cases hl
    · by_cases hjk:j=k
      · subst hjk;rw [hlk] at hl;cases hl
      · rw [e3 j hj hjk] at ho;exact st.pin j o' hl ho
theorem St.takeRow {k d:Nat} {r:RO} {i:Int} {S':Store} {o:Sl} {rows:List RowO} (st:St M0 ρ M S w) (hd:findS S d=none) (hloc:loc d=true) (hlk:loc k=true) (hg:gridQ r=false) (hρ:ρ k=some (.dp o rows (gridQ r))) (hD:DeepH w M o rows r none) (hi:0≤i∧i<r.len)
    (hS:∀j,findS S' j=if j=d then some (.vec 0 (r.row i.toNat) []) else if j=k then some (.deep r (some i)) else findS S j):
    ∃ρ',St M0 ρ' M S' w∧View ρ ρ'∧RepC ρ' w M (.vec d) (rows.getD i.toNat nilRow).sl.val:=by
  have hil:i.toNat<r.len:=by omega
  have hget:∀q,(rows.set i.toNat nilRow).getD q nilRow=if q=i.toNat then nilRow else rows.getD q nilRow:=fun q=>by
    rw [getD_set_row]
    by_cases hq:q=i.toNat
    · simp [hq,hD.rlen,hil]
    · simp [hq]
  have hrow:=(rowH_plain (.inl hg)).1 (hD.row i.toNat hil (by simp))
  obtain ⟨ρ',g1,g2,g3,g4⟩:=st.split (X':=.dp o (rows.set i.toNat nilRow) (gridQ r)) (Y:=.sl (rows.getD i.toNat nilRow).sl) (S':=S') hd hloc hlk hρ hS
    (fun b hb=>hb.imp id fun ⟨q,hq⟩=>⟨q,by rw [hget] at hq;split at hq;exact absurd hq nilRow_no;exact hq⟩)
    (fun b hb=>.inr ⟨i.toNat,.inl hb⟩)
    (fun b hb hy=>by
      have hy:(rows.getD i.toNat nilRow).has b:=.inl hy
      rcases hb with hb|⟨q,hb⟩
      · exact hD.out _ _ hy hb
      · rw [hget] at hb
        split at hb
        · exact nilRow_no hb
        · rename_i hne;exact hne (hD.apart _ _ _ hb hy))
    rfl rfl (by rw [hg];rfl)
    (fun ρ' e=>by
      refine ⟨o,_,e,hD.rq,hD.len,hD.osz,hD.lb,by simp [hD.rlen],?_,fun q hq hh=>?_,fun x hx=>?_,fun q b h=>?_,fun q q' b h h'=>?_⟩
      · have h7:=hD.outer
        cases hb:o.blk with
        |none=>simp only [hb] at h7 ⊢;exact h7
        |some b=>
         simp only [hb] at h7 ⊢
         obtain ⟨h8,cs,ty,h9,h10,h12,h13⟩:=h7
         refine ⟨h8,cs,ty,h9,h10,h12,fun q hq=>?_⟩
         obtain ⟨c,h14,h15⟩:=h13 q hq
         refine ⟨c,h14,?_⟩
         rw [hget]
         by_cases hqi:q=i.toNat
         · exact .inl (by rw [hqi];congr 1;omega)
         · simp only [hqi,if_false]
           exact .inr (h15.resolve_left (by simp))
      · rw [hget,if_neg (fun e=>hh (by rw [e];congr 1;omega))]
        exact hD.row q hq (by simp)
      · cases hx;exact ⟨hi,fun b=>by rw [hget,if_pos rfl];exact nilRow_no⟩
      · rw [hget] at h
        split at h
        · exact absurd h nilRow_no
        · exact hD.out q b h
      · rw [hget] at h h'
        split at h
        · exact absurd h nilRow_no
        · split at h'
          · exact absurd h' nilRow_no
          · exact hD.apart q q' b h h')
    (fun ρ' e=>⟨⟨_,e,hrow.2.env⟩,.inl rfl⟩)
  exact ⟨ρ',g1,g2,_,of_sl g3,rfl⟩
theorem St.takeCell {k d:Nat} {l:List (List (List Int))} {i j:Int} {S':Store} {o:Sl} {rows:List RowO} (st:St M0 ρ M S w) (hd:findS S d=none) (hloc:loc d=true) (hlk:loc k=true) (hρ:ρ k=some (.dp o rows true)) (hD:DeepH w M o rows (.gi l) none) (hi:0≤i∧i<l.length) (hj:0≤j∧j<(l.getD i.toNat []).length)
    (hS:∀q,findS S' q=if q=d then some (.vec 0 (.ints .i64 ((l.getD i.toNat []).getD j.toNat [])) []) else if q=k then some (.gho l i j) else findS S q):
    ∃ρ',St M0 ρ' M S' w∧View ρ ρ'∧RepC ρ' w M (.vec d) ((rows.getD i.toNat nilRow).sub.getD j.toNat nilSl).val:=by
  have hil:i.toNat<l.length:=by omega
  have hrl:rows.length=l.length:=hD.rlen
  have hR:DeepI w M (rows.getD i.toNat nilRow).sl (rows.getD i.toNat nilRow).sub (.rows .i64 (l.getD i.toNat [])) none:=hD.row i.toNat hil (by simp)
  have hjl:j.toNat<(rows.getD i.toNat nilRow).sub.length:=by rw [hR.rlen];simp only [RO.len];omega
  have hget:∀q,(rows.set i.toNat ⟨(rows.getD i.toNat nilRow).sl,(rows.getD i.toNat nilRow).sub.set j.toNat nilSl⟩).getD q nilRow=if q=i.toNat then ⟨(rows.getD i.toNat nilRow).sl,(rows.getD i.toNat nilRow).sub.set j.toNat nilSl⟩ else rows.getD q nilRow:=fun q=>by
    rw [getD_set_row]
    by_cases hq:q=i.toNat
    · simp [hq,hrl,hil]
    · simp [hq]
  have hsub:∀q,((rows.getD i.toNat nilRow).sub.set j.toNat nilSl).getD q nilSl=if q=j.toNat then nilSl else (rows.getD i.toNat nilRow).sub.getD q nilSl:=fun q=>by
    rw [getD_set_sl]
    by_cases hq:q=j.toNat
    · rw [if_pos ⟨hq,hjl⟩,if_pos hq]
    · rw [if_neg (fun h=>hq h.1),if_neg hq]
  have less:∀b,(RowO.mk (rows.getD i.toNat nilRow).sl ((rows.getD i.toNat nilRow).sub.set j.toNat nilSl)).has b→(rows.getD i.toNat nilRow).has b∧((rows.getD i.toNat nilRow).sub.getD j.toNat nilSl).blk≠some b:=fun b hb=>by
    rcases hb with hb|⟨q,hb⟩
    · exact ⟨.inl hb,fun e=>hR.out _ _ e hb⟩
    · have hb:(((rows.getD i.toNat nilRow).sub.set j.toNat nilSl).getD q nilSl).blk=some b:=hb
      rw [hsub] at hb
      split at hb
      · cases hb
      · rename_i hne;exact ⟨.inr ⟨q,hb⟩,fun e=>hne (hR.apart _ _ _ hb e)⟩
  have lessq:∀q b,((rows.set i.toNat ⟨(rows.getD i.toNat nilRow).sl,(rows.getD i.toNat nilRow).sub.set j.toNat nilSl⟩).getD q nilRow).has b→(rows.getD q nilRow).has b:=fun q b hb=>by
    rw [hget] at hb
    split at hb
    · rename_i e;rw [e];exact (less b hb).1
    · exact hb
  obtain ⟨ρ',g1,g2,g3,g4⟩:=st.split (X':=.dp o (rows.set i.toNat ⟨(rows.getD i.toNat nilRow).sl,(rows.getD i.toNat nilRow).sub.set j.toNat nilSl⟩) true) (Y:=.sl ((rows.getD i.toNat nilRow).sub.getD j.toNat nilSl)) (S':=S') hd hloc hlk hρ hS
    (fun b hb=>hb.imp id fun ⟨q,hq⟩=>⟨q,lessq q b hq⟩)
    (fun b hb=>.inr ⟨i.toNat,.inr ⟨j.toNat,hb⟩⟩)
    (fun b hb hy=>by
      have hy:((rows.getD i.toNat nilRow).sub.getD j.toNat nilSl).blk=some b:=hy
      have hy':(rows.getD i.toNat nilRow).has b:=.inr ⟨_,hy⟩
      rcases hb with hb|⟨q,hb⟩
      · exact hD.out _ _ hy' hb
      · have e:=hD.apart _ _ _ (lessq q b hb) hy'
        rw [hget,if_pos e] at hb
        exact (less b hb).2 hy)
    rfl rfl (by
      show some (rows.map (·.sl))=some ((rows.set i.toNat _).map (·.sl))
      congr 1
      refine List.ext_getElem? fun q=>?_
      rw [List.getElem?_map,List.getElem?_map,List.getElem?_set]
      by_cases hq:i.toNat=q
      · subst hq
        have hlt:i.toNat<rows.length:=by omega
        rw [if_pos rfl,if_pos hlt,List.getElem?_eq_getElem hlt]
        simp [List.getD,List.getElem?_eq_getElem hlt]
      · rw [if_neg hq])
    (fun ρ' e=>by
      refine ⟨o,_,e,⟨hD.rq,hD.len,hD.osz,hD.lb,by simp [hrl,RO.len],?_,fun q hq _=>?_,fun x hx=>(by cases hx),fun q b h=>hD.out q b (lessq q b h),fun q q' b h h'=>hD.apart q q' b (lessq q b h) (lessq q' b h')⟩,hi⟩
      · have h7:=hD.outer
        cases hb:o.blk with
        |none=>simp only [hb] at h7 ⊢;exact h7
        |some b=>
         simp only [hb] at h7 ⊢
         obtain ⟨h8,cs,ty,h9,h10,h12,h13⟩:=h7
         refine ⟨h8,cs,ty,h9,h10,h12,fun q hq=>?_⟩
         obtain ⟨c,h14,h15⟩:=h13 q hq
         refine ⟨c,h14,.inr ?_⟩
         rw [hget,h15.resolve_left (by simp)]
         split
         · rename_i e;rw [e]
         · rfl
      · rw [hget]
        by_cases hqi:q=i.toNat
        · rw [if_pos hqi]
          have hc:cellOf (some (i,j)) q=some j:=by show (if (q:Int)=i then some j else none)=some j;rw [if_pos (by omega)]
          rw [hc,hqi]
          refine ⟨hR.rq,hR.len,hR.osz,hR.lb,by rw [List.length_set];exact hR.rlen,?_,fun p hp hh=>?_,fun x hx=>?_,fun p b h=>?_,fun p p' b h h'=>?_⟩
          · have h7:=hR.outer
            cases hb:(rows.getD i.toNat nilRow).sl.blk with
            |none=>simp only [hb] at h7 ⊢;exact h7
            |some b=>
             simp only [hb] at h7 ⊢
             obtain ⟨h8,cs,ty,h9,h10,h12,h13⟩:=h7
             refine ⟨h8,cs,ty,h9,h10,h12,fun p hp=>?_⟩
             obtain ⟨c,h14,h15⟩:=h13 p hp
             refine ⟨c,h14,?_⟩
             by_cases hpj:p=j.toNat
             · exact .inl (by rw [hpj];congr 1;omega)
             · refine .inr ?_
               rw [hsub,if_neg hpj]
               exact h15.resolve_left (by simp)
          · rw [hsub,if_neg (fun e=>hh (by rw [e];congr 1;omega))]
            exact hR.row p hp (by simp)
          · cases hx;exact ⟨by simp only [RO.len];exact hj,by rw [hsub,if_pos rfl];rfl⟩
          · rw [hsub] at h
            split at h
            · cases h
            · exact hR.out p b h
          · rw [hsub] at h h'
            split at h
            · cases h
            · split at h'
              · cases h'
              · exact hR.apart p p' b h h'
        · rw [if_neg hqi]
          have hc:cellOf (some (i,j)) q=none:=by show (if (q:Int)=i then some j else none)=none;rw [if_neg (by omega)]
          rw [hc]
          exact hD.row q hq (by simp))
    (fun ρ' e=>⟨⟨_,e,(hR.row j.toNat (by simp only [RO.len];omega) (by simp)).env⟩,.inl rfl⟩)
  exact ⟨ρ',g1,g2,_,of_sl g3,rfl⟩
theorem garb_sound {k:Nat} {T:List AV} {a:Act} {K:List AV→Store→Prop}
    (h:delS S k fun S=>sweepT k .any T fun T=>sweepS k .any S fun S=>K T S) (st:St M0 ρ M S w) (tm:Tm ρ w M T a):
    ∃T' S',K T' S'∧St M0 (dropE ρ k) M S' w∧Tm (dropE ρ k) w M T' a∧T'.length=T.length∧findS S' k=none:=by
  obtain ⟨S1,h1,hS1⟩:=del_store h
  obtain ⟨T',h2,hlen,hT⟩:=sweepT_sound h1
  obtain ⟨S',h3,hS'⟩:=sweepS_sound h2
  have hconv:Conv k .any ρ w M (dropE ρ k) w M:=⟨Keep.refl _ _,fun j hj o ho=>by simpa [dropE,hj] using ho,fun v hv=>RepC.isCell hv⟩
  have hnone:findS S' k=none:=by
    have:=hS' k
    rw [hS1 k] at this;simpa using this
  have hb:∀x b,hasB (dropE ρ k) x b→hasB ρ x b:=fun x b hx=>by
    by_cases hxk:x=k
    · subst hxk;simp [hasB,dropE] at hx
    · simpa [hasB,dropE,hxk] using hx
  refine ⟨T',S',h3,⟨fun j=>?_,fun j B hB=>?_,fun i j b hi hj=>st.inj _ _ _ (hb _ _ hi) (hb _ _ hj),st.mlt,st.stp,st.sub,st.old,fun x b hx=>st.fresh x b (hb _ _ hx),fun x o hx ho=>?_⟩,
    ⟨tm.defers,by rw [hlen];exact tm.size,fun i=>hT _ _ _ _ _ _ hconv (fun v hv=>⟨trivial,trivial⟩) i _ (tm.tmp i)⟩,hlen,hnone⟩
  · by_cases hj:j=k
    · subst hj;simp [dropE,hnone]
    · have:=hS' j
      rw [hS1 j] at this
      simp only [hj,if_false] at this
      simp only [dropE,hj,if_false,st.dom j]
      cases hf:findS S j with
      |none=>simp only [hf] at this;simp [this]
      |some B=>simp only [hf] at this;obtain ⟨B',h4,_⟩:=this;simp [h4]
  · have hj:j≠k:=fun e=>by subst e;rw [hnone] at hB;cases hB
    have:=hS' j
    rw [hS1 j] at this
    simp only [hj,if_false] at this
    cases hf:findS S j with
    |none=>simp only [hf] at this;rw [this] at hB;cases hB
    |some B0=>
     simp only [hf] at this
     obtain ⟨B',h4,h5⟩:=this
     rw [h4] at hB;cases hB
     exact h5 ρ w M _ _ j hconv (by simp [dropE,hj]) (fun b hb off=>Iff.rfl) (st.blk j B0 hf)
  · by_cases hxk:x=k
    · subst hxk;simp [dropE] at ho
    · exact st.pin x o hx (by simpa [dropE,hxk] using ho)
theorem St.merge {k b:Nat} {X X':Own} {B:Blk} {S':Store} {cs cs':Array Value} {ty:TypeId} (st:St M0 ρ M S w) (hlk:loc k=true) (hρ:ρ k=some X)
    (hS:∀j,findS S' j=if j=k then some B else findS S j) (hs:X.sli=X'.sli) (hr:X.ref=X'.ref) (hw:X.rws=X'.rws)
    (hx:∀b,X'.has b→X.has b∨((∀j,¬hasB ρ j b)∧(w0.heap.size≤b∨M0.lent b)))
    (hbk:X.has b) (hcs:w.heap[b]? =some (.cells cs ty (0,0))) (hsz:cs'.size=cs.size) (hdiff:∀off,¬M b off→cs'[off]? =cs[off]?)
    (hB:∀ρ':Env,ρ' k=some X'→Keep w M (w.setRow b cs') M→BlkH ρ' (w.setRow b cs') M k B):
    ∃ρ',St M0 ρ' M S' (w.setRow b cs')∧View ρ ρ'∧Keep w M (w.setRow b cs') M:=by
  have hbk:hasB ρ k b:=by simp only [hasB,hρ];exact hbk
  have hstp:Stp (fun b' off=>b'=b∧M b' off) w (w.setRow b cs'):=by
    refine ⟨by simp [World.setRow],fun b' hb'=>?_,IoS.refl _⟩
    by_cases he:b'=b
    · subst he
      exact .inr (.inl ⟨cs,cs',ty,hcs,setRow_heap w b' cs cs' ty _ hcs,hsz,fun off hn=>hdiff off fun hm=>hn ⟨rfl,hm⟩⟩)
    · exact .inl (setRow_other w b b' cs' he)
  have hk:Keep w M (w.setRow b cs') M:=(hstp.weaken (M2:=M) fun b' off h=>h.2).keep fun b off _ h=>h
  let ρ':Env:=fun j=>if j=k then some X' else ρ j
  have e2:ρ' k=some X':=by simp [ρ']
  have e3:∀j,j≠k→ρ' j=ρ j:=fun j h2=>by simp [ρ',h2]
  have gen:∀{β:Type} (f:Own→Option β),f X=f X'→∀j v,(ρ j).bind f=some v→(ρ' j).bind f=some v:=fun f hf j v h=>by
    by_cases hjk:j=k
    · subst hjk;rw [hρ] at h;rw [e2];exact hf.symm.trans h
    · rw [e3 j hjk];exact h
  have hv:View ρ ρ':=⟨gen _ hs,fun j off=>gen (Own.ref · off) (congrFun hr off) j,gen _ hw⟩
  have own:∀j b',hasB ρ' j b'→(j=k∧X'.has b')∨(j≠k∧hasB ρ j b'):=fun j b' h=>by
    by_cases hjk:j=k
    · subst hjk;simp only [hasB,e2] at h;exact .inl ⟨rfl,h⟩
    · simp only [hasB,e3 j hjk] at h;exact .inr ⟨hjk,h⟩
  have toK:∀b,X.has b→hasB ρ k b:=fun b h=>by simp only [hasB,hρ];exact h
  refine ⟨ρ',⟨fun j=>?_,fun j B0 hB0=>?_,fun j j' b' hj hj'=>?_,fun b' off hm=>Nat.lt_of_lt_of_le (st.mlt b' off hm) hstp.1,?_,st.sub,st.old,fun j b' h=>?_,fun j o' hl ho=>?_⟩,hv,hk⟩
  · rw [hS j]
    by_cases hjk:j=k
    · simp [hjk,e2]
    · simp [hjk,e3 j hjk,st.dom j]
  · rw [hS j] at hB0
    by_cases hjk:j=k
    · subst hjk
      simp only [if_true,Option.some.injEq] at hB0
      subst hB0
      exact hB ρ' e2 hk
    · simp only [hjk,if_false] at hB0
      refine BlkH.ext hk (fun _ _ h=>h) (fun b' hb'=>⟨setRow_other w b b' cs' fun e=>hjk ?_,fun _=>Iff.rfl⟩) ((st.blk j B0 hB0).view hv (e3 j hjk))
      have:hasB ρ j b':=by simpa only [hasB,e3 j hjk] using hb'
      exact st.inj _ _ b (e▸this) hbk
  · rcases own j b' hj with ⟨g1,g2⟩|⟨g1,g2⟩<;>rcases own j' b' hj' with ⟨g3,g4⟩|⟨g3,g4⟩
    · rw [g1,g3]
    · rcases hx b' g2 with g2|g2
      · exact absurd (st.inj _ _ _ g4 (toK b' g2)) g3
      · exact absurd g4 (g2.1 _)
    · rcases hx b' g4 with g4|g4
      · exact absurd (st.inj _ _ _ g2 (toK b' g4)) g1
      · exact absurd g2 (g4.1 _)
    · exact st.inj _ _ _ g2 g4
  · exact st.stp.trans hstp (fun b' off hb' he=>by obtain ⟨rfl,hm⟩:=he;exact ⟨(st.fresh k b' hbk).resolve_left (Nat.not_le_of_lt hb'),st.sub b' off hb' hm⟩)
  · rcases own j b' h with ⟨_,g2⟩|⟨_,g2⟩
    · rcases hx b' g2 with g2|g2
      · exact st.fresh k b' (toK b' g2)
      · exact g2.2
    · exact st.fresh _ b' g2
  · by_cases hjk:j=k
    · subst hjk;rw [hlk] at hl;cases hl
    · rw [e3 j hjk] at ho;exact st.pin j o' hl ho
theorem St.putRow {k b:Nat} {r r' s:RO} {i:Int} {S':Store} {o oh:Sl} {rows:List RowO} {cs cs':Array Value} {ty:TypeId} (st:St M0 ρ M S w) (hlk:loc k=true) (hg:gridQ r=false) (hg':gridQ r'=false) (hρ:ρ k=some (.dp o rows (gridQ r))) (hD:DeepH w M o rows r (some i))
    (hV:VecH noEnv w M oh 0 s []) (hfree:∀b,oh.blk=some b→∀j,¬hasB ρ j b) (hfr:∀b,oh.blk=some b→w0.heap.size≤b∨M0.lent b)
    (hr1:r'.len=r.len) (hr2:rowsQ r'=true) (hr3:r'.row i.toNat=s) (hr4:∀q,q≠i.toNat→r'.row q=r.row q)
    (hS:∀j,findS S' j=if j=k then some (.deep r' none) else findS S j)
    (hob:o.blk=some b) (hcs:w.heap[b]? =some (.cells cs ty (0,0))) (hsz:cs'.size=cs.size) (hc:∀q,cs'[q]? =if q=i.toNat then some oh.val else cs[q]?):
    ∃ρ',St M0 ρ' M S' (w.setRow b cs')∧View ρ ρ'∧Keep w M (w.setRow b cs') M:=by
  obtain ⟨hi,hhol⟩:=hD.hol i rfl
  have hil:i.toNat<r.len:=by omega
  have h7:=hD.outer
  simp only [hob] at h7
  obtain ⟨h8,cs0,ty0,h9,h10,h12,h13⟩:=h7
  rw [hcs] at h9;cases h9
  have hio:i.toNat<cs.size:=by have:=hD.len;omega
  have hget:∀q,(rows.set i.toNat ⟨oh,[]⟩).getD q nilRow=if q=i.toNat then ⟨oh,[]⟩ else rows.getD q nilRow:=fun q=>by
    rw [getD_set_row]
    by_cases hq:q=i.toNat
    · simp [hq,hD.rlen,hil]
    · simp [hq]
  have ohh:∀{b},(RowO.mk oh []).has b→oh.blk=some b:=fun {b} h=>by
    rcases h with h|⟨j,h⟩
    · exact h
    · simp [nilSl] at h
  have ohne:oh.blk≠some b:=fun e=>hfree b e k (by simp only [hasB,hρ];exact .inl hob)
  have rowK:∀{R:RowO} {q},(∀b',R.has b'→b'≠b)→Keep w M (w.setRow b cs') M→RowH w M R r q none→RowH (w.setRow b cs') M R r q none:=fun {R q} hne hk h=>
    h.ext hk fun b' hb'=>⟨setRow_other w b b' cs' (hne b' hb'),fun _=>Iff.rfl⟩
  refine st.merge (X':=.dp o (rows.set i.toNat ⟨oh,[]⟩) (gridQ r)) hlk hρ hS rfl rfl (by rw [hg];rfl) (fun b' hb'=>?_) (.inl hob) hcs hsz (fun off hn=>?_) (fun ρ' e hk=>?_)
  · rcases hb' with hb'|⟨q,hb'⟩
    · exact .inl (.inl hb')
    · rw [hget] at hb'
      split at hb'
      · exact .inr ⟨hfree b' (ohh hb'),hfr b' (ohh hb')⟩
      · exact .inl (.inr ⟨q,hb'⟩)
  · rw [hc off,if_neg]
    rintro rfl
    exact hn ((h12 _).2 hio)
  · refine ⟨o,_,by rw [hg',←hg];exact e,hr2,by rw [hr1];exact hD.len,hD.osz,by rw [hr1];exact hD.lb,by simp [hD.rlen,hr1],?_,fun q hq hh=>?_,fun x hx=>by (cases hx),fun q b' h=>?_,fun q q' b' h h'=>?_⟩
    · simp only [hob]
      refine ⟨h8,cs',ty,setRow_heap w b cs cs' ty _ hcs,by rw [hsz];exact h10,fun off=>by rw [hsz];exact h12 off,fun q hq=>?_⟩
      rw [hr1] at hq
      obtain ⟨c,h14,h15⟩:=h13 q hq
      by_cases hqi:q=i.toNat
      · exact ⟨oh.val,by rw [hc,if_pos hqi],.inr (by rw [hget,if_pos hqi])⟩
      · refine ⟨c,by rw [hc,if_neg hqi];exact h14,.inr ?_⟩
        rw [hget,if_neg hqi]
        exact h15.resolve_left fun e=>hqi (by cases e;simp)
    · rw [hget]
      by_cases hqi:q=i.toNat
      · rw [if_pos hqi,hqi]
        refine (rowH_plain (.inl hg')).2 ⟨rfl,?_⟩
        rw [hr3]
        exact hV.ext0 hk fun b' hb'=>⟨setRow_other w b b' cs' fun e=>ohne (e▸hb'),fun _=>Iff.rfl⟩
      · rw [if_neg hqi]
        rw [hr1] at hq
        have:=rowK (fun b' h e=>hD.out q b' h (e▸hob)) hk (hD.row q hq fun e=>hqi (by cases e;simp))
        rw [rowH_plain (.inl hg)] at this
        rw [rowH_plain (.inl hg'),hr4 q hqi];exact this
    · rw [hget] at h
      split at h
      · exact fun e=>hfree b' (ohh h) k (by simp only [hasB,hρ];exact .inl e)
      · exact hD.out q b' h
    · rw [hget] at h h'
      split at h<;>split at h'
      · rename_i g1 g2;rw [g1,g2]
      · exact absurd (by simp only [hasB,hρ];exact .inr ⟨q',h'⟩) (hfree b' (ohh h) k)
      · exact absurd (by simp only [hasB,hρ];exact .inr ⟨q,h⟩) (hfree b' (ohh h') k)
      · exact hD.apart q q' b' h h'
theorem St.putCell {k b:Nat} {l:List (List (List Int))} {m:List Int} {i j:Int} {S':Store} {o oh:Sl} {rows:List RowO} {cs cs':Array Value} {ty:TypeId} (st:St M0 ρ M S w) (hlk:loc k=true) (hρ:ρ k=some (.dp o rows true)) (hD:DeepG w M o rows (.gi l) none (some (i,j))) (hi:0≤i∧i<l.length)
    (hV:VecH noEnv w M oh 0 (.ints .i64 m) []) (hfree:∀b,oh.blk=some b→∀j,¬hasB ρ j b) (hfr:∀b,oh.blk=some b→w0.heap.size≤b∨M0.lent b)
    (hS:∀q,findS S' q=if q=k then some (.deep (.gi (l.set i.toNat ((l.getD i.toNat []).set j.toNat m))) none) else findS S q)
    (hob:(rows.getD i.toNat nilRow).sl.blk=some b) (hcs:w.heap[b]? =some (.cells cs ty (0,0))) (hsz:cs'.size=cs.size) (hc:∀q,cs'[q]? =if q=j.toNat then some oh.val else cs[q]?):
    ∃ρ',St M0 ρ' M S' (w.setRow b cs')∧View ρ ρ'∧Keep w M (w.setRow b cs') M:=by
  have hil:i.toNat<l.length:=by omega
  have hrl:rows.length=l.length:=hD.rlen
  have hcj:cellOf (some (i,j)) i.toNat=some j:=by show (if ((i.toNat:Nat):Int)=i then some j else none)=some j;rw [if_pos (by omega)]
  have hR:DeepI w M (rows.getD i.toNat nilRow).sl (rows.getD i.toNat nilRow).sub (.rows .i64 (l.getD i.toNat [])) (some j):=by
    have:RowH w M (rows.getD i.toNat nilRow) (.gi l) i.toNat (cellOf (some (i,j)) i.toNat):=hD.row i.toNat hil (by simp)
    rw [hcj] at this;exact this
  obtain ⟨⟨hj0,hj1⟩,hhol⟩:=hR.hol j rfl
  have hj1:j<((l.getD i.toNat []).length:Int):=hj1
  have hsl:(rows.getD i.toNat nilRow).sub.length=(l.getD i.toNat []).length:=hR.rlen
  have h7:=hR.outer
  simp only [hob] at h7
  obtain ⟨h8,cs0,ty0,h9,h10,h12,h13⟩:=h7
  rw [hcs] at h9;cases h9
  have hlen:(rows.getD i.toNat nilRow).sl.len=(l.getD i.toNat []).length:=hR.len
  have hio:j.toNat<cs.size:=by omega
  have hRb:(rows.getD i.toNat nilRow).has b:=.inl hob
  have hget:∀q,(rows.set i.toNat ⟨(rows.getD i.toNat nilRow).sl,(rows.getD i.toNat nilRow).sub.set j.toNat oh⟩).getD q nilRow=if q=i.toNat then ⟨(rows.getD i.toNat nilRow).sl,(rows.getD i.toNat nilRow).sub.set j.toNat oh⟩ else rows.getD q nilRow:=fun q=>by
    rw [getD_set_row]
    by_cases hq:q=i.toNat
    · simp [hq,hrl,hil]
    · simp [hq]
  have hsub:∀q,((rows.getD i.toNat nilRow).sub.set j.toNat oh).getD q nilSl=if q=j.toNat then oh else (rows.getD i.toNat nilRow).sub.getD q nilSl:=fun q=>by
    rw [getD_set_sl]
    by_cases hq:q=j.toNat
    · rw [if_pos ⟨hq,by omega⟩,if_pos hq]
    · rw [if_neg (fun h=>hq h.1),if_neg hq]
  have more:∀q b',((rows.set i.toNat ⟨(rows.getD i.toNat nilRow).sl,(rows.getD i.toNat nilRow).sub.set j.toNat oh⟩).getD q nilRow).has b'→(rows.getD q nilRow).has b'∨(q=i.toNat∧oh.blk=some b'):=fun q b' hb=>by
    rw [hget] at hb
    split at hb
    · rename_i e
      rcases hb with hb|⟨p,hb⟩
      · exact .inl (by rw [e];exact .inl hb)
      · have hb:(((rows.getD i.toNat nilRow).sub.set j.toNat oh).getD p nilSl).blk=some b':=hb
        rw [hsub] at hb
        split at hb
        · exact .inr ⟨e,hb⟩
        · exact .inl (by rw [e];exact .inr ⟨p,hb⟩)
    · exact .inl hb
  have inK:∀q b',(rows.getD q nilRow).has b'→hasB ρ k b':=fun q b' h=>by simp only [hasB,hρ];exact .inr ⟨q,h⟩
  have ohne:oh.blk≠some b:=fun e=>hfree b e k (inK _ b hRb)
  have hgl:∀q,(l.set i.toNat ((l.getD i.toNat []).set j.toNat m)).getD q []=if q=i.toNat then (l.getD i.toNat []).set j.toNat m else l.getD q []:=fun q=>by
    simp only [List.getD,List.getElem?_set]
    by_cases h:i.toNat=q
    · subst h;simp [hil]
    · simp [h,Ne.symm h]
  have hll:(RO.gi (l.set i.toNat ((l.getD i.toNat []).set j.toNat m))).len=(RO.gi l).len:=by simp [RO.len]
  refine st.merge (X':=.dp o (rows.set i.toNat ⟨(rows.getD i.toNat nilRow).sl,(rows.getD i.toNat nilRow).sub.set j.toNat oh⟩) true) hlk hρ hS rfl rfl ?_ (fun b' hb'=>?_) (.inr ⟨i.toNat,hRb⟩) hcs hsz (fun off hn=>?_) (fun ρ' e hk=>?_)
  · show some (rows.map (·.sl))=some ((rows.set i.toNat _).map (·.sl))
    congr 1
    refine List.ext_getElem? fun q=>?_
    rw [List.getElem?_map,List.getElem?_map,List.getElem?_set]
    by_cases hq:i.toNat=q
    · subst hq
      have hlt:i.toNat<rows.length:=by omega
      rw [if_pos rfl,if_pos hlt,List.getElem?_eq_getElem hlt]
      simp [List.getD,List.getElem?_eq_getElem hlt]
    · rw [if_neg hq]
  · rcases hb' with hb'|⟨q,hb'⟩
    · exact .inl (.inl hb')
    · rcases more q b' hb' with h|⟨_,h⟩
      · exact .inl (.inr ⟨q,h⟩)
      · exact .inr ⟨hfree b' h,hfr b' h⟩
  · rw [hc off,if_neg]
    rintro rfl
    exact hn ((h12 _).2 hio)
  · have other:∀{q},q≠i.toNat→∀b',(rows.getD q nilRow).has b'→b'≠b:=fun {q} hq b' h e=>hq (hD.apart q _ b' h (e▸hRb))
    refine ⟨o,_,e,rfl,by rw [hll];exact hD.len,hD.osz,by rw [hll];exact hD.lb,by rw [hll,List.length_set];exact hD.rlen,?_,fun q hq _=>?_,fun x hx=>(by cases hx),fun q b' h=>?_,fun q q' b' h h'=>?_⟩
    · have h7:=hD.outer
      cases hb:o.blk with
      |none=>simp only [hb,hll] at h7 ⊢;exact h7
      |some b0=>
       simp only [hb,hll] at h7 ⊢
       obtain ⟨k8,cs1,ty1,k9,k10,k12,k13⟩:=h7
       have hne:b0≠b:=fun e=>hD.out _ _ hRb (e▸hb)
       refine ⟨k8,cs1,ty1,by rw [setRow_other w b b0 cs' hne];exact k9,k10,k12,fun q hq=>?_⟩
       obtain ⟨c,k14,k15⟩:=k13 q hq
       refine ⟨c,k14,.inr ?_⟩
       rw [hget,k15.resolve_left (by simp)]
       split
       · rename_i e;rw [e]
       · rfl
    · rw [hll] at hq
      have hq:q<l.length:=hq
      rw [hget]
      by_cases hqi:q=i.toNat
      · rw [if_pos hqi]
        show DeepI _ _ _ _ (.rows .i64 ((l.set i.toNat ((l.getD i.toNat []).set j.toNat m)).getD q [])) none
        rw [hgl,if_pos hqi]
        have hml:((l.getD i.toNat []).set j.toNat m).length=(l.getD i.toNat []).length:=List.length_set
        have hmg:∀p,((l.getD i.toNat []).set j.toNat m).getD p []=if p=j.toNat then m else (l.getD i.toNat []).getD p []:=fun p=>by
          simp only [List.getD,List.getElem?_set]
          by_cases h:j.toNat=p
          · subst h
            have hjl:j.toNat<(l[i.toNat]?.getD []).length:=by have:(l.getD i.toNat [])=l[i.toNat]?.getD []:=rfl
                                                              rw [←this];omega
            simp [hjl]
          · simp [h,Ne.symm h]
        refine ⟨rfl,by simp only [RO.len,hml];exact hlen,hR.osz,by simp only [RO.len,hml];exact hR.lb,by simp only [RO.len,hml,List.length_set];exact hsl,?_,fun p hp _=>?_,fun x hx=>(by cases hx),fun p b' h=>?_,fun p p' b' h h'=>?_⟩
        · simp only [hob,RO.len,hml]
          refine ⟨h8,cs',ty,setRow_heap w b cs cs' ty _ hcs,by rw [hsz];exact h10,fun off=>by rw [hsz];exact h12 off,fun p hp=>?_⟩
          obtain ⟨c,h14,h15⟩:=h13 p hp
          by_cases hpj:p=j.toNat
          · exact ⟨oh.val,by rw [hc,if_pos hpj],.inr (by rw [hsub,if_pos hpj])⟩
          · refine ⟨c,by rw [hc,if_neg hpj];exact h14,.inr ?_⟩
            rw [hsub,if_neg hpj]
            exact h15.resolve_left fun e=>hpj (by cases e;simp)
        · simp only [RO.len,hml] at hp
          rw [hsub]
          show VecH _ _ _ _ 0 (.ints .i64 (((l.getD i.toNat []).set j.toNat m).getD p [])) []
          rw [hmg]
          by_cases hpj:p=j.toNat
          · rw [if_pos hpj,if_pos hpj]
            exact hV.ext0 hk fun b' hb'=>⟨setRow_other w b b' cs' fun e=>ohne (e▸hb'),fun _=>Iff.rfl⟩
          · rw [if_neg hpj,if_neg hpj]
            exact (hR.row p hp fun e=>hpj (by cases e;simp)).ext0 hk fun b' hb'=>⟨setRow_other w b b' cs' fun e=>hR.out p b' hb' (e▸hob),fun _=>Iff.rfl⟩
        · rw [hsub] at h
          split at h
          · exact fun e=>hfree b' h k (inK _ b' (.inl e))
          · exact hR.out p b' h
        · rw [hsub] at h h'
          split at h<;>split at h'
          · rename_i g1 g2;rw [g1,g2]
          · exact absurd (inK _ b' (.inr ⟨p',h'⟩)) (hfree b' h k)
          · exact absurd (inK _ b' (.inr ⟨p,h⟩)) (hfree b' h' k)
          · exact hR.apart p p' b' h h'
      · rw [if_neg hqi]
        have hc0:cellOf (some (i,j)) q=none:=by show (if (q:Int)=i then some j else none)=none;rw [if_neg (by omega)]
        have h0:RowH w M (rows.getD q nilRow) (.gi l) q (cellOf (some (i,j)) q):=hD.row q hq (by simp)
        rw [hc0] at h0
        have h1:=h0.ext hk fun b' hb'=>⟨setRow_other w b b' cs' (other hqi b' hb'),fun _=>Iff.rfl⟩
        show DeepI _ _ _ _ (.rows .i64 ((l.set i.toNat ((l.getD i.toNat []).set j.toNat m)).getD q [])) none
        rw [hgl,if_neg hqi]
        exact h1
    · rcases more q b' h with h|⟨_,h⟩
      · exact hD.out q b' h
      · exact fun e=>hfree b' h k (by simp only [hasB,hρ];exact .inl e)
    · rcases more q b' h with h|⟨e1,h⟩<;>rcases more q' b' h' with h'|⟨e2,h'⟩
      · exact hD.apart q q' b' h h'
      · exact absurd (inK _ b' h) (hfree b' h' k)
      · exact absurd (inK _ b' h') (hfree b' h k)
      · rw [e1,e2]
end
end Go.AM
end
section
namespace Go.AM
open Go
theorem oneCell_of {v:Value} (h:isCell v):v.oneCell'=true:=by cases v<;>first|rfl|exact h.elim
section
variable {P:Program} {TY:List TyE} {w0 w:World} {M0:Base w0} {ρ:Env} {M:Msk} {S S0:Store} {d:Nat}
theorem setRow_stp {b:Nat} {cs cs':Array Value} {ty:TypeId} (hcs:w.heap[b]? =some (.cells cs ty (0,0))) (hsz:cs'.size=cs.size) (hdiff:∀off,¬M b off→cs'[off]? =cs[off]?):Stp M w (w.setRow b cs'):=by
  refine ⟨by simp [World.setRow],fun b' hb'=>?_,IoS.refl _⟩
  by_cases he:b'=b
  · subst he;exact .inr (.inl ⟨cs,cs',ty,hcs,setRow_heap w b' cs cs' ty _ hcs,hsz,hdiff⟩)
  · exact .inl (setRow_other w b b' cs' he)
theorem St.write {k b:Nat} {cs cs':Array Value} {ty:TypeId} {B B':Blk} {S':Store} (st:St M0 ρ M S w) (hf:findS S k=some B) (hb:hasB ρ k b)
    (hcs:w.heap[b]? =some (.cells cs ty (0,0))) (hsz:cs'.size=cs.size) (hdiff:∀off,¬M b off→cs'[off]? =cs[off]?)
    (hB:Keep w M (w.setRow b cs') M→BlkH ρ (w.setRow b cs') M k B') (hS:∀j,findS S' j=if j=k then some B' else findS S j):
    St M0 ρ M S' (w.setRow b cs')∧Keep w M (w.setRow b cs') M:=by
  have hstp:=setRow_stp hcs hsz hdiff
  have hk:Keep w M (w.setRow b cs') M:=hstp.keep fun b off _ h=>h
  refine ⟨⟨fun j=>?_,fun j C hC=>?_,st.inj,fun b off hm=>Nat.lt_of_lt_of_le (st.mlt b off hm) hstp.1,st.stp.trans (setRow_stp (M:=fun b' off=>b'=b∧M b' off) hcs hsz fun off hn=>hdiff off fun hm=>hn ⟨rfl,hm⟩) (fun b' off hb' he=>by obtain ⟨rfl,hm⟩:=he;exact ⟨(st.fresh k b' hb).resolve_left (Nat.not_le_of_lt hb'),st.sub b' off hb' hm⟩),st.sub,st.old,st.fresh,st.pin⟩,hk⟩
  · rw [hS j,st.dom j]
    by_cases hj:j=k
    · subst hj;simp [hf]
    · simp [hj]
  · rw [hS j] at hC
    by_cases hj:j=k
    · subst hj;simp at hC;subst hC;exact hB hk
    · simp only [hj,if_false] at hC
      refine BlkH.ext hk (fun _ _ h=>h) (fun b' hb'=>⟨setRow_other w b b' cs' fun e=>hj (st.inj _ _ b (e▸hb') hb),fun _=>Iff.rfl⟩) (st.blk j C hC)
theorem run_storeAt {t b o:Nat} {cs:Array Value} {ty:TypeId} {u:Value} (hrow:TyRow P t (nthT TY t)) (hsz:u.cells.size=(nthT TY t).sz) (hcs:w.heap[b]? =some (.cells cs ty (0,0)))
    (ho:o+u.cells.size≤cs.size) (hc:∀(j:Nat) (c:Value),u.cells[j]? =some c→isCell c):
    (Instr.storeAt t (.pointer (some ⟨b,o,none⟩)) u).run P w= .ok () (w.setRow b (cs.toList.take o++u.cells.toList++cs.toList.drop (o+u.cells.size)).toArray):=by
  have h:=run_storeCells_at P b o ty u.cells.toList 0 cs w hcs (by simpa using ho) (fun v hv=>by
    obtain ⟨j,hj⟩:=List.mem_iff_getElem?.1 hv
    exact oneCell_of (hc j v (by rw [←Array.getElem?_toList];exact hj)))
  simp only [Nat.add_zero,Array.length_toList] at h
  simp [Instr.storeAt,Instr.sureAddr,storeVar,hrow.size,hsz]
  rw [←hsz]
  simpa using h
theorem splice_get {l m:List Value} {o q:Nat} (ho:o+m.length≤l.length):(l.take o++m++l.drop (o+m.length))[q]? =if o≤q∧q<o+m.length then m[q - o]? else l[q]? :=by
  by_cases h1:q<o
  · rw [if_neg (by omega),List.getElem?_append_left (by simp;omega),List.getElem?_append_left (by simp;omega),List.getElem?_take,if_pos h1]
  · by_cases h2:q<o+m.length
    · rw [if_pos ⟨by omega,h2⟩,List.getElem?_append_left (by simp;omega),List.getElem?_append_right (by simp;omega)]
      congr 1;simp;omega
    · rw [if_neg (by omega),List.getElem?_append_right (by simp;omega),List.getElem?_drop]
      congr 1;simp;omega
theorem store_sound (hty:TyOk P TY) {F:Spec} {t:Nat} {x y:Operand} {T:List AV} {K:AV→List AV→Store→Prop} {a:Act} {oo:Oper} (h:opB TY F d (.store t x y) T S K)
    (ho:oo.op= .store t x y) (st:St M0 ρ M S w) (tm:Tm ρ w M T a):
    Runs P (execOp a.eval oo) w fun u w'=>∃ρ' M' T' S' v,K v T' S'∧St M0 ρ' M' S' w'∧Tm ρ' w' M' T' a∧T'.length=T.length∧RepT ρ' w' M' v u:=by
  simp only [opB,quietOp,eval_iff] at h
  have hx:=eval_rep tm x
  have hy:=eval_rep tm y
  generalize hu:a.eval y=u at hy
  generalize evalF T y=v at h hy
  split at h
  ·
    rename_i k i hxk
    rw [hxk] at hx
    split at h
    · rename_i wm r ov hf
      rw [ifK_iff] at h
      obtain ⟨hok,hwm,h⟩:=h
      obtain ⟨o,b,g1,g2,g3,g4,g5⟩:=hx
      obtain ⟨⟨o',g6,g7,g8,g9,g10,g11⟩,hov⟩:=st.blk k _ hf
      obtain rfl:=sli_sl g6 g1
      have g1:=g6
      simp only [g2] at g11
      obtain ⟨g12,cs,ty,g13,g14,g15,g16⟩:=g11
      obtain ⟨hs,hag⟩:=okEl_facts hok
      have hrow:=hty.at (t:=t) (.inl (by rw [hs];exact Nat.ne_of_gt r.sz_pos))
      have hilt:i.toNat<r.len:=by omega
      have hroom:i.toNat*o.sz+r.sz≤cs.size:=by
        rw [g14,g8]
        have h1:(i.toNat+1)*r.sz≤o.cap*r.sz:=Nat.mul_le_mul_right _ (by omega)
        rw [Nat.add_mul,Nat.one_mul] at h1;exact h1
      have hMcell:∀j,j<r.sz→M b (i.toNat*o.sz+j):=fun j hj=>by
        rw [g15]
        refine ⟨?_,by omega⟩
        rw [g8]
        have h1:wm*r.sz≤i.toNat*r.sz:=Nat.mul_le_mul_right _ (by omega)
        omega
      have fin:∀(B':Blk) (S':Store),u.cells.size=r.sz→(∀(j:Nat) (c:Value),u.cells[j]? =some c→isCell c)→(∀j,findS S' j=if j=k then some B' else findS S j)→
          (∀cs',cs'.size=cs.size→(∀q,cs'[q]? =if i.toNat*o.sz≤q∧q<i.toNat*o.sz+r.sz then u.cells[q - i.toNat*o.sz]? else cs[q]?)→Keep w M (w.setRow b cs') M→BlkH ρ (w.setRow b cs') M k B')→
          K .any T S'→Runs P (execOp a.eval oo) w fun u w'=>∃ρ' M' T' S' v,K v T' S'∧St M0 ρ' M' S' w'∧Tm ρ' w' M' T' a∧T'.length=T.length∧RepT ρ' w' M' v u:=by
        intro B' S' hus huc hS hB hK
        have hrun:=run_storeAt (P:=P) (TY:=TY) (t:=t) (b:=b) (o:=i.toNat*o.sz) (u:=u) hrow (by rw [hus,hs]) g13 (by rw [hus];exact hroom) huc
        let cs':=(cs.toList.take (i.toNat*o.sz)++u.cells.toList++cs.toList.drop (i.toNat*o.sz+u.cells.size)).toArray
        have hget:∀q,cs'[q]? =if i.toNat*o.sz≤q∧q<i.toNat*o.sz+r.sz then u.cells[q - i.toNat*o.sz]? else cs[q]? :=fun q=>by
          have:=splice_get (l:=cs.toList) (m:=u.cells.toList) (o:=i.toNat*o.sz) (q:=q) (by simp [hus];exact hroom)
          simp only [Array.length_toList,Array.getElem?_toList,hus] at this
          simp only [cs',List.getElem?_toArray,hus]
          exact this
        have hsz:cs'.size=cs.size:=by simp [cs',hus];omega
        have hw:=st.write (k:=k) (cs':=cs') hf (by simp [hasB,g1,Own.has,g2]) g13 hsz (fun off hn=>by
          rw [hget off,if_neg]
          intro hh
          have:=hMcell (off - i.toNat*o.sz) (by omega)
          rw [show i.toNat*o.sz+(off - i.toNat*o.sz)=off from by omega] at this
          exact hn this) (hB cs' hsz hget) hS
        refine .inr (.inl ⟨w.setRow b cs',?_,ρ,M,T,S',.any,hK,hw.1,⟨tm.defers,tm.size,fun j=>RepT.keep hw.2 (fun _ _ h=>h) (tm.tmp j)⟩,rfl,trivial⟩)
        simp [execOp,ho,g5,hu,hrun,cs']
      unfold storeV at h
      split at h
      ·
        rename_i k'
        split at h
        · rename_i wm' s hf'
          rw [ifK_iff,ifK_iff] at h
          obtain ⟨hrq,hwm0,h⟩:=h
          have hwm0:=beq_iff'.1 hwm0
          subst hwm0
          obtain ⟨S',hK,hS⟩:=set_store h
          rw [hf] at hS
          have hsz1:=ovQ_sz hrq
          obtain ⟨ok',g17,rfl⟩:=hy
          refine fin _ S' (by rw [hsz1];rfl) (fun j c hj=>by
            rcases j with _|j
            · simp [Sl.val,Value.cells] at hj;subst hj;trivial
            · simp [Sl.val,Value.cells] at hj) (fun j=>by rw [hS j];rfl) (fun cs' hcs' hget hkp=>?_) hK
          refine ⟨⟨o,g1,g7,g8,g9,Nat.zero_le _,?_⟩,.inr ⟨i,k',rfl,hrq,rfl,g3,by omega⟩⟩
          simp only [g2]
          refine ⟨g12,cs',ty,setRow_heap w b cs cs' ty _ g13,by rw [hcs'];exact g14,fun off=>by rw [hcs'];exact g15 off,fun q hq=>?_⟩
          rw [hget q]
          by_cases hqi:q=i.toNat
          · rw [if_pos (by rw [g8,hsz1];omega)]
            have hqi':(q:Int)=i:=by omega
            refine ⟨ok'.val,?_,by simp only [hqi',if_true];exact ⟨ok',g17,rfl⟩⟩
            rw [show q - i.toNat*o.sz=0 from by rw [g8,hsz1];omega]
            rfl
          · rw [if_neg (by rw [g8,hsz1];omega)]
            have hqi':(q:Int)≠i:=by omega
            obtain ⟨c,g18,g19⟩:=g16 q hq
            exact ⟨c,g18,by simp only [hqi',if_false];exact CellP.keep hkp g19⟩
        · exact h.elim
      · obtain ⟨r',hr',hl',hz',hcell⟩:=set_cells h hilt
        obtain ⟨S',hK,hS⟩:=set_store hr'
        rw [hf] at hS
        obtain ⟨c1,c2,c3⟩:=hcell ρ w M u hy
        refine fin _ S' c1 (fun j c hj=>(c2 j c hj).1) (fun j=>by rw [hS j];rfl) (fun cs' hcs' hget hkp=>?_) hK
        refine ⟨⟨o,g1,by rw [hl'];exact g7,by rw [hz'];exact g8,by rw [hl'];exact g9,by rw [hl'];exact g10,?_⟩,.inl rfl⟩
        simp only [g2]
        refine ⟨g12,cs',ty,setRow_heap w b cs cs' ty _ g13,by rw [hcs'];exact g14,fun off=>by rw [hcs'];exact g15 off,fun q hq=>?_⟩
        rw [hget q]
        have hq':q<r.cells:=by simpa [RO.cells,hl',hz'] using hq
        by_cases hqi:i.toNat*o.sz≤q∧q<i.toNat*o.sz+r.sz
        · rw [if_pos hqi]
          rw [g8] at hqi ⊢
          have hlt:q - i.toNat*r.sz<u.cells.size:=by omega
          refine ⟨u.cells[q - i.toNat*r.sz],by simp [hlt],?_⟩
          have:=(c2 (q - i.toNat*r.sz) u.cells[q - i.toNat*r.sz] (by simp [hlt])).2
          rw [show i.toNat*r.sz+(q - i.toNat*r.sz)=q from by omega] at this
          exact CellP.keep hkp this
        · rw [if_neg hqi]
          obtain ⟨c,g18,g19⟩:=g16 q hq'
          refine ⟨c,g18,CellP.keep hkp (c3 q c (fun e=>hqi ?_) g19)⟩
          rw [g8]
          have hp:=r.sz_pos
          have h1:=Nat.div_add_mod q r.sz
          have h2:=Nat.mod_lt q hp
          rw [e,Nat.mul_comm] at h1
          omega
      · exact h.elim
    ·
      rename_i r j hf
      rw [ifK_iff,ifK_iff] at h
      obtain ⟨hok,hlk,hij,h⟩:=h
      subst hij
      obtain ⟨o,b,g1,g2,g3,g4,g5⟩:=hx
      obtain ⟨o',rows,g6,hD⟩:=st.blk k _ hf
      rw [of_dp g6] at g1;cases g1
      split at h
      · rename_i h'
        split at h
        · rename_i wm s hf'
          rw [ifK_iff,ifK_iff] at h
          obtain ⟨hwm0,hnb,h⟩:=h
          obtain rfl:=beq_iff'.1 hwm0
          obtain ⟨r',h,hr1,⟨hr2,hgr,hgr'⟩,hr3,hr4⟩:=setRow_rows hD.rq h
          obtain ⟨ok',g17,rfl⟩:=hy
          obtain ⟨⟨oh,g18,hV⟩,_⟩:=st.blk h' _ hf'
          obtain rfl:=sli_sl g18 g17
          obtain ⟨T1,S1,h,st1,tm1,hT1,hnone⟩:=garb_sound (K:=fun T S=>setS S k (.deep r' none) fun S=>K .any T S) h st tm
          obtain ⟨S2,hK,hS⟩:=set_store h
          have hne:=nb_ne hnb
          have e1:dropE ρ h' k=some (.dp o rows (gridQ r)):=by simp [dropE,hne,g6]
          have hsome:(findS S1 k).isSome:=by rw [←st1.dom k,e1];rfl
          have hD':=hD.outer
          simp only [g2] at hD'
          obtain ⟨g19,cs,ty,g20,g21,g22,g23⟩:=hD'
          have hilt:i.toNat<r.len:=by have:=hD.len;omega
          have hlen:=hD.len
          have hic:i.toNat<cs.size:=by omega
          obtain ⟨hs,hag⟩:=okEl_facts hok
          have hsz1:=rowsQ_sz hD.rq
          have hrow:=hty.at (t:=t) (.inl (by rw [hs,hsz1];decide))
          have hrun:=run_storeAt (P:=P) (TY:=TY) (t:=t) (b:=b) (o:=i.toNat*o.sz) (u:=ok'.val) hrow (by rw [hs,hsz1];rfl) g20 (by rw [hD.osz,Nat.mul_one];exact hic) (fun j c hj=>by
            rcases j with _|j
            · simp [Sl.val,Value.cells] at hj;subst hj;trivial
            · simp [Sl.val,Value.cells] at hj)
          let cs':=(cs.toList.take (i.toNat*o.sz)++ok'.val.cells.toList++cs.toList.drop (i.toNat*o.sz+ok'.val.cells.size)).toArray
          have hcl:ok'.val.cells= #[ok'.val]:=rfl
          have hsz:cs'.size=cs.size:=by simp [cs',hcl,hD.osz];omega
          have hget:∀q,cs'[q]? =if q=i.toNat then some ok'.val else cs[q]? :=fun q=>by
            have:=splice_get (l:=cs.toList) (m:=ok'.val.cells.toList) (o:=i.toNat*o.sz) (q:=q) (by rw [hcl,hD.osz];simp;omega)
            simp only [Array.length_toList,Array.getElem?_toList] at this
            simp only [cs',List.getElem?_toArray]
            rw [this,hcl,hD.osz]
            by_cases hq:q=i.toNat
            · subst hq;simp
            · rw [if_neg hq,if_neg (by simp;omega)]
          have hold:∀j b,hasB (dropE ρ h') j b→j≠h'∧hasB ρ j b:=fun j b hj=>by
            by_cases hjh:j=h'
            · subst hjh;simp [hasB,dropE] at hj
            · exact ⟨hjh,by simpa [hasB,dropE,hjh] using hj⟩
          obtain ⟨ρ2,st2,hv2,hk2⟩:=st1.putRow (r':=r') (s:=s) (S':=S2) (oh:=ok') (cs':=cs') hlk hgr hgr' e1 hD hV.env (fun b' hb' j hj=>(hold j b' hj).1 (st.inj _ _ b' (hold j b' hj).2 (by simp only [hasB,g18];exact hb')))
            (fun b' hb'=>st.fresh h' b' (by simp only [hasB,g18];exact hb')) hr1 hr2 (hr3 hilt) hr4 (fun j=>by
              rw [hS j]
              obtain ⟨B,hB⟩:=Option.isSome_iff_exists.1 hsome
              rw [hB];rfl) g2 g20 hsz hget
          refine .inr (.inl ⟨w.setRow b cs',?_,ρ2,M,T1,S2,.any,hK,st2,⟨tm1.defers,tm1.size,fun j=>RepT.keep hk2 (fun _ _ h=>h) ((tm1.tmp j).view hv2)⟩,hT1,trivial⟩)
          simp [execOp,ho,g5,hu,hrun,cs']
        · exact h.elim
      · exact h.elim
    · exact h.elim
  ·
    rename_i k i j hxk
    rw [hxk] at hx
    obtain ⟨ll,b,g1,g2,g3,g4,⟨g5,g5'⟩,g6⟩:=hx
    split at h
    · rename_i l hf
      split at h
      · rename_i e
        have hy:u= .bool e.val:=hy
        rw [ifK_iff,ifK_iff] at h
        obtain ⟨hok,hlk,h⟩:=h
        have h:=valB_iff.1 h
        obtain ⟨S2,hK,hS⟩:=set_store h
        rw [hf] at hS
        obtain ⟨o,rows,k1,hD⟩:=st.blk k _ hf
        rw [of_rws k1] at g1;cases g1
        rw [List.length_map] at g3
        rw [getD_sl] at g4 g5'
        have hrl:rows.length=l.length:=hD.rlen
        have hR:=(rowH_plain (r:=.gb l) (.inr ⟨l,rfl⟩)).1 (hD.row i.toNat (by rw [←hD.rlen];exact g3) (by simp))
        obtain ⟨hsub,hv1,hv2,hv3,hv4,hv5⟩:=hR
        simp only [g4] at hv5
        obtain ⟨k8,cs,ty,k9,k10,k12,k13⟩:=hv5
        have hv1:(rows.getD i.toNat nilRow).sl.len=(l.getD i.toNat []).length:=hv1
        have hv2:(rows.getD i.toNat nilRow).sl.sz=1:=hv2
        rw [hv2,Nat.mul_one] at k10
        have hic:j.toNat<cs.size:=by omega
        have hjl:j.toNat<(l.getD i.toNat []).length:=by omega
        obtain ⟨hs,hag⟩:=okEl_facts hok
        have hrow:=hty.at (t:=t) (.inl (by rw [hs];exact Nat.one_ne_zero))
        have hrun:=run_storeAt (P:=P) (TY:=TY) (t:=t) (b:=b) (o:=j.toNat) (u:=.bool e.val) hrow (by rw [hs];rfl) k9 hic (fun q c hj=>by
          rcases q with _|q
          · simp [Value.cells] at hj;subst hj;trivial
          · simp [Value.cells] at hj)
        let cs':=(cs.toList.take j.toNat++(Value.bool e.val).cells.toList++cs.toList.drop (j.toNat+(Value.bool e.val).cells.size)).toArray
        have hcl:(Value.bool e.val).cells= #[.bool e.val]:=rfl
        have hsz:cs'.size=cs.size:=by simp [cs',hcl];omega
        have hget:∀q,cs'[q]? =if q=j.toNat then some (.bool e.val) else cs[q]? :=fun q=>by
          have:=splice_get (l:=cs.toList) (m:=(Value.bool e.val).cells.toList) (o:=j.toNat) (q:=q) (by rw [hcl];simp;omega)
          simp only [Array.length_toList,Array.getElem?_toList] at this
          simp only [cs',List.getElem?_toArray]
          rw [this,hcl]
          by_cases hq:q=j.toNat
          · subst hq;simp
          · rw [if_neg hq,if_neg (by simp;omega)]
        have hRb:(rows.getD i.toNat nilRow).has b:=.inl g4
        have hgl:∀q,(l.set i.toNat ((l.getD i.toNat []).set j.toNat e.val)).getD q []=if q=i.toNat then (l.getD i.toNat []).set j.toNat e.val else l.getD q []:=fun q=>by
          simp only [List.getD,List.getElem?_set]
          by_cases h:i.toNat=q
          · subst h;simp [show i.toNat<l.length by omega]
          · simp [h,Ne.symm h]
        have hll:(RO.gb (l.set i.toNat ((l.getD i.toNat []).set j.toNat e.val))).len=(RO.gb l).len:=by simp [RO.len]
        have hM0:∀off,M b off↔off<cs.size:=fun off=>by rw [k12 off];simp
        obtain ⟨ρ2,st2,hv2',hk2⟩:=st.merge (X':=.dp o rows true) (B:=.deep (.gb (l.set i.toNat ((l.getD i.toNat []).set j.toNat e.val))) none) (S':=S2) (cs':=cs') hlk k1 (fun q=>by rw [hS q];rfl) rfl rfl rfl (fun b' hb'=>.inl hb') (.inr ⟨i.toNat,hRb⟩) k9 hsz
          (fun off hn=>by
            rw [hget,if_neg]
            rintro rfl
            exact hn ((hM0 _).2 hic))
          (fun ρ' e' hk=>by
            refine ⟨o,rows,e',rfl,by rw [hll];exact hD.len,hD.osz,by rw [hll];exact hD.lb,by rw [hll];exact hD.rlen,?_,fun q hq _=>?_,fun x hx=>(by cases hx),hD.out,hD.apart⟩
            · have h7:=hD.outer
              cases hb:o.blk with
              |none=>simp only [hb,hll] at h7 ⊢;exact h7
              |some b0=>
               simp only [hb,hll] at h7 ⊢
               obtain ⟨q8,cs1,ty1,q9,q10,q12,q13⟩:=h7
               have hne:b0≠b:=fun e=>hD.out _ _ hRb (e▸hb)
               exact ⟨q8,cs1,ty1,by rw [setRow_other w b b0 cs' hne];exact q9,q10,q12,q13⟩
            · rw [hll] at hq
              by_cases hqi:q=i.toNat
              · subst hqi
                refine (rowH_plain (.inr ⟨_,rfl⟩)).2 ⟨hsub,?_⟩
                simp only [RO.row]
                rw [hgl,if_pos rfl]
                refine ⟨by simp only [RO.len,List.length_set];exact hv1,hv2,by simp only [RO.len,List.length_set];exact hv3,Nat.zero_le _,?_⟩
                simp only [g4]
                refine ⟨k8,cs',ty,setRow_heap w b cs cs' ty _ k9,by rw [hsz,hv2,Nat.mul_one];exact k10,fun off=>by rw [hsz];exact k12 off,fun q hq=>?_⟩
                simp only [RO.cells,RO.len,RO.sz,List.length_set,Nat.mul_one] at hq
                by_cases hqj:q=j.toNat
                · refine ⟨_,by rw [hget,if_pos hqj],?_⟩
                  simp only [CellP]
                  rw [hqj,getD_set _ _ _ _ _ hjl,if_pos rfl]
                · obtain ⟨c,q14,q15⟩:=k13 q (by simp only [RO.cells,RO.len,RO.sz,RO.row,Nat.mul_one];exact hq)
                  refine ⟨c,by rw [hget,if_neg hqj];exact q14,?_⟩
                  have q15:c= .bool ((l.getD i.toNat []).getD q false):=q15
                  simp only [CellP]
                  rw [getD_set _ _ _ _ _ hjl,if_neg hqj];exact q15
              · have h0:=(rowH_plain (r:=.gb l) (.inr ⟨l,rfl⟩)).1 ((hD.row q hq (by simp)).ext hk fun b' hb'=>⟨setRow_other w b b' cs' fun e2=>hqi (hD.apart q _ b' hb' (e2▸hRb)),fun _=>Iff.rfl⟩)
                refine (rowH_plain (.inr ⟨_,rfl⟩)).2 ?_
                simp only [RO.row] at h0 ⊢
                rw [hgl,if_neg hqi];exact h0)
        refine .inr (.inl ⟨w.setRow b cs',?_,ρ2,M,T,S2,.any,hK,st2,⟨tm.defers,tm.size,fun q=>RepT.keep hk2 (fun _ _ h=>h) ((tm.tmp q).view hv2')⟩,rfl,trivial⟩)
        subst hy
        simp [execOp,ho,g6,hu,hrun,cs']
      · exact h.elim
    · rename_i l i' j' hf
      rw [ifK_iff,ifK_iff] at h
      obtain ⟨hok,hlk,⟨hii,hjj⟩,h⟩:=h
      subst hii;subst hjj
      obtain ⟨o,rows,k1,hD,hi2⟩:=st.blk k _ hf
      rw [of_rws k1] at g1;cases g1
      rw [List.length_map] at g3
      rw [getD_sl] at g4 g5'
      split at h
      · rename_i h'
        split at h
        · rename_i wm m hf'
          rw [ifK_iff,ifK_iff] at h
          obtain ⟨hwm0,hnb,h⟩:=h
          obtain rfl:=beq_iff'.1 hwm0
          obtain ⟨ok',g17,rfl⟩:=hy
          obtain ⟨⟨oh,g18,hV⟩,_⟩:=st.blk h' _ hf'
          obtain rfl:=sli_sl g18 g17
          obtain ⟨T1,S1,h,st1,tm1,hT1,hnone⟩:=garb_sound (K:=fun T S=>setS S k (.deep (.gi (l.set i.toNat ((l.getD i.toNat []).set j.toNat m))) none) fun S=>K .any T S) h st tm
          obtain ⟨S2,hK,hS⟩:=set_store h
          have hne:=nb_ne hnb
          have e1:dropE ρ h' k=some (.dp o rows true):=by simp [dropE,hne,k1]
          have hsome:(findS S1 k).isSome:=by rw [←st1.dom k,e1];rfl
          have hrl:rows.length=l.length:=hD.rlen
          have hcj:cellOf (some (i,j)) i.toNat=some j:=by show (if ((i.toNat:Nat):Int)=i then some j else none)=some j;rw [if_pos (by omega)]
          have hR:DeepI w M (rows.getD i.toNat nilRow).sl (rows.getD i.toNat nilRow).sub (.rows .i64 (l.getD i.toNat [])) (some j):=by
            have:RowH w M (rows.getD i.toNat nilRow) (.gi l) i.toNat (cellOf (some (i,j)) i.toNat):=hD.row i.toNat (by rw [←hD.rlen];exact g3) (by simp)
            rw [hcj] at this;exact this
          have hD':=hR.outer
          simp only [g4] at hD'
          obtain ⟨g19,cs,ty,g20,g21,g22,g23⟩:=hD'
          have hlen:(rows.getD i.toNat nilRow).sl.len=(l.getD i.toNat []).length:=hR.len
          have hic:j.toNat<cs.size:=by omega
          obtain ⟨hs,hag⟩:=okEl_facts hok
          have hrow:=hty.at (t:=t) (.inl (by rw [hs];exact Nat.one_ne_zero))
          have hrun:=run_storeAt (P:=P) (TY:=TY) (t:=t) (b:=b) (o:=j.toNat) (u:=ok'.val) hrow (by rw [hs];rfl) g20 hic (fun q c hj=>by
            rcases q with _|q
            · simp [Sl.val,Value.cells] at hj;subst hj;trivial
            · simp [Sl.val,Value.cells] at hj)
          let cs':=(cs.toList.take j.toNat++ok'.val.cells.toList++cs.toList.drop (j.toNat+ok'.val.cells.size)).toArray
          have hcl:ok'.val.cells= #[ok'.val]:=rfl
          have hsz:cs'.size=cs.size:=by simp [cs',hcl];omega
          have hget:∀q,cs'[q]? =if q=j.toNat then some ok'.val else cs[q]? :=fun q=>by
            have:=splice_get (l:=cs.toList) (m:=ok'.val.cells.toList) (o:=j.toNat) (q:=q) (by rw [hcl];simp;omega)
            simp only [Array.length_toList,Array.getElem?_toList] at this
            simp only [cs',List.getElem?_toArray]
            rw [this,hcl]
            by_cases hq:q=j.toNat
            · subst hq;simp
            · rw [if_neg hq,if_neg (by simp;omega)]
          have hold:∀q b,hasB (dropE ρ h') q b→q≠h'∧hasB ρ q b:=fun q b hj=>by
            by_cases hjh:q=h'
            · subst hjh;simp [hasB,dropE] at hj
            · exact ⟨hjh,by simpa [hasB,dropE,hjh] using hj⟩
          obtain ⟨ρ2,st2,hv2,hk2⟩:=st1.putCell (m:=m) (S':=S2) (oh:=ok') (cs':=cs') hlk e1 hD hi2 hV.env (fun b' hb' q hj=>(hold q b' hj).1 (st.inj _ _ b' (hold q b' hj).2 (by simp only [hasB,g18];exact hb')))
            (fun b' hb'=>st.fresh h' b' (by simp only [hasB,g18];exact hb')) (fun q=>by
              rw [hS q]
              obtain ⟨B,hB⟩:=Option.isSome_iff_exists.1 hsome
              rw [hB];rfl) g4 g20 hsz hget
          refine .inr (.inl ⟨w.setRow b cs',?_,ρ2,M,T1,S2,.any,hK,st2,⟨tm1.defers,tm1.size,fun q=>RepT.keep hk2 (fun _ _ h=>h) ((tm1.tmp q).view hv2)⟩,hT1,trivial⟩)
          simp [execOp,ho,g6,hu,hrun,cs']
        · exact h.elim
      · exact h.elim
    · exact h.elim
  ·
    rename_i k off hxk
    rw [hxk] at hx
    split at h
    · rename_i l hf
      obtain ⟨m,hm,hlen,hmv⟩:=cells_iff h
      obtain ⟨hsp,hset⟩:=splice_iff hm
      obtain ⟨S',hK,hS⟩:=set_store hset
      rw [hf] at hS
      have hx:(ρ k).bind (Own.ref · off)=some (a.eval x):=hx
      obtain ⟨b,g1,cs,ty,g4,g5,g6⟩:=st.blk k _ hf
      have g2:=ref_bx g1 hx
      have hlsz:l.length=cs.size:=by rw [g6.length,Array.length_toList]
      have hrep:RepL (RepC ρ w M) m u.cells.toList:=by
        rcases hmv with ⟨_,hv⟩|⟨_,hc,rfl⟩
        · rw [hv] at hy;obtain ⟨cs0,rfl,h2⟩:=hy;exact h2
        · have hy:=cellOK_rep hc hy
          have hcell:=RepC.isCell hy
          revert hy hcell
          cases u<;>intro hy hcell<;>first|exact ⟨hy,trivial⟩|exact hcell.elim
      have hus:u.cells.size=m.length:=by rw [hrep.length,Array.length_toList]
      have huc:∀(j:Nat) (c:Value),u.cells[j]? =some c→isCell c:=fun j c hj=>by
        have hlt:j<m.length:=by
          rw [←hus]
          rcases Nat.lt_or_ge j u.cells.size with h'|h'
          · exact h'
          · rw [Array.getElem?_eq_none h'] at hj;cases hj
        obtain ⟨c',h1,h2⟩:=hrep.get j hlt
        rw [Array.getElem?_toList,hj] at h1;cases h1
        exact RepC.isCell h2
      have hrow:TyRow P t (nthT TY t):=by
        rcases hmv with ⟨hag,_⟩|⟨_,_,rfl⟩
        · exact hty.at (.inr fun e=>by rw [e] at hag;cases hag)
        · exact hty.at (.inl (by rw [←hlen];simp))
      have hrun:=run_storeAt (P:=P) (TY:=TY) (t:=t) (b:=b) (o:=off) (u:=u) hrow (by rw [hus,hlen]) g4 (by rw [hus,←hlsz];exact hsp) huc
      let cs':=(cs.toList.take off++u.cells.toList++cs.toList.drop (off+u.cells.size)).toArray
      have hsz:cs'.size=cs.size:=by simp [cs',hus];omega
      have hw:=st.write (k:=k) (cs':=cs') hf (by simp [hasB,g1,Own.has]) g4 hsz (fun q hn=>by
        have hge:cs.size≤q:=Nat.le_of_not_lt fun hlt=>hn ((g5 q).2 hlt)
        rw [Array.getElem?_eq_none hge,Array.getElem?_eq_none (by rw [hsz];exact hge)])
        (B':=.box (l.take off++(m++l.drop (off+m.length)))) (fun hkp=>⟨b,g1,cs',ty,setRow_heap w b cs cs' ty _ g4,fun q=>by rw [hsz];exact g5 q,by
          have:=(g6.take off).append (hrep.append (g6.drop (off+m.length)))
          have:=this.imp fun _ _=>RepC.keep (ρ:=ρ) (ρ':=ρ) hkp (fun _ _ h=>h)
          simpa [cs',hus] using this⟩) (fun j=>by rw [hS j];rfl)
      refine .inr (.inl ⟨w.setRow b cs',?_,ρ,M,T,S',.any,hK,hw.1,⟨tm.defers,tm.size,fun j=>RepT.keep hw.2 (fun _ _ h=>h) (tm.tmp j)⟩,rfl,trivial⟩)
      simp [execOp,ho,g2,hu,hrun,cs']
    · exact h.elim
  ·
    rename_i k i j hxk
    rw [hxk] at hx
    split at h
    · rename_i wm l hf
      rw [ifK_iff,ifK_iff] at h
      obtain ⟨hone,hj,hwm,h⟩:=h
      unfold storeC at h
      split at h
      · rename_i k' n
        rw [ifK_iff] at h
        obtain ⟨hk,h⟩:=h
        obtain ⟨S',hK,hS⟩:=set_store h
        rw [hf] at hS
        obtain ⟨o,b,g1,g2,g3,g4,g5⟩:=hx
        obtain ⟨⟨o',g6,g7,g8,g9,g10,g11⟩,_⟩:=st.blk k _ hf
        obtain rfl:=sli_sl g6 g1
        simp only [g2] at g11
        obtain ⟨g12,cs,ty,g13,g14,g15,g16⟩:=g11
        obtain ⟨hyu,hin⟩:=hy
        have hkk:k'= .i64:=(kq_eq hk).symm
        rw [hkk] at hyu hin
        have g7:o.len=l.length:=g7
        have hs2:o.sz=2:=g8
        have hj1:=Nat.le_of_ble_eq_true hj
        have hilt:i.toNat<l.length:=by omega
        have hroom:i.toNat*2+j<cs.size:=by rw [g14,hs2];omega
        have hcl:u.cells= #[.int .i64 n]:=by rw [hyu];rfl
        have huc:∀(q:Nat) (c:Value),u.cells[q]? =some c→isCell c:=fun q c hq=>by
          rw [hcl] at hq
          rcases q with _|q
          · simp at hq;subst hq;trivial
          · simp at hq
        unfold oneT at hone
        split at hone
        · cases hone
        · rename_i hag
          have hsz:=beq_iff'.1 hone
          have hrow:=hty.at (t:=t) (.inl (by rw [hsz];decide))
          have hrun:=run_storeAt (P:=P) (TY:=TY) (t:=t) (b:=b) (o:=i.toNat*o.sz+j) (u:=u) hrow (by rw [hcl,hsz];rfl) g13 (by rw [hcl,hs2];simp;omega) huc
          let cs':=(cs.toList.take (i.toNat*o.sz+j)++u.cells.toList++cs.toList.drop (i.toNat*o.sz+j+u.cells.size)).toArray
          have hcs':cs'.size=cs.size:=by simp [cs',hcl,hs2];omega
          have hget:∀q,cs'[q]? =if q=i.toNat*2+j then some (.int .i64 n) else cs[q]? :=fun q=>by
            have:=splice_get (l:=cs.toList) (m:=u.cells.toList) (o:=i.toNat*o.sz+j) (q:=q) (by rw [hcl,hs2];simp;omega)
            simp only [Array.length_toList,Array.getElem?_toList] at this
            simp only [cs',List.getElem?_toArray]
            rw [this,hcl,hs2]
            by_cases hq:q=i.toNat*2+j
            · subst hq;simp
            · rw [if_neg hq,if_neg (by simp;omega)]
          have hw:=st.write (k:=k) (cs':=cs') hf (by simp [hasB,g6,Own.has,g2]) g13 hcs' (fun off hn=>by
            rw [hget off,if_neg]
            intro hh
            refine hn ((g15 off).2 ⟨?_,by omega⟩)
            rw [hs2];omega) (B':=.vec wm (.pairs (l.set i.toNat (pairS j (l.getD i.toNat (0,0)) n))) []) (fun hkp=>by
            refine ⟨⟨o,g6,by show o.len=_;simp only [RO.len,List.length_set];exact g7,g8,by simp only [RO.len,List.length_set];exact g9,by simp only [RO.len,List.length_set];exact g10,?_⟩,.inl rfl⟩
            simp only [g2]
            refine ⟨g12,cs',ty,setRow_heap w b cs cs' ty _ g13,by rw [hcs'];exact g14,fun off=>by rw [hcs'];exact g15 off,fun q hq=>?_⟩
            rw [hget q]
            have hq':q<(RO.pairs l).cells:=by simpa [RO.cells,RO.len,RO.sz] using hq
            obtain ⟨c,g18,g19⟩:=g16 q hq'
            by_cases hqi:q=i.toNat*2+j
            · rw [if_pos hqi]
              refine ⟨_,rfl,?_⟩
              have hd:q / 2=i.toNat:=by omega
              simp only [CellP,hd]
              rw [show (l.set i.toNat (pairS j (l.getD i.toNat (0,0)) n)).getD i.toNat (0,0)=pairS j (l.getD i.toNat (0,0)) n by simp [List.getD,hilt]]
              match j,hj1,hqi with
              |0,_,hqi=>rw [if_pos (by omega)];exact ⟨rfl,hin⟩
              |1,_,hqi=>rw [if_neg (by omega)];exact ⟨rfl,hin⟩
            · rw [if_neg hqi]
              refine ⟨c,g18,?_⟩
              simp only [CellP] at g19 ⊢
              by_cases hd:q / 2=i.toNat
              · rw [hd] at g19 ⊢
                rw [show (l.set i.toNat (pairS j (l.getD i.toNat (0,0)) n)).getD i.toNat (0,0)=pairS j (l.getD i.toNat (0,0)) n by simp [List.getD,hilt]]
                match j,hj1,hqi with
                |0,_,hqi=>rw [if_neg (by omega)] at g19 ⊢;exact g19
                |1,_,hqi=>rw [if_pos (by omega)] at g19 ⊢;exact g19
              · rw [show (l.set i.toNat (pairS j (l.getD i.toNat (0,0)) n)).getD (q / 2) (0,0)=l.getD (q / 2) (0,0) by simp [List.getD,List.getElem?_set_ne (Ne.symm hd)]]
                exact g19) (fun j=>by rw [hS j];rfl)
          refine .inr (.inl ⟨w.setRow b cs',?_,ρ,M,T,S',.any,hK,hw.1,⟨tm.defers,tm.size,fun j=>RepT.keep hw.2 (fun _ _ h=>h) (tm.tmp j)⟩,rfl,trivial⟩)
          simp [execOp,ho,g5,hu,hrun,cs']
      · exact h.elim
    · exact h.elim
  · exact h.elim
theorem src_iff {b:AV} {K:Option RO→Prop} (h:srcK S b K) (st:St M0 ρ M S w) {u:Value} (hu:RepT ρ w M b u):
    (K none∧u= .slice none 0 0)∨∃r,K (some r)∧r.len≤LB∧∃ad cap,u= .slice ad r.len cap∧(r.cells=0∨∃b off,ad=some ⟨b,off,none⟩∧∀q,q<r.cells→∃c,w.cell? ⟨b,off+q,none⟩=some c∧CellP w M r q c):=by
  cases b with
  |ro r=>
   obtain ⟨h1,ad,cap,h2,_,h3⟩:=hu
   refine .inr ⟨r,h,h1,ad,cap,h2,?_⟩
   rcases h3 with h3|⟨b,off,h4,h5⟩
   · exact .inl h3
   · exact .inr ⟨b,off,h4,fun q hq=>by obtain ⟨c,h6,_,h7⟩:=h5 q hq;exact ⟨c,h6,h7⟩⟩
  |nils=>exact .inl ⟨h,hu⟩
  |vec j=>
   simp only [srcK] at h
   split at h
   · rename_i wm r hf
     obtain ⟨o,g1,rfl⟩:=hu
     obtain ⟨⟨o',g2,g3,g4,g5,_,g6⟩,_⟩:=st.blk j _ hf
     obtain rfl:=sli_sl g2 g1
     refine .inr ⟨r,h,g5,_,_,by rw [Sl.val,g3],?_⟩
     cases hb:o.blk with
     |none=>simp only [hb] at g6;exact .inl (by simp [RO.cells,g6.1])
     |some b=>
      simp only [hb] at g6
      obtain ⟨_,cs,ty,g7,_,_,g8⟩:=g6
      exact .inr ⟨b,0,rfl,fun q hq=>by obtain ⟨c,g9,g10⟩:=g8 q hq;exact ⟨c,by rw [cell_of_heap g7,Nat.zero_add];exact g9,g10⟩⟩
   · exact h.elim
  |_=>exact h.elim
end
end Go.AM
end
section
namespace Go.AM
open Go
section
variable {P:Program} {TY:List TyE} {w0 w:World} {M0:Base w0} {ρ:Env} {M:Msk} {S S0:Store} {d:Nat}
theorem rekey2_sound {k:Nat} {T:List AV} {a:Act} {K:List AV→Store→Prop} (h:delS S k fun S=>sweepT k .any T fun T=>sweepS k .any S fun S=>K T S) (st:St M0 ρ M S w) (tm:Tm ρ w M T a)
    {ρ':Env} {w':World} {M':Msk} {B:Blk} (hkeep:Keep w M w' M') (hρ:∀j,j≠k→ρ' j=ρ j) (hρk:(ρ' k).isSome)
    (hblk:∀j,j≠k→∀b,hasB ρ j b→w'.heap[b]? =w.heap[b]?∧∀off,M' b off↔M b off)
    (hstp:Stp (fun b off=>w0.heap.size≤b∨(M0.lent b∧M0.mask b off)) w w') (hlt:∀b off,M' b off→b<w'.heap.size) (hsub:∀b off,b<w0.heap.size→M' b off→M b off) (hold:∀b off,b<w0.heap.size→¬M0.lent b→M b off→M' b off) (hfr:∀b,hasB ρ' k b→w0.heap.size≤b∨M0.lent b)
    (hB:BlkH ρ' w' M' k B) (hinj:∀b,hasB ρ' k b→∀j,j≠k→¬hasB ρ j b) (hpin:∀o,loc k=false→ρ' k=some o→M0.env k=some o.base):
    ∃T' S',K T' S'∧St M0 ρ' M' ((k,B)::S') w'∧Tm ρ' w' M' T' a∧T'.length=T.length:=by
  obtain ⟨S1,h1,hS1⟩:=del_store h
  obtain ⟨T',h2,hlen,hT⟩:=sweepT_sound h1
  obtain ⟨S',h3,hS'⟩:=sweepS_sound h2
  have hother:∀j,j≠k→∀o,ρ j=some o→ρ' j=some o:=fun j hj o ho=>by rw [hρ j hj];exact ho
  have hconv:Conv k .any ρ w M ρ' w' M':=⟨hkeep,hother,fun v hv=>RepC.isCell hv⟩
  have hconv':Conv k .any ρ w' M' ρ' w' M':=⟨Keep.refl _ _,hother,fun v hv=>RepC.isCell hv⟩
  refine ⟨T',S',h3,⟨fun j=>?_,fun j C hC=>?_,fun i j b hi hj=>?_,hlt,st.stp.trans hstp (fun b off hb hm=>hm.resolve_left (Nat.not_le_of_lt hb)),fun b off hb hm=>st.sub b off hb (hsub b off hb hm),fun b off hb hl hm=>hold b off hb hl (st.old b off hb hl hm),fun x b hx=>?_,fun x o hx ho=>?_⟩,
    ⟨tm.defers,by rw [hlen];exact tm.size,fun i=>hT _ _ _ _ _ _ hconv (fun v _=>⟨trivial,trivial⟩) i _ (tm.tmp i)⟩,hlen⟩
  · by_cases hj:j=k
    · subst hj;simp [find_cons,hρk]
    · have:=hS' j
      rw [hS1 j] at this
      simp only [hj,if_false] at this
      simp only [find_cons,Ne.symm hj,if_false,hρ j hj,st.dom j]
      cases hf:findS S j with
      |none=>simp only [hf] at this;simp [this]
      |some C=>simp only [hf] at this;obtain ⟨C',h4,_⟩:=this;simp [h4]
  · by_cases hj:j=k
    · subst hj;simp only [find_cons,if_true] at hC;cases hC;exact hB
    · simp only [find_cons,Ne.symm hj,if_false] at hC
      have:=hS' j
      rw [hS1 j] at this
      simp only [hj,if_false] at this
      cases hf:findS S j with
      |none=>simp only [hf] at this;rw [this] at hC;cases hC
      |some C0=>
       simp only [hf] at this
       obtain ⟨C',h4,h5⟩:=this
       rw [h4] at hC;cases hC
       exact h5 ρ w' M' ρ' M' j hconv' (hρ j hj) (fun _ _ _=>Iff.rfl) (BlkH.ext hkeep (fun _ _ h=>h) (hblk j hj) (st.blk j C0 hf))
  · have h1:∀x,x≠k→hasB ρ' x b→hasB ρ x b:=fun x hx hb=>by simpa [hasB,hρ x hx] using hb
    by_cases hik:i=k
    · by_cases hjk:j=k
      · rw [hik,hjk]
      · subst hik;exact absurd (h1 j hjk hj) (hinj b hi j hjk)
    · by_cases hjk:j=k
      · subst hjk;exact absurd (h1 i hik hi) (hinj b hj i hik)
      · exact st.inj _ _ _ (h1 i hik hi) (h1 j hjk hj)
  · by_cases hxk:x=k
    · subst hxk;exact hfr b hx
    · exact st.fresh x b (by simpa [hasB,hρ x hxk] using hx)
  · by_cases hxk:x=k
    · subst hxk;exact hpin o hx ho
    · exact st.pin x o hx (by rw [←hρ x hxk];exact ho)
theorem rekey_sound {k:Nat} {T:List AV} {a:Act} {K:List AV→Store→Prop} (h:killK k T S K) (st:St M0 ρ M S w) (tm:Tm ρ w M T a)
    {ρ':Env} {w':World} {M':Msk} {B:Blk} (hkeep:Keep w M w' M') (hρ:∀j,j≠k→ρ' j=ρ j) (hρk:(ρ' k).isSome)
    (hblk:∀j,j≠k→∀b,hasB ρ j b→w'.heap[b]? =w.heap[b]?∧∀off,M' b off↔M b off)
    (hstp:Stp (fun b off=>w0.heap.size≤b∨(M0.lent b∧M0.mask b off)) w w') (hlt:∀b off,M' b off→b<w'.heap.size) (hsub:∀b off,b<w0.heap.size→M' b off→M b off) (hold:∀b off,b<w0.heap.size→¬M0.lent b→M b off→M' b off) (hfr:∀b,hasB ρ' k b→w0.heap.size≤b∨M0.lent b)
    (hB:BlkH ρ' w' M' k B) (hinj:∀b,hasB ρ' k b→∀j,j≠k→¬hasB ρ j b):
    ∃T' S',K T' S'∧St M0 ρ' M' ((k,B)::S') w'∧Tm ρ' w' M' T' a∧T'.length=T.length:=by
  unfold killK at h
  obtain ⟨hloc,h⟩:=ifK_iff.1 h
  exact rekey2_sound h st tm hkeep hρ hρk hblk hstp hlt hsub hold hfr hB hinj fun o hl=>by rw [hloc] at hl;cases hl
theorem run_append_empty {t ty e:Nat} {i:TypeInfo} (ht:P.underlying t=some (.slice e)) (hi:P.info? e=some i) (base ad:Option Addr) (n cap c:Nat) (h:n≤cap) (w:World):
    (Builtin.append_ #[t,t] ty #[.slice base n cap,.slice ad 0 c]).run P w= .ok (.slice base n cap) w:=by
  cases base<;>cases ad<;>simp [Builtin.append_,underlying,ht,sizeOf,typeInfo,hi,Builtin.lenOf,h,Builtin.firstCells,loadCells,loadCellsFrom,storeCells]
theorem newKey_sound {k:Nat} {T:List AV} {a:Act} {K:List AV→Store→Prop} (h:killK k T S K) (st:St M0 ρ M S w) (tm:Tm ρ w M T a)
    {w':World} {cs:Array Value} {ty cap wm:Nat} {r:RO} (hw:w'.heap=w.heap.push (.cells cs ty (0,0))) (hio:IoS w w') (hcs:cs.size=cap*r.sz) (hcap:r.len≤cap) (hlb:r.len≤LB) (hwm:wm≤r.len)
    (hc:∀q,q<r.cells→∃c,cs[q]? =some c∧CellP w M r q c):
    ∃T' S' ρ' M',K T' S'∧St M0 ρ' M' ((k,.vec wm r [])::S') w'∧Tm ρ' w' M' T' a∧T'.length=T.length∧ρ' k=some (.sl ⟨some w.heap.size,r.len,cap,r.sz⟩):=by
  have hs:Stp (fun _ _=>False) w w':=⟨by rw [hw];simp,fun b hb=>.inl (by rw [hw];simp [Array.getElem?_push,Nat.ne_of_lt hb]),hio⟩
  let M':Msk:=fun b off=>dropM M ρ k b off∨(b=w.heap.size∧wm*r.sz≤off∧off<cs.size)
  have hkeep:Keep w M w' M':=fun b off c h1 h2=>⟨hs.cell h1 (fun h=>h),fun hm=>hm.elim (fun hm=>h2 hm.1) (fun hm=>absurd hm.1 (Nat.ne_of_lt (cell_lt h1)))⟩
  have hnd:∀off,¬dropM M ρ k w.heap.size off:=fun off hm=>absurd (st.mlt _ _ hm.1) (Nat.lt_irrefl _)
  refine (fun ⟨T',S',g1,g2,g3,g4⟩=>⟨T',S',fun j=>if j=k then some (.sl ⟨some w.heap.size,r.len,cap,r.sz⟩) else ρ j,M',g1,g2,g3,g4,by simp⟩)
    (rekey_sound h st tm (ρ':=fun j=>if j=k then some (.sl ⟨some w.heap.size,r.len,cap,r.sz⟩) else ρ j) (w':=w') (M':=M') (B:=.vec wm r []) hkeep (fun j hj=>by simp [hj]) (by simp) (fun j hj b hb=>?_) ?_ (fun b off hm=>?_) (fun b off hb hm=>?_) (fun b off hb hl hm=>.inl ⟨hm,st.notFresh hb hl⟩) (fun b hb=>?_) ?_ (fun b hb j hj hjb=>?_))
  · have hblt:=blk_lt st hb
    refine ⟨by rw [hw];simp [Array.getElem?_push,Nat.ne_of_lt hblt],fun off=>⟨fun hm=>hm.elim (fun hm=>hm.1) (fun hm=>absurd hm.1 (Nat.ne_of_lt hblt)),fun hm=>.inl ⟨hm,fun hk=>hj (st.inj _ _ _ hb hk)⟩⟩⟩
  · exact ⟨hs.1,fun b hb=>(hs.2 b hb).imp id fun hh=>hh.imp (fun ⟨c1,c2,t,h1,h2,h3,h4⟩=>⟨c1,c2,t,h1,h2,h3,fun off _=>h4 off (by simp)⟩) (fun ⟨_,_,_,_,_,_,hf⟩=>hf.elim),hs.3⟩
  · rw [hw];simp
    rcases hm with hm|hm
    · exact Nat.lt_succ_of_lt (st.mlt _ _ hm.1)
    · rw [hm.1];exact Nat.lt_succ_self _
  · have hb':=Nat.lt_of_lt_of_le hb st.stp.1
    exact hm.elim (fun hm=>hm.1) (fun hm=>absurd hm.1 (Nat.ne_of_lt hb'))
  · simp [hasB,Own.has] at hb
    rw [←hb];exact .inl st.stp.1
  · refine ⟨⟨⟨some w.heap.size,r.len,cap,r.sz⟩,by simp,rfl,rfl,hlb,hwm,hcap,cs,ty,by rw [hw];simp,hcs,fun off=>?_,fun q hq=>?_⟩,.inl rfl⟩
    · exact ⟨fun hm=>hm.elim (fun hm=>absurd hm (hnd off)) (fun hm=>hm.2),fun hm=>.inr ⟨rfl,hm⟩⟩
    · obtain ⟨c,h1,h2⟩:=hc q hq;exact ⟨c,h1,h2.keep hkeep⟩
  · have:=blk_lt st hjb
    simp [hasB,Own.has] at hb
    omega
theorem nilKey_sound {k:Nat} {T:List AV} {a:Act} {K:List AV→Store→Prop} (h:killK k T S K) (st:St M0 ρ M S w) (tm:Tm ρ w M T a) {wm:Nat} {r:RO} (hr:r.len=0) (hwm:wm≤r.len):
    ∃T' S' ρ' M',K T' S'∧St M0 ρ' M' ((k,.vec wm r [])::S') w∧Tm ρ' w M' T' a∧T'.length=T.length∧ρ' k=some (.sl ⟨none,0,0,r.sz⟩):=by
  refine (fun ⟨T',S',g1,g2,g3,g4⟩=>⟨T',S',fun j=>if j=k then some (.sl ⟨none,0,0,r.sz⟩) else ρ j,dropM M ρ k,g1,g2,g3,g4,by simp⟩)
    (rekey_sound h st tm (ρ':=fun j=>if j=k then some (.sl ⟨none,0,0,r.sz⟩) else ρ j) (w':=w) (M':=dropM M ρ k) (B:=.vec wm r []) (keep_drop _ _ _ _) (fun j hj=>by simp [hj]) (by simp) (fun j hj b hb=>?_) (Stp.refl _ _) (fun b off hm=>st.mlt b off hm.1) (fun b off hb hm=>hm.1) (fun b off hb hl hm=>⟨hm,st.notFresh hb hl⟩) (fun b hb=>by simp [hasB,Own.has] at hb) ?_ (fun b hb=>?_))
  · exact ⟨rfl,fun off=>⟨fun hm=>hm.1,fun hm=>⟨hm,fun hk=>hj (st.inj _ _ _ hb hk)⟩⟩⟩
  · exact ⟨⟨⟨none,0,0,r.sz⟩,by simp,hr.symm,rfl,by rw [hr];exact Nat.zero_le _,hwm,hr,rfl⟩,.inl rfl⟩
  · simp [hasB,Own.has] at hb
theorem sameKey_sound {k b:Nat} {T:List AV} {a:Act} {K:List AV→Store→Prop} (h:killK k T S K) (st:St M0 ρ M S w) (tm:Tm ρ w M T a)
    {o:Sl} {wm:Nat} {r r':RO} {cs cs':Array Value} {ty:Nat} (hk:ρ k=some (.sl o)) (hb:o.blk=some b) (hf:findS S k=some (.vec wm r [])) (hcs:w.heap[b]? =some (.cells cs ty (0,0)))
    (hsz:cs'.size=cs.size) (hpre:∀q,q<wm*r.sz→cs'[q]? =cs[q]?) (hz:r'.sz=r.sz) (hle:r.len≤r'.len) (hcap:r'.len≤o.cap) (hlb:r'.len≤LB)
    (hc:∀q,q<r'.cells→∃c,cs'[q]? =some c∧CellP w M r' q c):
    ∃T' S' ρ' M',K T' S'∧St M0 ρ' M' ((k,.vec wm r' [])::S') (w.setRow b cs')∧Tm ρ' (w.setRow b cs') M' T' a∧T'.length=T.length∧ρ' k=some (.sl ⟨some b,r'.len,o.cap,r'.sz⟩):=by
  obtain ⟨⟨o',g1,g2,g3,g4,g5,g6⟩,_⟩:=st.blk k _ hf
  rw [hk] at g1;cases g1
  simp only [hb] at g6
  obtain ⟨g7,cs0,ty0,g8,g9,g10,g11⟩:=g6
  rw [hcs] at g8;cases g8
  have hdiff:∀off,¬M b off→cs'[off]? =cs[off]? :=fun off hn=>by
    by_cases h1:off<wm*r.sz
    · exact hpre off h1
    · have h2:cs.size≤off:=Nat.le_of_not_lt fun hlt=>hn ((g10 off).2 ⟨by rw [g3];omega,hlt⟩)
      rw [Array.getElem?_eq_none h2,Array.getElem?_eq_none (by rw [hsz];exact h2)]
  have hstp:=setRow_stp (M:=M) hcs hsz hdiff
  have hkeep:Keep w M (w.setRow b cs') M:=hstp.keep fun _ _ _ h=>h
  have hbk:hasB ρ k b:=by simp [hasB,hk,Own.has,hb]
  refine (fun ⟨T',S',g1,g2,g3,g4⟩=>⟨T',S',fun j=>if j=k then some (.sl ⟨some b,r'.len,o.cap,r'.sz⟩) else ρ j,M,g1,g2,g3,g4,by simp⟩)
    (rekey_sound h st tm (ρ':=fun j=>if j=k then some (.sl ⟨some b,r'.len,o.cap,r'.sz⟩) else ρ j) (w':=w.setRow b cs') (M':=M) (B:=.vec wm r' []) hkeep (fun j hj=>by simp [hj]) (by simp) (fun j hj b' hb'=>?_) ((setRow_stp (M:=fun b' off=>b'=b∧M b' off) hcs hsz fun off hn=>hdiff off fun hm=>hn ⟨rfl,hm⟩).weaken fun b' off he=>by obtain ⟨rfl,hm⟩:=he;exact (Nat.lt_or_ge b' w0.heap.size).elim (fun hlt=>.inr ⟨(st.fresh k b' hbk).resolve_left (Nat.not_le_of_lt hlt),st.sub b' off hlt hm⟩) .inl) (fun b' off hm=>Nat.lt_of_lt_of_le (st.mlt b' off hm) hstp.1) (fun _ _ _ hm=>hm) (fun _ _ _ _ hm=>hm) (fun b' hb'=>by simp [hasB,Own.has] at hb';rw [←hb'];exact st.fresh k b hbk) ?_ (fun b' hb' j hj hjb=>?_))
  · exact ⟨setRow_other w b b' cs' fun e=>hj (st.inj _ _ b (e▸hb') hbk),fun _=>Iff.rfl⟩
  · refine ⟨⟨⟨some b,r'.len,o.cap,r'.sz⟩,by simp,rfl,rfl,hlb,by omega,hcap,cs',ty,setRow_heap w b cs cs' ty _ hcs,by rw [hsz,g9,g3,hz],fun off=>?_,fun q hq=>?_⟩,.inl rfl⟩
    · rw [g10 off,hsz,g3,hz]
    · obtain ⟨c,h1,h2⟩:=hc q hq;exact ⟨c,h1,h2.keep hkeep⟩
  · simp [hasB,Own.has] at hb'
    subst hb'
    exact hj (st.inj _ _ _ hjb hbk)
theorem stkNew_sound {k n:Nat} {T:List AV} {a:Act} {K:List AV→Store→Prop} (h:delS S k fun S=>sweepT k .any T fun T=>sweepS k .any S fun S=>K T S) (st:St M0 ρ M S w) (tm:Tm ρ w M T a)
    {o cur:Sl} (hk:ρ k=some (.st o cur)) {w':World} {cs:Array Value} {ty cap:Nat} {r:RO} (hj:JnkH w M o n r.sz) (hw:w'.heap=w.heap.push (.cells cs ty (0,0))) (hio:IoS w w') (hcs:cs.size=cap*r.sz) (hcap:r.len≤cap) (hlb:r.len≤LB)
    (hc:∀q,q<r.cells→∃c,cs[q]? =some c∧CellP w M r q c):
    ∃T' S' ρ' M',K T' S'∧St M0 ρ' M' ((k,.stk n r)::S') w'∧Tm ρ' w' M' T' a∧T'.length=T.length∧ρ' k=some (.st o ⟨some w.heap.size,r.len,cap,r.sz⟩):=by
  have hs:Stp (fun _ _=>False) w w':=⟨by rw [hw];simp,fun b hb=>.inl (by rw [hw];simp [Array.getElem?_push,Nat.ne_of_lt hb]),hio⟩
  let M':Msk:=fun b off=>M b off∨(b=w.heap.size∧off<cs.size)
  have hkeep:Keep w M w' M':=fun b off c h1 h2=>⟨hs.cell h1 (fun h=>h),fun hm=>hm.elim h2 (fun hm=>absurd hm.1 (Nat.ne_of_lt (cell_lt h1)))⟩
  have hnd:∀off,¬M w.heap.size off:=fun off hm=>absurd (st.mlt _ _ hm) (Nat.lt_irrefl _)
  have hold:∀b,b<w.heap.size→w'.heap[b]? =w.heap[b]?∧∀off,M' b off↔M b off:=fun b hb=>
    ⟨by rw [hw];simp [Array.getElem?_push,Nat.ne_of_lt hb],fun off=>⟨fun hm=>hm.elim id (fun hm=>absurd hm.1 (Nat.ne_of_lt hb)),.inl⟩⟩
  have ho:∀b,o.blk=some b→hasB ρ k b:=fun b hb=>by simp [hasB,hk,Own.has,hb]
  refine (fun ⟨T',S',g1,g2,g3,g4⟩=>⟨T',S',fun j=>if j=k then some (.st o ⟨some w.heap.size,r.len,cap,r.sz⟩) else ρ j,M',g1,g2,g3,g4,by simp⟩)
    (rekey2_sound h st tm (ρ':=fun j=>if j=k then some (.st o ⟨some w.heap.size,r.len,cap,r.sz⟩) else ρ j) (w':=w') (M':=M') (B:=.stk n r) hkeep (fun j hj=>by simp [hj]) (by simp) (fun j hj b hb=>hold b (blk_lt st hb)) ?_ (fun b off hm=>?_) (fun b off hb hm=>?_) (fun b off hb hl hm=>.inl hm) (fun b hb=>?_) ?_ (fun b hb j hj hjb=>?_) (fun ow hl ho=>by simp at ho;subst ho;exact st.pin k (.st o cur) hl hk))
  · exact ⟨hs.1,fun b hb=>(hs.2 b hb).imp id fun hh=>hh.imp (fun ⟨c1,c2,t,h1,h2,h3,h4⟩=>⟨c1,c2,t,h1,h2,h3,fun off _=>h4 off (by simp)⟩) (fun ⟨_,_,_,_,_,_,hf⟩=>hf.elim),hs.3⟩
  · rw [hw];simp
    rcases hm with hm|hm
    · exact Nat.lt_succ_of_lt (st.mlt _ _ hm)
    · rw [hm.1];exact Nat.lt_succ_self _
  · have hb':=Nat.lt_of_lt_of_le hb st.stp.1
    exact hm.elim id (fun hm=>absurd hm.1 (Nat.ne_of_lt hb'))
  · simp [hasB,Own.has] at hb
    rcases hb with hb|hb
    · exact st.fresh k b (ho b hb)
    · rw [←hb];exact .inl st.stp.1
  · refine ⟨o,⟨some w.heap.size,r.len,cap,r.sz⟩,by simp,⟨rfl,rfl,hlb,Nat.zero_le _,hcap,cs,ty,by rw [hw];simp,hcs,fun off=>?_,fun q hq=>?_⟩,hj.ext fun b hb=>hold b (blk_lt st (ho b hb))⟩
    · exact ⟨fun hm=>⟨by simp,hm.elim (fun hm=>absurd hm (hnd off)) (fun hm=>hm.2)⟩,fun hm=>.inr ⟨rfl,hm.2⟩⟩
    · obtain ⟨c,h1,h2⟩:=hc q hq;exact ⟨c,h1,h2.keep hkeep⟩
  · have:=blk_lt st hjb
    simp [hasB,Own.has] at hb
    rcases hb with hb|hb
    · exact hj (st.inj _ _ _ hjb (ho b hb))
    · omega
theorem stkSame_sound {k n:Nat} {T:List AV} {a:Act} {K:List AV→Store→Prop} (h:delS S k fun S=>sweepT k .any T fun T=>sweepS k .any S fun S=>K T S) (st:St M0 ρ M S w) (tm:Tm ρ w M T a)
    {o cur cur':Sl} (hk:ρ k=some (.st o cur)) {r:RO} (hj:JnkH w M o n r.sz) (hb:cur'.blk=cur.blk) (hV:VecH ρ w M cur' 0 r []):
    ∃T' S' ρ',K T' S'∧St M0 ρ' M ((k,.stk n r)::S') w∧Tm ρ' w M T' a∧T'.length=T.length∧ρ' k=some (.st o cur'):=by
  have ho:∀b,(Own.st o cur').has b→hasB ρ k b:=fun b h=>by simp only [hasB,hk];simp only [Own.has,hb] at h;exact h
  refine (fun ⟨T',S',g1,g2,g3,g4⟩=>⟨T',S',fun j=>if j=k then some (.st o cur') else ρ j,g1,g2,g3,g4,by simp⟩)
    (rekey2_sound h st tm (ρ':=fun j=>if j=k then some (.st o cur') else ρ j) (w':=w) (M':=M) (B:=.stk n r) (Keep.refl _ _) (fun j hj=>by simp [hj]) (by simp) (fun j hj b hb=>⟨rfl,fun _=>Iff.rfl⟩) (Stp.refl _ _) st.mlt (fun _ _ _ hm=>hm) (fun _ _ _ _ hm=>hm) (fun b hb'=>st.fresh k b (ho b (by simpa [hasB] using hb')))
      ⟨o,cur',by simp,hV.env,hj⟩ (fun b hb' j hj hjb=>hj (st.inj _ _ _ hjb (ho b (by simpa [hasB] using hb')))) (fun ow hl ho=>by simp at ho;subst ho;exact st.pin k (.st o cur) hl hk))
theorem stkWrite_sound {k n b:Nat} {T:List AV} {a:Act} {K:List AV→Store→Prop} (h:delS S k fun S=>sweepT k .any T fun T=>sweepS k .any S fun S=>K T S) (st:St M0 ρ M S w) (tm:Tm ρ w M T a)
    {o cur:Sl} {r r':RO} {cs cs':Array Value} {ty:Nat} (hk:ρ k=some (.st o cur)) (hj:JnkH w M o n r.sz) (hV:VecH ρ w M cur 0 r []) (hb:cur.blk=some b) (hcs:w.heap[b]? =some (.cells cs ty (0,0)))
    (hsz:cs'.size=cs.size) (hz:r'.sz=r.sz) (hcap:r'.len≤cur.cap) (hlb:r'.len≤LB)
    (hc:∀q,q<r'.cells→∃c,cs'[q]? =some c∧CellP w M r' q c):
    ∃T' S' ρ' M',K T' S'∧St M0 ρ' M' ((k,.stk n r')::S') (w.setRow b cs')∧Tm ρ' (w.setRow b cs') M' T' a∧T'.length=T.length∧ρ' k=some (.st o ⟨some b,r'.len,cur.cap,r'.sz⟩):=by
  obtain ⟨g2,g3,g4,g5,g6⟩:=hV
  simp only [hb] at g6
  obtain ⟨g7,cs0,ty0,g8,g9,g10,g11⟩:=g6
  rw [hcs] at g8;cases g8
  have hdiff:∀off,¬M b off→cs'[off]? =cs[off]? :=fun off hn=>by
    have h2:cs.size≤off:=Nat.le_of_not_lt fun hlt=>hn ((g10 off).2 ⟨by simp,hlt⟩)
    rw [Array.getElem?_eq_none h2,Array.getElem?_eq_none (by rw [hsz];exact h2)]
  have hstp:=setRow_stp (M:=M) hcs hsz hdiff
  have hkeep:Keep w M (w.setRow b cs') M:=hstp.keep fun _ _ _ h=>h
  have hbk:hasB ρ k b:=by simp [hasB,hk,Own.has,hb]
  have ho:∀b,(Own.st o ⟨cur.blk,r'.len,cur.cap,r'.sz⟩).has b→hasB ρ k b:=fun b h=>by simp only [hasB,hk];simp only [Own.has] at h;exact h
  refine (fun ⟨T',S',g1,g2,g3,g4⟩=>⟨T',S',fun j=>if j=k then some (.st o ⟨some b,r'.len,cur.cap,r'.sz⟩) else ρ j,M,g1,g2,g3,g4,by simp⟩)
    (rekey2_sound h st tm (ρ':=fun j=>if j=k then some (.st o ⟨some b,r'.len,cur.cap,r'.sz⟩) else ρ j) (w':=w.setRow b cs') (M':=M) (B:=.stk n r') hkeep (fun j hj=>by simp [hj]) (by simp) (fun j hj b' hb'=>?_) ((setRow_stp (M:=fun b' off=>b'=b∧M b' off) hcs hsz fun off hn=>hdiff off fun hm=>hn ⟨rfl,hm⟩).weaken fun b' off he=>by obtain ⟨rfl,hm⟩:=he;exact (Nat.lt_or_ge b' w0.heap.size).elim (fun hlt=>.inr ⟨(st.fresh k b' hbk).resolve_left (Nat.not_le_of_lt hlt),st.sub b' off hlt hm⟩) .inl) (fun b' off hm=>Nat.lt_of_lt_of_le (st.mlt b' off hm) hstp.1) (fun _ _ _ hm=>hm) (fun _ _ _ _ hm=>hm) (fun b' hb'=>st.fresh k b' (ho b' (by simpa [hasB,hb] using hb'))) ?_ (fun b' hb' j hj hjb=>hj (st.inj _ _ _ hjb (ho b' (by simpa [hasB,hb] using hb')))) (fun ow hl ho=>by simp at ho;subst ho;exact st.pin k (.st o cur) hl hk))
  · exact ⟨setRow_other w b b' cs' fun e=>hj (st.inj _ _ b (e▸hb') hbk),fun _=>Iff.rfl⟩
  · refine ⟨o,⟨some b,r'.len,cur.cap,r'.sz⟩,by simp,⟨rfl,rfl,hlb,Nat.zero_le _,hcap,cs',ty,setRow_heap w b cs cs' ty _ hcs,by rw [hsz,g9,g3,hz],fun off=>?_,fun q hq=>?_⟩,?_⟩
    · rw [g10 off,hsz];simp
    · obtain ⟨c,h1,h2⟩:=hc q hq;exact ⟨c,h1,h2.keep hkeep⟩
    · rw [hz]
      obtain ⟨j1,j2,j3,j4⟩:=hj
      refine ⟨j1,j2,j3,?_⟩
      cases hob:o.blk with
      |none=>simp only [hob] at j4 ⊢;exact j4
      |some b2=>
       simp only [hob] at j4 ⊢
       obtain ⟨j5,cs2,ty2,j6,j7,j8⟩:=j4
       by_cases hbb:b2=b
       · subst hbb
         rw [hcs] at j6;cases j6
         exact ⟨j5,cs',ty,setRow_heap w b2 cs cs' ty _ hcs,by rw [hsz];exact j7,fun off=>by rw [hsz];exact j8 off⟩
       · exact ⟨j5,cs2,ty2,by rw [setRow_other w b b2 cs' hbb];exact j6,j7,j8⟩
theorem run_append_room' (t ty e:TypeId) (i:TypeInfo) (ht:P.underlying t=some (.slice e)) (hi:P.info? e=some i)
    (g sLen sCap tag:Nat) (cur:Array Value) (hg:w.heap[g]? =some (.cells cur tag (0,0)))
    (a:Addr) (m c:Nat) (news:List Value) (hl:news.length=m*i.size) (hnews:∀j u,news[j]? =some u→w.cell? (a.add j)=some u) (h1:∀u∈news,u.oneCell'=true)
    (hroom:sLen+m≤sCap) (hfit:sLen*i.size+news.length≤cur.size):
    (Builtin.append_ #[t,t] ty #[.slice (some ⟨g,0,none⟩) sLen sCap,.slice (some a) m c]).run P w=
      .ok (.slice (some ⟨g,0,none⟩) (sLen+m) sCap) (w.setRow g (cur.toList.take (sLen*i.size)++news++cur.toList.drop (sLen*i.size+news.length)).toArray):=by
  have hf:=run_firstCells_some (P:=P) w i.size m a m c news hl hnews
  have hst:=run_storeCells_at P g (sLen*i.size) tag news 0 cur w hg (by simpa using hfit) h1
  simp only [Nat.add_zero] at hst
  have hub:(underlying t).run P w= .ok (.slice e) w:=by simp [underlying,ht]
  have hadd:(⟨g,0,none⟩:Addr).add (sLen*i.size)=⟨g,sLen*i.size,none⟩:=by rw [addr_add,Nat.zero_add]
  simp [Builtin.append_,hub,sizeOf,typeInfo,hi,Builtin.lenOf,hroom,hf,hadd,hst]
def Post (w0:World) (M0:Base w0) (a:Act) (n:Nat) (K:AV→List AV→Store→Prop) (u:Value) (w':World):Prop:=
  ∃ρ' M' T' S' v,K v T' S'∧St M0 ρ' M' S' w'∧Tm ρ' w' M' T' a∧T'.length=n∧RepT ρ' w' M' v u
theorem append_sound (hty:TyOk P TY) {F:Spec} {c:Call} {T:List AV} {K:AV→List AV→Store→Prop} {a:Act} {oo:Oper} (hcal:c.callee= .builtin .append) (h:opB TY F d (.call c) T S K)
    (ho:oo.op= .call c) (st:St M0 ρ M S w) (tm:Tm ρ w M T a):Runs P (execOp a.eval oo) w (Post w0 M0 a T.length K):=by
  simp only [opB,quietOp,hcal] at h
  split at h
  · rename_i x y t t' hargs htys
    split at h
    · rename_i e htt hd
      have htt:=beq_iff'.1 htt
      subst htt
      have hu:=slice_row hty hd
      have hc1:c.args= #[x,y]:=by simpa using congrArg List.toArray hargs
      have hc2:c.argTypes= #[t,t]:=by simpa using congrArg List.toArray htys
      rw [ifK_iff,eval_iff,eval_iff] at h
      obtain ⟨hzb,h⟩:=h
      have hx:=eval_rep tm x
      have hy:=eval_rep tm y
      have hexec:∀v w',(Builtin.append_ #[t,t] oo.type #[a.eval x,a.eval y]).run P w= .ok v w'→(execOp a.eval oo).run P w= .ok (.value v) w':=fun v w' hr=>by
        simp [execOp,ho,resolve,hcal,hc1,hc2,invoke,builtin,hr]
      generalize evalF T x=ax at h hx
      have hne:(nthT TY e).zero≠[]:=fun he=>by rw [he] at hzb;cases hzb
      have hrow:TyRow P e (nthT TY e):=by
        rcases Nat.lt_or_ge e TY.length with h'|h'
        · exact hty.row e h'
        · rw [nthT_other h'] at hne;exact absurd rfl hne
      obtain ⟨i,_,hi,_,hs,hby,_,hz⟩:=hrow.row
      obtain ⟨z,hz1,hz2⟩:=hz hne
      have hzs:z.cells.size=(nthT TY e).sz:=by rw [←hz2.2.2.2.2,hz2.1.length,Array.length_toList]
      have elem:∀r,okSl TY t r=true→i.size=r.sz∧z.cells.size=r.sz:=fun r hok=>by
        obtain ⟨e',hd',_,hes,_⟩:=okSl_row hty hok
        rw [hd] at hd';cases hd'
        exact ⟨by rw [hs,hes],by rw [hzs,hes]⟩
      have hcap:∀{k:Nat} {o:Sl},(ρ k).bind Own.sli=some o→o.len≤o.cap∧(o.blk=none→o.len=0∧o.cap=0):=fun {k o} hk=>by
        have hsome:(findS S k).isSome:=by rw [←st.dom k];exact bind_isSome hk
        obtain ⟨B,hB⟩:=Option.isSome_iff_exists.1 hsome
        have hBH:=st.blk k B hB
        cases B with
        |box l=>obtain ⟨b,h1,_⟩:=hBH;rw [h1] at hk;cases hk
        |map kd vk m=>obtain ⟨b,h1,_⟩:=hBH;rw [h1] at hk;cases hk
        |stk n r=>
         obtain ⟨o',cur,h1,h2,_⟩:=hBH
         have hco:cur=o:=by rw [of_st h1] at hk;exact Option.some.inj hk
         rw [hco] at h2
         obtain ⟨h2,_,_,_,h3⟩:=h2
         cases hb:o.blk with
         |none=>simp only [hb] at h3;exact ⟨by omega,fun _=>⟨by omega,h3.2⟩⟩
         |some b=>simp only [hb] at h3;exact ⟨h3.1,fun he=>by cases he⟩
        |jnk n z=>
         obtain ⟨o',h1,h2,_,_,h3⟩:=hBH
         obtain rfl:=sli_sl h1 hk
         cases hb:o.blk with
         |none=>simp only [hb] at h3;exact ⟨by omega,fun _=>⟨by omega,h3.2⟩⟩
         |some b=>simp only [hb] at h3;exact ⟨h3.1,fun he=>by cases he⟩
        |deep r hole=>
         obtain ⟨o',rows,h1,h2⟩:=hBH
         rw [h1] at hk;cases hk
         have h3:=h2.outer
         have h4:=h2.len
         cases hb:o.blk with
         |none=>simp only [hb] at h3;exact ⟨by omega,fun _=>⟨by omega,h3.2⟩⟩
         |some b=>simp only [hb] at h3;exact ⟨h3.1,fun he=>by cases he⟩
        |gho l i j=>
         obtain ⟨o',rows,h1,h2,_⟩:=hBH
         rw [h1] at hk;cases hk
         have h3:=h2.outer
         have h4:=h2.len
         cases hb:o.blk with
         |none=>simp only [hb] at h3;exact ⟨by omega,fun _=>⟨by omega,h3.2⟩⟩
         |some b=>simp only [hb] at h3;exact ⟨h3.1,fun he=>by cases he⟩
        |vec wm r ov=>
         obtain ⟨⟨o',h1,h2,_,_,_,h3⟩,_⟩:=hBH
         obtain rfl:=sli_sl h1 hk
         cases hb:o.blk with
         |none=>simp only [hb] at h3;exact ⟨by omega,fun _=>⟨by omega,h3.2⟩⟩
         |some b=>simp only [hb] at h3;exact ⟨h3.1,fun he=>by cases he⟩
      rcases src_iff h st hy with ⟨h,hyv⟩|⟨r',h,hlb',ad,cap',hyv,hcells'⟩
      ·
        cases ax<;>try exact h.elim
        · rename_i k
          obtain ⟨o,g1,g2⟩:=hx
          refine .val (hexec o.val w ?_) ⟨ρ,M,T,S,_,h,st,tm,rfl,o,g1,rfl⟩
          rw [g2,hyv]
          exact run_append_empty hu hi _ _ _ _ _ (hcap g1).1 w
        · have hxv:a.eval x= .slice none 0 0:=hx
          refine .val (hexec (.slice none 0 0) w ?_) ⟨ρ,M,T,S,_,h,st,tm,rfl,rfl⟩
          rw [hxv,hyv]
          exact run_append_empty hu hi _ _ _ _ _ (Nat.le_refl _) w
        · rename_i r
          obtain ⟨hr,ad,hxv⟩:=hx
          refine .val (hexec (a.eval x) w ?_) ⟨ρ,M,T,S,_,h,st,tm,rfl,hr⟩
          rw [hxv,hyv]
          exact run_append_empty hu hi _ _ _ _ _ (Nat.le_refl _) w
      ·
        have hnews:∀n,n=r'.cells→0<n→∃b off,ad=some ⟨b,off,none⟩∧∃l:List Value,l.length=n∧(∀j v,l[j]? =some v→w.cell? ((⟨b,off,none⟩:Addr).add j)=some v)∧∀q,q<n→∃c,l[q]? =some c∧CellP w M r' q c:=by
          intro n hn hpos
          subst hn
          rcases hcells' with h0|⟨b,off,h1,h2⟩
          · omega
          · obtain ⟨l,h3,h4,h5⟩:=cells_list h2
            exact ⟨b,off,h1,l,h3,fun j v hj=>by rw [addr_add];exact h4 j v hj,h5⟩
        have fresh:∀{r:RO} {old:Nat} {news:List Value},okSl TY t r=true→news.length=r.cells→(∀q,q<r.cells→∃c,news[q]? =some c∧CellP w M r q c)→
            (Builtin.append_ #[t,t] oo.type #[a.eval x,a.eval y]).run P w= .ok (.slice (some ⟨w.heap.size,0,none⟩) r.len (grownCap w r.len old e)) (w.drew.alloc (.cells (news.toArray++Builtin.zeroCells z.cells (grownCap w r.len old e - r.len)) e))→
            (∀{cs:Array Value} {cap:Nat} {w':World},w'.heap=w.heap.push (.cells cs e (0,0))→IoS w w'→cs.size=cap*r.sz→r.len≤cap→(∀q,q<r.cells→∃c,cs[q]? =some c∧CellP w M r q c)→
              Post w0 M0 a T.length K (.slice (some ⟨w.heap.size,0,none⟩) r.len cap) w')→Runs P (execOp a.eval oo) w (Post w0 M0 a T.length K):=by
          intro r old news hok hnl hnc hrun fin
          refine .val (hexec _ _ hrun) (fin (w':=w.drew.alloc (.cells (news.toArray++Builtin.zeroCells z.cells (grownCap w r.len old e - r.len)) e))
            (cs:=news.toArray++Builtin.zeroCells z.cells (grownCap w r.len old e - r.len)) (cap:=grownCap w r.len old e) rfl (by first|exact IoS.refl _|exact ⟨⟨rfl,rfl⟩,rfl,Nat.le_succ _⟩) (by
              have hge:=grownCap_ge w r.len old e
              simp only [Array.size_append,List.size_toArray,size_zeroCells,hnl,(elem r hok).2,RO.cells,←Nat.add_mul]
              congr 1;omega) (grownCap_ge _ _ _ _) fun q hq=>?_)
          obtain ⟨c,h1,h2⟩:=hnc q hq
          refine ⟨c,?_,h2⟩
          rw [Array.getElem?_append_left (by simp [hnl];exact hq)]
          simpa using h1
        have grow:∀{o:Sl} {wm:Nat} {r r2:RO},VecH ρ w M o wm r []→a.eval x=o.val→okSl TY t r=true→r2.len=r.len+r'.len→r2.sz=r.sz→r'.sz=r.sz→
            (∀(w:World) (M:Msk) q c,(if q<r.cells then CellP w M r q c else CellP w M r' (q - r.cells) c)→CellP w M r2 q c)→((nthT TY e).bytes:Int)*r2.len≤140737488355328→(r2.len:Int)≤17592186044416→
            (o.blk=none→r2.len=0→Post w0 M0 a T.length K o.val w)→
            (∀b cs cs' ty,o.blk=some b→w.heap[b]? =some (.cells cs ty (0,0))→cs'.size=cs.size→(∀q,q<wm*r.sz→cs'[q]? =cs[q]?)→r2.len≤o.cap→(∀q,q<r2.cells→∃c,cs'[q]? =some c∧CellP w M r2 q c)→
              Post w0 M0 a T.length K (.slice (some ⟨b,0,none⟩) r2.len o.cap) (w.setRow b cs'))→
            (∀{cs:Array Value} {cap:Nat} {w':World},w'.heap=w.heap.push (.cells cs e (0,0))→IoS w w'→cs.size=cap*r2.sz→r2.len≤cap→(∀q,q<r2.cells→∃c,cs[q]? =some c∧CellP w M r2 q c)→
              Post w0 M0 a T.length K (.slice (some ⟨w.heap.size,0,none⟩) r2.len cap) w')→Runs P (execOp a.eval oo) w (Post w0 M0 a T.length K):=by
            intro o wm r r2 hV g2 hok hl2 hz2' hz2'' hcell2 hbytes hlim finN finS finF
            have hlb2:r2.len≤LB:=by simp only [LB];omega
            obtain ⟨g4,g5,g6,g7,g8⟩:=hV
            have hok2:okSl TY t r2=true:=by
              have key:∀r:RO,okSl TY t r=(match (nthT TY t).d with|.slice e=>Nat.beq (nthT TY e).sz r.sz|_=>false):=fun r=>by
                unfold okSl
                cases (nthT TY t).d<;>first|rfl|(cases r<;>rfl)
              rw [key] at hok ⊢
              rw [hz2'];exact hok
            have hsz:i.size=r.sz:=(elem r hok).1
            have hby':r2.len*i.bytes≤140737488355328:=by
              have:((r2.len*i.bytes:Nat):Int)=((nthT TY e).bytes:Int)*r2.len:=by rw [hby,Nat.mul_comm];push_cast;rfl
              omega
            have hlc:o.len≤o.cap∧(o.blk=none→o.len=0∧o.cap=0):=by
              cases hb:o.blk with
              |none=>simp only [hb] at g8;exact ⟨by omega,fun _=>⟨by omega,g8.2⟩⟩
              |some b=>simp only [hb] at g8;exact ⟨g8.1,fun he=>by cases he⟩
            have hc2:r2.cells=r.cells+r'.cells:=by simp only [RO.cells,hl2,hz2',hz2'',Nat.add_mul]
            by_cases hr0:r'.len=0
            ·
              have hc0:r'.cells=0:=by simp [RO.cells,hr0]
              have hrun:(Builtin.append_ #[t,t] oo.type #[a.eval x,a.eval y]).run P w= .ok o.val w:=by
                rw [g2,hyv,hr0];exact run_append_empty hu hi _ _ _ _ _ hlc.1 w
              cases hb:o.blk with
              |none=>
               simp only [hb] at g8
               exact .val (hexec _ _ hrun) (finN hb (by omega))
              |some b=>
               simp only [hb] at g8
               obtain ⟨g9,cs,ty,g10,g11,g12,g13⟩:=g8
               have:=finS b cs cs ty hb g10 rfl (fun _ _=>rfl) (by omega) (fun q hq=>by
                 obtain ⟨c,h1,h2⟩:=g13 q (by omega)
                 exact ⟨c,h1,hcell2 w M q c (by rw [if_pos (by omega)];exact h2)⟩)
               rw [setRow_self w b cs ty (0,0) g10] at this
               refine .val (hexec _ _ hrun) ?_
               rw [Sl.val,hb]
               rw [show o.len=r2.len from by omega]
               exact this
            · have hpos:0<r'.cells:=Nat.mul_pos (by omega) r'.sz_pos
              obtain ⟨b',off',rfl,l,n1,n2,n3⟩:=hnews _ rfl hpos
              cases hb:o.blk with
              |none=>
               simp only [hb] at g8
               have hrun:=run_append_nil (P:=P) w t oo.type e i z hu hi hz1 ⟨b',off',none⟩ r'.len cap' l (by rw [n1,RO.cells,hsz,hz2'']) n2 (by omega) (by simp only [LB] at hlb';omega) (by
                 have:r'.len*i.bytes≤r2.len*i.bytes:=Nat.mul_le_mul_right _ (by omega)
                 omega)
               have hlen:r2.len=r'.len:=by omega
               refine fresh (r:=r2) (old:=0) (news:=l) hok2 (by rw [n1,hc2];simp [RO.cells,g8.1]) (fun q hq=>?_) ?_ finF
               · have hr0':r.cells=0:=by simp [RO.cells,g8.1]
                 obtain ⟨c,h1,h2⟩:=n3 q (by omega)
                 exact ⟨c,h1,hcell2 w M q c (by rw [if_neg (by omega),hr0'];exact h2)⟩
               · rw [g2,hyv,hlen,Sl.val,hb,g4,g8.1,g8.2]
                 exact hrun
              |some b=>
               simp only [hb] at g8
               obtain ⟨g9,cs,ty,g10,g11,g12,g13⟩:=g8
               have hlo:r.cells≤cs.size:=by rw [g11,g5];exact Nat.mul_le_mul_right _ (by omega)
               by_cases hroom:o.len+r'.len≤o.cap
               ·
                 have hfit:o.len*i.size+l.length≤cs.size:=by
                   rw [n1,g11,hsz,g5,RO.cells,hz2'',←Nat.add_mul];exact Nat.mul_le_mul_right _ hroom
                 have honel:∀v∈l,v.oneCell'=true:=fun v hv=>by
                   obtain ⟨j,hj⟩:=List.mem_iff_getElem?.1 hv
                   have hjl:j<r'.cells:=by
                     rw [←n1]
                     rcases Nat.lt_or_ge j l.length with h'|h'
                     · exact h'
                     · rw [List.getElem?_eq_none h'] at hj;cases hj
                   obtain ⟨c,h1,h2⟩:=n3 j hjl
                   rw [hj] at h1;cases h1
                   exact oneCell_of h2.isCell
                 have hrun:=run_append_room' (P:=P) (w:=w) t oo.type e i hu hi b o.len o.cap ty cs g10 ⟨b',off',none⟩ r'.len cap' l (by rw [n1,RO.cells,hsz,hz2'']) n2 honel hroom hfit
                 have hol:o.len*i.size=r.cells:=by rw [g4,hsz];rfl
                 let cs':=(cs.toList.take (o.len*i.size)++l++cs.toList.drop (o.len*i.size+l.length)).toArray
                 have hget:∀q,cs'[q]? =if r.cells≤q∧q<r.cells+r'.cells then l[q - r.cells]? else cs[q]? :=fun q=>by
                   have:=splice_get (l:=cs.toList) (m:=l) (o:=o.len*i.size) (q:=q) (by simpa using hfit)
                   simp only [Array.getElem?_toList,hol,n1] at this
                   simp only [cs',List.getElem?_toArray,hol,n1]
                   exact this
                 have hcsz:cs'.size=cs.size:=by simp [cs'];omega
                 have hfin:=finS b cs cs' ty hb g10 hcsz (fun q hq=>by
                   have:wm*r.sz≤r.cells:=Nat.mul_le_mul_right _ g7
                   rw [hget q,if_neg (by omega)]) (by omega) (fun q hq=>by
                   rw [hget q]
                   by_cases hqr:q<r.cells
                   · obtain ⟨c,h1,h2⟩:=g13 q hqr
                     rw [if_neg (by omega)]
                     exact ⟨c,h1,hcell2 w M q c (by rw [if_pos hqr];exact h2)⟩
                   · obtain ⟨c,h1,h2⟩:=n3 (q - r.cells) (by omega)
                     rw [if_pos (by omega)]
                     exact ⟨c,h1,hcell2 w M q c (by rw [if_neg hqr];exact h2)⟩)
                 rw [show r2.len=o.len+r'.len from by omega] at hfin
                 exact .val (hexec _ _ (by rw [g2,hyv,Sl.val,hb];exact hrun)) hfin
               ·
                 have holds:∃olds:List Value,olds.length=r.cells∧(∀j v,olds[j]? =some v→w.cell? ((⟨b,0,none⟩:Addr).add j)=some v)∧∀q,q<r.cells→∃c,olds[q]? =some c∧CellP w M r q c:=by
                   obtain ⟨l,h1,h2,h3⟩:=cells_list (w:=w) (b:=b) (off:=0) (n:=r.cells) (C:=CellP w M r) (fun q hq=>by
                     obtain ⟨c,h1,h2⟩:=g13 q hq
                     exact ⟨c,by rw [cell_of_heap g10,Nat.zero_add];exact h1,h2⟩)
                   exact ⟨l,h1,fun j v hj=>by rw [addr_add];exact h2 j v hj,h3⟩
                 obtain ⟨olds,m1,m2,m3⟩:=holds
                 have hlen2:r2.len=o.len+r'.len:=by omega
                 have hrun:=run_append_grow (P:=P) w t oo.type e i z hu hi hz1 ⟨b,0,none⟩ o.len o.cap olds (by rw [m1,RO.cells,hsz,g4]) m2 ⟨b',off',none⟩ r'.len cap' l (by rw [n1,RO.cells,hsz,hz2'']) n2 (by omega)
                   (by omega) (growslice_fits (by omega) (by rw [←hlen2];exact hby'))
                 refine fresh (r:=r2) (old:=o.cap) (news:=olds++l) hok2 (by rw [List.length_append,m1,n1,hc2]) (fun q hq=>?_) ?_ finF
                 · by_cases hqr:q<r.cells
                   · obtain ⟨c,h1,h2⟩:=m3 q hqr
                     exact ⟨c,by rw [List.getElem?_append_left (by omega)];exact h1,hcell2 w M q c (by rw [if_pos hqr];exact h2)⟩
                   · obtain ⟨c,h1,h2⟩:=n3 (q - r.cells) (by omega)
                     exact ⟨c,by rw [List.getElem?_append_right (by omega),m1];exact h1,hcell2 w M q c (by rw [if_neg hqr];exact h2)⟩
                 · rw [g2,hyv,hlen2,Sl.val,hb]
                   simp only [Option.map_some]
                   rw [hrun]
                   simp
        cases ax<;>try exact h.elim
        ·
          rename_i k _
          obtain ⟨o,g1,g2⟩:=hx
          simp only at h
          split at h
          · rename_i wm r hf
            rw [ifK_iff] at h
            obtain ⟨hok,h⟩:=h
            obtain ⟨r2,h,hl2,hz2',hz2'',hcell2⟩:=cat_cells h
            rw [len_iff] at h
            obtain ⟨hbytes,hlim,h⟩:=capP_of h (by omega)
            have hlb2:r2.len≤LB:=by simp only [LB];omega
            obtain ⟨⟨o',g3,g4⟩,_⟩:=st.blk k _ hf
            obtain rfl:=sli_sl g3 g1
            have g7:=g4.2.2.2.1
            refine grow g4 g2 hok hl2 hz2' hz2'' hcell2 (by rw [Int.mul_comm];omega) hlim (fun hb h0=>?_) (fun b cs cs' ty hb hcs hsz hpre hcap hc=>?_) (fun hw hio hcs hcap hc=>?_)
            · obtain ⟨T',S',ρ',M',q1,q2,q3,q4,q5⟩:=nilKey_sound h st tm (wm:=wm) (r:=r2) h0 (by omega)
              refine ⟨ρ',M',T',_,_,q1,q2,q3,q4,_,of_sl q5,?_⟩
              have:=g4.2.2.2.2
              simp only [hb] at this
              rw [Sl.val,Sl.val,hb,g4.1,this.1,this.2]
            · obtain ⟨T',S',ρ',M',q1,q2,q3,q4,q5⟩:=sameKey_sound h st tm (r':=r2) (cs':=cs') g3 hb hf hcs hsz hpre hz2' (by omega) hcap hlb2 hc
              exact ⟨ρ',M',T',_,_,q1,q2,q3,q4,_,of_sl q5,rfl⟩
            · obtain ⟨T',S',ρ',M',q1,q2,q3,q4,q5⟩:=newKey_sound h st tm (wm:=wm) hw hio hcs hcap hlb2 (by omega) hc
              exact ⟨ρ',M',T',_,_,q1,q2,q3,q4,_,of_sl q5,rfl⟩
          · rename_i n0 r hf
            rw [ifK_iff] at h
            obtain ⟨hok,h⟩:=h
            obtain ⟨r2,h,hl2,hz2',hz2'',hcell2⟩:=cat_cells h
            rw [len_iff] at h
            obtain ⟨hbytes,hlim,h⟩:=capP_of h (by omega)
            have hlb2:r2.len≤LB:=by simp only [LB];omega
            obtain ⟨o0,cur,g3,g4,gj⟩:=st.blk k _ hf
            have hco:o=cur:=by rw [of_st g3] at g1;exact (Option.some.inj g1).symm
            subst hco
            refine grow g4 g2 hok hl2 hz2' hz2'' hcell2 (by rw [Int.mul_comm];omega) hlim (fun hb h0=>?_) (fun b cs cs' ty hb hcs hsz hpre hcap hc=>?_) (fun hw hio hcs hcap hc=>?_)
            · have g8:=g4.2.2.2.2
              simp only [hb] at g8
              obtain ⟨T',S',ρ',q1,q2,q3,q4,q5⟩:=stkSame_sound h st tm (cur':=⟨o.blk,0,0,r2.sz⟩) g3 (r:=r2) (by rw [hz2'];exact gj) rfl ⟨h0.symm,rfl,hlb2,Nat.zero_le _,by simp only [hb];exact ⟨h0,trivial⟩⟩
              refine ⟨ρ',M,T',_,_,q1,q2,q3,q4,_,of_st q5,?_⟩
              rw [Sl.val,Sl.val,g4.1,g8.1,g8.2]
            · obtain ⟨T',S',ρ',M',q1,q2,q3,q4,q5⟩:=stkWrite_sound h st tm (r':=r2) (cs':=cs') g3 gj g4 hb hcs hsz hz2' hcap hlb2 hc
              exact ⟨ρ',M',T',_,_,q1,q2,q3,q4,_,of_st q5,rfl⟩
            · obtain ⟨T',S',ρ',M',q1,q2,q3,q4,q5⟩:=stkNew_sound h st tm g3 (by rw [hz2'];exact gj) hw hio hcs hcap hlb2 hc
              exact ⟨ρ',M',T',_,_,q1,q2,q3,q4,_,of_st q5,rfl⟩
          · exact h.elim
        ·
          simp only at h
          rw [ifK_iff,len_iff] at h
          obtain ⟨hok,h⟩:=h
          obtain ⟨hbytes,_,h⟩:=capP_of h (by omega)
          have hxv:a.eval x= .slice none 0 0:=hx
          have hsz:i.size=r'.sz:=(elem r' hok).1
          by_cases hr0:r'.len=0
          · obtain ⟨T',S',ρ',M',q1,q2,q3,q4,q5⟩:=nilKey_sound h st tm (wm:=0) (r:=r') hr0 (Nat.zero_le _)
            refine .val (hexec (.slice none 0 0) w ?_) ⟨ρ',M',T',_,_,q1,q2,q3,q4,_,of_sl q5,rfl⟩
            rw [hxv,hyv,hr0]
            exact run_append_empty hu hi _ _ _ _ _ (Nat.le_refl _) w
          · have hpos:0<r'.cells:=Nat.mul_pos (by omega) r'.sz_pos
            obtain ⟨b',off',rfl,l,n1,n2,n3⟩:=hnews _ rfl hpos
            have hrun:=run_append_nil (P:=P) w t oo.type e i z hu hi hz1 ⟨b',off',none⟩ r'.len cap' l (by rw [n1,RO.cells,hsz]) n2 (by omega) (by simp only [LB] at hlb';omega) (by rw [hby];omega)
            refine fresh (r:=r') (old:=0) (news:=l) hok n1 n3 (by rw [hxv,hyv];exact hrun) fun hw hio hcs hcap hc=>?_
            obtain ⟨T',S',ρ',M',q1,q2,q3,q4,q5⟩:=newKey_sound h st tm (wm:=0) hw hio hcs hcap hlb' (Nat.zero_le _) hc
            exact ⟨ρ',M',T',_,_,q1,q2,q3,q4,_,of_sl q5,rfl⟩
        ·
          rename_i r _
          simp only at h
          rw [ifK_iff] at h
          obtain ⟨hok,h⟩:=h
          obtain ⟨r2,h,hl2,hz2',hz2'',hcell2⟩:=cat_cells h
          rw [len_iff,len_iff] at h
          obtain ⟨hbytes,hlim,hz0,h⟩:=capP_of h (by omega)
          obtain ⟨hr,ad0,hxv⟩:=hx
          by_cases hr0:r'.len=0
          · refine .val (hexec (a.eval x) w ?_) ⟨ρ,M,T,S,_,hz0 hr0,st,tm,rfl,hr⟩
            rw [hxv,hyv,hr0]
            exact run_append_empty hu hi _ _ _ _ _ (Nat.le_refl _) w
          · have h:=h hr0
            have hlb2:r2.len≤LB:=by simp only [LB];omega
            have hsz:i.size=r.sz:=(elem r hok).1
            have hok2:okSl TY t r2=true:=by
              have key:∀r:RO,okSl TY t r=(match (nthT TY t).d with|.slice e=>Nat.beq (nthT TY e).sz r.sz|_=>false):=fun r=>by
                unfold okSl
                cases (nthT TY t).d<;>first|rfl|(cases r<;>rfl)
              rw [key] at hok ⊢
              rw [hz2'];exact hok
            have hby':r2.len*i.bytes≤140737488355328:=by
              have:((r2.len*i.bytes:Nat):Int)=((nthT TY e).bytes:Int)*r2.len:=by rw [hby,Nat.mul_comm];push_cast;rfl
              rw [Int.mul_comm] at hbytes
              omega
            have hc2:r2.cells=r.cells+r'.cells:=by simp only [RO.cells,hl2,hz2',hz2'',Nat.add_mul]
            have hpos:0<r'.cells:=Nat.mul_pos (by omega) r'.sz_pos
            obtain ⟨b',off',rfl,l,n1,n2,n3⟩:=hnews _ rfl hpos
            have fin:∀{cs:Array Value} {cap:Nat} {w':World},w'.heap=w.heap.push (.cells cs e (0,0))→IoS w w'→cs.size=cap*r2.sz→r2.len≤cap→(∀q,q<r2.cells→∃c,cs[q]? =some c∧CellP w M r2 q c)→
                Post w0 M0 a T.length K (.slice (some ⟨w.heap.size,0,none⟩) r2.len cap) w':=fun hw hio hcs hcap hc=>by
              obtain ⟨T',S',ρ',M',q1,q2,q3,q4,q5⟩:=newKey_sound h st tm (wm:=0) hw hio hcs hcap hlb2 (Nat.zero_le _) hc
              exact ⟨ρ',M',T',_,_,q1,q2,q3,q4,_,of_sl q5,rfl⟩
            cases ad0 with
            |none=>
             have hr0':r.len=0∧r.cells=0:=by
               obtain ⟨_,a1,cap1,h1,_,h2⟩:=hr
               rw [hxv] at h1
               cases h1
               rcases h2 with h2|⟨b,off,h2,_⟩
               · exact ⟨by
                   rcases Nat.eq_zero_or_pos r.len with h3|h3
                   · exact h3
                   · have:0<r.cells:=Nat.mul_pos h3 r.sz_pos
                     omega,h2⟩
               · cases h2
             have hrun:=run_append_nil (P:=P) w t oo.type e i z hu hi hz1 ⟨b',off',none⟩ r'.len cap' l (by rw [n1,RO.cells,hsz,hz2'']) n2 (by omega) (by simp only [LB] at hlb';omega) (by
               have:r'.len*i.bytes≤r2.len*i.bytes:=Nat.mul_le_mul_right _ (by omega)
               omega)
             have hlen:r2.len=r'.len:=by omega
             refine fresh (r:=r2) (old:=0) (news:=l) hok2 (by rw [n1,hc2];omega) (fun q hq=>?_) ?_ fin
             · obtain ⟨c,h1,h2⟩:=n3 q (by omega)
               exact ⟨c,h1,hcell2 w M q c (by rw [if_neg (by omega),hr0'.2];exact h2)⟩
             · rw [hxv,hyv,hlen,hr0'.1]
               exact hrun
            |some a0=>
             have holds:∃olds:List Value,olds.length=r.cells∧(∀j v,olds[j]? =some v→w.cell? (a0.add j)=some v)∧∀q,q<r.cells→∃c,olds[q]? =some c∧CellP w M r q c:=by
               obtain ⟨_,a1,cap1,h1,_,h2⟩:=hr
               rw [hxv] at h1
               cases h1
               rcases h2 with h2|⟨b,off,h2,h3⟩
               · exact ⟨[],by rw [h2];rfl,fun j v hj=>by simp at hj,fun q hq=>by omega⟩
               · cases h2
                 obtain ⟨l,h1,h2,h3⟩:=cells_list (w:=w) (b:=b) (off:=off) (n:=r.cells) (C:=CellP w M r) (fun q hq=>by obtain ⟨c,h4,_,h5⟩:=h3 q hq;exact ⟨c,h4,h5⟩)
                 exact ⟨l,h1,fun j v hj=>by rw [addr_add];exact h2 j v hj,h3⟩
             obtain ⟨olds,m1,m2,m3⟩:=holds
             have hrun:=run_append_grow (P:=P) w t oo.type e i z hu hi hz1 a0 r.len r.len olds (by rw [m1,RO.cells,hsz]) m2 ⟨b',off',none⟩ r'.len cap' l (by rw [n1,RO.cells,hsz,hz2'']) n2 (by omega)
               (by omega) (growslice_fits (by omega) (by rw [←hl2];exact hby'))
             refine fresh (r:=r2) (old:=r.len) (news:=olds++l) hok2 (by rw [List.length_append,m1,n1,hc2]) (fun q hq=>?_) ?_ fin
             · by_cases hqr:q<r.cells
               · obtain ⟨c,h1,h2⟩:=m3 q hqr
                 exact ⟨c,by rw [List.getElem?_append_left (by omega)];exact h1,hcell2 w M q c (by rw [if_pos hqr];exact h2)⟩
               · obtain ⟨c,h1,h2⟩:=n3 (q - r.cells) (by omega)
                 exact ⟨c,by rw [List.getElem?_append_right (by omega),m1];exact h1,hcell2 w M q c (by rw [if_neg hqr];exact h2)⟩
             · rw [hxv,hyv,hl2]
               rw [hrun]
               simp
    · exact h.elim
  · exact h.elim
theorem parts_iff:∀{ps:List (Nat × Operand)} {n:Nat} {K:List Operand→Prop},partsK n ps K→K (ps.map (·.2))∧∀j p,ps[j]? =some p→p.1=n+j
  |[],n,K,h=>⟨h,fun j p hj=>by simp at hj⟩
  |(i,x)::ps,n,K,h=>by
   simp only [partsK] at h
   split at h
   · rename_i hb
     obtain ⟨h1,h2⟩:=parts_iff h
     refine ⟨h1,fun j p hj=>?_⟩
     cases j with
     |zero=>simp at hj;subst hj;exact beq_iff'.1 hb
     |succ j=>rw [h2 j p (by simpa using hj)];omega
   · exact h.elim
theorem kq_self (k:IntKind):kq k k=true:=by cases k<;>rfl
theorem elem_cat {r:RO} {a:AV} {l:List AV} {K:RO→Prop} (h:elemsK r (a::l) K):
    ∃s,catK r s (fun r1=>elemsK r1 l K)∧s.len=1∧∀(ρ:Env) (w:World) (M:Msk) (u:Value),RepT ρ w M a u→u.cells.size=s.sz∧∀q c,u.cells[q]? =some c→CellP w M s q c:=by
  have one:∀{s:RO} {u:Value} {w:World} {M:Msk},s.sz=1→isCell u→CellP w M s 0 u→u.cells.size=s.sz∧∀q c,u.cells[q]? =some c→CellP w M s q c:=by
    intro s u w M hs hu hc
    have hcs:u.cells= #[u]:=by cases u<;>first|rfl|exact hu.elim
    rw [hcs,hs]
    refine ⟨rfl,fun q c hq=>?_⟩
    rcases q with _|q
    · simp at hq;subst hq;exact hc
    · simp at hq
  have nil1:∀{w:World} {M:Msk} {C:Nat→Value→Prop},SlOf w M 0 C 0 (.slice none 0 0):=fun {w M C}=>⟨none,0,rfl,Nat.le_refl _,.inl rfl⟩
  cases r with
  |ints k m=>
   cases a<;>try exact h.elim
   rename_i k' n
   simp only [elemsK,snoc_iff] at h
   refine ⟨.ints k' [n],h,rfl,fun ρ w M u hu=>?_⟩
   obtain ⟨rfl,hr⟩:=hu
   exact one rfl trivial ⟨rfl,hr⟩
  |bools m=>
   cases a<;>try exact h.elim
   rename_i e
   simp only [elemsK,snoc_iff] at h
   refine ⟨.bools [e.val],h,rfl,fun ρ w M u hu=>?_⟩
   have hu:u= .bool e.val:=hu
   subst hu
   exact one rfl trivial rfl
  |rows k m=>
   cases a<;>try exact h.elim
   · rename_i s
     cases s<;>try exact h.elim
     rename_i k' x
     simp only [elemsK,snoc_iff] at h
     refine ⟨.rows k' [x],h,rfl,fun ρ w M u hu=>one rfl (RepC.isCell (a:=.ro (.ints k' x)) (ρ:=ρ) hu) (rep_ints.1 hu)⟩
   · simp only [elemsK,snoc_iff] at h
     refine ⟨.rows k [[]],ifK_iff.2 ⟨kq_self k,h⟩,rfl,fun ρ w M u hu=>?_⟩
     have hu:u= .slice none 0 0:=hu
     subst hu
     exact one rfl trivial ⟨Nat.zero_le _,nil1⟩
  |brows m=>
   cases a<;>try exact h.elim
   · rename_i s
     cases s<;>try exact h.elim
     rename_i x
     simp only [elemsK,snoc_iff] at h
     refine ⟨.brows [x],h,rfl,fun ρ w M u hu=>one rfl (RepC.isCell (a:=.ro (.bools x)) (ρ:=ρ) hu) (rep_bools.1 hu)⟩
   · simp only [elemsK,snoc_iff] at h
     refine ⟨.brows [[]],h,rfl,fun ρ w M u hu=>?_⟩
     have hu:u= .slice none 0 0:=hu
     subst hu
     exact one rfl trivial ⟨Nat.zero_le _,nil1⟩
  |rows3 m=>
   cases a<;>try exact h.elim
   · rename_i s
     cases s<;>try exact h.elim
     rename_i k' x
     cases k'<;>try exact h.elim
     simp only [elemsK,snoc_iff] at h
     refine ⟨.rows3 [x],h,rfl,fun ρ w M u hu=>one rfl (RepC.isCell (a:=.ro (.rows .i64 x)) (ρ:=ρ) hu) (rep_rows.1 hu)⟩
   · simp only [elemsK,snoc_iff] at h
     refine ⟨.rows3 [[]],h,rfl,fun ρ w M u hu=>?_⟩
     have hu:u= .slice none 0 0:=hu
     subst hu
     exact one rfl trivial ⟨Nat.zero_le _,nil1⟩
  |pairs m=>
   simp only [elemsK,snoc_iff] at h
   split at h<;>first|exact h.elim|(rename_i heq;cases heq)|skip
   rename_i x y
   refine ⟨.pairs [(x,y)],h,rfl,fun ρ w M u hu=>?_⟩
   obtain ⟨cs,rfl,hcs⟩:=hu
   obtain ⟨l⟩:=cs
   match l,hcs with
   |[c,d],hcs=>
    obtain ⟨⟨rfl,r1⟩,⟨rfl,r2⟩,_⟩:=hcs
    refine ⟨rfl,fun q c hq=>?_⟩
    rcases q with _|_|q
    · simp [Value.cells] at hq;subst hq;exact ⟨rfl,r1⟩
    · simp [Value.cells] at hq;subst hq;exact ⟨rfl,r2⟩
    · simp [Value.cells] at hq
  |facs m=>
   simp only [elemsK] at h
   split at h<;>first|exact h.elim|(rename_i heq;cases heq)|skip
   rename_i x e
   rw [valB_iff,snoc_iff] at h
   refine ⟨.facs [(x,e.val)],h,rfl,fun ρ w M u hu=>?_⟩
   obtain ⟨cs,rfl,hcs⟩:=hu
   obtain ⟨l⟩:=cs
   match l,hcs with
   |[c,d],hcs=>
    obtain ⟨⟨rfl,r1⟩,r2,_⟩:=hcs
    have r2:d= .bool e.val:=r2
    subst r2
    refine ⟨rfl,fun q c hq=>?_⟩
    rcases q with _|_|q
    · simp [Value.cells] at hq;subst hq;exact ⟨rfl,r1⟩
    · simp [Value.cells] at hq;subst hq;exact rfl
    · simp [Value.cells] at hq
  |strs m=>
   cases a<;>try exact h.elim
   rename_i x
   simp only [elemsK,snoc_iff] at h
   exact ⟨.strs [x],h,rfl,fun ρ w M u hu=>one rfl (RepC.isCell (a:=.str x) (ρ:=ρ) (w:=w) (M:=M) hu) hu⟩
  |ruls m=>
   simp only [elemsK,snoc_iff] at h
   split at h<;>first|exact h.elim|(rename_i heq;cases heq)|skip
   rename_i x y
   refine ⟨.ruls [(x,y)],h,rfl,fun ρ w M u hu=>?_⟩
   obtain ⟨cs,rfl,hcs⟩:=hu
   obtain ⟨l⟩:=cs
   match l,hcs with
   |[c,d],hcs=>
    obtain ⟨r1,r2,_⟩:=hcs
    refine ⟨by rw [show (RO.ruls [(x,y)]).sz=2 from rfl];rfl,fun q c hq=>?_⟩
    rcases q with _|_|q
    · simp [Value.cells] at hq;subst hq;exact r1
    · simp [Value.cells] at hq;subst hq;exact r2
    · simp [Value.cells] at hq
  |prins m=>
   simp only [elemsK] at h
   split at h<;>first|exact h.elim|(rename_i heq;cases heq)|skip
   rename_i x y cl pr
   rw [snoc_iff] at h
   refine ⟨.prins [((x,y),cl,pr)],h,rfl,fun ρ w M u hu=>?_⟩
   obtain ⟨cs,rfl,hcs⟩:=hu
   obtain ⟨l⟩:=cs
   match l,hcs with
   |[c,d,e,f],hcs=>
    obtain ⟨⟨rfl,r1⟩,⟨rfl,r2⟩,r3,r4,_⟩:=hcs
    refine ⟨rfl,fun q c hq=>?_⟩
    rcases q with _|_|_|_|q
    · simp [Value.cells] at hq;subst hq;exact ⟨rfl,r1⟩
    · simp [Value.cells] at hq;subst hq;exact ⟨rfl,r2⟩
    · simp [Value.cells] at hq;subst hq;exact rep_ints.1 r3
    · simp [Value.cells] at hq;subst hq;exact rep_pairs.1 r4
    · simp [Value.cells] at hq
  |arrs n k m=>
   cases a<;>try exact h.elim
   rename_i x
   simp only [elemsK,ifK_iff] at h
   obtain ⟨hx,h⟩:=h
   obtain ⟨y,h2,rfl⟩:=intsK_map h;clear h;have h:=h2;clear h2
   rw [snoc_iff] at h
   refine ⟨.arrs n k [y],ifK_iff.2 ⟨Nat.beq_refl n,ifK_iff.2 ⟨kq_self k,h⟩⟩,rfl,fun ρ w M u hu=>?_⟩
   obtain ⟨cs,rfl,hcs⟩:=hu
   have hl:=hcs.length
   rw [same_len hx] at hl
   have hl':n+2=cs.size:=by simpa using hl
   refine ⟨hl'.symm,fun q c hq=>?_⟩
   have hqn:q<n+2:=by
     rw [hl']
     rcases Nat.lt_or_ge q cs.size with h'|h'
     · exact h'
     · rw [show (Value.agg cs).cells=cs from rfl,Array.getElem?_eq_none h'] at hq;cases hq
   obtain ⟨v,h1,h2⟩:=hcs.get q (by rw [same_len hx];exact hqn)
   have hcv:c=v:=by
     have:cs[q]? =some c:=hq
     rw [Array.getElem?_toList] at h1
     rw [h1] at this;exact (Option.some.inj this).symm
   subst hcv
   have hnth:nth (y.map (AV.int k)) q= .int k (y.getD q 0):=by
     have hyq:q<(y.map (AV.int k)).length:=by rw [same_len hx];exact hqn
     have:=nth_get _ q hyq
     rw [List.getElem?_map] at this
     cases hy:y[q]? with
     |none=>rw [hy] at this;cases this
     |some z=>rw [hy] at this;simp only [List.getD,hy];exact (Option.some.inj this).symm
   rw [hnth] at h2
   simp only [CellP,Nat.div_eq_of_lt hqn,Nat.mod_eq_of_lt hqn]
   exact h2
  |prows m=>
   cases a<;>try exact h.elim
   · rename_i s
     cases s<;>try exact h.elim
     rename_i x
     simp only [elemsK,snoc_iff] at h
     refine ⟨.prows [x],h,rfl,fun ρ w M u hu=>one rfl (RepC.isCell (a:=.ro (.pairs x)) (ρ:=ρ) hu) (rep_pairs.1 hu)⟩
   · simp only [elemsK,snoc_iff] at h
     refine ⟨.prows [[]],h,rfl,fun ρ w M u hu=>?_⟩
     have hu:u= .slice none 0 0:=hu
     subst hu
     exact one rfl trivial ⟨Nat.zero_le _,nil1⟩
  |nrows k m=>cases a<;>exact h.elim
  |gb m=>cases a<;>exact h.elim
  |gi m=>cases a<;>exact h.elim
theorem elems_sound:∀{l:List AV} {r:RO} {K:RO→Prop},elemsK r l K→
    ∃r',K r'∧r'.len=r.len+l.length∧r'.sz=r.sz∧∀(ρ:Env) (w:World) (M:Msk) (us:List Value),RepL (RepT ρ w M) l us→
     (∀u∈us,u.cells.size=r.sz)∧∀q c,(if q<r.cells then CellP w M r q c else (us.flatMap fun u=>u.cells.toList)[q - r.cells]? =some c)→CellP w M r' q c
  |[],r,K,h=>⟨r,h,rfl,rfl,fun ρ w M us hu=>by
     cases us with
     |nil=>exact ⟨by simp,fun q c hc=>by split at hc;exact hc;simp at hc⟩
     |cons=>exact hu.elim⟩
  |a::l,r,K,h=>by
   have step:∀(r1:RO),elemsK r1 l K→r1.len=r.len+1→r1.sz=r.sz→
       (∀(ρ:Env) (w:World) (M:Msk) (u:Value),RepT ρ w M a u→u.cells.size=r.sz∧∀q c,(if q<r.cells then CellP w M r q c else u.cells[q - r.cells]? =some c)→CellP w M r1 q c)→
       ∃r',K r'∧r'.len=r.len+(a::l).length∧r'.sz=r.sz∧∀(ρ:Env) (w:World) (M:Msk) (us:List Value),RepL (RepT ρ w M) (a::l) us→
        (∀u∈us,u.cells.size=r.sz)∧∀q c,(if q<r.cells then CellP w M r q c else (us.flatMap fun u=>u.cells.toList)[q - r.cells]? =some c)→CellP w M r' q c:=by
     intro r1 h1 hl hz hcell
     obtain ⟨r',h2,h3,h4,h5⟩:=elems_sound h1
     refine ⟨r',h2,by rw [h3,hl];simp;omega,h4.trans hz,fun ρ w M us hu=>?_⟩
     cases us with
     |nil=>exact hu.elim
     |cons u us=>
      obtain ⟨c1,c2⟩:=hcell ρ w M u hu.1
      obtain ⟨c3,c4⟩:=h5 ρ w M us hu.2
      refine ⟨fun v hv=>?_,fun q c hc=>c4 q c ?_⟩
      · rcases List.mem_cons.1 hv with rfl|hv
        · exact c1
        · rw [c3 v hv,hz]
      · have hr1:r1.cells=r.cells+r.sz:=by simp only [RO.cells,hl,hz,Nat.add_mul,Nat.one_mul]
        by_cases hq:q<r.cells
        · rw [if_pos hq] at hc
          rw [if_pos (by omega)]
          exact c2 q c (by rw [if_pos hq];exact hc)
        · rw [if_neg hq] at hc
          simp only [List.flatMap_cons] at hc
          by_cases hq1:q<r1.cells
          · rw [if_pos hq1]
            rw [List.getElem?_append_left (by simp;omega),Array.getElem?_toList] at hc
            exact c2 q c (by rw [if_neg hq];exact hc)
          · rw [if_neg hq1]
            rw [List.getElem?_append_right (by simp;omega)] at hc
            rw [←hc];congr 1;simp;omega
   obtain ⟨s,hs,hsl,hsr⟩:=elem_cat h
   obtain ⟨r1,h1,hl1,hz1,hz2,hc1⟩:=cat_cells hs
   refine step r1 h1 (by omega) hz1 fun ρ w M u hu=>?_
   obtain ⟨g1,g2⟩:=hsr ρ w M u hu
   refine ⟨by omega,fun q c hc=>hc1 w M q c ?_⟩
   split at hc
   · rename_i hq;rw [if_pos hq];exact hc
   · rename_i hq;rw [if_neg hq];exact g2 _ c hc
end
end Go.AM
end
