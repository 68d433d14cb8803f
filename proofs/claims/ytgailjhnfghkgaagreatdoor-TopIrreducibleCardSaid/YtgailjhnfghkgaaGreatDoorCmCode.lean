import Derived.Test.YtgailjhnfghkgaaGreatDoorCmOps3
import Derived.Laws.IdiomStrings
import Derived.Laws.BytesArg
import Derived.MapKept
import Derived.Lib.UnsafeStr
import Derived.Lib.AppendStr
import Derived.ChangeKeysEq
import Derived.Test.YtgailjhnfghkgaaGreatDoorAmRet
import Derived.Test.YtgailjhnfghkgaaGreatDoorAmQAll2
section
namespace Go.CM
open Go Go.AM Go.MapKept
section
variable{P:Program}{E:Ev}{ρ:Rn}{s s':HS}{w:World}{T:cQ}{e:Operand->Value}{oo:Oper}{v:CV}
theorem I4(aw:aO P E.TY){t f:Nat}{x:Operand}(h:CF E T t x f s=some (v,s'))(ho:oo.op= .fieldAddr t x f)(hd:Hd ρ s.H.get s.nx w)(he:∀x∈oo.op.operands,dU ρ (cJ T x) (e x)):jF P e oo ρ s s' w v:=by
 rw [ho]at he;obtain⟨p,h1,h⟩:=au h;split at h
 ·rename_i fs fU
  obtain⟨⟨o,u⟩,h2,h⟩:=au h;obtain⟨h3,h⟩:=aC h;cases h;have fU:(aq E.TY t).d= .struct fs:=fU;obtain⟨F,hu,tq⟩:=de aw fU;obtain⟨b,c,g1,g2⟩:=qD h1 (he x (by simp [Op.operands]));have hf:=b9 h2;rw [tq,List.getElem?_map]at hf;cases hg:F.toList[f]? with
  |none=>rw [hg]at hf;cases hf
  |some fl=>
   rw [hg]at hf;cases hf;rw [Array.getElem?_toList]at hg;have b7:(underlying t).run P w= .ok (.struct F) w:=by simp [underlying,hu]
   have tk:(sizeOf fl.type).run P w= .ok (E.sz fl.type) w:=(aw.at (t:=fl.type) (.inl (lU h3))).size w;have bm:E.sz fl.type≠0:=by have:=ah h3;have h3:1<=E.sz fl.type:=this;omega
   refine aF hd (u:=.pointer (some ⟨b,p.2+fl.offset,none⟩)) ?_ ⟨b,c,g1,rfl⟩;simp [execOp,ho,Instr.fieldAt,b7,hg,g2,Instr.sureAddr,fieldPlace,tk,bm,aQ]
 ·cases h
theorem Mh(aw:aO P E.TY){t f:Nat}{x:Operand}(h:GQ E T t x f s=some (v,s'))(ho:oo.op= .field t x f)(hd:Hd ρ s.H.get s.nx w)(he:∀x∈oo.op.operands,dU ρ (cJ T x) (e x)):jF P e oo ρ s s' w v:=by
 rw [ho]at he;obtain⟨l,h1,h⟩:=au h;split at h
 ·rename_i fs fU
  obtain⟨⟨o,u⟩,h2,h⟩:=au h;obtain⟨y,h3,rfl,rfl⟩:=AB h;have fU:(aq E.TY t).d= .struct fs:=fU;obtain⟨F,hu,tq⟩:=de aw fU;obtain⟨cs,g1,g2⟩:=qB h1 (he x (by simp [Op.operands]));have hf:=b9 h2;rw [tq,List.getElem?_map]at hf;cases hg:F.toList[f]? with
  |none=>rw [hg]at hf;cases hf
  |some fl=>
   rw [hg]at hf;cases hf;rw [Array.getElem?_toList]at hg;have b7:(underlying t).run P w= .ok (.struct F) w:=by simp [underlying,hu]
   obtain⟨uu,g3,g4⟩:=uh (w:=w) aw g2 h3;refine aF hd (u:=uu) ?_ (lR g4);simp [execOp,ho,Instr.field,b7,hg,g1,asAgg,g3]
 ·cases h
theorem I5(aw:aO P E.TY){t:Nat}{x i:Operand}(h:CG E T t x i s=some (v,s'))(ho:oo.op= .indexAddr t x i)(hd:Hd ρ s.H.get s.nx w)(he:∀x∈oo.op.operands,dU ρ (cJ T x) (e x)):jF P e oo ρ s s' w v:=by
 rw [ho]at he;obtain⟨n,h1,h⟩:=au h;obtain⟨k,g1,_⟩:=qC h1 (he i (by simp [Op.operands]));split at h
 ·rename_i el fU
  obtain⟨sv,h2,h⟩:=au h;obtain⟨h0,h⟩:=aC h;obtain⟨h3,h⟩:=aC h;cases h;have h3:=ah h3;have fU:(aq E.TY t).d= .slice el:=fU;have hu:=bV aw fU;obtain⟨b,c,cap,g2,g3,g4,_⟩:=AA h2 (he x (by simp [Op.operands]));have b7:(underlying t).run P w= .ok (.slice el) w:=by simp [underlying,hu]
  have tk:(sizeOf el).run P w= .ok (E.sz el) w:=(aw.at (t:=el) (.inl (lU h0))).size w;refine aF hd (u:=.pointer (some ⟨b,sv.off+n*E.sz el,none⟩)) ?_ ⟨b,c,g2,rfl⟩;have:¬sv.len<=n:=aa;simp [execOp,ho,Instr.indexAt,g1,asIntOf,b7,g4,tk,this,aQ]
 ·rename_i m el fU
  obtain⟨p,h2,h⟩:=au h;obtain⟨h0,h⟩:=aC h;obtain⟨h3,h⟩:=aC h;cases h;have h3:=ah h3;have fU:(aq E.TY t).d= .arr m el:=fU;have hu:=gO aw fU;obtain⟨b,c,g2,g3⟩:=qD h2 (he x (by simp [Op.operands]));have b7:(underlying t).run P w= .ok (.array m el) w:=by simp [underlying,hu]
  have tk:(sizeOf el).run P w= .ok (E.sz el) w:=(aw.at (t:=el) (.inl (lU h0))).size w;refine aF hd (u:=.pointer (some ⟨b,p.2+n*E.sz el,none⟩)) ?_ ⟨b,c,g2,rfl⟩;have:¬m<=n:=aa;simp [execOp,ho,Instr.indexAt,g1,asIntOf,b7,g3,Instr.sureAddr,tk,this,aQ]
 ·cases h
theorem Mi(aw:aO P E.TY){t:Nat}{x i:Operand}(h:GR E T t x i s=some (v,s'))(ho:oo.op= .index t x i)(hd:Hd ρ s.H.get s.nx w)(he:∀x∈oo.op.operands,dU ρ (cJ T x) (e x)):jF P e oo ρ s s' w v:=by
 rw [ho]at he;obtain⟨n,h1,h⟩:=au h;obtain⟨k,g1,_⟩:=qC h1 (he i (by simp [Op.operands]));split at h
 ·rename_i m el fU
  obtain⟨l,h2,h⟩:=au h;obtain⟨h0,h⟩:=aC h;obtain⟨h3,h⟩:=aC h;obtain⟨y,h4,rfl,rfl⟩:=AB h;have h3:=ah h3;have fU:(aq E.TY t).d= .arr m el:=fU;have hu:=gO aw fU;obtain⟨cs,g2,g3⟩:=qB h2 (he x (by simp [Op.operands]));have b7:(underlying t).run P w= .ok (.array m el) w:=by simp [underlying,hu]
  have tk:(sizeOf el).run P w= .ok (E.sz el) w:=(aw.at (t:=el) (.inl (lU h0))).size w;obtain⟨u,g4,g5⟩:=uh (w:=w) aw g3 h4;have:¬m<=n:=aa;exact aF hd (u:=u) (by simp [execOp,ho,Instr.index,g1,asIntOf,b7,g2,tk,this,g4]) (lR g5)
 ·rename_i fU
  obtain⟨c,h2,h⟩:=au h;cases c<;>simp only [reduceCtorEq]at h
  rename_i l;obtain⟨b,h3,h⟩:=au h;cases h;have fU:(aq E.TY t).d= .str:=fU;obtain⟨u,hu,Ou,b7⟩:=(aw.at (t:=t) (.inr (by rw [fU];simp))).under;rw [fU]at Ou;cases u<;>try exact Ou.elim
  obtain⟨g2,g3⟩:=b8 h2 (he x (by simp [Op.operands]));have hb:b<256:=g3 b (List.mem_of_getElem? h3)
  have hs:(bE l)[n]? =some (UInt8.ofNat b):=by
   have aS:n<l.length:=(List.getElem?_eq_some_iff.1 h3).1;have e1:l[n]=b:=(List.getElem?_eq_some_iff.1 h3).2;have bk:n<(bE l).size:=by show n<(l.map UInt8.ofNat).toArray.size;simpa using aS
   have this:(bE l)[n]? =some ((bE l)[n]'bk):=by rw [getElem?_pos]
   have get:∀(a:Array UInt8) (h:n<(ByteArray.mk a).size),(ByteArray.mk a)[n]'h=a[n]'h:=λ a h=>rfl;rw [this]
   congr 1
   have g:=get (l.map UInt8.ofNat).toArray bk;have q:∀(h:n<(l.map UInt8.ofNat).toArray.size),(l.map UInt8.ofNat).toArray[n]'h=UInt8.ofNat b:=λ h=>by simp [e1]
   exact Eq.trans g (q _)
  have hbn:(UInt8.ofNat b).toNat=b:=by rw [UInt8.toNat_ofNat'];omega
  refine aF hd (u:=.int .u8 (b:Int)) ?_ ⟨rfl,by simp [eD,IntKind.min,IntKind.max,IntKind.signed,IntKind.bits];omega⟩;simp [execOp,ho,Instr.index,g1,asIntOf,b7,g2,hs];omega
 ·cases h
theorem AF:∀(l:List Nat) (n:Nat),ic l n=l.length+n
 |[],n=>by simp [ic]
 |_::l,n=>by simp only [ic,AF l,List.length_cons];omega
theorem G6:∀(l:List (CW × CW)) (n:Nat),IQ l n=l.length+n
 |[],n=>by simp [IQ]
 |_::l,n=>by simp only [IQ,G6 l,List.length_cons];omega
theorem sR.len:∀{l:List (CW × CW)} {m:List MapEntry},sR ρ l m->m.length=l.length
 |[],[],_=>rfl|_::_,_::_,h=>by simp [sR.len h.2]|[],_::_,h=>h.elim|_::_,[],h=>h.elim
theorem rowOf(aw:aO P E.TY){t:Nat}(h:(aq E.TY t).d≠.other):∃u,P.underlying t=some u/\lT (aq E.TY t).d u/\∀w,(underlying t).run P w= .ok u w:=(aw.at (t:=t) (.inr h)).under
theorem nj:∀{l:List CC} {m:List Nat} {vs:List Value},bytesOf l=some m->cF ρ l vs->vs=m.map (λ(n:Nat)=>Value.int .u8 (n:Int))/\∀x∈m,x<256
 |[],m,vs,h,hl=>by
  cases h;cases vs with
  |nil=>exact⟨rfl,by simp⟩
  |cons=>exact hl.elim
 |a::l,m,[],h,hl=>hl.elim
 |a::l,m,u::vs,h,hl=>by
  cases a<;>simp only [bytesOf,reduceCtorEq]at h
  rename_i k n;cases k<;>simp only [reduceCtorEq]at h
  obtain⟨b,h1,h⟩:=au h;obtain⟨r,h2,h⟩:=au h;cases h;obtain⟨g1,g2⟩:=nj h2 hl.2;obtain⟨e1,e2⟩:=hl.1;have e3:=GZ h1;subst e3;refine⟨by rw [e1,g1];rfl,λ x hx=>?_⟩;rcases List.mem_cons.1 hx with rfl|hx
  ·simp [eD,IntKind.min,IntKind.max,IntKind.signed,IntKind.bits]at e2;omega
  ·exact g2 x hx
theorem P8{d:GJ}(h:Tz d=true):d= .int .u8:=by
 unfold Tz at h;split at h
 ·split at h
  ·rfl
  ·cases h
 ·cases h
theorem P9(aw:aO P E.TY){a b:Nat}{x:Operand}(h:E1 E T a b x s=some (v,s'))(ho:oo.op= .convert a b x)(hd:Hd ρ s.H.get s.nx w)(he:∀x∈oo.op.operands,dU ρ (cJ T x) (e x)):jF P e oo ρ s s' w v:=by
 rw [ho]at he;have hx:=he x (by simp [Op.operands]);unfold E1 at h;split at h
 ·rename_i k hb
  split at h
  ·rename_i k' ha
   obtain⟨p,h1,h⟩:=au h;cases h;have ha:(aq E.TY a).d= .int k':=ha;have hb:(aq E.TY b).d= .int k:=hb;obtain⟨ua,g1,g2,g3⟩:=rowOf aw (t:=a) (by rw [ha];simp);obtain⟨ub,g4,g5,g6⟩:=rowOf aw (t:=b) (by rw [hb];simp);rw [ha]at g2;rw [hb]at g5;cases ua<;>try exact g2.elim
   cases ub<;>try exact g5.elim
   have g5:k=_:=g5;subst g5;exact aF hd (u:=.int k (k.wrap p.2)) (by simp [execOp,ho,(iM h1 hx).1,convert,g3,g6,Conv.intToInt]) (fT _ _ _)
  ·cases h
 ·rename_i hb
  split at h
  ·rename_i el ha
   obtain⟨h0,h⟩:=aC h;obtain⟨c,h1,h⟩:=au h;have ha:(aq E.TY a).d= .slice el:=ha;have hb:(aq E.TY b).d= .str:=hb;have h0:(aq E.TY el).d= .int .u8:=P8 h0;have XT:=bV aw ha;obtain⟨ub,g4,g5,g6⟩:=rowOf aw (t:=b) (by rw [hb];simp);rw [hb]at g5;cases ub<;>try exact g5.elim
   obtain⟨ue,g7,g8,g9⟩:=rowOf aw (t:=el) (by rw [h0];simp);rw [h0]at g8;cases ue<;>try exact g8.elim
   have g8:IntKind.u8=_:=g8;subst g8;have hc:=b8 h1 hx;cases c<;>simp only [reduceCtorEq]at h
   ·rename_i k off len cap
    obtain⟨l,h2,h⟩:=au h;obtain⟨m,h3,h⟩:=au h;cases h;obtain⟨q,h4,h5⟩:=au h2;obtain⟨bb,cc,cap',r1,r2,r3,_⟩:=hc;obtain⟨cs,ty,r4,_,_,r5⟩:=dI hd (bz h4) r1;obtain⟨mv,r6,r7,r8⟩:=js r5 r4 h5;obtain⟨r9,r10⟩:=nj h3 r6;have hlen:m.length=len:=by rw [<-r7,r9];simp
    have aK:=run_convert_bytes_back (P:=P) w a b el ⟨bb,off,none⟩ cap' (m.map UInt8.ofNat) XT g7 g4 (λ j hj=>by
     have mb:j<m.length:=by simpa using hj
     rw [aQ];refine r8 j _ ?_;rw [r9];simp only [List.getElem?_map,List.getElem?_eq_getElem mb,Option.map_some,List.getElem_map];have:=r10 m[j] (List.getElem_mem _)
     congr 2
     rw [UInt8.toNat_ofNat'];omega)
    rw [List.length_map,hlen]at aK;exact aF hd (u:=.string (bE m)) (by simp [execOp,ho,r3,aK,bE]) ⟨rfl,r10⟩
   ·cases h
    have hc:e x= .slice none 0 0:=hc;have aK:=run_convert_bytes_nil (P:=P) w a el XT g7 0 0 b g4;exact aF hd (u:=.string ByteArray.empty) (by simp [execOp,ho,hc,aK]) ⟨rfl,by simp⟩
  ·cases h
 ·cases h
theorem I6{u:Value}{w':World}(hd:Hd ρ s.H.get s.nx w)(aK:(execOp e oo).run P w= .ok (.value u) w')(hw:w'.heap=w.heap.push (.map #[] 0))(oq:jT w w')(hu:u= .map (some w.heap.size)):jF P e oo ρ s (s.new (.map [])) w (.c (.mp s.nx)):=by
 obtain⟨ρ',h1,h2⟩:=bI.make (o:=.map []) 0 hd hw oq λ ρ' hx=>⟨#[],0,rfl,ag⟩;exact .inl ⟨u,w',aK,ρ',h1,_,_,h2,hu⟩
theorem Mj{t:Nat}{q:Nat × Nat}(h:sM E t=some q):(aq E.TY t).d= .map q.1 q.2:=by
 unfold sM Ev.d at h;split at h
 ·rename_i hd;cases h;exact hd
 ·cases h
theorem qI (aw:aO P E.TY){t:Nat}{q:Nat × Nat}(h:sM E t=some q):P.underlying t=some (.map q.1 q.2):=by
 have hd:=Mj h;obtain⟨u,g1,g2,_⟩:=rowOf aw (t:=t) (by rw [hd];simp);rw [hd]at g2;cases u<;>try exact g2.elim
 obtain⟨e1,e2⟩:=g2;rw [g1,e1,e2]
theorem Fb(aw:aO P E.TY){t:Nat}{r:Option Operand}(h:(bo (sM E t) λ _=>bo (IM T r) λ _=>some (.c (.mp s.nx),s.new (.map [])))=some (v,s'))(ho:oo.op= .makeMap t r)(hd:Hd ρ s.H.get s.nx w)(he:∀x∈oo.op.operands,dU ρ (cJ T x) (e x)):jF P e oo ρ s s' w v:=by
 rw [ho]at he;obtain⟨q,h1,h⟩:=au h;obtain⟨n,h2,h⟩:=au h;cases h;have hu:=qI aw h1;have b7:(underlying t).run P w= .ok (.map q.1 q.2) w:=by simp [underlying,hu]
 have hr:=uj (e:=e) h2 λ y hy=>he y (by simp [Op.operands,hy]);refine I6 hd (w':={ w with heap:=w.heap.push (.map #[] 0) }) ?_ rfl ⟨⟨rfl,rfl⟩,rfl,Nat.le_refl _⟩ rfl;rcases hr with ⟨rfl,_⟩|⟨y,n,k,rfl,_,e1,_⟩
 ·simp [execOp,ho,Instr.makeMap,newObj,Sem.run]
 ·simp [execOp,ho,Instr.makeMap,newObj,Sem.run,e1,b7,asInt,asIntOf]
theorem Fc(aw:aO P E.TY){t:Nat}{x:CW}{u:Value}(hc:Wn x=true)(h:yx E t x=true)(hx:pe ρ x u):∃d,P.underlying t=some d/\MapKept.IsKey d u:=by
 unfold yx Ev.d at h;split at h
 ·rename_i c
  split at h
  ·split at h
   ·rename_i k' n k hd
    obtain rfl:=bZ h;obtain⟨d,g1,g2,_⟩:=rowOf aw (t:=t) (by rw [hd];simp);rw [hd]at g2;cases d<;>try exact g2.elim
    obtain⟨rfl,_⟩:=hx;exact⟨_,g1,g2⟩
   ·cases h
  ·split at h
   ·rename_i hd
    obtain⟨d,g1,g2,_⟩:=rowOf aw (t:=t) (by rw [hd];simp);rw [hd]at g2;cases d<;>try exact g2.elim
    obtain⟨rfl,_⟩:=hx;exact⟨_,g1,ag⟩
   ·cases h
  ·split at h
   ·rename_i hd
    obtain⟨d,g1,g2,_⟩:=rowOf aw (t:=t) (by rw [hd];simp);rw [hd]at g2;cases d<;>try exact g2.elim
    have hx:u= .bool _:=hx;subst hx;exact⟨_,g1,ag⟩
   ·cases h
  ·cases h
 ·cases hc
theorem Ml{d:TypeDesc}{x y:CW}{u u':Value}{b:Bool}(hk:MapKept.IsKey d u)(h:Zm x y=some b)(hx:pe ρ x u)(hy:pe ρ y u'):Instr.sameNow d u u'=some b:=by
 unfold Zm at h;split at h
 ·rename_i a
  split at h
  ·rename_i c
   unfold Zl at h;split at h
   ·rename_i k n
    split at h
    ·rename_i k' m
     obtain⟨h1,h9⟩:=aC h;obtain rfl:=bZ h1;obtain⟨rfl,_⟩:=hx;obtain⟨rfl,_⟩:=hy;cases d<;>try exact hk.elim
     simpa [Instr.sameNow]using h9
    ·cases h
   ·rename_i l
    split at h
    ·rename_i m
     obtain⟨rfl,h1⟩:=hx;obtain⟨rfl,h2⟩:=hy;cases d<;>try exact hk.elim
     have:(bE l==bE m)=GK l m:=by rw [beq_toListBytes];exact qH h1 h2
     simpa [Instr.sameNow,this]using h
    ·cases h
   ·rename_i p
    split at h
    ·rename_i q
     have hx:u= .bool p:=hx;have hy:u'= .bool q:=hy;subst hx;subst hy;cases d<;>try exact hk.elim
     simpa [Instr.sameNow]using h
    ·cases h
   ·cases h
  ·cases h
 ·rename_i l
  split at h
  ·obtain⟨cs,rfl,_⟩:=hx
   cases d<;>exact hk.elim
  ·cases h
theorem wh{d:TypeDesc}{x:CW}{u:Value}(hk:MapKept.IsKey d u)(hx:pe ρ x u):∀{es:List (CW × CW)} {en:List MapEntry} {i:Nat} {r:Option (Nat × CW)},yw es x i=some r->sR ρ es en->
  (r=none/\Instr.findNow d u en i=some none)\/∃j c val bA,r=some (i+j,c)/\Instr.findNow d u en i=some (some (i+j,val))/\en[j]? =some bA/\bA.val=val/\pe ρ c val/\j<es.length
 |[],[],i,r,h,_=>by cases h;exact .inl ⟨rfl,rfl⟩
 |p::es,e'::en,i,r,h,hm=>by
  obtain⟨b,h1,h⟩:=au h;have h2:=Ml hk h1 hx hm.1.1;cases b with
  |true=>
   simp only at h;cases h;exact .inr ⟨0,_,_,_,rfl,by simp [Instr.findNow,h2],rfl,rfl,hm.1.2,by simp⟩
  |false=>
   simp only at h;rcases wh hk hx h hm.2 with ⟨g1,g2⟩|⟨j,c,val,bA,g1,g2,g3,g4,g5,g6⟩
   ·exact .inl ⟨g1,by simp [Instr.findNow,h2,g2]⟩
   ·refine .inr ⟨j+1,c,val,bA,by rw [g1];congr 2;omega,by simp [Instr.findNow,h2,g2];omega,by simpa using g3,g4,g5,by simp;omega⟩
 |[],_::_,_,_,_,hm=>hm.elim
 |_::_,[],_,_,_,hm=>hm.elim
theorem CU{k:IntKind}{x:CC}{l:List CC}(h:pb k (x::l)=true):∃n,x= .int k n/\pb k l=true:=by
 cases x<;>simp only [pb]at h<;>try (cases h;done)
 split at h
 ·rename_i hk
  have:=bZ hk;subst this;exact⟨_,rfl,h⟩
 ·cases h
theorem G8(aw:aO P E.TY){e:Nat}(h:E.d e≠.other):∃i,P.info? e=some i/\i.size=E.sz e:=by
 obtain⟨i,u,h1,_,h3,_⟩:=(aw.at (t:=e) (.inr h)).row;exact⟨i,h1,h3⟩
theorem wi(aw:aO P E.TY){e off:Nat}{k:IntKind}(he:E.d e= .int k){cs:Array Value}{v:Value}(hv:cs[off]? =some v):(part e cs off).run P w= .ok v w:=by
 have aI:=aw.at (t:=e) (.inr (by show E.d e≠.other;rw [he];simp));have ha:bJ (aq E.TY e).d=false:=by show bJ (E.d e)=false;rw [he];rfl
 simp [part,aI.agg,ha,hv]
theorem G9(aw:aO P E.TY){e:Nat}{k:IntKind}(he:E.d e= .int k):P.underlying e=some (.int k):=by
 obtain⟨d,g1,g2,_⟩:=rowOf aw (t:=e) (by show E.d e≠.other;rw [he];simp);rw [show(aq E.TY e).d= .int k from he]at g2;cases d<;>first|exact g2.elim|(have g2:k=_:=g2;subst g2;exact g1)
theorem Mm(aw:aO P E.TY){e:Nat}{k:IntKind}(he:E.d e= .int k)(d:Nat)(xs ys:Array Value):∀{l m:List CC} {j:Nat} {b:Bool},cF ρ l (xs.toList.drop j)->cF ρ m (ys.toList.drop j)->pb k l=true->Vc l m=some b->
  (Op.eqItems (d+1) e 1 xs ys (List.range' j l.length)).run P w= .ok b w
 |[],m,j,b,_,_,_,h=>by
  cases m with
  |nil=>cases h;simp [Op.eqItems]
  |cons=>cases h
 |x::l,m,j,b,h1,h2,h3,h=>by
  cases m with
  |nil=>cases h
  |cons y m=>
   obtain⟨r,h4,h5⟩:=au h;obtain⟨n,rfl,h6⟩:=CU h3
   have gx:∃v,xs[j]? =some v/\jI ρ (.int k n) v/\cF ρ l (xs.toList.drop (j+1)):=by
    cases hd:xs.toList.drop j with
    |nil=>rw [hd]at h1;exact h1.elim
    |cons v r=>
     rw [hd]at h1;refine⟨v,by have:=congrArg (·[0]?) hd;simpa using this,h1.1,?_⟩;have:xs.toList.drop (j+1)=r:=by rw [<-List.drop_drop,hd];rfl
     rw [this];exact h1.2
   have gy:∃v,ys[j]? =some v/\jI ρ y v/\cF ρ m (ys.toList.drop (j+1)):=by
    cases hd:ys.toList.drop j with
    |nil=>rw [hd]at h2;exact h2.elim
    |cons v r=>
     rw [hd]at h2;refine⟨v,by have:=congrArg (·[0]?) hd;simpa using this,h2.1,?_⟩;have:ys.toList.drop (j+1)=r:=by rw [<-List.drop_drop,hd];rfl
     rw [this];exact h2.2
   obtain⟨v,a1,⟨a2,_⟩,a3⟩:=gx;obtain⟨u,b1,b2,b3⟩:=gy;subst a2
   have hy:∃n',y= .int k n'/\r=(n==n'):=by
    cases y<;>try (cases h4;done)
    obtain⟨c1,c2⟩:=aC h4;have:=bZ c1;subst this;exact⟨_,rfl,(Option.some.inj c2).symm⟩
   obtain⟨n',rfl,rfl⟩:=hy;obtain⟨rfl,_⟩:=b2;have p1:=wi (w:=w) aw he a1;have p2:=wi (w:=w) aw he b1;have p3:(Op.equalIn (d+1) e (.int k n) (.int k n')).run P w= .ok (n==n') w:=by simp [Op.equalIn,run_underlying (G9 aw he)]
   rw [List.length_cons,List.range'_succ];simp only [Op.eqItems,Sem.run_bind,Nat.mul_one,p1,p2,p3,Result.andThen_ok];cases hr:(n==n')with
   |true=>
    rw [hr]at h5;simp only [Bool.not_true,Bool.false_eq_true,if_false];exact Mm aw he d xs ys a3 b3 h6 h5
   |false=>
    rw [hr]at h5;obtain⟨_,_,h7⟩:=au h5;cases h7;simp
theorem sa{t:Nat}{l:List CC}(h:pc E t l=true):∃n e k,E.d t= .arr n e/\l.length=n/\E.sz e=1/\E.d e= .int k/\pb k l=true:=by
 unfold pc at h;split at h
 ·rename_i n e hd
  split at h
  ·rename_i h1
   split at h
   ·rename_i h2
    split at h
    ·rename_i k h3
     exact⟨n,e,k,hd,ud h1,ay.1 h2,h3,h⟩
    ·cases h
   ·cases h
  ·cases h
 ·cases h
theorem gO(aw:aO P E.TY){t n e:Nat}(hd:E.d t= .arr n e):P.underlying t=some (.array n e):=by
 obtain⟨d,g1,g2,_⟩:=rowOf aw (t:=t) (by show E.d t≠.other;rw [hd];simp);rw [show(aq E.TY t).d= .arr n e from hd]at g2;cases d<;>first|exact g2.elim|(obtain⟨rfl,rfl⟩:=g2;exact g1)
theorem I7(aw:aO P E.TY){t:Nat}{l m:List CC}{xs ys:Array Value}{b:Bool}(hk:pc E t l=true)(h1:cF ρ l xs.toList)(h2:cF ρ m ys.toList)(h:Vc l m=some b):(Op.equal t (.agg xs) (.agg ys)).run P w= .ok b w:=by
 obtain⟨n,e,k,g1,g2,g3,g4,g5⟩:=sa hk;obtain⟨i,i1,i2⟩:=G8 aw (e:=e) (by rw [g4];simp);have hc:P.cellsOf e=1:=by simp [Program.cellsOf,i1,i2,g3]
 have bX:∀d,(Op.equalIn (d+2) t (.agg xs) (.agg ys)).run P w= .ok b w:=λ d=>by
  rw [run_equalIn_array w (d+1) xs ys (gO aw g1) i1,hc,List.range_eq_range',<-g2];exact Mm aw g4 d xs ys (by simpa using h1) (by simpa using h2) g5 h
 exact bX 9998
theorem I8(aw:aO P E.TY){t:Nat}{l:List CC}{xs:Array Value}(hk:pc E t l=true)(h1:cF ρ l xs.toList)(em:Bool):(Instr.checkKey em 10000 t (.agg xs)).run P w= .ok () w:=by
 obtain⟨n,e,k,g1,g2,g3,g4,g5⟩:=sa hk;obtain⟨i,i1,i2⟩:=G8 aw (e:=e) (by rw [g4];simp);have hc:P.cellsOf e=1:=by simp [Program.cellsOf,i1,i2,g3]
 have hlen:=h1.len
 have bX:∀d,(Instr.checkKey em (d+2) t (.agg xs)).run P w= .ok () w:=λ d=>by
  rw [show d+2=(d+1)+1 from rfl,Instr.checkKey];simp only [Sem.run_bind,run_underlying (gO aw g1),Result.andThen_ok];simp only [Std.Legacy.Range.forIn_eq_forIn_range',Std.Legacy.Range.size,Nat.sub_zero,Nat.add_one_sub_one,Nat.div_one]
  have each:∀j∈List.range' 0 n,j<xs.toList.length:=λ j hj=>by
   have:=List.mem_range'_1.1 hj;omega
  generalize List.range' 0 n=is at each
  induction is with
  |nil=>simp
  |cons j is ih=>
   have hj:=each j (by simp);rw [Array.length_toList]at hj;have p1:=wi (w:=w) aw g4 (Array.getElem?_eq_getElem hj)
   have p2:(Instr.checkKey em (d+1) e xs[j]).run P w= .ok () w:=by
    rw [Instr.checkKey];simp [run_underlying (G9 aw g4)]
   simp only [List.forIn_cons,Sem.run_bind,run_sizeOf w i1,hc,Nat.mul_one,Result.andThen_ok,p1,p2,Sem.run_pure];exact ih λ y hy=>each y (by simp [hy])
 exact bX 9998
theorem Ha(aw:aO P E.TY){t:Nat}{l:List CC}{xs:Array Value}(hk:pc E t l=true)(h1:cF ρ l xs.toList):∀{es:List (CW × CW)} {en:List MapEntry} {i:Nat} {r:Option (Nat × CW)},yw es (.a l) i=some r->sR ρ es en->
  (r=none/\(Instr.findAsking t (.agg xs) en i).run P w= .ok none w)\/∃j c val bA,r=some (i+j,c)/\(Instr.findAsking t (.agg xs) en i).run P w= .ok (some (i+j,val)) w/\en[j]? =some bA/\bA.val=val/\pe ρ c val/\j<es.length
 |[],[],i,r,h,_=>by cases h;exact .inl ⟨rfl,by simp [Instr.findAsking]⟩
 |p::es,e'::en,i,r,h,hm=>by
  obtain⟨b,h2,h3⟩:=au h;obtain⟨⟨m1,m2⟩,m3⟩:=hm
  have hq:∃m ys,e'.key= .agg ys/\cF ρ m ys.toList/\Vc l m=some b:=by
   cases hp:p.1 with
   |c=>rw [hp]at h2;cases h2
   |a m=>
    rw [hp]at h2 m1;obtain⟨ys,y1,y2⟩:=m1;exact⟨m,ys,y1,y2,h2⟩
  obtain⟨m,ys,y1,y2,y3⟩:=hq;have heq:=I7 (w:=w) aw hk h1 y2 y3;cases b with
  |true=>
   simp only at h3;cases h3;exact .inr ⟨0,_,_,_,rfl,by simp [Instr.findAsking,y1,heq,Result.andThen],rfl,rfl,m2,by simp⟩
  |false=>
   simp only at h3;rcases Ha aw hk h1 h3 m3 with ⟨g1,g2⟩|⟨j,c,val,bA,g1,g2,g3,g4,g5,g6⟩
   ·exact .inl ⟨g1,by simp [Instr.findAsking,y1,heq,Result.andThen,g2]⟩
   ·refine .inr ⟨j+1,c,val,bA,by rw [g1];congr 2;omega,by simp [Instr.findAsking,y1,heq,Result.andThen,g2];omega,by simpa using g3,g4,g5,by simp;omega⟩
 |[],_::_,_,_,_,hm=>hm.elim
 |_::_,[],_,_,_,hm=>hm.elim
theorem CX(aw:aO P E.TY){t:Nat}{x:CW}{u:Value}(hk:yx E t x=true)(hx:pe ρ x u){es:List (CW × CW)}{en:List MapEntry}{r:Option (Nat × CW)}(h:yw es x 0=some r)(hm:sR ρ es en):
  (r=none/\(Instr.findKey t u en).run P w= .ok none w)\/∃j c val bA,r=some (j,c)/\(Instr.findKey t u en).run P w= .ok (some (j,val)) w/\en[j]? =some bA/\bA.val=val/\pe ρ c val/\j<es.length:=by
 cases x with
 |c x=>
  obtain⟨d,g1,g2⟩:=Fc aw rfl hk hx;rcases wh g2 hx h hm with ⟨g3,g4⟩|⟨j,c,val,bA,g3,g4,g5⟩
  ·exact .inl ⟨g3,run_findKey (w:=w) g1 g4⟩
  ·rw [Nat.zero_add]at g3 g4
   exact .inr ⟨j,c,val,bA,g3,run_findKey (w:=w) g1 g4,g5⟩
 |a l=>
  obtain⟨xs,rfl,h1⟩:=hx;have hk:pc E t l=true:=hk;obtain⟨n,e,k,g1,_⟩:=sa hk;have hu:=gO aw g1
  have JO:(Instr.findKey t (.agg xs) en).run P w=(Instr.findAsking t (.agg xs) en).run P w:=by
   cases en with
   |nil=>simp [Instr.findKey,run_underlying hu,Instr.findNow,Instr.findAsking]
   |cons a en=>simp [Instr.findKey,run_underlying hu,Instr.findNow,Instr.sameNow]
  rw [JO];rcases Ha (w:=w) aw hk h1 h hm with g|⟨j,c,val,bA,g3,g4,g5⟩
  ·exact .inl g
  ·rw [Nat.zero_add]at g3 g4
   exact .inr ⟨j,c,val,bA,g3,g4,g5⟩
theorem sb(aw:aO P E.TY){t:Nat}{x:CW}{u:Value}(hk:yx E t x=true)(hx:pe ρ x u)(em:Bool):(Instr.checkKey em 10000 t u).run P w= .ok () w:=by
 cases x with
 |c x=>
  obtain⟨d,g1,g2⟩:=Fc aw rfl hk hx;exact run_checkKey (P:=P) (w:=w) g1 g2 em 9999
 |a l=>
  obtain⟨xs,rfl,h1⟩:=hx;exact I8 aw hk h1 em
theorem Mn(hz:xg P E.TY E.TZ){t:Nat}{z:CW}(h:LL E t=some z):∃zv,(zeroValue t).run P w= .ok zv w/\pe ρ z zv:=by
 have key:E.z t≠[]->∃i zv,P.info? t=some i/\i.zero=some zv/\(∀ρ,cF ρ (tE E.TZ t) zv.cells.toList)/\CK (bJ (aq E.TY t).d) zv=true:=hz.row t;unfold LL at h;split at h
 ·rename_i ha
  obtain⟨_,h⟩:=aC h;split at h
  ·cases h
  ·rename_i a l hl
   cases h;obtain⟨i,zv,h1,h2,h3,h4⟩:=key (by rw [hl];simp);have ha:bJ (aq E.TY t).d=true:=ha;rw [ha]at h4;cases zv<;>simp [CK]at h4
   rename_i cs;have h3:=h3 ρ;have nI:tE E.TZ t=a::l:=hl;rw [nI]at h3;exact⟨_,by simp [zeroValue,typeInfo,h1,h2],cs,rfl,h3⟩
 ·rename_i ha
  split at h
  ·rename_i x hl
   cases h;obtain⟨i,zv,h1,h2,h3,h4⟩:=key (by rw [hl];simp);have ha:bJ (aq E.TY t).d=false:=ha;rw [ha]at h4;have h3:=h3 ρ;have nI:tE E.TZ t=[x]:=hl;rw [nI]at h3;refine⟨zv,by simp [zeroValue,typeInfo,h1,h2],?_⟩;have wg:zv.cells= #[zv]:=by cases zv<;>first|rfl|simp [CK]at h4
   rw [wg]at h3;exact h3.1
  ·cases h
theorem Qa(aw:aO P E.TY)(hz:xg P E.TY E.TZ){t:Nat}{x k:Operand}{ok:Bool}(h:LW E T t x k ok s=some (v,s'))(ho:oo.op= .lookup t x k ok)(hd:Hd ρ s.H.get s.nx w)(he:∀x∈oo.op.operands,dU ρ (cJ T x) (e x)):jF P e oo ρ s s' w v:=by
 rw [ho]at he;obtain⟨q,h1,h⟩:=au h;obtain⟨m,h2,h⟩:=au h;obtain⟨kv,h3,h⟩:=au h;obtain⟨h4,h⟩:=aC h;obtain⟨z,h5,h⟩:=au h;obtain⟨es,h6,h⟩:=au h;obtain⟨r,h7,h⟩:=au h;have hu:=qI aw h1;have b7:(underlying t).run P w= .ok (.map q.1 q.2) w:=by simp [underlying,hu]
 have hm:=b8 h2 (he x (by simp [Op.operands]));have kE:=uf h3 (he k (by simp [Op.operands]));obtain⟨zv,g3,g4⟩:=Mn (P:=P) (w:=w) (ρ:=ρ) hz h5
 have hen:∃en:Array MapEntry,sR ρ es en.toList/\((e x= .map none/\en= #[])\/∃b n,e x= .map (some b)/\w.heap[b]? =some (.map en n)):=by
  cases m<;>simp only [reduceCtorEq]at h6
  ·rename_i j
   obtain⟨b,c,r1,r2⟩:=hm;obtain⟨b',c',o,r3,r4,r5⟩:=hd.obj _ _ (ug h6);rw [r1]at r3;cases r3;obtain⟨en,n,rfl,r6⟩:=r5;exact⟨en,r6,.inr ⟨b,n,r2,r4⟩⟩
  ·cases h6
   exact⟨#[],ag,.inl ⟨hm,rfl⟩⟩
 obtain⟨en,r1,r2⟩:=hen
 have Mo:∀res:Option (Nat × Value),(Instr.findKey q.1 (e k) en.toList).run P w= .ok res w->(execOp e oo).run P w= .ok (.value (if ok then .tuple #[(match res with|some (_,v)=>v|none=>zv),.bool res.isSome] else (match res with|some (_,v)=>v|none=>zv))) w:=by
  intro res hf;have RF:=sb (w:=w) aw h4 kE en.isEmpty;have JO:=hf;rcases r2 with ⟨e1,rfl⟩|⟨b,n,e1,hb⟩
  ·have Zx:=sb (w:=w) aw h4 kE true
   have Zy:(Instr.findKey q.1 (e k) []).run P w= .ok res w:=JO;cases res<;>cases ok<;>simp [execOp,ho,Instr.lookup,b7,e1,Zx,Zy,g3,Result.andThen]
  ·cases res<;>cases ok<;>simp [execOp,ho,Instr.lookup,b7,e1,MapKept.run_getObj_map hb,RF,JO,g3,Result.andThen]
 rcases CX (w:=w) aw h4 kE h7 r1 with ⟨rfl,g6⟩|⟨j,c,val,bA,rfl,g6,_,_,g7,_⟩
 ·have aK:=Mo none g6
  cases ok with
  |true=>simp only at h;cases h;exact aF hd aK ⟨_,rfl,g4,rfl,ag⟩
  |false=>simp only at h;cases h;exact aF hd aK (lR g4)
 ·have aK:=Mo _ g6
  cases ok with
  |true=>simp only at h;cases h;exact aF hd aK ⟨_,rfl,g7,rfl,ag⟩
  |false=>simp only at h;cases h;exact aF hd aK (lR g7)
theorem CY{kx vx:CW}:∀{es:List (CW × CW)} {en:List MapEntry} {j:Nat} {bA:MapEntry},sR ρ es en->j<es.length->pe ρ kx bA.key->pe ρ vx bA.val->sR ρ (kI es j kx vx) (en.set j bA)
 |_::_,_::_,0,_,h,_,h1,h2=>⟨⟨h1,h2⟩,h.2⟩
 |_::_,_::_,j+1,_,h,hj,h1,h2=>⟨h.1,CY (j:=j) h.2 (by simpa using hj) h1 h2⟩
 |[],[],_,_,_,hj,_,_=>by simp at hj
 |[],_::_,_,_,h,_,_,_=>h.elim
 |_::_,[],_,_,h,_,_,_=>h.elim
theorem sR.RG {kx vx:CW}{bA:MapEntry}:∀{es:List (CW × CW)} {en:List MapEntry},sR ρ es en->pe ρ kx bA.key->pe ρ vx bA.val->sR ρ (es++[(kx,vx)]) (en++[bA])
 |[],[],_,h1,h2=>⟨⟨h1,h2⟩,ag⟩
 |_::_,_::_,h,h1,h2=>⟨h.1,sR.RG h.2 h1 h2⟩
 |[],_::_,h,_,_=>h.elim
 |_::_,[],h,_,_=>h.elim
theorem Mp{d:TypeDesc}{u u':Value}(hk:MapKept.IsKey d u)(h:Instr.sameNow d u u'=some true):u'=u:=by
 cases d<;>cases u<;>try exact hk.elim
 all_goals cases u'<;>simp [Instr.sameNow]at h
 ·rw [h]
 ·obtain⟨rfl,rfl⟩:=h;rfl
 ·rw [beq_toListBytes,beq_iff_eq,ByteArray.toList_eq,ByteArray.toList_eq]at h
  rw [WideShapes.bytes_inj h]
theorem CZ{d:TypeDesc}{u:Value}(hk:MapKept.IsKey d u):∀{en:List MapEntry} {i j:Nat} {val:Value},Instr.findNow d u en i=some (some (i+j,val))->∃bA,en[j]? =some bA/\bA.key=u
 |[],i,j,val,h=>by simp [Instr.findNow]at h
 |e'::en,i,j,val,h=>by
  simp only [Instr.findNow]at h;split at h
  ·rename_i h1
   simp only [Option.some.injEq,Prod.mk.injEq]at h;have:j=0:=aa;subst this;exact⟨e',rfl,Mp hk h1⟩
  ·cases j with
   |zero=>
    exfalso
    have aux:∀{en:List MapEntry} {i k:Nat} {val:Value},Instr.findNow d u en i=some (some (k,val))->i<=k:=by
     intro en
     induction en with
     |nil=>intro i k val h;simp [Instr.findNow]at h
     |cons a en ih=>
      intro i k val h;simp only [Instr.findNow]at h;split at h
      ·simp only [Option.some.injEq,Prod.mk.injEq]at h;omega
      ·have:=ih h;omega
      ·cases h
    have:=aux h;omega
   |succ j=>
    rw [show i+(j+1)=(i+1)+j by omega]at h;obtain⟨bA,h2,h3⟩:=CZ hk h;exact⟨bA,by simpa using h2,h3⟩
  ·cases h
theorem Mq(aw:aO P E.TY){t:Nat}{x k y:Operand}(h:LX E T t x k y s=some (v,s'))(ho:oo.op= .mapUpdate t x k y\/oo.op= .insert t x k y)(hd:Hd ρ s.H.get s.nx w)(he:∀x∈oo.op.operands,dU ρ (cJ T x) (e x)):jF P e oo ρ s s' w v:=by
 have eZ:dU ρ (cJ T x) (e x)/\dU ρ (cJ T k) (e k)/\dU ρ (cJ T y) (e y):=by
  rcases ho with ho|ho<;>(rw [ho]at he;exact⟨he x (by simp [Op.operands]),he k (by simp [Op.operands]),he y (by simp [Op.operands])⟩)
 have bQ:∀w',(Instr.mapUpdate t (e x) (e k) (e y)).run P w= .ok () w'->(execOp e oo).run P w= .ok .skip w':=λ w' hr=>by
  rcases ho with ho|ho<;>simp [execOp,ho,hr]
 obtain⟨q,h1,h⟩:=au h;obtain⟨m,h2,h⟩:=au h;obtain⟨kv,h3,h⟩:=au h;obtain⟨vv,h4,h⟩:=au h;obtain⟨h5,h⟩:=aC h;have hu:=qI aw h1;have b7:(underlying t).run P w= .ok (.map q.1 q.2) w:=by simp [underlying,hu]
 have hm:=b8 h2 eZ.1;have kE:=uf h3 eZ.2.1;have NL:=uf h4 eZ.2.2;have hmp:∃j,m= .mp j:=by cases m<;>first|exact⟨_,rfl⟩|cases h
 obtain⟨j,rfl⟩:=hmp;obtain⟨es,h6,h⟩:=au h;obtain⟨r,h7,h⟩:=au h;obtain⟨b,c,r1,r2⟩:=hm;obtain⟨b',c',o,r3,r4,r5⟩:=hd.obj _ _ (ug h6);rw [r1]at r3;cases r3;obtain⟨en,n,rfl,r6⟩:=r5;have RF:=sb (w:=w) aw h5 kE false
 have fin:∀{es':List (CW × CW)} {en':Array MapEntry} {n':Nat},(Instr.mapUpdate t (e x) (e k) (e y)).run P w= .ok () { w with heap:=w.heap.setIfInBounds b (.map en' n') }->sR ρ es' en'.toList->jF P e oo ρ s (s.put j (.map es')) w (.t []):=λ hr bc=>
  .inr (.inl ⟨_,bQ _ hr,ρ,bI.write hd (ug h6) r1 rfl ⟨⟨rfl,rfl⟩,rfl,Nat.le_refl _⟩ ⟨_,_,rfl,bc⟩,kY ρ⟩)
 rcases CX (w:=w) aw h5 kE h7 r6 with ⟨rfl,g6⟩|⟨i,cc,val,bA,rfl,g6,g7,g8,g9,g10⟩
 ·have JO:=g6
  simp only at h;cases h;refine fin (en':=en.push { key:=e k,val:=e y,born:=n }) (n':=n+1) ?_ (by rw [Array.toList_push];exact sR.RG r6 kE NL);simp [Instr.mapUpdate,b7,r2,MapKept.run_getObj_map r4,RF,JO,MapKept.run_setObj_map _ r4,Result.andThen]
 ·have JO:=g6
  simp only at h;obtain⟨Yn,hh⟩:=aC h;cases hh;obtain⟨d,g1,g2⟩:=Fc aw Yn h5 kE;rcases wh g2 kE h7 r6 with ⟨z1,_⟩|⟨i',cc',val',ent'',z1,g6',_⟩
  ·cases z1
  obtain⟨rfl,rfl⟩:i=i'/\cc=cc':=by simpa using z1
  have Zz:=run_findKey (P:=P) (w:=w) g1 g6';rw [Nat.zero_add]at Zz g6';obtain⟨ent',e1,e2⟩:=CZ g2 (i:=0) (j:=i) (by rw [Nat.zero_add];exact g6');rw [g7]at e1;cases e1;rw [Array.getElem?_toList]at g7;have c8:=run_keyThatStays (P:=P) (w:=w) g2;refine fin (en':=en.modify i λ e'=>{ e' with key:=e k,val:=e y }) (n':=n) ?_ ?_
  ·simp [Instr.mapUpdate,b7,r2,MapKept.run_getObj_map r4,RF,JO,g7,e2,c8,MapKept.run_setObj_map _ r4,Result.andThen]
  ·have:(en.modify i λ e'=>{ e' with key:=e k,val:=e y }).toList=en.toList.set i { bA with key:=e k,val:=e y }:=by
    apply List.ext_getElem?;intro q;rw [Array.getElem?_toList,Array.getElem?_modify,List.getElem?_set]
    by_cases hq:i=q
    ·subst hq
     have aS:i<en.toList.length:=by rw [Array.length_toList];exact(Array.getElem?_eq_some_iff.1 g7).1
     simp [g7];have:=(Array.getElem?_eq_some_iff.1 g7).1
     simpa using this
    ·simp [hq]
   rw [this];exact CY r6 g10 kE NL
theorem C1{n:Nat}(h:(n:Int)<=9223372036854775807):eD .i64 (n:Int):=by simp [eD,IntKind.min,IntKind.max,IntKind.signed,IntKind.bits];omega
theorem Mr{n:Nat}{s1:HS}(h:RA s1 n=some (v,s')):(n:Int)<=9223372036854775807/\v= .c (.int .i64 n)/\s1=s':=by
 obtain⟨h1,h2⟩:=aC h;cases h2;have:=ah h1;exact⟨aa,rfl,rfl⟩
theorem TK(aw:aO P E.TY){t:Nat}{x:Operand}{y:CC}{c:Call}(h:LY E t y s=some (v,s'))(ho:oo.op= .call c)(hc:c.callee= .builtin .len)(ha:c.args= #[x])(ht:c.argTypes[0]? =some t)(hd:Hd ρ s.H.get s.nx w)(hy:jI ρ y (e x)):jF P e oo ρ s s' w v:=by
 have fin:∀{n:Nat} {s1:HS},s1=s->RA s1 n=some (v,s')->(Builtin.len_ c.argTypes oo.type #[e x]).run P w= .ok (goInt n) w->jF P e oo ρ s s' w v:=λ{n s1} hs h hr=>by
  obtain⟨h1,rfl,rfl⟩:=Mr h;subst hs;exact aF hd (u:=.int .i64 n) (by simp [execOp,ho,resolve,hc,ha,invoke,builtin,hr,goInt]) ⟨rfl,C1 h1⟩
 unfold LY at h;split at h
 ·rename_i el fU
  have hu:=bV aw (show(aq E.TY t).d= .slice el from fU);have b7:(underlying t).run P w= .ok (.slice el) w:=by simp [underlying,hu]
  split at h
  ·obtain⟨b,c',cap,_,_,g3,_⟩:=hy
   exact fin rfl h (by simp [Builtin.len_,ht,b7,g3])
  ·have hy:e x= .slice none 0 0:=hy
   exact fin rfl h (by simp [Builtin.len_,ht,b7,hy])
  ·cases h
 ·rename_i fU
  have fU:(aq E.TY t).d= .str:=fU;obtain⟨u,g1,g2,b7⟩:=rowOf aw (t:=t) (by rw [fU];simp);rw [fU]at g2;cases u<;>try exact g2.elim
  replace b7:=b7 w;split at h
  ·rename_i l
   obtain⟨g3,_⟩:=hy;refine fin rfl h ?_;have:(bE l).size=ic l 0:=by rw [AF];show((l.map UInt8.ofNat).toArray).size=_;simp
   simp [Builtin.len_,ht,b7,g3,this]
  ·cases h
 ·rename_i kt et fU
  have hu:P.underlying t=some (.map kt et):=by
   have:=qI (E:=E) aw (t:=t) (q:=(kt,et)) (by unfold sM;rw [fU]);exact this
  have b7:(underlying t).run P w= .ok (.map kt et) w:=by simp [underlying,hu]
  split at h
  ·have hy:e x= .map none:=hy
   exact fin rfl h (by simp [Builtin.len_,ht,b7,hy])
  ·obtain⟨es,h1,h⟩:=au h
   obtain⟨b,c',r1,r2⟩:=hy;obtain⟨b',c'',o,r3,r4,r5⟩:=hd.obj _ _ (ug h1);rw [r1]at r3;cases r3;obtain⟨en,n,rfl,r6⟩:=r5;refine fin rfl h ?_;have:en.size=IQ es 0:=by rw [G6,<-Array.length_toList,r6.len];rfl
   simp [Builtin.len_,ht,b7,r2,MapKept.run_getObj_map r4,this,Result.andThen]
  ·cases h
 ·cases h
theorem Ms{sz:Nat}{y:CC}{q:Nat × List CC}{u:Value}(h:PU s sz y=some q)(hd:Hd ρ s.H.get s.nx w)(hy:jI ρ y u):
  (y= .ao/\q=(0,[])/\u= .slice none 0 0)\/∃a cap mv,u= .slice (some a) q.1 cap/\cF ρ q.2 mv/\mv.length=q.1*sz/\∀j x,mv[j]? =some x->w.cell? (a.add j)=some x:=by
 unfold PU at h;split at h
 ·cases h;exact .inl ⟨rfl,rfl,hy⟩
 ·rename_i k off len cap
  obtain⟨l,h1,h⟩:=au h;cases h;obtain⟨p,h2,h3⟩:=au h1;obtain⟨b,c,cp,r1,r2,r3,_⟩:=hy;obtain⟨cs,ty,r4,_,_,r5⟩:=dI hd (bz h2) r1;obtain⟨mv,r6,r7,r8⟩:=js r5 r4 h3;exact .inr ⟨⟨b,off,none⟩,cp,mv,r3,r6,r7,λ j x hj=>by rw [aQ];exact r8 j x hj⟩
 ·cases h
theorem sc{l:List CC}{mv:List Value}(h:cF ρ l mv):∀v∈mv,v.oneCell'=true:=λ v hv=>lH (h.cell v hv)
theorem se(t ty el:TypeId)(i:TypeInfo)(ht:P.underlying t=some (.slice el))(hi:P.info? el=some i)
  (g o sLen sCap tag:Nat) (cur:Array Value) (hg:w.heap[g]? =some (.cells cur tag (0,0)))
  (a:Addr) (m c:Nat) (news:List Value) (hl:news.length=m*i.size) (wj:∀j u,news[j]? =some u->w.cell? (a.add j)=some u) (h1:∀u∈news,u.oneCell'=true)
  (jV:sLen+m<=sCap) (tu:o+sLen*i.size+news.length<=cur.size):
  (Builtin.append_ #[t,t] ty #[.slice (some ⟨g,o,none⟩) sLen sCap,.slice (some a) m c]).run P w=
   .ok (.slice (some ⟨g,o,none⟩) (sLen+m) sCap) (w.setRow g (cur.toList.take (o+sLen*i.size)++news++cur.toList.drop (o+sLen*i.size+news.length)).toArray):=by
 have hf:=run_firstCells_some (P:=P) w i.size m a m c news hl wj;have c8:=run_storeCells_at P g (o+sLen*i.size) tag news 0 cur w hg (by simpa using tu) h1;simp only [Nat.add_zero]at c8;have b7:(underlying t).run P w= .ok (.slice el) w:=by simp [underlying,ht]
 have Mt:(⟨g,o,none⟩:Addr).add (sLen*i.size)=⟨g,o+sLen*i.size,none⟩:=by rw [aQ]
 simp [Builtin.append_,b7,sizeOf,typeInfo,hi,Builtin.lenOf,jV,hf,Mt,c8]
theorem C3{l:List CC}{vs:List Value}{n cap:Nat}{zc:Array Value}{z:Nat}(hl:cF ρ l vs)(hlen:vs.length=n*z)(hz:zc.size=z)(hle:n<=cap)(Wj:1<=z)(ty:TypeId):∀ρ',Ext ρ ρ'->Bi ρ' cap (.cells l (some (z,ty))) (.cells (vs.toArray++Builtin.zeroCells zc (cap - n)) ty (0,0)):=λ ρ' hx=>by
 have h1:=hl.len
 have hs:(vs.toArray++Builtin.zeroCells zc (cap - n)).size=cap*z:=by
  simp only [Array.size_append,List.size_toArray,Builtin.zeroCells,Array.size_map,Array.size_range,hlen,hz];rw [<-Nat.add_mul];congr 1;omega
 refine⟨_,ty,rfl,by rw [hs,<-h1,hlen];exact Nat.mul_le_mul_right _ hle,⟨rfl,λ h=>absurd h (Nat.ne_of_gt Wj),λ _=>hs⟩,?_⟩
 have:((vs.toArray++Builtin.zeroCells zc (cap - n)).toList.take l.length)=vs:=by
  rw [Array.toList_append,List.take_append_of_le_length (by simp;omega),<-h1];simp
 rw [this];exact hl.ext hx
theorem pg(aw:aO P E.TY){t t2 el:Nat}{x y:Operand}{a:CC}{c:Call}{q:Nat × List CC}{i:TypeInfo}{z:Value}{mv:List Value}(Gc:na E t=some el)(h:nS E el a q s=some (v,s'))(ho:oo.op= .call c)(hc:c.callee= .builtin .append)(ha:c.args= #[x,y])(ht:c.argTypes= #[t,t2])(hd:Hd ρ s.H.get s.nx w)(hx:jI ρ a (e x))
  (h0:kD (aq E.TY el).bytes=true) (cu:1<=E.sz el) (_hi:P.info? el=some i) (_hz1:i.zero=some z) (bk:i.size=E.sz el) (tt:i.bytes=(aq E.TY el).bytes) (xq:z.cells.size=E.sz el)
  (Qb:0<q.1->cF ρ q.2 mv/\mv.length=q.1*i.size)
  (S0:q.1=0->∀base n cap,n<=cap->(Builtin.append_ #[t,t2] oo.type #[.slice base n cap,e y]).run P w= .ok (.slice base n cap) w)
  (SN:0<q.1->(q.1:Int)<=9223372036854775807->q.1*i.bytes<=281474976710656->(Builtin.append_ #[t,t2] oo.type #[.slice none 0 0,e y]).run P w= .ok (.slice (some ⟨w.heap.size,0,none⟩) q.1 (grownCap w q.1 0 el)) (w.drew.alloc (.cells (mv.toArray++Builtin.zeroCells z.cells (grownCap w q.1 0 el - q.1)) el)))
  (SR:0<q.1->∀(g o sLen sCap tag:Nat) (cur:Array Value),w.heap[g]? =some (.cells cur tag (0,0))->sLen+q.1<=sCap->o+sLen*i.size+mv.length<=cur.size->(Builtin.append_ #[t,t2] oo.type #[.slice (some ⟨g,o,none⟩) sLen sCap,e y]).run P w= .ok (.slice (some ⟨g,o,none⟩) (sLen+q.1) sCap) (w.setRow g (cur.toList.take (o+sLen*i.size)++mv++cur.toList.drop (o+sLen*i.size+mv.length)).toArray))
  (SG:0<q.1->∀(b:Addr) (sLen sCap:Nat) (olds:List Value),olds.length=sLen*i.size->(∀j u,olds[j]? =some u->w.cell? (b.add j)=some u)->sCap<sLen+q.1->((sLen+q.1:Nat):Int)<=9223372036854775807->Builtin.nextslicecap (sLen+q.1) sCap*i.bytes<=281474976710656->
   (Builtin.append_ #[t,t2] oo.type #[.slice (some b) sLen sCap,e y]).run P w= .ok (.slice (some ⟨w.heap.size,0,none⟩) (sLen+q.1) (grownCap w (sLen+q.1) sCap el)) (w.drew.alloc (.cells (olds.toArray++mv.toArray++Builtin.zeroCells z.cells (grownCap w (sLen+q.1) sCap el - (sLen+q.1))) el))):jF P e oo ρ s s' w v:=by
 have bQ:∀u w',(Builtin.append_ #[t,t2] oo.type #[e x,e y]).run P w= .ok u w'->(execOp e oo).run P w= .ok (.value u) w':=λ u w' hr=>by
  simp [execOp,ho,resolve,hc,ha,ht,invoke,builtin,hr]
 have JP:=ah h0
 have Fe:∀{base:Option Addr} {n cap:Nat},e x= .slice base n cap->n<=cap->q.1=0->(Builtin.append_ #[t,t2] oo.type #[e x,e y]).run P w= .ok (e x) w:=λ{base n cap} h1 h2 h3=>by
  rw [h1];exact S0 h3 _ _ _ h2
 have fits:∀{need eu:Nat},eu<need->kD need=true->Builtin.nextslicecap need eu*i.bytes<=281474976710656:=λ{need eu} h4 h5=>by
  have h6:=ah h5;refine growslice_fits h4 ?_;have:need*i.bytes<=1000000*1000000:=Nat.mul_le_mul h6 (by rw [tt];exact JP);omega
 have grow:∀{n eu:Nat} {l:List CC} {vs:List Value},Ao s (E.sz el) el n l=some (v,s')->cF ρ l vs->vs.length=n*i.size->
   (Builtin.append_ #[t,t2] oo.type #[e x,e y]).run P w= .ok (.slice (some ⟨w.heap.size,0,none⟩) n (grownCap w n eu el)) (w.drew.alloc (.cells (vs.toArray++Builtin.zeroCells z.cells (grownCap w n eu el - n)) el))->jF P e oo ρ s s' w v:=by
  intro n eu l vs h4 h5 h6 h7;obtain⟨_,h8⟩:=aC h4;cases h8;obtain⟨ρ',g1,g2⟩:=bI.make (o:=.cells l (some (E.sz el,el))) (w':=w.drew.alloc (.cells (vs.toArray++Builtin.zeroCells z.cells (grownCap w n eu el - n)) el)) (grownCap w n eu el) hd rfl ⟨⟨rfl,rfl⟩,rfl,Nat.le_succ _⟩ (C3 h5 (by rw [h6,bk]) xq (grownCap_ge _ _ _ _) cu el);exact .inl ⟨_,_,bQ _ _ h7,ρ',g1,_,_,_,g2,grownCap_ge _ _ _ _,rfl,rfl⟩
 cases a with
 |ao=>
  have hx:e x= .slice none 0 0:=hx;simp only [nS]at h;cases hq:q.1 with
  |zero=>
   rw [hq]at h;cases h;exact aF hd (bQ _ _ (by rw [Fe hx (Nat.le_refl _) hq,hx])) rfl
  |succ n=>
   rw [hq]at h;obtain⟨h5,h6⟩:=Qb aa;rw [hq]at h6;obtain⟨h8,_⟩:=aC h;refine grow (eu:=0) h h5 h6 ?_;rw [hx];have Mu:=ah h8;have:(n+1)*i.bytes<=1000000*1000000:=Nat.mul_le_mul Mu (by rw [tt];exact JP);have aK:=SN aa aa (by rw [hq];omega);rw [hq]at aK;exact aK
 |sl k off len cap=>
  obtain⟨b1,c1,cp,r1,r2,r3,r4⟩:=hx;cases cap with
  |n c0=>
   have r4:cp=c0:=r4;subst r4;simp only [nS]at h;cases hle:Nat.ble (len+q.1) cp with
   |true=>
    rw [hle]at h;have hle:=ah hle;cases hq:q.1 with
    |zero=>
     rw [hq]at h;cases h;refine aF hd (bQ _ _ (Fe r3 r2 hq)) ?_;exact⟨b1,c1,cp,r1,r2,r3,rfl⟩
    |succ n=>
     rw [hq]at h hle;obtain⟨p,h4,h⟩:=au h;obtain⟨l',h5,h⟩:=au h;cases h;obtain⟨g2,g3⟩:=Qb aa;rw [hq]at g3;obtain⟨cs,ty,g5,g6,g7,g8⟩:=dI hd (bz h4) r1;obtain⟨g9,g10⟩:=jU g6 g7 g8 g2 h5;have aK:=SR aa b1 off len cp ty cs g5 (by rw [hq];exact hle) (by rw [bk];exact Nat.le_trans g10 g6);rw [hq]at aK;rw [bk]at aK;refine .inl ⟨_,_,bQ _ _ (by rw [r3];exact aK),ρ,bI.write hd (bz h4) r1 (ui g5) ⟨⟨rfl,rfl⟩,rfl,Nat.le_refl _⟩ g9,b1,c1,cp,r1,hle,rfl,rfl⟩
   |false=>
    rw [hle]at h;have aS:cp<len+q.1:=Nat.lt_of_not_le λ h'=>by rw [<-Nat.ble_eq]at h';rw [h']at hle;cases hle
    simp only at h;obtain⟨h4,h⟩:=aC h;obtain⟨eu,h5,h⟩:=au h;obtain⟨p,h6,h7⟩:=au h5;obtain⟨g2,g3⟩:=Qb aa;obtain⟨cs,ty,g5,g6,g7,g8⟩:=dI hd (bz h6) r1;obtain⟨ov,g9,g10,g11⟩:=js g8 g5 h7;obtain⟨h8,_⟩:=aC h;have Mu:=ah h8;refine grow (eu:=cp) h (g9.app g2) (by rw [List.length_append,g10,g3,Nat.add_mul,bk]) ?_;rw [r3];have aK:=SG aa ⟨b1,off,none⟩ len cp ov (by rw [g10,bk]) (λ j u hj=>by rw [aQ];exact g11 j u hj) aS aa (fits aS h8);rw [aK]
    congr 4
    simp
  |g=>
   have r4:cp=c1:=r4;subst r4;simp only [nS]at h;obtain⟨h4,h⟩:=aC h;have h4:=ay.1 h4;subst h4;cases hq:q.1 with
   |zero=>
    rw [hq]at h;cases h;refine aF hd (bQ _ _ (Fe r3 r2 hq)) ?_;exact⟨b1,cp,cp,r1,r2,r3,rfl⟩
   |succ n=>
    rw [hq]at h;obtain⟨h5,h⟩:=aC h;obtain⟨p,h6,h⟩:=au h;obtain⟨l,g⟩:=p;cases g with
    |none=>cases h
    |some g=>
     obtain⟨gz,gt⟩:=g;obtain⟨h7,hA⟩:=aC h;obtain⟨ZA,hB⟩:=aC hA;obtain⟨eu,h8,hC⟩:=au hB;clear h hA hB;have h7:gz=E.sz el:=ay.1 h7;have ZA:gt=el:=ay.1 ZA;subst ZA;subst h7;obtain⟨g2,g3⟩:=Qb aa;rw [hq]at g3;obtain⟨cs,ty,g5,g6,g7,g8⟩:=dI hd (bz h6) r1;have g7b:ty=gt:=g7.1;have g7:cs.size=cp*E.sz gt:=g7.2.2 (Nat.ne_of_gt cu);subst g7b;have g6:l.length<=cs.size:=g6;have g8:cF ρ l (cs.toList.take l.length):=g8;have h8:m9 l (len*E.sz ty)=some eu:=h8;obtain⟨g9,g10⟩:=g8.take _ h8;have Re:(cs.toList.take l.length).length=l.length:=by have e1:cs.toList.length=cs.size:=Array.length_toList;rw [List.length_take];omega
     rw [Re]at g10
     have gQ:cF ρ eu (cs.toList.take (len*E.sz ty)):=by
      rw [List.take_take,Nat.min_eq_left g10]at g9;exact g9
     have Qc:(cs.toList.take (len*E.sz ty)).length=len*E.sz ty:=by have e1:cs.toList.length=cs.size:=Array.length_toList;rw [List.length_take];omega
     have Mu:=ah h5
     by_cases jV:len+(n+1)<=cp
     ·
      have tu:0+len*i.size+mv.length<=cs.size:=by rw [g3,bk,Nat.zero_add,<-Nat.add_mul,g7];exact Nat.mul_le_mul_right _ jV
      have aK:=SR aa b1 0 len cp ty cs g5 (by rw [hq];exact jV) tu;rw [hq]at aK;rw [bk,Nat.zero_add]at aK;cases hC
      have re:∀ρ',Ext ρ ρ'->Bi ρ' cp (.cells (eu++q.2) (some (E.sz ty,ty))) (.cells (cs.toList.take (len*E.sz ty)++mv++cs.toList.drop (len*E.sz ty+mv.length)).toArray ty (0,0)):=λ ρ' hx=>by
       have hA:=(gQ.app g2).ext hx;have hL:=hA.len
       have hS:(cs.toList.take (len*E.sz ty)++mv++cs.toList.drop (len*E.sz ty+mv.length)).toArray.size=cs.size:=by
        have e1:cs.toList.length=cs.size:=Array.length_toList;rw [bk,Nat.zero_add]at tu;simp only [List.size_toArray,List.length_append,List.length_drop,Qc];omega
       rw [bk,Nat.zero_add]at tu;rw [List.length_append,Qc]at hL;refine⟨_,ty,rfl,by rw [hS];omega,⟨rfl,λ h=>absurd h (Nat.ne_of_gt cu),λ _=>by rw [hS];exact g7⟩,?_⟩
       have:((cs.toList.take (len*E.sz ty)++mv++cs.toList.drop (len*E.sz ty+mv.length)).toArray.toList.take (eu++q.2).length)=cs.toList.take (len*E.sz ty)++mv:=by
        show(cs.toList.take (len*E.sz ty)++mv++cs.toList.drop (len*E.sz ty+mv.length)).take (eu++q.2).length=_;rw [List.take_append_of_le_length (by have e:=hL;simp only [List.length_append]at e ⊢;omega),List.take_of_length_le (by have e:=hL;simp only [List.length_append]at e ⊢;omega)]
       rw [this];exact hA
      obtain⟨ρ',k1,k2⟩:=bI.RE (w':=w.setRow b1 (cs.toList.take (len*E.sz ty)++mv++cs.toList.drop (len*E.sz ty+mv.length)).toArray) hd (bz h6) r1 rfl (.inl rfl) (λ i hi bm=>setRow_other w b1 i _ bm) (setRow_heap w b1 cs _ ty (0,0) g5) (by rw [setRow_size];exact Nat.le_refl _) ⟨⟨rfl,rfl⟩,rfl,Nat.le_refl _⟩ re;exact .inl ⟨_,_,bQ _ _ (by rw [r3];exact aK),ρ',k1,b1,cp,cp,k2,jV,rfl,rfl⟩
     ·
      have aS:cp<len+(n+1):=aa
      have aK:=SG aa ⟨b1,0,none⟩ len cp (cs.toList.take (len*E.sz ty)) (by rw [Qc,bk]) (λ j u hj=>by
       rw [aQ,cell_of_heap g5,Nat.zero_add,<-Array.getElem?_toList];rw [List.getElem?_take]at hj;split at hj
       ·exact hj
       ·cases hj) (by rw [hq];exact aS) (by rw [hq];have Mu:len+(n+1)<=1000000:=Mu;omega) (by rw [hq];exact fits aS h5)
      rw [hq]at aK;cases hC;have re:=C3 (z:=E.sz ty) (gQ.app g2) (n:=len+(n+1)) (cap:=grownCap w (len+(n+1)) cp ty) (zc:=z.cells) (by rw [List.length_append,Qc,g3,bk,<-Nat.add_mul]) xq (grownCap_ge _ _ _ _) cu ty;have fC:(cs.toList.take (len*E.sz ty)).toArray++mv.toArray=(cs.toList.take (len*E.sz ty)++mv).toArray:=by simp
      rw [fC]at aK;obtain⟨ρ',k1,k2⟩:=bI.RE (w':=w.drew.alloc (.cells ((cs.toList.take (len*E.sz ty)++mv).toArray++Builtin.zeroCells z.cells (grownCap w (len+(n+1)) cp ty - (len+(n+1)))) ty)) (b':=w.heap.size) hd (bz h6) r1 rfl (.inr (Nat.le_refl _)) (λ i hi bm=>by show(w.heap.push _)[i]? =_;rw [Array.getElem?_push_lt hi,Array.getElem?_eq_getElem hi]) (by show(w.heap.push _)[w.heap.size]? =_;simp) (by show _<=(w.heap.push _).size;simp) ⟨⟨rfl,rfl⟩,rfl,Nat.le_succ _⟩ re;exact .inl ⟨_,_,bQ _ _ (by rw [r3];exact aK),ρ',k1,_,_,_,k2,grownCap_ge _ _ _ _,rfl,rfl⟩
  |u=>cases h
 |_=>cases h
theorem I9(aw:aO P E.TY)(hz:xg P E.TY E.TZ){t el:Nat}{x y:Operand}{a b:CC}{c:Call}(Gc:na E t=some el)(h:Ap E el a b s=some (v,s'))(ho:oo.op= .call c)(hc:c.callee= .builtin .append)(ha:c.args= #[x,y])(ht:c.argTypes= #[t,t])(hd:Hd ρ s.H.get s.nx w)(hx:jI ρ a (e x))(hy:jI ρ b (e y)):jF P e oo ρ s s' w v:=by
 obtain⟨h0,h⟩:=aC h;obtain⟨h1,h⟩:=aC h;obtain⟨h3,h⟩:=aC h;obtain⟨q,h2,h⟩:=au h;have hu:=bV aw (ju Gc);obtain⟨i,z,hi,gg,bk,tt,xq,_⟩:=ni hz aw h3 h1;rcases Ms h2 hd hy with ⟨_,h4,h5⟩|⟨ad,cc,mv,h4,h5,h6,h7⟩
 ·have hq:q.1=0:=by rw [h4]
  exact pg (mv:=[]) aw Gc h ho hc ha ht hd hx h0 (ah h1) hi gg bk tt xq (λ h=>by omega) (λ _ base n cap hn=>by rw [h5];exact bO hu hi base none n cap 0 hn w) (λ h=>by omega) (λ h=>by omega) (λ h=>by omega)
 ·exact pg (mv:=mv) aw Gc h ho hc ha ht hd hx h0 (ah h1) hi gg bk tt xq (λ _=>⟨h5,by rw [bk];exact h6⟩)
   (λ hq base n cap hn=>by rw [h4,hq];exact bO hu hi base (some ad) n cap cc hn w)
   (λ h0 g1 g2=>by rw [h4];exact run_append_nil (P:=P) w t oo.type el i z hu hi gg ad q.1 cc mv (by rw [bk];exact h6) h7 h0 g1 g2)
   (λ _ g o sLen sCap tag cur g1 g2 g3=>by rw [h4];exact se (P:=P) (w:=w) t oo.type el i hu hi g o sLen sCap tag cur g1 ad q.1 cc mv (by rw [bk];exact h6) h7 (sc h5) g2 g3)
   (λ _ b sLen sCap olds g1 g2 g3 g4 g5=>by rw [h4];exact run_append_grow (P:=P) w t oo.type el i z hu hi gg b sLen sCap olds g1 g2 ad q.1 cc mv (by rw [bk];exact h6) h7 g3 g4 g5)
theorem Hb(a b:Nat):tD a b=min a b:=by
 unfold tD;cases h:Nat.ble a b with
 |true=>simp only;rw [Nat.ble_eq]at h;omega
 |false=>
  have:¬a<=b:=λ h'=>by rw [<-Nat.ble_eq]at h';rw [h']at h;cases h
  simp only;omega
theorem Qd(aw:aO P E.TY){t:Nat}{x y:Operand}{sv:N4}{b:CC}{c:Call}(h:LZ E t sv b s=some (v,s'))(ho:oo.op= .call c)(hc:c.callee= .builtin .copy)(ha:c.args= #[x,y])(ht:c.argTypes= #[t,t])(hd:Hd ρ s.H.get s.nx w)(hx:jI ρ (.sl sv.k sv.off sv.len sv.cap) (e x))(hy:jI ρ b (e y)):jF P e oo ρ s s' w v:=by
 obtain⟨el,h0,h⟩:=au h;obtain⟨h1,h⟩:=aC h;obtain⟨q,h2,h⟩:=au h;obtain⟨p,h3,h⟩:=au h;obtain⟨m,h4,h⟩:=au h;obtain⟨l,h5,h⟩:=au h;obtain⟨h6,rfl,rfl⟩:=Mr h;have hu:=bV aw (ju h0);have b7:∀w,(underlying t).run P w= .ok (.slice el) w:=λ w=>by simp [underlying,hu]
 have tk:∀w,(sizeOf el).run P w= .ok (E.sz el) w:=λ w=>(aw.at (t:=el) (.inl (lU h1))).size w;obtain⟨b1,c1,cp,r1,r2,r3,r4⟩:=hx;obtain⟨cs,ty,g5,g6,g7,g8⟩:=dI hd (bz h3) r1
 have bQ:∀u w',(Builtin.copy_ #[t,t] oo.type #[e x,e y]).run P w= .ok u w'->(execOp e oo).run P w= .ok (.value u) w':=λ u w' hr=>by
  simp [execOp,ho,resolve,hc,ha,ht,invoke,builtin,hr]
 have xm:Nat.min q.1 sv.len=tD q.1 sv.len:=(Hb _ _).symm
 have ZB:∃mv:List Value,cF ρ m mv/\mv.length=tD q.1 sv.len*E.sz el/\(Builtin.lenOf (e y)).run P w= .ok q.1 w/\(Builtin.firstCells (E.sz el) (tD q.1 sv.len) (e y)).run P w= .ok mv.toArray w:=by
  rcases Ms h2 hd hy with ⟨_,h7,h8⟩|⟨ad,cap,mv,h7,h8,h9,cu⟩
  ·have e1:tD q.1 sv.len=0:=by rw [Hb,h7];simp
   rw [h7]at h4;rw [h7]at e1;rw [e1,Nat.zero_mul,pf]at h4;cases h4;refine⟨[],ag,by rw [h7,e1];simp,by rw [h8,h7];simp [Builtin.lenOf],?_⟩;rw [h8];simp [Builtin.firstCells]
  ·obtain⟨lB,ou⟩:=h8.take _ h4
   have hl:(mv.take (tD q.1 sv.len*E.sz el)).length=tD q.1 sv.len*E.sz el:=by rw [List.length_take];omega
   refine⟨_,lB,hl,by rw [h7];simp [Builtin.lenOf],?_⟩;rw [h7]
   exact run_firstCells_some (P:=P) w (E.sz el) (tD q.1 sv.len) ad q.1 cap _ hl (λ j u hj=>cu j u (by
    rw [List.getElem?_take]at hj;split at hj
    ·exact hj
    ·cases hj))
 obtain⟨mv,g1,g2,g3,g4⟩:=ZB;obtain⟨g9,g10⟩:=jU g6 g7 g8 g1 h5;have c8:=run_storeCells_at P b1 sv.off ty mv 0 cs w g5 (by simpa using Nat.le_trans g10 g6) (sc g1);simp only [Nat.add_zero]at c8
 have aK:(Builtin.copy_ #[t,t] oo.type #[e x,e y]).run P w= .ok (goInt (tD q.1 sv.len)) (w.setRow b1 (cs.toList.take sv.off++mv++cs.toList.drop (sv.off+mv.length)).toArray):=by
  rw [r3];simp only [Builtin.copy_];simp [b7,g3,xm,tk,g4,c8]
 exact .inl ⟨_,_,bQ _ _ aK,ρ,bI.write hd (bz h3) r1 (ui g5) ⟨⟨rfl,rfl⟩,rfl,Nat.le_refl _⟩ g9,rfl,C1 h6⟩
theorem Mv(aw:aO P E.TY)(hz:xg P E.TY E.TZ){t:Nat}{x:Operand}{a:CC}{c:Call}(h:GS E t a s=some (v,s'))(ho:oo.op= .call c)(hc:c.callee= .builtin .clear)(ha:c.args= #[x])(ht:c.argTypes[0]? =some t)(hd:Hd ρ s.H.get s.nx w)(hx:jI ρ a (e x)):jF P e oo ρ s s' w v:=by
 obtain⟨el,h0,h⟩:=au h;have hu:=bV aw (ju h0);have b7:∀w,(underlying t).run P w= .ok (.slice el) w:=λ w=>by simp [underlying,hu]
 have bQ:∀w',(Builtin.clear_ c.argTypes oo.type #[e x]).run P w= .ok (.tuple #[]) w'->(execOp e oo).run P w= .ok (.value (.tuple #[])) w':=λ w' hr=>by
  simp [execOp,ho,resolve,hc,ha,invoke,builtin,hr]
 cases a with
 |ao=>
  cases h;have hx:e x= .slice none 0 0:=hx;exact aF hd (bQ _ (by simp [Builtin.clear_,ht,b7,hx])) ⟨_,rfl,ag⟩
 |sl k off len cap=>
  obtain⟨b1,c1,cp,r1,r2,r3,r4⟩:=hx;cases len with
  |zero=>
   cases h;exact aF hd (bQ _ (by simp [Builtin.clear_,ht,b7,r3])) ⟨_,rfl,ag⟩
  |succ n=>
   obtain⟨h1,h⟩:=aC h;obtain⟨h2,h⟩:=aC h;obtain⟨p,h3,h⟩:=au h;obtain⟨l,h4,h⟩:=au h;cases h;obtain⟨i,z,hi,gg,bk,tt,xq,XU⟩:=ni hz aw h2 h1;have cu:=ah h1;have mr:∀w,(zeroValue el).run P w= .ok z w:=λ w=>by simp [zeroValue,typeInfo,hi,gg]
   have hm:=AE (ρ:=ρ) (XU ρ) aa (n+1);obtain⟨cs,ty,g5,g6,g7,g8⟩:=dI hd (bz h3) r1;obtain⟨g9,g10⟩:=jU g6 g7 g8 hm h4;have c8:=run_storeCells_at P b1 off ty (Builtin.zeroCells z.cells (n+1)).toList 0 cs w g5 (by simpa [Builtin.zeroCells]using Nat.le_trans g10 g6) (sc hm);simp only [Nat.add_zero]at c8;refine .inl ⟨_,_,bQ _ (by simp [Builtin.clear_,ht,b7,r3,mr,c8];simp [Builtin.zeroCells]),ρ,bI.write hd (bz h3) r1 (ui g5) ⟨⟨rfl,rfl⟩,rfl,Nat.le_refl _⟩ g9,⟨_,rfl,ag⟩⟩
 |_=>cases h
theorem Mw{x:Operand}{a:CC}{c:Call}(h:GU a s=some (v,s'))(ho:oo.op= .call c)(hc:c.callee= .builtin .unsafeSliceData)(ha:c.args= #[x])(hd:Hd ρ s.H.get s.nx w)(hx:jI ρ a (e x)):jF P e oo ρ s s' w v:=by
 have bQ:∀u,(Builtin.unsafeSliceData_ c.argTypes oo.type #[e x]).run P w= .ok u w->(execOp e oo).run P w= .ok (.value u) w:=λ u hr=>by
  simp [execOp,ho,resolve,hc,ha,invoke,builtin,hr]
 cases a with
 |ao=>
  cases h;have hx:e x= .slice none 0 0:=hx;exact aF hd (bQ (.pointer none) (by rw [hx];rfl)) rfl
 |sl k off len cap=>
  obtain⟨b1,c1,cp,r1,r2,r3,r4⟩:=hx;obtain⟨h1,h⟩:=aC h;cases h;have h1:=ah h1;exact aF hd (bQ (.pointer (some ⟨b1,off,none⟩)) (by rw [r3];exact Lib.run_unsafeSliceData_row w _ _ _ _ _ aa)) ⟨b1,c1,r1,rfl⟩
 |_=>cases h
theorem C4:∀{l:List Nat},(∀x∈l,x<256)->cF ρ (Tw l) (Lib.strCells (bE l))
 |[],_=>trivial
 |b::l,h=>by
  have hb:=h b (by simp);have ih:=C4 (l:=l) λ x hx=>h x (List.mem_cons_of_mem _ hx);refine⟨?_,by simpa [Lib.strCells,bE]using ih⟩;show _=Value.int .u8 b/\_;refine⟨?_,by show eD .u8 (b:Int);simp [eD,IntKind.min,IntKind.max,IntKind.signed,IntKind.bits];omega⟩;have e:(UInt8.ofNat b).toNat=b:=by simp;omega
  simp [e]
theorem Ff(aw:aO P E.TY)(hz:xg P E.TY E.TZ){t t2 el:Nat}{x y:Operand}{a:CC}{l:List Nat}{c:Call}(Gc:na E t=some el)(h2:LO (E.d t2)=true)(h:GN E el a l s=some (v,s'))(ho:oo.op= .call c)(hc:c.callee= .builtin .append)(ha:c.args= #[x,y])(ht:c.argTypes= #[t,t2])(hd:Hd ρ s.H.get s.nx w)(hx:jI ρ a (e x))(hy:jI ρ (.str l) (e y)):jF P e oo ρ s s' w v:=by
 obtain⟨h0,h⟩:=aC h;obtain⟨h1,h⟩:=aC h;obtain⟨h3,h⟩:=aC h;have h1:=ay.1 h1;have h1b:Nat.ble 1 (E.sz el)=true:=by rw [h1];rfl
 have hu:=bV aw (ju Gc)
 have Ou:P.underlying t2=some .string:=by
  cases OO:E.d t2<;>rw [OO]at h2<;>try (cases h2;done)
  obtain⟨d,g1,g2,_⟩:=rowOf aw (t:=t2) (by show(aq E.TY t2).d≠.other;rw [show(aq E.TY t2).d= .str from OO];simp);rw [show(aq E.TY t2).d= .str from OO]at g2;cases d<;>first|exact g1|exact g2.elim
 obtain⟨i,z,hi,gg,bk,tt,xq,_⟩:=ni hz aw h3 h1b;obtain⟨hy,hl⟩:=hy;have hlen:ic l 0=(bE l).size:=by rw [AF];show _=((l.map UInt8.ofNat).toArray).size;simp
 have Qb:(Lib.strCells (bE l)).length=ic l 0*i.size:=by rw [Lib.strCells_length,hlen,bk,h1,Nat.mul_one]
 have Q3:i.size=1:=bk.trans h1;have ze:(Lib.strCells (bE l)).length=(bE l).size:=Lib.strCells_length _
 have fC:(bE l).data.map (λ b=>Value.int .u8 b.toNat)=(Lib.strCells (bE l)).toArray:=by
  apply Array.ext';simp [Lib.strCells]
 refine pg (mv:=Lib.strCells (bE l)) aw Gc h ho hc ha ht hd hx h0 aa hi gg bk tt xq (λ _=>⟨C4 hl,Qb⟩) (λ hq base n cap hn=>?_) (λ hq g1 g2=>?_) (λ _ g o sLen sCap tag cur g1 g2 g3=>?_) (λ _ b sLen sCap olds g1 g2 g3 g4 g5=>?_)
 ·have Ra:(bE l).size=0:=by have hq:ic l 0=0:=hq;omega
  have hf:=Lib.run_firstCells_string (P:=P) w i.size (bE l);have he:Lib.strCells (bE l)=[]:=List.length_eq_zero_iff.1 aa;rw [Ra,he]at hf;rw [hy];cases base<;>simp [Builtin.append_,run_underlying hu,run_underlying Ou,sizeOf,typeInfo,hi,Builtin.lenOf,Ra,hn,hf,storeCells]
 ·have hq:0<ic l 0:=hq
  have g1:((ic l 0:Nat):Int)<=9223372036854775807:=g1;have g2:ic l 0*i.bytes<=281474976710656:=g2;rw [hlen]at hq g1 g2;have:=run_append_nil_string (P:=P) w t t2 oo.type el i z hu Ou hi gg (bE l) hq g1 g2;rw [hy,this,fC];show _=Result.ok (Value.slice (some ⟨w.heap.size,0,none⟩) (ic l 0) (grownCap w (ic l 0) 0 el)) (w.drew.alloc (.cells ((Lib.strCells (bE l)).toArray++Builtin.zeroCells z.cells (grownCap w (ic l 0) 0 el - ic l 0)) el));rw [hlen]
 ·have g2:sLen+ic l 0<=sCap:=g2
  have hf:=Lib.run_firstCells_string (P:=P) w i.size (bE l);have c8:=run_storeCells_at P g (o+sLen*i.size) tag (Lib.strCells (bE l)) 0 cur w g1 (by simpa using g3) (Lib.strCells_oneCell _);simp only [Nat.add_zero]at c8;have Mt:(⟨g,o,none⟩:Addr).add (sLen*i.size)=⟨g,o+sLen*i.size,none⟩:=by rw [aQ]
  rw [hlen]at g2;rw [hy];show _=Result.ok (Value.slice (some ⟨g,o,none⟩) (sLen+ic l 0) sCap) _;rw [hlen];simp [Builtin.append_,run_underlying hu,run_underlying Ou,sizeOf,typeInfo,hi,Builtin.lenOf,g2,hf,Mt,c8]
 ·have g3:sCap<sLen+ic l 0:=g3
  have g4:((sLen+ic l 0:Nat):Int)<=9223372036854775807:=g4;have g5:Builtin.nextslicecap (sLen+ic l 0) sCap*i.bytes<=281474976710656:=g5;rw [hlen]at g3 g4 g5;have:=Lib.run_append_grow_string (P:=P) w t t2 oo.type el i z hu Ou hi gg b sLen sCap olds g1 g2 (bE l) g3 g4 g5;rw [hy,this];show _=Result.ok (Value.slice (some ⟨w.heap.size,0,none⟩) (sLen+ic l 0) (grownCap w (sLen+ic l 0) sCap el)) (w.drew.alloc (.cells (olds.toArray++(Lib.strCells (bE l)).toArray++Builtin.zeroCells z.cells (grownCap w (sLen+ic l 0) sCap el - (sLen+ic l 0))) el));rw [hlen]
theorem AG{w:World}{a:Addr}{n i:Nat}(h:i≠a.block):(w.freeze a n).heap[i]? =w.heap[i]? :=by
 unfold World.freeze;split
 ·rfl
 ·show(w.heap.modify a.block _)[i]? =_
  rw [Array.getElem?_modify,if_neg (Ne.symm h)]
theorem C5{w:World}{a:Addr}{n:Nat}:(w.freeze a n).heap.size=w.heap.size:=by
 unfold World.freeze;split
 ·rfl
 ·show(w.heap.modify a.block _).size=_
  simp
theorem Ja{w:World}{a:Addr}{n:Nat}:jT w (w.freeze a n):=by
 unfold World.freeze;split
 ·exact jT.refl w
 ·exact⟨⟨rfl,rfl⟩,rfl,Nat.le_refl _⟩
theorem Qe(ZC:G2 P E.EY){t t2 n:Nat}{x y:Operand}{a:CC}{c:Call}(h:L1 E t a n s=some (v,s'))(ho:oo.op= .call c)(hc:c.callee= .builtin .unsafeString)(ha:c.args= #[x,y])(ht:c.argTypes= #[t,t2])(hd:Hd ρ s.H.get s.nx w)(hx:jI ρ a (e x))(hy:e y= .int .i64 n):jF P e oo ρ s s' w v:=by
 have bQ:∀u w',(Builtin.unsafeString_ #[t,t2] oo.type #[e x,.int .i64 n]).run P w= .ok u w'->(execOp e oo).run P w= .ok (.value u) w':=λ u w' hr=>by
  simp [execOp,ho,resolve,hc,ha,ht,invoke,builtin,hy,hr]
 cases n with
 |zero=>
  cases a<;>try (cases h;done)
  ·cases h
   obtain⟨b,c,r1,r2⟩:=hx;exact aF hd (u:=.string .empty) (bQ _ _ (by rw [r2];exact Lib.run_unsafeString_none w _ _ _ _)) ⟨rfl,by simp⟩
  ·cases h
   have hx:e x= .pointer none:=hx;exact aF hd (u:=.string .empty) (bQ _ _ (by rw [hx];exact Lib.run_unsafeString_none w _ _ _ _)) ⟨rfl,by simp⟩
 |succ n=>
  cases a<;>try (cases h;done)
  rename_i k off;obtain⟨h1,h⟩:=aC h;have h1:=ay.1 h1;subst h1;obtain⟨p,h2,h⟩:=au h;obtain⟨l,g⟩:=p;cases g with
  |none=>cases h
  |some g=>
   obtain⟨gz,gt⟩:=g;obtain⟨h3,hA⟩:=aC h;obtain⟨h3b,hA2⟩:=aC hA;obtain⟨m,h4,hB⟩:=au hA2;obtain⟨q,h5,hC⟩:=au hB;clear h hA hA2 hB;cases hC;obtain⟨b,c1,r1,r2⟩:=hx;obtain⟨cs,ty,g5,g6,g7,g8⟩:=dI hd (bz h2) r1;have aw:ty=gt:=g7.1;subst aw;obtain⟨k1,k2⟩:=ZC _ h3;have h4:yu l 0 (n+1)=some m:=h4;have g6:l.length<=cs.size:=g6;obtain⟨mv,r6,r7,r8⟩:=js g8 g5 h4;obtain⟨r9,r10⟩:=nj h5 r6;have hlen:q.length=n+1:=by rw [<-r7,r9];simp
   have hsm:=ah h3b
   have hle:n+1<=l.length:=by
    have:=(yE (show m9 (vN l 0) (n+1)=some m from h4)).2
    rwa [vT]at this
   have aK:=Lib.run_unsafeString_row (P:=P) w t t2 oo.type ty k1 k2 b cs.size (by simp [World.shape?,g5]) (q.map UInt8.ofNat) (by intro e;have:=congrArg List.length e;simp [hlen]at this) (by simp [hlen];omega) (by simp [hlen];omega) (λ j x hj=>by
    rw [aQ];refine r8 j _ ?_;rw [r9];rw [List.getElem?_map]at hj;cases hq:q[j]? with
    |none=>rw [hq]at hj;cases hj
    |some y=>
     rw [hq]at hj;cases hj;have hm:=List.mem_of_getElem? hq;have:=r10 y hm;rw [List.getElem?_map,hq];simp only [Option.map_some]
     congr 2
     rw [UInt8.toNat_ofNat'];omega)
   rw [List.length_map,hlen]at aK;refine .inl ⟨.string (bE q),_,bQ _ _ (by rw [r2];exact aK),ρ,bI.drop hd (bz h2) r1 (λ i _ hi=>AG hi) (by rw [C5];exact Nat.le_refl _) Ja,⟨rfl,r10⟩⟩
theorem wk:∀{l:List Operand},(∀x∈l,dU ρ (cJ T x) (e x))->nc ρ (PR T l) (l.map e)
 |[],_=>trivial
 |x::l,h=>⟨h x (by simp),wk λ y hy=>h y (List.mem_cons_of_mem _ hy)⟩
theorem nc.app:∀{l l':List CV} {m m':List Value},nc ρ l m->nc ρ l' m'->nc ρ (TA l l') (m++m')
 |[],_,[],_,_,h'=>h'|_::_,_,_::_,_,h,h'=>⟨h.1,nc.app h.2 h'⟩|[],_,_::_,_,h,_=>h.elim|_::_,_,[],_,h,_=>h.elim
theorem wo:∀{l:List CC} {m:List Value},cF ρ l m->nc ρ (E2 l) m
 |[],[],_=>trivial|_::_,_::_,h=>⟨h.1,wo h.2⟩|[],_::_,h=>h.elim|_::_,[],h=>h.elim
theorem Jb{f:FuncId}{_vs:Array Value}{c:Call}{x:Operand}(hcb:eC P f)(hc:c.callee= .value x)(ho:oo.op= .call c){cs:Array Value}(hx:e x= .func (.func f) #[] cs):(execOp e oo).run P w= .ok (.enter f (c.args.map e++cs)) w:=by
 obtain⟨fn,h1,h2,h3⟩:=hcb;have h4:fn.body≠none:=λ h=>by rw [h]at h3;cases h3
 have F3:¬(fn.name= "runtime.NumGoroutine"):=h2;simp [execOp,ho,resolve,hc,hx,Deferred.ofValue,invoke,callFunc,h1,F3,h4,program,Sem.run]
theorem Qf(aw:aO P E.TY)(hz:xg P E.TY E.TZ)(dD:CN P E){c:Call}(h:E3 E T c s=some (v,s'))(ho:oo.op= .call c)(hd:Hd ρ s.H.get s.nx w)(he:∀x∈oo.op.operands,dU ρ (cJ T x) (e x)):jF P e oo ρ s s' w v:=by
 rw [ho]at he;have bn:∀x∈c.args.toList,dU ρ (cJ T x) (e x):=λ x hx=>he x (by simp only [Op.operands,Call.operands,Array.mem_append];exact .inr (Array.mem_toList_iff.1 hx));unfold E3 at h;split at h
 ·rename_i x hc
  have hx:dU ρ (cJ T x) (e x):=he x (by simp only [Op.operands,Call.operands,hc,Array.mem_append];exact .inl (by simp))
  have fin:∀{f:FuncId} {as:List CV} {cs:Array Value},E.call f as s=some (v,s')->e x= .func (.func f) #[] cs->nc ρ as (c.args.toList.map e++cs.toList)->jF P e oo ρ s s' w v:=λ{f as cs} h1 h2 h3=>by
   obtain⟨h4,h5⟩:=dD.cal f as s v s' h1;refine .inr (.inr ⟨f,c.args.map e++cs,w,Jb (_vs:= #[]) h4 hc ho h2,?_⟩);have:=h5 ρ w _ hd h3;have fC:(c.args.toList.map e++cs.toList).toArray=c.args.map e++cs:=by apply Array.ext';simp
   rw [fC]at this;exact this.mono λ e w' ⟨u,he,ρ',hp,hv⟩=>⟨u,he,ρ',hp,hv⟩
  generalize hv:cJ T x=y at h hx;cases y with
  |c a=>
   cases a with
   |fn f=>
    simp only at h;refine fin h (cs:= #[]) hx ?_;have:=wk (T:=T) (e:=e) bn
    simpa using this
   |_=>cases h
  |Rx f l=>
   simp only at h;obtain⟨cs,h1,h2⟩:=hx;exact fin h h1 ((wk (T:=T) (e:=e) bn).app (wo h2))
  |_=>cases h
 ·rename_i b hc
  unfold yz at h;generalize hA:c.args.toList=A at h bn;generalize hB:c.argTypes.toList=B at h;cases A with
  |nil=>cases h
  |cons x A=>
   cases A with
   |nil=>
    have ha:c.args= #[x]:=by simpa using congrArg List.toArray hA
    cases b<;>try (cases h;done)
    ·
     cases B with
     |nil=>cases h
     |cons t B=>
      have ht:c.argTypes[0]? =some t:=by rw [<-Array.getElem?_toList,hB];rfl
      obtain⟨y,h1,h⟩:=au h;exact Mv aw hz h ho hc ha ht hd (b8 h1 (bn x (by simp)))
    ·
     cases B with
     |nil=>cases h
     |cons t B=>
      have ht:c.argTypes[0]? =some t:=by rw [<-Array.getElem?_toList,hB];rfl
      obtain⟨y,h1,h⟩:=au h;exact TK aw h ho hc ha ht hd (b8 h1 (bn x (by simp)))
    ·
     obtain⟨y,h1,h⟩:=au h;exact Mw h ho hc ha hd (b8 h1 (bn x (by simp)))
   |cons y A=>
    cases A with
    |cons=>cases h
    |nil=>
     have ha:c.args= #[x,y]:=by simpa using congrArg List.toArray hA
     have two:∀{t:Nat} {tys:List Nat},B=t::tys->As t tys=true->c.argTypes= #[t,t]:=λ{t tys} e1 e2=>by
      subst e1;cases tys with
      |nil=>cases e2
      |cons u l=>
       cases l with
       |nil=>have:=ay.1 e2;subst this;simpa using congrArg List.toArray hB
       |cons=>cases e2
     cases b<;>try (cases h;done)
     ·
      cases B with
      |nil=>cases h
      |cons t tys=>
       obtain⟨el,h1,h⟩:=au h;obtain⟨a,h2,h⟩:=au h;obtain⟨b,h3,h⟩:=au h;have hb:=b8 h3 (bn y (by simp))
       have other:bt (As t tys) (Ap E el a b s)=some (v,s')->jF P e oo ρ s s' w v:=λ h=>by
        obtain⟨h0,h⟩:=aC h;exact I9 aw hz h1 h ho hc ha (two rfl h0) hd (b8 h2 (bn x (by simp))) hb
       cases b with
       |str l=>
        cases tys with
        |nil=>cases h
        |cons u r=>
         cases r with
         |cons=>cases h
         |nil=>
          obtain⟨h0,h⟩:=aC h;exact Ff aw hz h1 h0 h ho hc ha (by simpa using congrArg List.toArray hB) hd (b8 h2 (bn x (by simp))) hb
       |_=>exact other h
     ·
      cases B with
      |nil=>cases h
      |cons t tys=>
       obtain⟨h0,h⟩:=aC h;obtain⟨sv,h2,h⟩:=au h;obtain⟨b,h3,h⟩:=au h;exact Qd aw h ho hc ha (two rfl h0) hd (AA h2 (bn x (by simp))) (b8 h3 (bn y (by simp)))
     ·
      obtain⟨p,h2,h⟩:=au h;obtain⟨q,h3,h⟩:=au h;obtain⟨h4,h⟩:=aC h;cases h;obtain⟨e1,i1⟩:=iM h2 (bn x (by simp));obtain⟨e2,i2⟩:=iM h3 (bn y (by simp));obtain⟨k,m⟩:=p;obtain⟨k',n⟩:=q;have hk:k=k':=bZ h4;subst hk
      by_cases hle:m<=n
      ·have:Max.max m n=n:=Int.max_eq_right hle
       refine aF hd (u:=.int k n) ?_ ?_
       ·rcases Int.lt_or_eq_of_le hle with h5|h5
        ·simp [execOp,ho,resolve,hc,ha,invoke,builtin,e1,e2,Builtin.max_,Builtin.max2,h5]
        ·subst h5;simp [execOp,ho,resolve,hc,ha,invoke,builtin,e1,e2,Builtin.max_,Builtin.max2]
       ·show jI ρ (.int k (match decide (m<=n)with|true=>n|false=>m)) _
        rw [decide_eq_true hle];exact⟨rfl,i2⟩
      ·refine aF hd (u:=.int k m) ?_ ?_
       ·have h5:¬m<n:=aa
        simp [execOp,ho,resolve,hc,ha,invoke,builtin,e1,e2,Builtin.max_,Builtin.max2,h5]
       ·show jI ρ (.int k (match decide (m<=n)with|true=>n|false=>m)) _
        rw [decide_eq_false hle];exact⟨rfl,i1⟩
     ·
      obtain⟨p,h2,h⟩:=au h;obtain⟨q,h3,h⟩:=au h;obtain⟨h4,h⟩:=aC h;cases h;obtain⟨e1,i1⟩:=iM h2 (bn x (by simp));obtain⟨e2,i2⟩:=iM h3 (bn y (by simp));obtain⟨k,m⟩:=p;obtain⟨k',n⟩:=q;have hk:k=k':=bZ h4;subst hk
      by_cases hle:m<=n
      ·refine aF hd (u:=.int k m) ?_ ?_
       ·have h5:¬n<m:=aa
        simp [execOp,ho,resolve,hc,ha,invoke,builtin,e1,e2,Builtin.min_,Builtin.min2,h5]
       ·show jI ρ (.int k (match decide (m<=n)with|true=>m|false=>n)) _
        rw [decide_eq_true hle];exact⟨rfl,i1⟩
      ·refine aF hd (u:=.int k n) ?_ ?_
       ·have h5:n<m:=aa
        simp [execOp,ho,resolve,hc,ha,invoke,builtin,e1,e2,Builtin.min_,Builtin.min2,h5]
       ·show jI ρ (.int k (match decide (m<=n)with|true=>m|false=>n)) _
        rw [decide_eq_false hle];exact⟨rfl,i2⟩
     ·
      cases B with
      |nil=>cases h
      |cons t tys=>
       cases tys with
       |nil=>cases h
       |cons u r=>
        cases r with
        |cons=>cases h
        |nil=>
         obtain⟨⟨k,m⟩,h2,h6⟩:=au h;obtain⟨h3,h7⟩:=aC h6;obtain⟨n,h4,h8⟩:=au h7;obtain⟨a,h5,h9⟩:=au h8;obtain⟨e2,i2⟩:=iM h2 (bn y (by simp));have hk:k= .i64:=bZ h3;subst hk
         have hm:m=(n:Int):=by
          cases m with
          |ofNat m=>cases h4;rfl
          |negSucc m=>cases h4
         subst hm;exact Qe dD.EY h9 ho hc ha (by simpa using congrArg List.toArray hB) hd (b8 h5 (bn x (by simp))) e2
 ·cases h
theorem RH(aw:aO P E.TY)(hz:xg P E.TY E.TZ)(dD:CN P E){o:Op}(h:E4 E o T s=some (v,s'))(ho:oo.op=o)(hd:Hd ρ s.H.get s.nx w)(he:∀x∈o.operands,dU ρ (cJ T x) (e x)):jF P e oo ρ s s' w v:=by
 subst ho;generalize ho:oo.op=o at h he;rw [<-ho]at he;cases o with
 |move x=>cases h;exact G5 (.inl ho) hd he
 |assign x=>cases h;exact G5 (.inr ho) hd he
 |pick c a b=>exact P1 h ho hd he
 |alloc t=>exact Md hz h ho hd
 |box t x=>exact TJ h ho hd he
 |build t ps=>exact Me aw hz h ho hd he
 |buildSlice t n ps=>exact IZ aw hz h ho hd he
 |insert t x k y=>exact Mq aw h (.inr ho) hd he
 |load t x=>exact P6 aw h ho hd he
 |store t x y=>exact Mc aw h ho hd he
 |nilCheck x=>exact TH h ho hd he
 |binOp op t x y ty=>exact TG aw dD.eqs h ho hd he
 |unOp op t x=>exact Wv h ho hd he
 |convert a b x=>exact P9 aw h ho hd he
 |makeFunc fn first cap=>exact TI h ho hd he
 |makeMap t r=>exact Fb aw h ho hd he
 |makeSlice t l c=>exact P7 aw hz h ho hd he
 |slice t x lo hi mx=>exact Mg aw h ho hd he
 |fieldAddr t x f=>exact I4 aw h ho hd he
 |field t x f=>exact Mh aw h ho hd he
 |indexAddr t x i=>exact I5 aw h ho hd he
 |index t x i=>exact Mi aw h ho hd he
 |lookup t x k ok=>exact Qa aw hz h ho hd he
 |mapUpdate t x k y=>exact Mq aw h (.inl ho) hd he
 |extract x i=>exact E8 h ho hd he
 |call c=>exact Qf aw hz dD h ho hd he
 |_=>cases h
end
end Go.CM
end
section
namespace Go.CM
open Go Go.AM
section
variable{P:Program}{E:Ev}{ρ:Rn}{w:World}
theorem Hc{ops:Array Oper}{o:Oper}{T:cQ}{a:Act}{g:Bool}(h:TB ops o.guard T=some g)(hv:∀d,d∈o.looksAt ops->dU ρ (lQ T d) (a.tmps.getD d undef)):Region.wanted o (yielded ops a.tmps)=g:=by
 unfold Region.wanted;cases hg:o.guard with
 |none=>rw [hg]at h;cases h;rfl
 |some jw=>
  obtain⟨j,want⟩:=jw;rw [hg]at h;obtain⟨d,h3,h⟩:=au h;have h3:(ops[j]?).bind (·.dst)=some d:=h3
  have hm:d∈o.looksAt ops:=by
   unfold Oper.looksAt;rw [hg];simp [h3]
  have hr:=hv d hm;show(yielded ops a.tmps j==some want)=g;unfold yielded;rw [h3];simp only [Option.bind_some];split at h
  ·rename_i x hx
   split at h
   ·rename_i b
    rw [hx]at hr;have hr:a.tmps.getD d undef= .bool b:=hr
    have hq:a.tmps[d]? =some (.bool b):=by
     cases hq:a.tmps[d]? with
     |none=>rw [Array.getD_eq_getD_getElem?,hq]at hr;cases hr
     |some v=>rw [Array.getD_eq_getD_getElem?,hq]at hr;exact congrArg some hr
    rw [hq];cases want<;>cases b<;>(cases h;rfl)
   ·cases h
  ·rename_i l hl
   split at h
   ·cases h
    rw [hl]at hr;obtain⟨cs,h4,h5⟩:=hr;cases hq:a.tmps[d]? with
    |none=>rfl
    |some v=>
     rw [Array.getD_eq_getD_getElem?,hq]at h4;have h4:v= .tuple cs:=h4;subst h4;rfl
   ·cases h
  ·cases h
theorem AH{ops:Array Oper}{o:Oper}{t:Nat}(h:Operand.tmp t∈o.op.operands):t∈o.looksAt ops:=by
 unfold Oper.looksAt;exact List.mem_append.2 (.inl (List.mem_filterMap.2 ⟨.tmp t,Array.mem_toList_iff.2 h,rfl⟩))
theorem Mx{ops:Array Oper}{o:Oper}{T:cQ}{a:Act}(hv:∀d,d∈o.looksAt ops->dU ρ (lQ T d) (a.tmps.getD d undef)):∀x∈o.op.operands,dU ρ (cJ T x) (a.eval x):=λ x hx=>by
 cases x with
 |tmp t=>exact hv t (AH hx)
 |const v=>exact vZ ρ v
 |global g=>trivial
 |func f=>exact rfl
theorem wq(aw:aO P E.TY)(hz:xg P E.TY E.TZ)(dD:CN P E){ops:Array Oper}{Q:Exit->Act->World->Prop}:∀(rest:List Oper) (i:Nat) {T T':cQ} {s s':HS} {ρ:Rn} {w:World} {a:Act},
  ops.toList.drop i=rest->GV E ops rest T s=some (T',s')->Hd ρ s.H.get s.nx w->yI ρ T a->(∀ρ' a' w',bI ρ ρ' s s' w w'->yI ρ' T' a'->Q .normal a' w')->wpOps P ops Q (List.range' i rest.length) a w
 |[],i,T,T',s,s',ρ,w,a,_,h,hd,tm,hQ=>by cases h;exact hQ ρ a w (bI.refl hd) tm
 |o::rest,i,T,T',s,s',ρ,w,a,hr,h,hd,tm,hQ=>by
  have hi:ops[i]? =some o:=by
   have:=congrArg (·.head?) hr;simp [List.head?_drop]at this;exact this
  have Eh:ops.toList.drop (i+1)=rest:=by
   have:=congrArg List.tail hr
   simpa [List.tail_drop]using this
  rw [List.length_cons,List.range'_succ,wpOps_cons];obtain⟨g,hg,h⟩:=au h;have hw:=Hc (a:=a) hg (λ d _=>tm.tmp d);simp only [wpOp,hi];cases g with
  |true=>
   rw [if_pos hw];obtain⟨p,h1,h⟩:=au h;obtain⟨T1,h2,h⟩:=au h;refine .inl ((RH (e:=a.eval) (oo:=o) aw hz dD h1 rfl hd (λ x _=>G0 tm x)).wp λ u w' ⟨ρ',hp,hv⟩=>?_);exact wq aw hz dD rest (i+1) Eh h hp.hd ((tm.ext hp.ext).put h2 hv) λ ρ'' a' w'' ZD tm'=>hQ ρ'' a' w'' (hp.trans ZD) tm'
  |false=>
   rw [if_neg (by rw [hw];simp)];obtain⟨T1,h2,h⟩:=au h;exact wq aw hz dD rest (i+1) Eh h hd (tm.put h2 (kY ρ)) hQ
end
section
variable{σ σ':Rn}(he:Ext σ σ')
include he
theorem jI.back{a:CC}{v0 v:Value}(h0:jI σ a v0)(h:jI σ' a v):jI σ a v:=by
 cases a with
 |ptr k off=>
  obtain⟨b,c,h1,_⟩:=h0;obtain⟨b',c',h2,h3⟩:=h;rw [he _ _ h1]at h2;cases h2;exact⟨b,c,h1,h3⟩
 |sl k off len cap=>
  obtain⟨b,c,x,h1,_⟩:=h0;obtain⟨b',c',x',h2,h3⟩:=h;rw [he _ _ h1]at h2;cases h2;exact⟨b,c,x',h1,h3⟩
 |mp k=>
  obtain⟨b,c,h1,_⟩:=h0;obtain⟨b',c',h2,h3⟩:=h;rw [he _ _ h1]at h2;cases h2;exact⟨b,c,h1,h3⟩
 |_=>exact h
theorem cF.back:∀{l:List CC} {m0 m:List Value},cF σ l m0->cF σ' l m->cF σ l m
 |[],_,[],_,_=>trivial
 |_::_,_::_,_::_,h0,h=>⟨h0.1.back he h.1,cF.back h0.2 h.2⟩
 |[],_,_::_,_,h=>h.elim
 |_::_,[],_,h0,_=>h0.elim
 |_::_,_::_,[],_,h=>h.elim
theorem pe.back{a:CW}{v0 v:Value}(h0:pe σ a v0)(h:pe σ' a v):pe σ a v:=by
 cases a with
 |c x=>exact jI.back he h0 h
 |a l=>
  obtain⟨cs0,_,h0⟩:=h0;obtain⟨cs,h1,h2⟩:=h;exact⟨cs,h1,h0.back he h2⟩
theorem sR.back:∀{l:List (CW × CW)} {m0 m:List MapEntry},sR σ l m0->sR σ' l m->sR σ l m
 |[],_,[],_,_=>trivial
 |_::_,_::_,_::_,h0,h=>⟨⟨h0.1.1.back he h.1.1,h0.1.2.back he h.1.2⟩,sR.back h0.2 h.2⟩
 |[],_,_::_,_,h=>h.elim
 |_::_,[],_,h0,_=>h0.elim
 |_::_,_::_,[],_,h=>h.elim
theorem Bi.back{c:Nat}{o:CO}{x0 x:Obj}(h0:Bi σ c o x0)(h:Bi σ' c o x):Bi σ c o x:=by
 cases o with
 |cells l g=>
  obtain⟨_,_,_,_,_,h0⟩:=h0;obtain⟨cs,ty,h1,h2,h3,h4⟩:=h;exact⟨cs,ty,h1,h2,h3,h0.back he h4⟩
 |map es=>
  obtain⟨_,_,_,h0⟩:=h0;obtain⟨en,n,h1,h2⟩:=h;exact⟨en,n,h1,h0.back he h2⟩
end
end Go.CM
end
section
namespace Go.CM
open Go Go.AM
def yJ(Bf:Nat->Nat->Prop)(i j:Nat):Prop:=j≠i/\¬Bf i j/\¬Bf j i
def Hid(n:Nat)(Bf:Nat->Nat->Prop)(touch:Nat->Nat->Prop)(i k:Nat):Prop:=∃j,j<n/\yJ Bf i j/\touch j k
structure C6(A:Array Oper)(Bf:Nat->Nat->Prop):Prop where
 lt:∀i j,Bf i j->j<i
 Ie:∀i j,Bf i j->∃o,A[i]? =some o/\∃e∈o.after,eS e=true/\(e.on=j\/Bf e.on j)
 back:∀i o,A[i]? =some o->∀e∈o.after,eS e=true->e.on<i
 looks:∀i o,A[i]? =some o->∀t∈o.looksAt A,∀j,bG A j=some t->j=i\/Bf i j\/Bf j i
 K2:∀i j d,bG A i=some d->bG A j=some d->i=j
structure jv(E:Ev)(A:Array Oper)(Bf:Nat->Nat->Prop)(T:Nat->cQ)(H:Nat->Nat->Option CO)(lo:Nat->Nat)(wr:Nat->List Nat)(touch:Nat->Nat->Prop):Prop where
 step:∀i o,A[i]? =some o->∃g,TB A o.guard (T i)=some g/\
  (g=true->∃v s1 s2,E4 E o.op (T i) s1=some (v,s2)/\og o.dst (T i) v=some (T (i+1))/\s1.nx=lo i/\s1.wb=lo i/\s2.nx=lo (i+1)/\s2.wr=wr i/\
    (∀k,Hid A.size Bf touch i k->s1.H.get k=none)/\(∀k,¬Hid A.size Bf touch i k->s1.H.get k=H i k)/\(∀k,touch i k->H (i+1) k=s2.H.get k))/\
  (g=false->og o.dst (T i) (.t [])=some (T (i+1))/\lo (i+1)=lo i/\(∀k,¬touch i k))
 rest:∀i k,i<A.size->¬touch i k->H (i+1) k=H i k
 mono:∀i,i<A.size->lo i<=lo (i+1)
 new:∀i k,i<A.size->lo i<=k->k<lo (i+1)->touch i k
 wrT:∀i k,i<A.size->k∈wr i->touch i k
 apart:∀i k,i<A.size->touch i k->¬Hid A.size Bf touch i k
def ig(ρ:Rn)(n:Nat):Rn:=λ k=>if k<n then ρ k else none
theorem uk{ρ:Rn}{n k:Nat}(h:k<n):ig ρ n k=ρ k:=if_pos h
theorem AJ{ρ:Rn}{n k:Nat}(h:n<=k):ig ρ n k=none:=if_neg aa
theorem cK{ρ:Rn}{n k:Nat}{x:Nat × Nat}(h:ig ρ n k=some x):k<n/\ρ k=some x:=by
 unfold ig at h;split at h
 ·exact⟨‹_›,h⟩
 ·cases h
theorem jx{ρ ρ':Rn}{n m:Nat}(h:Ext ρ ρ')(hn:n<=m):Ext (ig ρ n) (ig ρ' m):=λ k x hk=>by
 obtain⟨h1,h2⟩:=cK hk;rw [uk aa];exact h k x h2
theorem um(ρ:Rn)(n:Nat):Ext (ig ρ n) ρ:=λ _k _x hk=>(cK hk).2
section
variable{P:Program}{E:Ev}{A:Array Oper}{Bf:Nat->Nat->Prop}{T:Nat->cQ}{H:Nat->Nat->Option CO}{lo:Nat->Nat}{wr:Nat->List Nat}{touch:Nat->Nat->Prop}
theorem jv.slot(p:jv E A Bf T H lo wr touch){i t:Nat}(hi:i<A.size)(h:bG A i≠some t):lQ (T (i+1)) t=lQ (T i) t/\(T (i+1)).n=(T i).n:=by
 obtain⟨g,_,h1,h2⟩:=p.step i _ (Array.getElem?_eq_getElem hi)
 have key:∀v,og A[i].dst (T i) v=some (T (i+1))->lQ (T (i+1)) t=lQ (T i) t/\(T (i+1)).n=(T i).n:=λ v hv=>by
  have hd:bG A i=A[i].dst:=by simp [bG,Array.getElem?_eq_getElem hi]
  rw [hd]at h;cases He:A[i].dst with
  |none=>
   rw [He]at hv;have hv:some (T i)=some (T (i+1)):=hv;rw [<-Option.some.inj hv];exact⟨rfl,rfl⟩
  |some d=>
   rw [He]at hv h;have hv:IL (T i) d v=some (T (i+1)):=hv;refine⟨?_,?_⟩
   ·rw [qE hv,if_neg λ e=>h (by rw [e])]
   ·obtain⟨_,h3⟩:=aC hv
    have h3:=Option.some.inj h3;rw [<-h3]
 cases g with
 |true=>obtain⟨v,s1,s2,_,h3,_⟩:=h1 rfl;exact key v h3
 |false=>exact key _ (h2 rfl).1
theorem jv.size(p:jv E A Bf T H lo wr touch):∀{i:Nat},i<=A.size->(T i).n=(T 0).n
 |0,_=>rfl
 |i+1,h=>by
  have hi:i<A.size:=h
  obtain⟨t,ht⟩:∃t,bG A i≠some t:=by
   cases hd:bG A i with
   |none=>exact⟨0,by simp⟩
   |some d=>exact⟨d+1,by simp⟩
  rw [(p.slot hi ht).2,jv.size p (Nat.le_of_lt hi)]
theorem jv.C7(p:jv E A Bf T H lo wr touch){t m:Nat}:∀{i:Nat},m<=i->i<=A.size->(∀j,m<=j->j<i->bG A j≠some t)->lQ (T i) t=lQ (T m) t
 |0,h,_,_=>by have:m=0:=aa
              subst this;rfl
 |i+1,h,hi,hn=>by
  by_cases e:m=i+1
  ·subst e;rfl
  ·rw [(p.slot aa (hn i aa aa)).1]
   exact jv.C7 p aa aa λ j h1 h2=>hn j h1 aa
theorem jv.keys(p:jv E A Bf T H lo wr touch){k m:Nat}:∀{i:Nat},m<=i->i<=A.size->(∀j,m<=j->j<i->¬touch j k)->H i k=H m k
 |0,h,_,_=>by have:m=0:=aa
              subst this;rfl
 |i+1,h,hi,hn=>by
  by_cases e:m=i+1
  ·subst e;rfl
  ·rw [p.rest i k aa (hn i aa aa)]
   exact jv.keys p aa aa λ j h1 h2=>hn j h1 aa
theorem jv.lo_le(p:jv E A Bf T H lo wr touch){m:Nat}:∀{i:Nat},m<=i->i<=A.size->lo m<=lo i
 |0,h,_=>by have:m=0:=aa
            subst this;exact Nat.le_refl _
 |i+1,h,hi=>by
  by_cases e:m=i+1
  ·subst e;exact Nat.le_refl _
  ·exact Nat.le_trans (jv.lo_le p aa aa) (p.mono i aa)
structure Inv(A:Array Oper)(T:Nat->cQ)(H:Nat->Nat->Option CO)(lo:Nat->Nat)(wr:Nat->List Nat)(touch:Nat->Nat->Prop)(ρ0:Rn)(w0:World)(D:Nat->Prop)(ρ:Rn)(m:Nat->Nat)(a:Act)(w:World):Prop where
 Wy:∀k,(m k=0/\∀j,D j->¬touch j k)\/∃j,m k=j+1/\D j/\touch j k/\∀j',D j'->touch j' k->j'<=j
 base:∀k,k<lo 0->ρ k=ρ0 k
 ga:∀k,ρ k≠none->k<lo 0\/∃j,D j/\lo j<=k/\k<lo (j+1)
 obj:∀k o,H (m k) k=some o->∃b c x,ig ρ (lo (m k)) k=some (b,c)/\w.heap[b]? =some x/\Bi (ig ρ (lo (m k))) c o x
 inj:∀k k' o o' b c c',H (m k) k=some o->H (m k') k'=some o'->ρ k=some (b,c)->ρ k'=some (b,c')->k=k'
 frame:∀b,b<w0.heap.size->(∀k o c,H 0 k=some o->ρ0 k≠some (b,c))->w.heap[b]? =w0.heap[b]?
 fresh:∀k o b c,H (m k) k=some o->ρ k=some (b,c)->w0.heap.size<=b\/∃k0 o0 c0,H 0 k0=some o0/\ρ0 k0=some (b,c0)
 size:w0.heap.size<=w.heap.size
 io:jT w0 w
 keep:∀i,D i->∀k,touch i k->k<lo i->k∉wr i->H (i+1) k=H i k
 TL:z8 w0/\∀k o b c,H 0 k=some o->ρ0 k=some (b,c)->b≠0
 defers:a.defers=[]
 C8:a.tmps.size=(T 0).n
 tmp:∀t,(∃j,D j/\bG A j=some t/\dU (ig ρ (lo (j+1))) (lQ (T (j+1)) t) (a.tmps.getD t undef))\/((∀j,D j->bG A j≠some t)/\dU (ig ρ (lo 0)) (lQ (T 0) t) (a.tmps.getD t undef))
section
variable{ρ0 ρ:Rn}{w0 w:World}{D:Nat->Prop}{m:Nat->Nat}{a:Act}{i:Nat}{o:Oper}
theorem si(c9:¬D i)(nk:∀i,D i->∀j,Bf i j->D j){j:Nat}(hj:D j)(h:¬yJ Bf i j):Bf i j:=by
 have bm:j≠i:=λ e=>c9 (e▸hj);exact Classical.byContradiction λ h1=>h ⟨bm,h1,λ h2=>c9 (nk j hj i h2)⟩
theorem Inv.seen(p:jv E A Bf T H lo wr touch)(od:C6 A Bf)(I:Inv A T H lo wr touch ρ0 w0 D ρ m a w)(hD:∀i,D i->i<A.size)(nk:∀i,D i->∀j,Bf i j->D j)(hi:i<A.size)(c9:¬D i)(gD:∀j,Bf i j->D j){k:Nat}(hk:¬Hid A.size Bf touch i k):
  m k<=i/\H i k=H (m k) k:=by
 have hu:∀j,j<A.size->touch j k->¬yJ Bf i j:=λ j h1 h2 h3=>hk ⟨j,h1,h3,h2⟩
 have My:∀j,j<i->touch j k->D j:=λ j hj ht=>by
  have:=hu j aa ht;refine gD j (Classical.byContradiction λ h1=>this ⟨aa,h1,λ h2=>?_⟩);have:=od.lt j i h2;omega
 rcases I.Wy k with ⟨h1,h2⟩|⟨j,h1,h2,h3,h4⟩
 ·refine⟨aa,?_⟩
  rw [h1];exact p.keys (Nat.zero_le _) aa λ j _ hj ht=>h2 j (My j hj ht) ht
 ·have hb:=si (Bf:=Bf) c9 nk h2 (hu j (hD j h2) h3)
  have aS:=od.lt i j hb;refine⟨aa,?_⟩;rw [h1]
  exact p.keys aa aa λ j' mB jK ht=>by
   have:=h4 j' (My j' jK ht) ht;omega
theorem Inv.Wz(p:jv E A Bf T H lo wr touch)(od:C6 A Bf)(I:Inv A T H lo wr touch ρ0 w0 D ρ m a w)(_hD:∀i,D i->i<A.size)(nk:∀i,D i->∀j,Bf i j->D j)(ho:A[i]? =some o)(hi:i<A.size)(c9:¬D i)(gD:∀j,Bf i j->D j){t:Nat}(ht:t∈o.looksAt A):
  dU (ig ρ (lo i)) (lQ (T i) t) (a.tmps.getD t undef):=by
 have WA:∀j,bG A j=some t->¬yJ Bf i j:=λ j hj hu=>by
  rcases od.looks i o ho t ht j hj with h|h|h
  ·exact hu.1 h
  ·exact hu.2.1 h
  ·exact hu.2.2 h
 rcases I.tmp t with ⟨j,h1,h2,h3⟩|⟨h1,h2⟩
 ·have aS:=od.lt i j (si c9 nk h1 (WA j h2))
  rw [p.C7 (t:=t) (m:=j+1) aa aa λ j' mB jK hd=>by have:=od.K2 j' j t hd h2;omega];exact h3.ext (jx (Ext.refl _) (p.lo_le aa aa))
 ·rw [p.C7 (t:=t) (m:=0) (Nat.zero_le _) aa λ j' _ jK hd=>by
   refine h1 j' (gD j' (Classical.byContradiction λ hb=>WA j' hd ⟨aa,hb,λ h2=>?_⟩)) hd;have:=od.lt j' i h2;omega]
  exact h2.ext (jx (Ext.refl _) (p.lo_le (Nat.zero_le _) aa))
theorem Inv.lw{A:Array Oper}{T:Nat->cQ}{H:Nat->Nat->Option CO}{lo:Nat->Nat}{wr:Nat->List Nat}{touch:Nat->Nat->Prop}(I:Inv A T H lo wr touch ρ0 w0 D ρ m a w):z8 w:=
 qA I.TL.1 (I.frame 0 (nf I.TL.1) λ k o c hk hr=>I.TL.2 k o 0 c hk hr rfl)
theorem Inv.nz{A:Array Oper}{T:Nat->cQ}{H:Nat->Nat->Option CO}{lo:Nat->Nat}{wr:Nat->List Nat}{touch:Nat->Nat->Prop}(I:Inv A T H lo wr touch ρ0 w0 D ρ m a w){k:Nat}{o:CO}{b c:Nat}(hk:H (m k) k=some o)(hb:ρ k=some (b,c)):b≠0:=by
 rcases I.fresh k o b c hk hb with h|⟨k0,o0,c0,h1,h2⟩
 ·have:=nf I.TL.1;omega
 ·exact I.TL.2 k0 o0 b c0 h1 h2
theorem Inv.hd(p:jv E A Bf T H lo wr touch)(od:C6 A Bf)(I:Inv A T H lo wr touch ρ0 w0 D ρ m a w)(hD:∀i,D i->i<A.size)(nk:∀i,D i->∀j,Bf i j->D j)(hi:i<A.size)(c9:¬D i)(gD:∀j,Bf i j->D j){h:Nat->Option CO}
  (h1:∀k,Hid A.size Bf touch i k->h k=none) (h2:∀k,¬Hid A.size Bf touch i k->h k=H i k):Hd (ig ρ (lo i)) h (lo i) w:=by
 have see:∀{k o},h k=some o->m k<=i/\H (m k) k=some o:=λ{k o} hk=>by
  have hn:¬Hid A.size Bf touch i k:=λ hh=>by rw [h1 k hh]at hk;cases hk
  obtain⟨h3,h4⟩:=I.seen p od hD nk hi c9 gD hn;exact⟨h3,by rw [<-h4,<-h2 k hn];exact hk⟩
 refine⟨λ k o hk=>?_,λ k k' o o' b c c' hk n6 hb cr=>?_,λ k hk=>AJ hk,I.lw,λ k o b c hk hb=>I.nz (see hk).2 (cK hb).2⟩
 ·obtain⟨h3,h4⟩:=see hk
  obtain⟨b,c,x,h5,h6,h7⟩:=I.obj k o h4;have he:Ext (ig ρ (lo (m k))) (ig ρ (lo i)):=jx (Ext.refl _) (p.lo_le h3 aa);exact⟨b,c,x,he _ _ h5,h6,h7.ext he⟩
 ·exact I.inj k k' o o' b c c' (see hk).2 (see n6).2 (cK hb).2 (cK cr).2
theorem Inv.skip(p:jv E A Bf T H lo wr touch)(_od:C6 A Bf)(I:Inv A T H lo wr touch ρ0 w0 D ρ m a w)(ho:A[i]? =some o)(hi:i<A.size)(c9:¬D i)(hd:og o.dst (T i) (.t [])=some (T (i+1)))(ht:∀k,¬touch i k){D':Nat->Prop}(oE:∀j,D' j↔j=i\/D j):
  Inv A T H lo wr touch ρ0 w0 D' ρ m (a.put o.dst undef) w:=by
 have tN:bG A i=o.dst:=by simp [bG,ho]
 refine⟨λ k=>?_,I.base,λ k hk=>?_,I.obj,I.inj,I.frame,I.fresh,I.size,I.io,λ j hj k tL=>?_,I.TL,?_,?_,λ t=>?_⟩
 ·rcases I.Wy k with ⟨h1,h2⟩|⟨j,h1,h2,h3,h4⟩
  ·exact .inl ⟨h1,λ j hj=>by
    rcases (oE j).1 hj with rfl|hj
    ·exact ht k
    ·exact h2 j hj⟩
  ·exact .inr ⟨j,h1,(oE j).2 (.inr h2),h3,λ j' mb TM=>by
    rcases (oE j').1 mb with rfl|mb
    ·exact absurd TM (ht k)
    ·exact h4 j' mb TM⟩
 ·rcases I.ga k hk with h|⟨j,h1,h2⟩
  ·exact .inl h
  ·exact .inr ⟨j,(oE j).2 (.inr h1),h2⟩
 ·rcases (oE j).1 hj with rfl|hj
  ·exact absurd tL (ht k)
  ·exact I.keep j hj k tL
 ·cases He:o.dst<;>simp [Act.put,I.defers]
 ·cases He:o.dst<;>simp [Act.put,I.C8]
 ·by_cases Gh:o.dst=some t
  ·refine .inl ⟨i,(oE i).2 (.inl rfl),by rw [tN];exact Gh,?_⟩
   rw [Gh]at hd ⊢;have hd:IL (T i) t (.t [])=some (T (i+1)):=hd;rw [qE hd,if_pos rfl];obtain⟨h1,_⟩:=aC hd;have aS:t<a.tmps.size:=by rw [I.C8,<-p.size (Nat.le_of_lt hi)];exact ah h1
   have:(a.put (some t) undef).tmps.getD t undef=undef:=by simp [Act.put,aS]
   rw [this];exact kY _
  ·have e1:(a.put o.dst undef).tmps.getD t undef=a.tmps.getD t undef:=by
    cases He:o.dst with
    |none=>rfl
    |some d=>
     have bm:d≠t:=λ e=>Gh (by rw [He,e]);simp [Act.put,Array.getD_eq_getD_getElem?,Array.getElem?_setIfInBounds_ne bm]
   rw [e1];rcases I.tmp t with ⟨j,h1,h2⟩|⟨h1,h2⟩
   ·exact .inl ⟨j,(oE j).2 (.inr h1),h2⟩
   ·exact .inr ⟨λ j hj=>by
     rcases (oE j).1 hj with rfl|hj
     ·rw [tN];exact Gh
     ·exact h1 j hj,h2⟩
theorem Inv.next(p:jv E A Bf T H lo wr touch)(od:C6 A Bf)(I:Inv A T H lo wr touch ρ0 w0 D ρ m a w)(hD:∀i,D i->i<A.size)(nk:∀i,D i->∀j,Bf i j->D j)(ho:A[i]? =some o)(hi:i<A.size)(c9:¬D i)(gD:∀j,Bf i j->D j)
  {v:CV} {u:Value} {s1 s2:HS} {ρ':Rn} {w':World} (hd:og o.dst (T i) v=some (T (i+1))) (e1:s1.nx=lo i) (e2:s1.wb=lo i) (e3:s2.nx=lo (i+1)) (e4:s2.wr=wr i)
  (h1:∀k,Hid A.size Bf touch i k->s1.H.get k=none) (h2:∀k,¬Hid A.size Bf touch i k->s1.H.get k=H i k) (h3:∀k,touch i k->H (i+1) k=s2.H.get k)
  (po:bI (ig ρ (lo i)) ρ' s1 s2 w w') (hv:dU ρ' v u) {D':Nat->Prop} (oE:∀j,D' j↔j=i\/D j):
  ∃ρ2 m2,Inv A T H lo wr touch ρ0 w0 D' ρ2 m2 (a.put o.dst u) w':=by
 classical
 have tN:bG A i=o.dst:=by simp [bG,ho]
 have HK:=I.hd p od hD nk hi c9 gD h1 h2
 let ρ2:Rn:=λ k=>if lo i<=k/\k<lo (i+1) then ρ' k else ρ k
 let m2:Nat->Nat:=λ k=>if touch i k then i+1 else m k
 have ZE:∀{k},lo i<=k->k<lo (i+1)->ρ2 k=ρ' k:=λ{k} g1 g2=>if_pos ⟨g1,g2⟩;have C9:∀{k},(k<lo i\/lo (i+1)<=k)->ρ2 k=ρ k:=λ{k} g=>if_neg aa;have qu:=p.mono i hi;have ac6:lo 0<=lo i:=p.lo_le (Nat.zero_le _) aa
 have Mz:∀k,k<lo (i+1)->ρ' k=ρ2 k:=λ k hk=>by
  by_cases JA:k<lo i
  ·rw [C9 (.inl JA),po.same k (by rw [e1];exact JA),uk JA]
  ·rw [ZE aa hk]
 have RI:ρ'=ig ρ2 (lo (i+1)):=funext λ k=>by
  by_cases hk:k<lo (i+1)
  ·rw [uk hk];exact Mz k hk
  ·rw [AJ aa];exact po.hd.new k (by rw [e3];omega)
 have fa:Ext ρ ρ2:=λ k x hk=>by
  rw [<-hk];refine C9 ?_;rcases I.ga k (by rw [hk];simp)with g|⟨j,g1,g2,g3⟩
  ·exact .inl aa
  ·have bm:j≠i:=λ e=>c9 (e▸g1)
   have XV:=hD j g1;rcases Nat.lt_or_ge j i with g|g
   ·have:=p.lo_le (m:=j+1) (i:=i) aa aa;exact .inl aa
   ·have:=p.lo_le (m:=i+1) (i:=j) aa aa;exact .inr aa
 have WB:Ext (ig ρ (lo i)) ρ':=po.ext;have ZF:∀{k},touch i k->m2 k=i+1:=λ{k} g=>if_pos g;have WC:∀{k},¬touch i k->m2 k=m k:=λ{k} g=>if_neg g;have see:∀{k},¬Hid A.size Bf touch i k->m k<=i/\H i k=H (m k) k:=λ{k} hk=>I.seen p od hD nk hi c9 gD hk
 have hidden:∀{k o},Hid A.size Bf touch i k->H (m2 k) k=some o->¬touch i k/\m2 k=m k/\H (m k) k=some o/\ρ2 k=ρ k:=λ{k o} hk Qg=>by
  have Vd:¬touch i k:=λ g=>p.apart i k hi g hk;refine⟨Vd,WC Vd,by rw [WC Vd]at Qg;exact Qg,C9 ?_⟩;rcases Nat.lt_or_ge k (lo i)with g|g
  ·exact .inl g
  ·rcases Nat.lt_or_ge k (lo (i+1))with g'|g'
   ·exact absurd (p.new i k hi g g') Vd
   ·exact .inr g'
 have left_:∀{k o},¬touch i k->¬Hid A.size Bf touch i k->H (m k) k=some o->s1.H.get k=some o/\s2.H.get k=some o/\k<lo i:=λ{k o} Vd hk Qg=>by
  obtain⟨g1,g2⟩:=see hk;have g3:s1.H.get k=some o:=by rw [h2 k hk,g2];exact Qg
  have g4:k<lo i:=HK.lt g3;exact⟨g3,by rw [po.keep k (by rw [e2];exact g4) (by rw [e1];exact g4) (by rw [e4];exact λ g=>Vd (p.wrT i k hi g))];exact g3,g4⟩
 have seen2:∀{k o},¬Hid A.size Bf touch i k->H (m2 k) k=some o->s2.H.get k=some o/\k<lo (i+1)/\ρ2 k=ρ' k:=λ{k o} hk Qg=>by
  have g:s2.H.get k=some o:=by
   by_cases ht:touch i k
   ·rw [ZF ht,h3 k ht]at Qg;exact Qg
   ·rw [WC ht]at Qg;exact(left_ ht hk Qg).2.1
  have g2:k<lo (i+1):=by rw [<-e3];exact po.hd.lt g
  exact⟨g,g2,(Mz k g2).symm⟩
 have back:∀{k o},s1.H.get k=some o->¬Hid A.size Bf touch i k/\H (m k) k=some o:=λ{k o} hk=>by
  have hn:¬Hid A.size Bf touch i k:=λ hh=>by rw [h1 k hh]at hk;cases hk
  exact⟨hn,by rw [<-(see hn).2,<-h2 k hn];exact hk⟩
 refine⟨ρ2,m2,⟨λ k=>?_,λ k hk=>?_,λ k hk=>?_,λ k y hk=>?_,λ k k' y y' b c c' hk n6 hb cr=>?_,λ b hb hn=>?_,λ k y b c hk hb=>?_,Nat.le_trans I.size po.size,I.io.trans po.io,λ j hj k tL aS hnw=>?_,I.TL,?_,?_,λ t=>?_⟩⟩
 ·by_cases ht:touch i k
  ·refine .inr ⟨i,ZF ht,(oE i).2 (.inl rfl),ht,λ j' mb TM=>?_⟩
   rcases (oE j').1 mb with rfl|mb
   ·exact Nat.le_refl _
   ·have:¬yJ Bf i j':=λ hu=>p.apart i k hi ht ⟨j',hD j' mb,hu,TM⟩
    exact Nat.le_of_lt (od.lt i j' (si c9 nk mb this))
  ·rw [WC ht]
   rcases I.Wy k with ⟨g1,g2⟩|⟨j,g1,g2,g3,g4⟩
   ·exact .inl ⟨g1,λ j hj=>by
     rcases (oE j).1 hj with rfl|hj
     ·exact ht
     ·exact g2 j hj⟩
   ·exact .inr ⟨j,g1,(oE j).2 (.inr g2),g3,λ j' mb TM=>by
     rcases (oE j').1 mb with rfl|mb
     ·exact absurd TM ht
     ·exact g4 j' mb TM⟩
 ·rw [C9 (.inl aa)];exact I.base k hk
 ·by_cases JA:lo i<=k/\k<lo (i+1)
  ·exact .inr ⟨i,(oE i).2 (.inl rfl),JA⟩
  ·rw [C9 aa]at hk
   rcases I.ga k hk with g|⟨j,g1,g2⟩
   ·exact .inl g
   ·exact .inr ⟨j,(oE j).2 (.inr g1),g2⟩
 ·by_cases ht:touch i k
  ·rw [ZF ht]at hk ⊢
   rw [h3 k ht]at hk;obtain⟨b,c,x,g1,g2,g3⟩:=po.hd.obj k y hk;rw [RI]at g1 g3;exact⟨b,c,x,g1,g2,g3⟩
  ·rw [WC ht]at hk ⊢
   obtain⟨b,c,x,g1,g2,g3⟩:=I.obj k y hk;have hx:Ext (ig ρ (lo (m k))) (ig ρ2 (lo (m k))):=jx fa (Nat.le_refl _)
   by_cases hh:Hid A.size Bf touch i k
   ·refine⟨b,c,x,hx _ _ g1,?_,g3.ext hx⟩
    rw [po.frame b (Array.getElem?_eq_some_iff.1 g2).1 λ k1 o1 c1 UA lz=>?_]
    ·exact g2
    ·obtain⟨g4,g5⟩:=back UA
     have:=I.inj k1 k _ _ b c1 c g5 hk (cK lz).2 (cK g1).2;subst this;exact g4 hh
   ·obtain⟨g4,g5,g6⟩:=left_ ht hh hk
    obtain⟨b',c',x',g7,g8,g9⟩:=po.hd.obj k y g5;obtain⟨g10,g11⟩:=see hh;have g12:Ext (ig ρ (lo (m k))) ρ':=(jx (Ext.refl _) (p.lo_le g10 aa)).trans WB;rw [g12 _ _ g1]at g7;cases g7;exact⟨b,c,x',hx _ _ g1,g8,(g3.back g12 g9).ext hx⟩
 ·by_cases hh:Hid A.size Bf touch i k<;>by_cases WD:Hid A.size Bf touch i k'
  ·obtain⟨_,_,g1,g2⟩:=hidden hh hk
   obtain⟨_,_,g3,g4⟩:=hidden WD n6;exact I.inj k k' _ _ b c c' g1 g3 (by rw [<-g2];exact hb) (by rw [<-g4];exact cr)
  ·exfalso
   obtain⟨_,_,g1,g2⟩:=hidden hh hk;obtain⟨g3,_,g4⟩:=seen2 WD n6;rw [g2]at hb;rw [g4]at cr;rcases po.fresh k' y' b c' g3 cr with g5|⟨k0,o0,c0,g5,g6⟩
   ·obtain⟨b1,c1,x1,g7,g8,_⟩:=I.obj k y g1
    rw [(cK g7).2]at hb;cases hb;have:=(Array.getElem?_eq_some_iff.1 g8).1;omega
   ·obtain⟨g7,g8⟩:=back g5
    have:=I.inj k0 k _ _ b c0 c g8 g1 (cK g6).2 hb;subst this;exact g7 hh
  ·exfalso
   obtain⟨_,_,g1,g2⟩:=hidden WD n6;obtain⟨g3,_,g4⟩:=seen2 hh hk;rw [g2]at cr;rw [g4]at hb;rcases po.fresh k y b c g3 hb with g5|⟨k0,o0,c0,g5,g6⟩
   ·obtain⟨b1,c1,x1,g7,g8,_⟩:=I.obj k' y' g1
    rw [(cK g7).2]at cr;cases cr;have:=(Array.getElem?_eq_some_iff.1 g8).1;omega
   ·obtain⟨g7,g8⟩:=back g5
    have:=I.inj k0 k' _ _ b c0 c' g8 g1 (cK g6).2 cr;subst this;exact g7 WD
  ·obtain⟨g1,_,g2⟩:=seen2 hh hk
   obtain⟨g3,_,g4⟩:=seen2 WD n6;exact po.hd.inj k k' _ _ b c c' g1 g3 (by rw [<-g2];exact hb) (by rw [<-g4];exact cr)
 ·rw [po.frame b (Nat.lt_of_lt_of_le hb I.size) λ k o c hk Be=>?_]
  ·exact I.frame b hb hn
  ·obtain⟨_,g1⟩:=back hk
   rcases I.fresh k o b c g1 (cK Be).2 with g|⟨k0,o0,c0,g3,g4⟩
   ·omega
   ·exact hn k0 o0 c0 g3 g4
 ·by_cases hh:Hid A.size Bf touch i k
  ·obtain⟨_,_,g1,g2⟩:=hidden hh hk
   exact I.fresh k y b c g1 (by rw [<-g2];exact hb)
  ·obtain⟨g1,_,g2⟩:=seen2 hh hk
   rcases po.fresh k y b c g1 (by rw [<-g2];exact hb)with g|⟨k0,o0,c0,g3,g4⟩
   ·exact .inl (Nat.le_trans I.size g)
   ·exact I.fresh k0 o0 b c0 (back g3).2 (cK g4).2
 ·rcases (oE j).1 hj with rfl|hj
  ·have hh:¬Hid A.size Bf touch j k:=p.apart j k hi tL
   rw [h3 k tL,po.keep k (by rw [e2];exact aS) (by rw [e1];exact aS) (by rw [e4];exact hnw),h2 k hh]
  ·exact I.keep j hj k tL aS hnw
 ·cases He:o.dst<;>simp [Act.put,I.defers]
 ·cases He:o.dst<;>simp [Act.put,I.C8]
 ·by_cases Gh:o.dst=some t
  ·refine .inl ⟨i,(oE i).2 (.inl rfl),by rw [tN];exact Gh,?_⟩
   rw [Gh]at hd ⊢;have hd:IL (T i) t v=some (T (i+1)):=hd;rw [qE hd,if_pos rfl];obtain⟨g1,_⟩:=aC hd;have aS:t<a.tmps.size:=by rw [I.C8,<-p.size (Nat.le_of_lt hi)];exact ah g1
   have:(a.put (some t) u).tmps.getD t undef=u:=by simp [Act.put,aS]
   rw [this,<-RI];exact hv
  ·have g:(a.put o.dst u).tmps.getD t undef=a.tmps.getD t undef:=by
    cases He:o.dst with
    |none=>rfl
    |some d=>
     have bm:d≠t:=λ e=>Gh (by rw [He,e]);simp [Act.put,Array.getD_eq_getD_getElem?,Array.getElem?_setIfInBounds_ne bm]
   rw [g];rcases I.tmp t with ⟨j,g1,g2,g3⟩|⟨g1,g2⟩
   ·exact .inl ⟨j,(oE j).2 (.inr g1),g2,g3.ext (jx fa (Nat.le_refl _))⟩
   ·exact .inr ⟨λ j hj=>by
     rcases (oE j).1 hj with rfl|hj
     ·rw [tN];exact Gh
     ·exact g1 j hj,g2.ext (jx fa (Nat.le_refl _))⟩
end
end
end Go.CM
end
section
namespace Go.CM
open Go Go.AM
section
variable{P:Program}{E:Ev}{A:Array Oper}{Bf:Nat->Nat->Prop}{T:Nat->cQ}{H:Nat->Nat->Option CO}{lo:Nat->Nat}{wr:Nat->List Nat}{touch:Nat->Nat->Prop}
theorem RJ{l:Array Bool}{i:Nat}(h:On l i):i<l.size:=by
 rcases Nat.lt_or_ge i l.size with h'|h'
 ·exact h'
 ·unfold On at h;rw [Array.getElem?_eq_none h']at h;cases h
theorem MA(aw:aO P E.TY)(hz:xg P E.TY E.TZ)(dD:CN P E)(p:jv E A Bf T H lo wr touch)(od:C6 A Bf){R:Exit->Act->World->Prop}{ρ0:Rn}{w0:World}
  (hR:∀ρ m a w,Inv A T H lo wr touch ρ0 w0 (λ i=>i<A.size) ρ m a w->R .normal a w):∀(fuel:Nat) (l:Array Bool) (ρ:Rn) (m:Nat->Nat) (a:Act) (w:World),l.size=A.size->(∀i,On l i->∀j,Bf i j->On l j)->DY l<=fuel->
   Inv A T H lo wr touch ρ0 w0 (On l) ρ m a w->wpAny P .any A R fuel l a w:=by
 have done_:∀(l:Array Bool) (ρ:Rn) (m:Nat->Nat) (a:Act) (w:World),l.size=A.size->(∀i,i<A.size->On l i)->Inv A T H lo wr touch ρ0 w0 (On l) ρ m a w->R .normal a w:=λ l ρ m a w hl bX I=>by
  have:On l=λ i=>i<A.size:=funext λ i=>propext ⟨λ h=>by rw [<-hl];exact RJ h,bX i⟩;rw [this]at I;exact hR ρ m a w I
 intro fuel
 induction fuel with
 |zero=>
  intro l ρ m a w hl da hu I;have bX:∀i,i<A.size->On l i:=λ i hi=>p6 aa aa;refine⟨?_,done_ l ρ m a w hl bX I⟩;rw [List.eq_nil_iff_forall_not_mem];intro i hi;obtain⟨o,ho,c9,_⟩:=(AM.mem_ready hl).1 hi;exact c9 (bX i (Array.getElem?_eq_some_iff.1 ho).1)
 |succ fuel ih=>
  intro l ρ m a w hl da hu I;refine⟨λ my=>done_ l ρ m a w hl (λ i hi=>?_) I,λ i hi=>?_⟩
  ·induction i using Nat.strongRecOn with
   |ind i ihi=>
    refine Classical.byContradiction λ c9=>?_
    have:i∈Region.ready .any A l:=(AM.mem_ready hl).2 ⟨A[i],Array.getElem?_eq_getElem hi,c9,λ e he hb=>by
     have:=od.back i _ (Array.getElem?_eq_getElem hi) e he hb;exact ihi e.on this aa⟩
    rw [my]at this;cases this
  ·obtain⟨o,ho,c9,RK⟩:=(AM.mem_ready hl).1 hi
   have Ey:i<A.size:=(Array.getElem?_eq_some_iff.1 ho).1;have bL:i<l.size:=aa
   have gD:∀j,Bf i j->On l j:=λ j hj=>by
    obtain⟨o',oD,e,he,hb,h⟩:=od.Ie i j hj;rw [ho]at oD;cases oD;rcases h with rfl|h
    ·exact RK e he hb
    ·exact da _ (RK e he hb) j h
   have hD:∀i,On l i->i<A.size:=λ i h=>by rw [<-hl];exact RJ h
   have oE:∀j,On (l.setIfInBounds i true) j↔j=i\/On l j:=λ j=>mV bL
   have O8:∀k,On (l.setIfInBounds i true) k->∀j,Bf k j->On (l.setIfInBounds i true) j:=λ k hk j hj=>by
    rw [oE]at hk ⊢;rcases hk with rfl|hk
    ·exact .inr (gD j hj)
    ·exact .inr (da k hk j hj)
   have zX:DY (l.setIfInBounds i true)<=fuel:=by have:=nN bL c9;omega
   obtain⟨g,hg,h1,h2⟩:=p.step i o ho;have RL:∀t,t∈o.looksAt A->dU (ig ρ (lo i)) (lQ (T i) t) (a.tmps.getD t undef):=λ t ht=>I.Wz p od hD da ho Ey c9 gD ht;have hw:=Hc (a:=a) hg RL;simp only [wpOp,ho];cases g with
   |true=>
    rw [if_pos hw];obtain⟨v,s1,s2,Yg,hd,e1,e2,e3,e4,g1,g2,g3⟩:=h1 rfl;have HK:Hd (ig ρ (lo i)) s1.H.get s1.nx w:=by rw [e1];exact I.hd p od hD da Ey c9 gD g1 g2
    refine .inl ((RH (e:=a.eval) (oo:=o) aw hz dD Yg rfl HK (Mx RL)).wp λ u w' ⟨ρ',po,hv⟩=>?_);obtain⟨ρ2,m2,I2⟩:=I.next p od hD da ho Ey c9 gD hd e1 e2 e3 e4 g1 g2 g3 po hv oE;exact ih _ ρ2 m2 _ _ (by simp [hl]) O8 zX I2
   |false=>
    rw [if_neg (by rw [hw];simp)];obtain⟨hd,_,ht⟩:=h2 rfl;exact ih _ ρ m _ _ (by simp [hl]) O8 zX (I.skip p od ho Ey c9 hd ht oE)
theorem Hf(aw:aO P E.TY)(hz:xg P E.TY E.TZ)(dD:CN P E)(hm:P.follows .mixedOrders=true)(p:jv E A Bf T H lo wr touch)(od:C6 A Bf){R:Exit->Act->World->Prop}{ρ:Rn}{w:World}{a:Act}{s s':HS}{T0 T1:cQ}{id:Nat}
  (h0:H 0=s.H.get) (Gb:lo 0=s.nx) (hn:H A.size=s'.H.get) (hln:lo A.size=s'.nx) (Zt:s'.wb=s.wb) (mH:∀k,k∈s.wr->k∈s'.wr) (hwr:∀i k,i<A.size->k∈wr i->k<s.wb->k∈s'.wr) (hT:T 0=T0) (VT:T A.size=T1)
  (hd:Hd ρ s.H.get s.nx w) (tm:yI ρ T0 a) (hR:∀ρ' a' w',bI ρ ρ' s s' w w'->yI ρ' T1 a'->R .normal a' w'):(Code.region id A true).wp P R a w:=by
 refine wp_region_any hm ?_
 have Mz:ig ρ (lo 0)=ρ:=funext λ k=>by
  by_cases hk:k<lo 0
  ·exact uk hk
  ·rw [AJ aa,hd.new k aa]
 have dA:∀i,¬On (Array.replicate A.size false) i:=λ i hi=>by
  unfold On at hi;rw [Array.getElem?_replicate]at hi;split at hi<;>cases hi
 refine MA aw hz dD p od (ρ0:=ρ) (w0:=w) (λ ρ' m a' w' I=>?_) A.size _ ρ (λ _=>0) a _ (by simp) (λ i hi=>absurd hi (dA i)) (by simp [DY]) ?_
 ·have bX:∀k,H A.size k=H (m k) k:=λ k=>by
   rcases I.Wy k with ⟨h1,h2⟩|⟨j,h1,h2,h3,h4⟩
   ·rw [h1];exact p.keys (Nat.zero_le _) (Nat.le_refl _) λ j _ hj ht=>h2 j hj ht
   ·rw [h1];exact p.keys aa (Nat.le_refl _) λ j' mB jK ht=>by have:=h4 j' jK ht;omega
  have ac9:∀k,m k<=A.size:=λ k=>by
   rcases I.Wy k with ⟨h1,_⟩|⟨j,h1,h2,_⟩<;>omega
  have hex:Ext ρ ρ':=λ k x hk=>by
   have:k<lo 0:=Nat.lt_of_not_le λ h=>by rw [hd.new k aa]at hk;cases hk
   rw [I.base k this];exact hk
  have iI:∀k,s'.nx<=k->ρ' k=none:=λ k hk=>Classical.byContradiction λ bm=>by
   rcases I.ga k bm with h|⟨j,h1,_,h2⟩
   ·have:=p.lo_le (m:=0) (Nat.zero_le A.size) (Nat.le_refl _);omega
   ·have:=p.lo_le (m:=j+1) (i:=A.size) h1 (Nat.le_refl _);omega
  have hk:∀{k o},s'.H.get k=some o->H (m k) k=some o:=λ{k o} h=>by rw [<-bX,hn];exact h
  refine hR ρ' a' w' ⟨hex,⟨λ k o ho=>?_,λ k k' o o' b c c' ho oD hb cr=>I.inj k k' o o' b c c' (hk ho) (hk oD) hb cr,iI,I.lw,λ k o b c ho hb=>I.nz (hk ho) hb⟩,λ b hb c9=>I.frame b hb λ k o c ho=>c9 k o c (by rw [<-h0];exact ho),λ k o b c ho hb=>?_,I.size,I.io,?_,λ k aS=>I.base k aa,Zt,mH,λ k h1 h2 h3=>?_⟩ ⟨I.defers,?_,λ t=>?_⟩
  ·obtain⟨b,c,x,h1,h2,h3⟩:=I.obj k o (hk ho)
   exact⟨b,c,x,um _ _ _ _ h1,h2,h3.ext (um _ _)⟩
  ·rcases I.fresh k o b c (hk ho) hb with h|⟨k0,o0,c0,h1,h2⟩
   ·exact .inl h
   ·exact .inr ⟨k0,o0,c0,by rw [<-h0];exact h1,h2⟩
  ·rw [<-Gb,<-hln];exact p.lo_le (Nat.zero_le _) (Nat.le_refl _)
  ·have key:∀i,i<=A.size->H i k=H 0 k:=by
    intro i
    induction i with
    |zero=>exact λ _=>rfl
    |succ i ih=>
     intro hi;rw [<-ih aa]
     by_cases ht:touch i k
     ·have:=p.lo_le (m:=0) (i:=i) (Nat.zero_le _) aa
      exact I.keep i hi k ht aa λ hw=>h3 (hwr i k hi hw h1)
     ·exact p.rest i k hi ht
   rw [<-hn,<-h0];exact key A.size (Nat.le_refl _)
  ·rw [I.C8,<-VT,p.size (Nat.le_refl _)]
  ·rw [<-VT]
   rcases I.tmp t with ⟨j,h1,h2,h3⟩|⟨h1,h2⟩
   ·rw [p.C7 (t:=t) (m:=j+1) h1 (Nat.le_refl _) λ j' mB jK He=>by have:=od.K2 j' j t He h2;omega]
    exact h3.ext (um _ _)
   ·rw [p.C7 (t:=t) (m:=0) (Nat.zero_le _) (Nat.le_refl _) λ j' _ jK He=>h1 j' jK He]
    exact h2.ext (um _ _)
 ·refine⟨λ k=>.inl ⟨rfl,λ j hj=>absurd hj (dA j)⟩,λ _ _=>rfl,λ k hk=>.inl (Nat.lt_of_not_le λ h=>hk (hd.new k aa)),λ k o ho=>?_,λ k k' o o' b c c' ho oD hb cr=>?_,λ b _ _=>rfl,λ k o b c ho hb=>.inr ⟨k,o,c,ho,hb⟩,Nat.le_refl _,⟨⟨rfl,rfl⟩,rfl,Nat.le_succ _⟩,λ i hi=>absurd hi (dA i),⟨hd.lw,λ k o b c hk hb=>hd.nz k o b c (by rw [<-h0];exact hk) hb⟩,tm.defers,?_,λ t=>.inr ⟨λ j hj=>absurd hj (dA j),?_⟩⟩
  ·show ∃b c x,ig ρ (lo 0) k=some (b,c)/\w.heap[b]? =some x/\Bi (ig ρ (lo 0)) c o x
   rw [Mz];have ho:H 0 k=some o:=ho;rw [h0]at ho;exact hd.obj k o ho
  ·have ho:H 0 k=some o:=ho
   have oD:H 0 k'=some o':=oD;rw [h0]at ho oD;exact hd.inj k k' o o' b c c' ho oD hb cr
  ·rw [hT];exact tm.size
  ·rw [Mz,hT];exact tm.tmp t
end
theorem uo(m j:Nat):om m j=m.testBit j:=by
 unfold om Nat.testBit;have h1:Nat.land (Nat.shiftRight m j) 1=1 &&& m >>> j:=Nat.and_comm _ _;rw [h1];have h2:1 &&& m >>> j=(m >>> j) % 2:=by rw [Nat.and_comm,Nat.and_one_is_mod]
 rw [h2];rcases Nat.mod_two_eq_zero_or_one (m >>> j)with h|h<;>rw [h]<;>rfl
theorem AK{C:List Nat}{j:Nat}:∀{l:List Edge} {acc:Nat},om (RB C l acc) j=true↔om acc j=true\/∃e∈l,eS e=true/\(e.on=j\/om (C.getD e.on 0) j=true)
 |[],acc=>by simp [RB]
 |e::l,acc=>by
  simp only [RB];cases hb:eS e with
  |true=>
   simp only [AK (l:=l)]
   have:om (Nat.lor (Nat.lor acc (Nat.shiftLeft 1 e.on)) (C.getD e.on 0)) j=true↔om acc j=true\/e.on=j\/om (C.getD e.on 0) j=true:=by
    simp only [uo];have e1:Nat.lor (Nat.lor acc (Nat.shiftLeft 1 e.on)) (C.getD e.on 0)=(acc ||| 1 <<< e.on) ||| C.getD e.on 0:=rfl
    rw [e1,Nat.testBit_or,Nat.testBit_or,Nat.one_shiftLeft,Nat.testBit_two_pow];simp only [Bool.or_eq_true,decide_eq_true_eq,or_assoc]
   rw [this]
   constructor
   ·rintro ((h|h)|⟨e',h1,h2⟩)
    ·exact .inl h
    ·exact .inr ⟨e,by simp,hb,h⟩
    ·exact .inr ⟨e',List.mem_cons_of_mem _ h1,h2⟩
   ·rintro (h|⟨e',h1,h2,h3⟩)
    ·exact .inl (.inl h)
    ·rcases List.mem_cons.1 h1 with rfl|h1
     ·exact .inl (.inr h3)
     ·exact .inr ⟨e',h1,h2,h3⟩
  |false=>
   simp only [AK (l:=l)]
   constructor
   ·rintro (h|⟨e',h1,h2⟩)
    ·exact .inl h
    ·exact .inr ⟨e',List.mem_cons_of_mem _ h1,h2⟩
   ·rintro (h|⟨e',h1,h2,h3⟩)
    ·exact .inl h
    ·rcases List.mem_cons.1 h1 with rfl|h1
     ·rw [hb]at h2;cases h2
     ·exact .inr ⟨e',h1,h2,h3⟩
theorem sj{i:Nat}:∀{l:List Oper} {C:List Nat},i<C.length->(dB l C).getD i 0=C.getD i 0
 |[],C,_=>rfl
 |o::l,C,h=>by
  rw [dB,sj (by simp;omega)];simp [List.getD_eq_getElem?_getD,List.getElem?_append_left h]
theorem yK{i j:Nat}:∀{l:List Oper} {C:List Nat},om ((dB l C).getD i 0) j=true->C.length<=i->∃o,l[i - C.length]? =some o/\∃e∈o.after.toList,eS e=true/\(e.on=j\/om ((dB l C).getD e.on 0) j=true)
 |[],C,h,hi=>by
  have:(dB [] C).getD i 0=0:=by simp [dB,List.getD_eq_getElem?_getD,List.getElem?_eq_none hi]
  rw [this,uo]at h;simp at h
 |o::l,C,h,hi=>by
  by_cases he:i=C.length
  ·subst he
   refine⟨o,by simp,?_⟩
   have e1:(dB (o::l) C).getD C.length 0=RB C o.after.toList 0:=by
    rw [dB,sj (by simp)];simp [List.getD_eq_getElem?_getD]
   rw [e1,AK]at h;rcases h with h|⟨e,h1,h2,h3⟩
   ·rw [uo]at h;simp at h
   ·refine⟨e,h1,h2,h3.imp id λ h3=>?_⟩
    rcases Nat.lt_or_ge e.on C.length with h4|h4
    ·rw [sj h4];exact h3
    ·have:C.getD e.on 0=0:=by simp [List.getD_eq_getElem?_getD,List.getElem?_eq_none h4]
     rw [this,uo]at h3;simp at h3
  ·rw [dB]at h
   obtain⟨o',h1,h2⟩:=yK h (by simp;omega);refine⟨o',?_,h2⟩;rw [show i - C.length=(i - (C++[RB C o.after.toList 0]).length)+1 by simp;omega]
   simpa using h1
theorem yL{i:Nat}:∀{l:List Edge},yB i l=true->∀e∈l,eS e=true->e.on<i
 |[],_,e,h,_=>by cases h
 |e0::l,h,e,he,hb=>by
  simp only [yB]at h;rcases List.mem_cons.1 he with rfl|he
  ·rw [hb]at h
   simp only []at h;split at h
   ·rename_i h1;exact ah h1
   ·cases h
  ·refine yL ?_ e he hb
   split at h
   ·split at h
    ·exact h
    ·cases h
   ·exact h
theorem Da{C:List Nat}{i j:Nat}:qy C i j=true↔j=i\/om (C.getD i 0) j=true\/om (C.getD j 0) i=true:=by
 unfold qy;cases h:Nat.beq j i with
 |true=>simp [ay.1 h]
 |false=>
  have bm:j≠i:=beq_false h;cases h2:om (C.getD i 0) j<;>simp [bm]
theorem yM{C:List Nat}{i t:Nat}:∀{D:List (Nat × Nat)},yC C i t D=true->∀j,(t,j)∈D->qy C i j=true
 |[],_,j,h=>by cases h
 |p::D,h,j,hj=>by
  simp only [yC]at h;rcases List.mem_cons.1 hj with rfl|hj
  ·rw [ay.2 rfl]at h
   simp only []at h;split at h
   ·assumption
   ·cases h
  ·refine yM ?_ j hj
   split at h
   ·exact h
   ·split at h
    ·exact h
    ·cases h
theorem yN{C:List Nat}{i:Nat}{D:List (Nat × Nat)}:∀{l:List Nat},CH C i D l=true->∀t∈l,yC C i t D=true
 |[],_,t,h=>by cases h
 |a::l,h,t,ht=>by
  simp only [CH]at h;split at h
  ·rcases List.mem_cons.1 ht with rfl|ht
   ·assumption
   ·exact yN h t ht
  ·cases h
theorem yO{d:Nat}:∀{l:List (Nat × Nat)},GW d l=true->∀p∈l,p.1≠d
 |[],_,p,h=>by cases h
 |q::l,h,p,hp=>by
  simp only [GW]at h;split at h
  ·cases h
  ·rcases List.mem_cons.1 hp with rfl|hp
   ·exact beq_false (by assumption)
   ·exact yO h p hp
theorem wu{d i j:Nat}:∀{l:List (Nat × Nat)},Aw l=true->(d,i)∈l->(d,j)∈l->i=j
 |[],_,h,_=>by cases h
 |q::l,h,h1,h2=>by
  simp only [Aw]at h;split at h
  ·rename_i hn
   have hn:=yO hn;rcases List.mem_cons.1 h1 with g1|g1
   ·subst g1
    rcases List.mem_cons.1 h2 with g2|g2
    ·cases g2;rfl
    ·exact absurd rfl (hn (d,j) g2)
   ·rcases List.mem_cons.1 h2 with g2|g2
    ·subst g2;exact absurd rfl (hn (d,i) g1)
    ·exact wu h g1 g2
  ·cases h
theorem yP{d:Nat}:∀{l:List Oper} {i j:Nat} {o:Oper},l[j]? =some o->o.dst=some d->(d,i+j)∈sQ l i
 |[],i,j,o,h,_=>by simp at h
 |o'::l,i,0,o,h,hd=>by
  simp at h;subst h;simp only [sQ,hd];exact List.mem_cons_self
 |o'::l,i,j+1,o,h,hd=>by
  have:=yP (i:=i+1) (l:=l) (by simpa using h) hd;rw [show i+1+j=i+(j+1) by omega]at this;simp only [sQ];split
  ·exact List.mem_cons_of_mem _ this
  ·exact this
theorem wv{A:Array Oper}{C:List Nat}{D:List (Nat × Nat)}:∀{l:List Oper} {i:Nat},Ax A C D l i=true->∀j o,l[j]? =some o->yB (i+j) o.after.toList=true/\CH C (i+j) D (o.looksAt A)=true
 |[],i,_,j,o,h=>by simp at h
 |o'::l,i,h,j,o,ho=>by
  simp only [Ax]at h;split at h
  ·cases h
  ·split at h
   ·cases h
   ·cases j with
    |zero=>simp at ho;subst ho;exact⟨by assumption,by assumption⟩
    |succ j=>
     have:=wv h j o (by simpa using ho);rw [show i+1+j=i+(j+1) by omega]at this;exact this
def RM(A:Array Oper)(i j:Nat):Prop:=om ((dB A.toList []).getD i 0) j=true
theorem Qh{A:Array Oper}(h:E6 A=true):C6 A (RM A):=by
 unfold E6 at h;split at h
 ·cases h
 rename_i ZG;have key:=wv h
 have mem:∀{i d},bG A i=some d->(d,i)∈sQ A.toList 0:=λ{i d} hi=>by
  obtain⟨o,ho,hd⟩:=Option.bind_eq_some_iff.1 hi;have:=yP (i:=0) (l:=A.toList) (j:=i) (o:=o) (by rw [Array.getElem?_toList];exact ho) hd;rw [Nat.zero_add]at this;exact this
 have back:∀i o,A[i]? =some o->∀e∈o.after,eS e=true->e.on<i:=λ i o ho e he hb=>by
  have:=(key i o (by rw [Array.getElem?_toList];exact ho)).1;rw [Nat.zero_add]at this;exact yL this e (Array.mem_toList_iff.2 he) hb
 have Ie:∀i j,RM A i j->∃o,A[i]? =some o/\∃e∈o.after,eS e=true/\(e.on=j\/RM A e.on j):=λ i j hb=>by
  obtain⟨o,h1,e,h2,h3⟩:=yK hb (Nat.zero_le _);exact⟨o,by rw [<-Array.getElem?_toList];simpa using h1,e,Array.mem_toList_iff.1 h2,h3⟩
 refine⟨λ i=>?_,Ie,back,λ i o ho t ht j hj=>?_,λ i j d hi hj=>wu (by simpa using ZG) (mem hi) (mem hj)⟩
 ·induction i using Nat.strongRecOn with
  |ind i ih=>
   intro j hb;obtain⟨o,ho,e,he,WE,h1⟩:=Ie i j hb;have h2:=back i o ho e he WE;rcases h1 with rfl|h1
   ·exact h2
   ·exact Nat.lt_trans (ih e.on h2 j h1) h2
 ·have:=(key i o (by rw [Array.getElem?_toList];exact ho)).2
  rw [Nat.zero_add]at this;exact Da.1 (yM (yN this t ht) j (mem hj))
end Go.CM
end
section
namespace Go.CM
open Go Go.AM
theorem wx{k:Nat}:∀{l:List Nat} {H:Tr CO},(sN l H).get k=if k∈l then none else H.get k
 |[],H=>by simp [sN]
 |j::l,H=>by
  simp only [sN,wx (l:=l),Tr.fi,List.mem_cons]
  by_cases h1:k∈l
  ·simp [h1]
  ·by_cases h2:k=j<;>simp [h1,h2]
theorem wy{G:Tr CO}{k:Nat}:∀{l:List Nat} {H:Tr CO},(sP G l H).get k=if k∈l then G.get k else H.get k
 |[],H=>by simp [sP]
 |j::l,H=>by
  simp only [sP,wy (l:=l),Tr.fi,List.mem_cons]
  by_cases h1:k∈l
  ·simp [h1]
  ·by_cases h2:k=j
   ·subst h2;simp [h1]
   ·simp [h1,h2]
theorem mem_range{k:Nat}:∀{n lo:Nat},k∈pd lo n↔lo<=k/\k<lo+n
 |0,lo=>by simp [pd]
 |n+1,lo=>by simp only [pd,List.mem_cons,mem_range (n:=n)];omega
theorem mem_keys{h:Hint}{k:Nat}:k∈h.keys↔k∈h.ws\/(h.lo<=k/\k<h.hi):=by
 unfold Hint.keys;rw [List.mem_append,mem_range]
 constructor
 ·rintro (h|h)
  ·exact .inl h
  ·exact .inr aa
 ·rintro (h|h)
  ·exact .inl h
  ·exact .inr aa
theorem jy{h:Hint}:h.idle=true↔h.ws=[]/\h.hi<=h.lo:=by
 unfold Hint.idle;cases hw:h.ws with
 |nil=>simp
 |cons=>simp
theorem yQ{h:Hint}(hi:h.idle=true)(k:Nat):k∉h.keys:=by
 obtain⟨h1,h2⟩:=jy.1 hi;rw [mem_keys,h1];rintro (h|h)
 ·cases h
 ·omega
theorem Hg{m:List Nat}:∀{l:List Nat},IU l m=true->∀k∈l,k∉m
 |[],_,k,h=>by cases h
 |a::l,h,k,hk=>by
  simp only [IU]at h;split at h
  ·cases h
  ·rename_i hm
   rcases List.mem_cons.1 hk with rfl|hk
   ·intro h2;rw [qz.2 h2]at hm;cases hm
   ·exact Hg h k hk
theorem Hh{m:List Nat}:∀{l:List Nat},vQ l m=true->∀k∈l,k∈m
 |[],_,k,h=>by cases h
 |a::l,h,k,hk=>by
  simp only [vQ]at h;split at h
  ·rename_i hm
   rcases List.mem_cons.1 hk with rfl|hk
   ·exact qz.1 hm
   ·exact Hh h k hk
  ·cases h
theorem lV{C:List Nat}{i:Nat}{x:Hint}:∀{hs:List Hint} {j0:Nat},x∈others C i hs j0↔∃j,hs[j]? =some x/\x.idle=false/\qy C i (j0+j)=false
 |[],j0=>by simp [others]
 |h::hs,j0=>by
  have ih:=lV (C:=C) (i:=i) (x:=x) (hs:=hs) (j0:=j0+1)
  have rest:(∃j,hs[j]? =some x/\x.idle=false/\qy C i (j0+1+j)=false)↔∃j,(h::hs)[j+1]? =some x/\x.idle=false/\qy C i (j0+(j+1))=false:=by
   constructor<;>rintro⟨j,h1,h2,h3⟩<;>refine⟨j,by simpa using h1,h2,?_⟩
   ·rw [show j0+(j+1)=j0+1+j by omega];exact h3
   ·rw [show j0+1+j=j0+(j+1) by omega];exact h3
  have split_:(∃j,(h::hs)[j]? =some x/\x.idle=false/\qy C i (j0+j)=false)↔(h=x/\x.idle=false/\qy C i j0=false)\/∃j,(h::hs)[j+1]? =some x/\x.idle=false/\qy C i (j0+(j+1))=false:=by
   constructor
   ·rintro⟨j,h1,h2,h3⟩
    cases j with
    |zero=>exact .inl ⟨by simpa using h1,h2,h3⟩
    |succ j=>exact .inr ⟨j,h1,h2,h3⟩
   ·rintro (⟨h1,h2,h3⟩|⟨j,h1⟩)
    ·exact⟨0,by simp [h1],h2,h3⟩
    ·exact⟨j+1,h1⟩
  rw [split_,<-rest,<-ih];simp only [others];cases RN:h.idle with
  |true=>
   simp only [];refine⟨.inr,?_⟩;rintro (⟨rfl,h2,_⟩|h)
   ·rw [RN]at h2;cases h2
   ·exact h
  |false=>
   cases ho:qy C i j0 with
   |true=>
    simp only [];refine⟨.inr,?_⟩;rintro (⟨_,_,h3⟩|h)
    ·cases h3
    ·exact h
   |false=>
    simp only [List.mem_cons]
    constructor
    ·rintro (rfl|h)
     ·exact .inl ⟨rfl,RN,ag⟩
     ·exact .inr h
    ·rintro (⟨rfl,_⟩|h)
     ·exact .inl rfl
     ·exact .inr h
theorem yR{k:Nat}:∀{l:List Hint},k∈jq l↔∃h∈l,k∈h.keys
 |[]=>by simp [jq]
 |h::l=>by
  have:jq (h::l)=h.keys++jq l\/jq (h::l)=h.ws++(pd h.lo (h.hi - h.lo)++jq l):=by
   first|exact .inl rfl|exact .inr rfl
  have e:k∈jq (h::l)↔k∈h.keys\/k∈jq l:=by
   unfold Hint.keys;rcases this with e|e<;>rw [e]<;>simp [Hint.keys,or_assoc]
  rw [e,yR (l:=l)];simp
theorem sS:∀{l:List Hint},uc l=true->∀h∈l,h.idle=true
 |[],_,h,hm=>by cases hm
 |a::l,h,x,hx=>by
  simp only [uc]at h;split at h
  ·rcases List.mem_cons.1 hx with rfl|hx
   ·assumption
   ·exact sS h x hx
  ·cases h
theorem wz{C:List Nat}{hs:List Hint}:∀{n:Nat},Au C hs n=true->∀i,i<n->others C i hs 0=[]
 |0,_,i,h=>by omega
 |n+1,h,i,hi=>by
  simp only [Au]at h;split at h
  ·rename_i hn
   by_cases e:i=n
   ·subst e;exact hn
   ·exact wz h i aa
  ·cases h
theorem AL{A:Array Oper}{i j:Nat}:qy (dB A.toList []) i j=false↔yJ (RM A) i j:=by
 have:=Da (C:=dB A.toList []) (i:=i) (j:=j)
 constructor
 ·intro h
  refine⟨λ e=>?_,λ e=>?_,λ e=>?_⟩<;>(rw [this.2 (by first|exact .inl e|exact .inr (.inl e)|exact .inr (.inr e))]at h;cases h)
 ·intro h
  cases hb:qy (dB A.toList []) i j with
  |false=>rfl
  |true=>rcases this.1 hb with e|e|e<;>first|exact absurd e h.1|exact absurd e h.2.1|exact absurd e h.2.2
section
variable{P:Program}{E:Ev}{A:Array Oper}
def Hi(E:Ev)(A:Array Oper)(j:Nat)(T:cQ)(s:HS)(T1:cQ)(s1:HS)(h:Hint):Prop:=
 ∃o g,A[j]? =some o/\TB A o.guard T=some g/\
  (g=true->∃v p,E4 E o.op T ⟨s.H,s.nx,s.nx,[]⟩=some (v,p)/\s.nx<=p.nx/\og o.dst T v=some T1/\h=⟨p.wr,s.nx,p.nx⟩/\s1=yA s p h)/\
  (g=false->og o.dst T (.t [])=some T1/\h=⟨[],s.nx,s.nx⟩/\s1=s)
def Hj(E:Ev)(A:Array Oper)(hs:List Hint)(j:Nat)(T:cQ)(s:HS)(T1:cQ)(s1:HS)(wr:List Nat):Prop:=
 ∃o h g,A[j]? =some o/\hs[j]? =some h/\h.lo=s.nx/\h.lo<=h.hi/\IU h.keys (jq (others (dB A.toList []) j hs 0))=true/\TB A o.guard T=some g/\
  (g=true->∃v p,E4 E o.op T ⟨sN (jq (others (dB A.toList []) j hs 0)) s.H,s.nx,s.nx,[]⟩=some (v,p)/\h.hi=p.nx/\vQ p.wr h.ws=true/\og o.dst T v=some T1/\s1=⟨sP p.H h.keys s.H,p.nx,s.wb,o9 s.wb p.wr s.wr⟩/\wr=p.wr)/\
  (g=false->h.idle=true/\og o.dst T (.t [])=some T1/\s1=s/\wr=[])
theorem yS{rest:List Oper}{o:Oper}{i:Nat}(hr:A.toList.drop i=o::rest):A[i]? =some o/\A.toList.drop (i+1)=rest/\i<A.size:=by
 have hi:A[i]? =some o:=by
  have:=congrArg (·.head?) hr;simp [List.head?_drop]at this;exact this
 refine⟨hi,?_,(Array.getElem?_eq_some_iff.1 hi).1⟩;have:=congrArg List.tail hr
 simpa [List.tail_drop]using this
theorem drop_nil{i:Nat}(hr:A.toList.drop i=[])(hi:i<=A.size):i=A.size:=by
 have:=congrArg List.length hr;simp at this;omega
theorem sT:∀(rest:List Oper) (i:Nat) {acc:List Hint} {T T':cQ} {s s':HS} {hs:List Hint},A.toList.drop i=rest->i<=A.size->acc.length=i->qx E A rest acc T s=some (T',s',hs)->
  ∃(Tf:Nat->cQ) (sf:Nat->HS),Tf i=T/\sf i=s/\Tf A.size=T'/\sf A.size=s'/\hs.length=A.size/\(∀j,j<i->hs[j]? =acc.reverse[j]?)/\∀j,i<=j->j<A.size->∃h,hs[j]? =some h/\Hi E A j (Tf j) (sf j) (Tf (j+1)) (sf (j+1)) h
 |[],i,acc,T,T',s,s',hs,hr,hi,MB,h=>by
  cases h;have:=drop_nil hr hi;subst this;exact⟨λ _=>T,λ _=>s,rfl,rfl,rfl,rfl,by simp [MB],λ _ _=>rfl,λ j h1 h2=>by omega⟩
 |o::rest,i,acc,T,T',s,s',hs,hr,hi,MB,h=>by
  obtain⟨ho,Eh,aS⟩:=yS hr;obtain⟨g,hg,h⟩:=au h
  have key:∀{T1:cQ} {s1:HS} {x:Hint},qx E A rest (x::acc) T1 s1=some (T',s',hs)->Hi E A i T s T1 s1 x->∃(Tf:Nat->cQ) (sf:Nat->HS),Tf i=T/\sf i=s/\Tf A.size=T'/\sf A.size=s'/\hs.length=A.size/\(∀j,j<i->hs[j]? =acc.reverse[j]?)/\
    ∀j,i<=j->j<A.size->∃h,hs[j]? =some h/\Hi E A j (Tf j) (sf j) (Tf (j+1)) (sf (j+1)) h:=λ{T1 s1 x} h c8=>by
   obtain⟨Tf,sf,g1,g2,g3,g4,g5,g6,g7⟩:=sT rest (i+1) Eh aS (by simp [MB]) h
   have hx:hs[i]? =some x:=by
    rw [g6 i (Nat.lt_succ_self i)];simp [MB]
   refine⟨λ j=>if j<=i then T else Tf j,λ j=>if j<=i then s else sf j,by simp,by simp,by simp [show ¬A.size<=i by omega,g3],by simp [show ¬A.size<=i by omega,g4],g5,λ j hj=>?_,λ j h1 h2=>?_⟩
   ·rw [g6 j aa]
    simp [List.getElem?_append_left,MB,hj]
   ·by_cases e:j=i
    ·subst e
     refine⟨x,hx,?_⟩;have e1:¬j+1<=j:=aa;simp only [Nat.le_refl,if_true,e1,if_false,g1,g2];exact c8
    ·obtain⟨y,h3,h4⟩:=g7 j aa h2
     refine⟨y,h3,?_⟩;have e1:¬j<=i:=aa;have e2:¬j+1<=i:=aa;simp only [e1,e2,if_false];exact h4
  cases g with
  |true=>
   obtain⟨p,h1,h⟩:=au h;obtain⟨h2,h⟩:=aC h;obtain⟨T1,h3,h⟩:=au h;exact key h ⟨o,true,ho,hg,λ _=>⟨p.1,p.2,h1,ah h2,h3,rfl,rfl⟩,λ e=>by cases e⟩
  |false=>
   obtain⟨T1,h3,h⟩:=au h;exact key h ⟨o,false,ho,hg,λ e=>(by cases e),λ _=>⟨h3,rfl,rfl⟩⟩
theorem wA{hs:List Hint}:∀(rest:List Oper) (i:Nat) {T T':cQ} {s s':HS},A.toList.drop i=rest->i<=A.size->vR E A (dB A.toList []) hs rest i T s=some (T',s')->
  ∃(Tf:Nat->cQ) (sf:Nat->HS) (wf:Nat->List Nat),Tf i=T/\sf i=s/\Tf A.size=T'/\sf A.size=s'/\∀j,i<=j->j<A.size->Hj E A hs j (Tf j) (sf j) (Tf (j+1)) (sf (j+1)) (wf j)
 |[],i,T,T',s,s',hr,hi,h=>by
  cases h;have:=drop_nil hr hi;subst this;exact⟨λ _=>T,λ _=>s,λ _=>[],rfl,rfl,rfl,rfl,λ j h1 h2=>by omega⟩
 |o::rest,i,T,T',s,s',hr,hi,h=>by
  obtain⟨ho,Eh,aS⟩:=yS hr;obtain⟨x,hx,h⟩:=au h;obtain⟨JB,h⟩:=aC h;obtain⟨hle,h⟩:=aC h;obtain⟨WG,h⟩:=aC h;obtain⟨g,hg,h⟩:=au h
  have key:∀{T1:cQ} {s1:HS} {wr:List Nat},vR E A (dB A.toList []) hs rest (i+1) T1 s1=some (T',s')->Hj E A hs i T s T1 s1 wr->∃(Tf:Nat->cQ) (sf:Nat->HS) (wf:Nat->List Nat),Tf i=T/\sf i=s/\Tf A.size=T'/\sf A.size=s'/\
    ∀j,i<=j->j<A.size->Hj E A hs j (Tf j) (sf j) (Tf (j+1)) (sf (j+1)) (wf j):=λ{T1 s1 wr} h c8=>by
   obtain⟨Tf,sf,wf,g1,g2,g3,g4,g5⟩:=wA rest (i+1) Eh aS h;refine⟨λ j=>if j<=i then T else Tf j,λ j=>if j<=i then s else sf j,λ j=>if j<=i then wr else wf j,by simp,by simp,by simp [show ¬A.size<=i by omega,g3],by simp [show ¬A.size<=i by omega,g4],λ j h1 h2=>?_⟩
   by_cases e:j=i
   ·subst e
    have e1:¬j+1<=j:=aa;simp only [Nat.le_refl,if_true,e1,if_false,g1,g2];exact c8
   ·have e1:¬j<=i:=aa
    have e2:¬j+1<=i:=aa;simp only [e1,e2,if_false];exact g5 j aa h2
  cases g with
  |true=>
   obtain⟨p,h1,h⟩:=au h;obtain⟨h2,h⟩:=aC h;obtain⟨h4,h⟩:=aC h;obtain⟨T1,h3,h⟩:=au h;exact key h ⟨o,x,true,ho,hx,ay.1 JB,ah hle,WG,hg,λ _=>⟨p.1,p.2,h1,ay.1 h2,h4,h3,rfl,rfl⟩,λ e=>by cases e⟩
  |false=>
   obtain⟨h4,h⟩:=aC h;obtain⟨T1,h3,h⟩:=au h;exact key h ⟨o,x,false,ho,hx,ay.1 JB,ah hle,WG,hg,λ e=>(by cases e),λ _=>⟨h4,h3,rfl,rfl⟩⟩
theorem MC{n:Nat}{sf:Nat->HS}{wf:Nat->List Nat}(h:∀j,j<n->(sf (j+1)).wb=(sf j).wb/\(∀k,k∈(sf j).wr->k∈(sf (j+1)).wr)/\∀k,k∈wf j->k<(sf j).wb->k∈(sf (j+1)).wr):
  (sf n).wb=(sf 0).wb/\(∀k,k∈(sf 0).wr->k∈(sf n).wr)/\∀i k,i<n->k∈wf i->k<(sf 0).wb->k∈(sf n).wr:=by
 have h1:∀i,i<=n->(sf i).wb=(sf 0).wb:=by
  intro i
  induction i with
  |zero=>exact λ _=>rfl
  |succ i ih=>intro hi;rw [(h i hi).1,ih aa]
 have h2:∀d i,i+d<=n->∀k,k∈(sf i).wr->k∈(sf (i+d)).wr:=by
  intro d
  induction d with
  |zero=>exact λ _ _ _ hk=>hk
  |succ d ih=>intro i hi k hk;exact(h (i+d) aa).2.1 k (ih i aa k hk)
 refine⟨h1 n (Nat.le_refl _),λ k hk=>?_,λ i k hi hk aS=>?_⟩
 ·have:=h2 n 0 aa k hk
  rw [Nat.zero_add]at this;exact this
 ·have:=h2 (n - (i+1)) (i+1) aa k ((h i hi).2.2 k hk (by rw [h1 i aa];exact aS))
  rw [show i+1+(n - (i+1))=n by omega]at this;exact this
theorem Fg{hs:List Hint}{Tf:Nat->cQ}{sf:Nat->HS}(_hlen:hs.length=A.size)(da:Av (dB A.toList []) hs A.size=true)(c8:∀j,j<A.size->∃h,hs[j]? =some h/\Hi E A j (Tf j) (sf j) (Tf (j+1)) (sf (j+1)) h):
  jv E A (RM A) Tf (λ i=>(sf i).H.get) (λ i=>(sf i).nx) (λ i=>match hs[i]? with|some h=>h.ws|none=>[]) (λ i _=>∃h,hs[i]? =some h/\h.idle=false):=by
 have nohid:∀i k,i<A.size->¬Hid A.size (RM A) (λ i _=>∃h,hs[i]? =some h/\h.idle=false) i k:=λ i k hi ⟨j,hj,hu,h,h1,h2⟩=>by
  unfold Av at da;split at da
  ·rename_i ha
   rw [sS ha h (List.mem_of_getElem? h1)]at h2;cases h2
  ·have h3:=wz da i hi
   have:h∈others (dB A.toList []) i hs 0:=lV.2 ⟨j,h1,h2,by rw [Nat.zero_add];exact AL.2 hu⟩;rw [h3]at this;cases this
 have one:∀i,i<A.size->∃h,hs[i]? =some h/\h.lo=(sf i).nx/\h.hi=(sf (i+1)).nx/\h.lo<=h.hi/\(h.idle=true->sf (i+1)=sf i):=λ i hi=>by
  obtain⟨h,h1,o,g,h2,h3,h4,h5⟩:=c8 i hi;refine⟨h,h1,?_⟩;cases g with
  |true=>
   obtain⟨v,p,g1,g2,g3,g4,g5⟩:=h4 rfl;subst g4;cases tG:Hint.idle ⟨p.wr,(sf i).nx,p.nx⟩with
   |true=>
    have:=jy.1 tG;have e:sf (i+1)=sf i:=by rw [g5];unfold yA;rw [tG]
    exact⟨rfl,by rw [e];exact Nat.le_antisymm this.2 g2,g2,λ _=>e⟩
   |false=>
    exact⟨rfl,by rw [g5];unfold yA;rw [tG],g2,λ e=>by cases e⟩
  |false=>
   obtain⟨g1,g2,g3⟩:=h5 rfl;subst g2;exact⟨rfl,by rw [g3],Nat.le_refl _,λ _=>g3⟩
 refine⟨λ i o ho=>?_,λ i k hi hn=>?_,λ i hi=>?_,λ i k hi h1 h2=>?_,λ i k hi hk=>?_,λ i k hi _=>nohid i k hi⟩
 ·have hi:i<A.size:=(Array.getElem?_eq_some_iff.1 ho).1
  obtain⟨h,h1,o',g,h2,h3,h4,h5⟩:=c8 i hi;rw [ho]at h2;cases h2;refine⟨g,h3,λ hg=>?_,λ hg=>?_⟩
  ·obtain⟨v,p,g1,g2,g3,g4,g5⟩:=h4 hg
   obtain⟨x,QR,XW,hx3,hx4,hx5⟩:=one i hi;rw [h1]at QR;cases QR;refine⟨v,_,p,g1,g3,rfl,rfl,?_,?_,λ k hk=>absurd hk (nohid i k hi),λ k _=>rfl,λ k ⟨y,IB,Qi⟩=>?_⟩
   ·rw [<-hx3,g4]
   ·simp only [h1];rw [g4]
   ·rw [h1]at IB;cases IB
    show(sf (i+1)).H.get k=p.H.get k;rw [g5];unfold yA;rw [Qi]
  ·obtain⟨g1,g2,g3⟩:=h5 hg
   refine⟨g1,by rw [g3],λ k ⟨y,IB,Qi⟩=>?_⟩;rw [h1]at IB;cases IB;rw [g2]at Qi;have:Hint.idle ⟨[],(sf i).nx,(sf i).nx⟩=true:=jy.2 ⟨rfl,Nat.le_refl _⟩;rw [this]at Qi;cases Qi
 ·obtain⟨h,h1,h2,h3,h4,h5⟩:=one i hi
  have:h.idle=true:=by
   cases tG:h.idle with
   |true=>rfl
   |false=>exact absurd ⟨h,h1,tG⟩ hn
  show(sf (i+1)).H.get k=(sf i).H.get k;rw [h5 this]
 ·obtain⟨h,h1,h2,h3,h4,h5⟩:=one i hi
  show(sf i).nx<=(sf (i+1)).nx;rw [<-h2,<-h3];exact h4
 ·obtain⟨h,h3,h4,h5,h6,h7⟩:=one i hi
  refine⟨h,h3,?_⟩;cases tG:h.idle with
  |false=>rfl
  |true=>
   have:=(jy.1 tG).2;have h1:(sf i).nx<=k:=h1;have h2:k<(sf (i+1)).nx:=h2;omega
 ·obtain⟨h,h3,_⟩:=one i hi
  simp only [h3]at hk;refine⟨h,h3,?_⟩;cases tG:h.idle with
  |false=>rfl
  |true=>rw [(jy.1 tG).1]at hk;cases hk
theorem Jc{hs:List Hint}{Tf:Nat->cQ}{sf:Nat->HS}{wf:Nat->List Nat}(hlen:hs.length=A.size)(c8:∀j,j<A.size->Hj E A hs j (Tf j) (sf j) (Tf (j+1)) (sf (j+1)) (wf j)):
  jv E A (RM A) Tf (λ i=>(sf i).H.get) (λ i=>(sf i).nx) wf (λ i k=>∃h,hs[i]? =some h/\k∈h.keys):=by
 have tG:∀i k,Hid A.size (RM A) (λ i k=>∃h,hs[i]? =some h/\k∈h.keys) i k↔k∈jq (others (dB A.toList []) i hs 0):=λ i k=>by
  rw [yR]
  constructor
  ·rintro⟨j,hj,hu,h,h1,h2⟩
   refine⟨h,lV.2 ⟨j,h1,?_,by rw [Nat.zero_add];exact AL.2 hu⟩,h2⟩;cases hi:h.idle with
   |false=>rfl
   |true=>exact absurd h2 (yQ hi k)
  ·rintro⟨h,h1,h2⟩
   obtain⟨j,h3,_,h4⟩:=lV.1 h1;rw [Nat.zero_add]at h4;exact⟨j,by rw [<-hlen];exact(List.getElem?_eq_some_iff.1 h3).1,AL.1 h4,h,h3,h2⟩
 have one:∀i,i<A.size->∃h,hs[i]? =some h/\h.lo=(sf i).nx/\h.hi=(sf (i+1)).nx/\h.lo<=h.hi/\IU h.keys (jq (others (dB A.toList []) i hs 0))=true/\(∀k,k∉h.keys->(sf (i+1)).H.get k=(sf i).H.get k)/\(∀k,k∈wf i->k∈h.ws):=λ i hi=>by
  obtain⟨o,h,g,h1,h2,h3,h4,h5,h6,h7,h8⟩:=c8 i hi;refine⟨h,h2,h3,?_⟩;cases g with
  |true=>
   obtain⟨v,p,g1,g2,g3,g4,g5,g6⟩:=h7 rfl;refine⟨by rw [g5];exact g2,h4,h5,λ k hk=>?_,λ k hk=>Hh g3 k (by rw [<-g6];exact hk)⟩;rw [g5];show(sP p.H h.keys (sf i).H).get k=_;rw [wy,if_neg hk]
  |false=>
   obtain⟨g1,g2,g3,g4⟩:=h8 rfl;have:=(jy.1 g1).2;exact⟨by rw [g3];omega,h4,h5,λ k _=>by rw [g3],λ k hk=>by rw [g4]at hk;cases hk⟩
 refine⟨λ i o ho=>?_,λ i k hi hn=>?_,λ i hi=>?_,λ i k hi h1 h2=>?_,λ i k hi hk=>?_,λ i k hi ⟨h,h1,h2⟩ hh=>?_⟩
 ·have hi:i<A.size:=(Array.getElem?_eq_some_iff.1 ho).1
  obtain⟨o',h,g,h1,h2,h3,h4,h5,h6,h7,h8⟩:=c8 i hi;rw [ho]at h1;cases h1;refine⟨g,h6,λ hg=>?_,λ hg=>?_⟩
  ·obtain⟨v,p,g1,g2,g3,g4,g5,g6⟩:=h7 hg
   refine⟨v,_,p,g1,g4,rfl,rfl,by rw [g5],g6.symm,λ k hk=>?_,λ k hk=>?_,λ k ⟨y,IB,Qi⟩=>?_⟩
   ·show(sN _ (sf i).H).get k=none
    rw [wx,if_pos ((tG i k).1 hk)]
   ·show(sN _ (sf i).H).get k=(sf i).H.get k
    rw [wx,if_neg λ e=>hk ((tG i k).2 e)]
   ·rw [h2]at IB;cases IB
    show(sf (i+1)).H.get k=p.H.get k;rw [g5];show(sP p.H h.keys (sf i).H).get k=_;rw [wy,if_pos Qi]
  ·obtain⟨g1,g2,g3,g4⟩:=h8 hg
   refine⟨g2,by rw [g3],λ k ⟨y,IB,Qi⟩=>?_⟩;rw [h2]at IB;cases IB;exact yQ g1 k Qi
 ·obtain⟨h,h1,h2,h3,h4,h5,h6,_⟩:=one i hi
  exact h6 k λ e=>hn ⟨h,h1,e⟩
 ·obtain⟨h,h1,h2,h3,h4,_⟩:=one i hi
  show(sf i).nx<=(sf (i+1)).nx;rw [<-h2,<-h3];exact h4
 ·obtain⟨h,h3,h4,h5,h6,_⟩:=one i hi
  have h1:(sf i).nx<=k:=h1;have h2:k<(sf (i+1)).nx:=h2;exact⟨h,h3,mem_keys.2 (.inr aa)⟩
 ·obtain⟨h,h3,_,_,_,_,_,h4⟩:=one i hi
  exact⟨h,h3,mem_keys.2 (.inl (h4 k hk))⟩
 ·obtain⟨h',h3,_,_,_,h4,_⟩:=one i hi
  rw [h1]at h3;cases h3;exact Hg h4 k h2 ((tG i k).1 hh)
theorem TN(aw:aO P E.TY)(hz:xg P E.TY E.TZ)(dD:CN P E)(hm:P.follows .mixedOrders=true){T T':cQ}{s s':HS}(h:RC E A T s=some (T',s')){R:Exit->Act->World->Prop}{ρ:Rn}{w:World}{a:Act}{id:Nat}
  (hd:Hd ρ s.H.get s.nx w) (tm:yI ρ T a) (hR:∀ρ' a' w',bI ρ ρ' s s' w w'->yI ρ' T' a'->R .normal a' w'):(Code.region id A true).wp P R a w:=by
 obtain⟨he,h⟩:=aC h;obtain⟨⟨T2,s2,hs⟩,h1,h⟩:=au h;have od:=Qh he;obtain⟨Tf,sf,g1,g2,g3,g4,g5,_,g7⟩:=sT (E:=E) (A:=A) A.toList 0 rfl (Nat.zero_le _) rfl h1;split at h
 ·rename_i da
  have da:Av (dB A.toList []) hs A.size=true:=da;cases h;have p:=Fg g5 da λ j hj=>g7 j (Nat.zero_le _) hj
  obtain⟨e1,e2,e3⟩:=MC (n:=A.size) (sf:=sf) (wf:=λ i=>match hs[i]? with|some h=>h.ws|none=>[]) λ j hj=>by
   obtain⟨x,h1,o,g,h2,h3,h4,h5⟩:=g7 j (Nat.zero_le _) hj;simp only [h1];cases g with
   |true=>
    obtain⟨v,q,f1,f2,f3,f4,f5⟩:=h4 rfl;rw [f5];unfold yA;cases tG:x.idle with
    |true=>exact⟨rfl,λ _ hk=>hk,λ k hk=>by rw [(jy.1 tG).1]at hk;cases hk⟩
    |false=>exact⟨rfl,λ k hk=>jr.2 (.inl hk),λ k hk aS=>jr.2 (.inr ⟨by rw [f4]at hk;exact hk,aS⟩)⟩
   |false=>
    obtain⟨f1,f2,f3⟩:=h5 rfl;rw [f3];exact⟨rfl,λ _ hk=>hk,λ k hk=>by rw [f2]at hk;cases hk⟩
  rw [g2,g4]at e1 e2 e3;exact Hf aw hz dD hm p od (s:=s) (by rw [g2]) (by simp only [g2]) (by rw [g4]) (by simp only [g4]) e1 e2 (λ i k hi hk aS=>e3 i k hi hk aS) g1 g3 hd tm hR
 ·obtain⟨Tg,sg,wf,f1,f2,f3,f4,f5⟩:=wA A.toList 0 rfl (Nat.zero_le _) h
  have p:=Jc g5 λ j hj=>f5 j (Nat.zero_le _) hj
  obtain⟨e1,e2,e3⟩:=MC (n:=A.size) (sf:=sg) (wf:=wf) λ j hj=>by
   obtain⟨o,x,g,h1,h2,h3,h4,h5,h6,h7,h8⟩:=f5 j (Nat.zero_le _) hj;cases g with
   |true=>
    obtain⟨v,q,q1,q2,q3,q4,q5,q6⟩:=h7 rfl;rw [q5,q6];exact⟨rfl,λ k hk=>jr.2 (.inl hk),λ k hk aS=>jr.2 (.inr ⟨hk,aS⟩)⟩
   |false=>
    obtain⟨q1,q2,q3,q4⟩:=h8 rfl;rw [q3,q4];exact⟨rfl,λ _ hk=>hk,λ k hk=>by cases hk⟩
  rw [f2,f4]at e1 e2 e3;exact Hf aw hz dD hm p od (s:=s) (s':=s') (by rw [f2]) (by simp only [f2]) (by rw [f4]) (by simp only [f4]) e1 e2 e3 f1 f3 hd tm hR
end
end Go.CM
end
section
namespace Go.CM
open Go Go.AM
section
end
end Go.CM
end
section
namespace Go.CM
open Go Go.AM
section
variable{P:Program}{E:Ev}
theorem Jd(aw:aO P E.TY)(hz:xg P E.TY E.TZ)(dD:CN P E)(hm:P.follows .mixedOrders=true){A:Array Oper}{d:Bool}{T T':cQ}{s s':HS}(h:vS E A d T s=some (T',s')){R:Exit->Act->World->Prop}{ρ:Rn}{w:World}{a:Act}{id:Nat}
  (hd:Hd ρ s.H.get s.nx w) (tm:yI ρ T a) (hR:∀ρ' a' w',bI ρ ρ' s s' w w'->yI ρ' T' a'->R .normal a' w'):(Code.region id A d).wp P R a w:=by
 cases d with
 |true=>exact TN aw hz dD hm h hd tm hR
 |false=>exact wp_region (by
   have:=wq (Q:=R) aw hz dD (ops:=A) A.toList 0 rfl h hd tm hR;rw [List.range_eq_range',<-Array.length_toList];exact this)
theorem nn(aw:aO P E.TY)(hz:xg P E.TY E.TZ)(dD:CN P E)(hm:P.follows .mixedOrders=true)(n:Nat):∀(c:Code) {T:cQ} {s:HS} {r:Out} {ρ:Rn} {w:World} {a:Act} {R:Exit->Act->World->Prop},
  xG c E n T s=some r->Hd ρ s.H.get s.nx w->yI ρ T a->(∀ρ' a' w',bI ρ ρ' s r.s w w'->yI ρ' r.T a'->R (vp r.e) a' w')->c.wp P R a w
 |.skip,T,s,r,ρ,w,a,R,h,hd,tm,hR=>by
  have h:some ⟨.normal,T,s⟩=some r:=h;cases h;exact wp_skip (hR ρ a w (bI.refl hd) tm)
 |.ret,T,s,r,ρ,w,a,R,h,hd,tm,hR=>by
  have h:some ⟨.ret,T,s⟩=some r:=h;cases h;exact wp_ret (hR ρ a w (bI.refl hd) tm)
 |.exit id,T,s,r,ρ,w,a,R,h,hd,tm,hR=>by
  have h:some ⟨.exit id,T,s⟩=some r:=h;cases h;exact wp_exit (hR ρ a w (bI.refl hd) tm)
 |.region id ops d,T,s,r,ρ,w,a,R,h,hd,tm,hR=>by
  have h:(bo (vS E ops d T s) λ p=>some ⟨.normal,p.1,p.2⟩)=some r:=h;obtain⟨p,h1,h⟩:=au h;cases h;exact Jd aw hz dD hm h1 hd tm hR
 |.seq x y,T,s,r,ρ,w,a,R,h,hd,tm,hR=>by
  have h:(bo (xG x E n T s) λ r=>Wt r (xG y E n))=some r:=h;obtain⟨r1,h1,h⟩:=au h;refine wp_seq (nn aw hz dD hm n x h1 hd tm λ ρ' a' w' hp tm'=>?_);obtain⟨e,T1,s1⟩:=r1;cases e with
  |normal=>
   have h:xG y E n T1 s1=some r:=h;exact nn aw hz dD hm n y h hp.hd tm' λ ρ'' a'' w'' ZD tm''=>hR ρ'' a'' w'' (hp.trans ZD) tm''
  |exit i=>
   have h:some ⟨.exit i,T1,s1⟩=some r:=h;cases h;exact hR ρ' a' w' hp tm'
  |ret=>
   have h:some ⟨.ret,T1,s1⟩=some r:=h;cases h;exact hR ρ' a' w' hp tm'
 |.cond c x y,T,s,r,ρ,w,a,R,h,hd,tm,hR=>by
  have h:(bo (Wl (cJ T c)) λ t=>Bool.rec (motive:=λ _=>Option Out) (xG y E n T s) (xG x E n T s) t)=some r:=h;obtain⟨t,h1,h⟩:=au h;have hv:=Az h1 (G0 tm c);refine wp_cond hv ?_;cases t with
  |true=>exact nn aw hz dD hm n x h hd tm hR
  |false=>exact nn aw hz dD hm n y h hd tm hR
 |.block id x,T,s,r,ρ,w,a,R,h,hd,tm,hR=>by
  have h:(bo (xG x E n T s) λ r=>Wu id r)=some r:=h;obtain⟨r1,h1,h⟩:=au h;refine wp_block (nn aw hz dD hm n x h1 hd tm λ ρ' a' w' hp tm'=>?_);obtain⟨e,T1,s1⟩:=r1;cases e with
  |normal=>
   have h:some ⟨.normal,T1,s1⟩=some r:=h;cases h;exact hR ρ' a' w' hp tm'
  |ret=>
   have h:some ⟨.ret,T1,s1⟩=some r:=h;cases h;exact hR ρ' a' w' hp tm'
  |exit j=>
   have h:(Bool.rec (motive:=λ _=>Option Out) (some ⟨.exit j,T1,s1⟩) (some ⟨.normal,T1,s1⟩) (Nat.beq j id))=some r:=h;simp only [vp,Exit.inBlock];cases hb:Nat.beq j id with
   |true=>
    rw [hb]at h;have h:some ⟨.normal,T1,s1⟩=some r:=h;cases h;rw [if_pos (ay.1 hb)];exact hR ρ' a' w' hp tm'
   |false=>
    rw [hb]at h;have h:some ⟨.exit j,T1,s1⟩=some r:=h;cases h;rw [if_neg (beq_false hb)];exact hR ρ' a' w' hp tm'
 |.scope x,T,s,r,ρ,w,a,R,h,hd,tm,hR=>wp_scope_straight (nn aw hz dD hm n x (r:=r) h hd tm λ ρ' a' w' hp tm'=>by
   have:=hR ρ' a' w' hp tm';cases he:r.e<;>rw [he]at this<;>exact this)
 |.loop x,T,s,r,ρ,w,a,R,h,hd,tm,hR=>by
  have h:Ay (xG x E n) n T s=some r:=h
  let I:Nat->Act->World->Prop:=λ k a' w'=>∃T1 s1 ρ1,Ay (xG x E n) k T1 s1=some r/\bI ρ ρ1 s s1 w w'/\yI ρ1 T1 a'
  refine ED I id n ⟨T,s,ρ,h,bI.refl hd,tm⟩ λ k a1 w1 ⟨T1,s1,ρ1,h1,gR,tm1⟩=>?_;cases k with
  |zero=>cases h1
  |succ k=>
   obtain⟨r1,h2,h1⟩:=au h1;refine nn aw hz dD hm n x h2 gR.hd tm1 λ ρ' a' w' hp tm'=>?_;obtain⟨e,T2,s2⟩:=r1;cases e with
   |normal=>exact⟨k,⟨T2,s2,ρ',h1,gR.trans hp,tm'⟩,Nat.lt_succ_self k⟩
   |exit i=>
    have h1:some ⟨.exit i,T2,s2⟩=some r:=h1;cases h1;exact hR ρ' a' w' (gR.trans hp) tm'
   |ret=>
    have h1:some ⟨.ret,T2,s2⟩=some r:=h1;cases h1;exact hR ρ' a' w' (gR.trans hp) tm'
 |.label _,_,_,_,_,_,_,_,h,_,_,_=>by cases h
 |.goto _,_,_,_,_,_,_,_,h,_,_,_=>by cases h
theorem nc.get{ρ:Rn}:∀{l:List CV} {m:List Value} {i:Nat} {a:CV},nc ρ l m->l[i]? =some a->∃v,m[i]? =some v/\dU ρ a v
 |[],_,_,_,_,h=>by simp at h
 |a::l,v::m,0,_,hv,h=>by simp at h;subst h;exact⟨v,rfl,hv.1⟩
 |a::l,v::m,i+1,x,hv,h=>by simpa using nc.get hv.2 (by simpa using h)
 |_::_,[],_,_,hv,_=>hv.elim
theorem nc.len{ρ:Rn}:∀{l:List CV} {m:List Value},nc ρ l m->m.length=l.length
 |[],[],_=>rfl|_::_,_::_,h=>by simp [nc.len h.2]|[],_::_,h=>h.elim|_::_,[],h=>h.elim
theorem Db{k:Nat}:∀{l:List CV} {i:Nat} {t:Tr CV},(yD l i t).get k=if i<=k/\k<i+l.length then l[k - i]? else t.get k
 |[],i,t=>by simp [yD];omega
 |a::l,i,t=>by
  rw [yD,Db (l:=l),Tr.fi];simp only [List.length_cons]
  by_cases h1:i+1<=k/\k<i+1+l.length
  ·rw [if_pos h1,if_pos aa,show k - i=(k - (i+1))+1 by omega];simp
  ·rw [if_neg h1]
   by_cases h2:k=i
   ·subst h2;rw [if_pos rfl,if_pos aa];simp
   ·rw [if_neg h2,if_neg aa]
theorem yT{k:Nat}:∀{n i:Nat} {t:Tr CV},(rX n i t).get k=if i<=k/\k<i+n then some (.t []) else t.get k
 |0,i,t=>by simp [rX];omega
 |n+1,i,t=>by
  rw [rX,yT (n:=n),Tr.fi]
  by_cases h1:i+1<=k/\k<i+1+n
  ·rw [if_pos h1,if_pos aa]
  ·rw [if_neg h1]
   by_cases h2:k=i
   ·subst h2;rw [if_pos rfl,if_pos aa]
   ·rw [if_neg h2,if_neg aa]
theorem MD{ρ:Rn}{args:List CV}{vs:List Value}{n:Nat}(hv:nc ρ args vs)(hn:args.length<=n):yI ρ (L3 args n) { tmps:=vs.toArray++Array.replicate (n - vs.toArray.size) undef,defers:=[] }:=by
 have hl:=hv.len;refine⟨rfl,?_,λ i=>?_⟩
 ·show(vs.toArray++Array.replicate (n - vs.toArray.size) undef).size=n
  simp;omega
 ·show dU ρ (match (rX (n - args.length) args.length (yD args 0 .lf)).get i with|some v=>v|none=>.Tt) ((vs.toArray++Array.replicate (n - vs.toArray.size) undef).getD i undef)
  rw [yT]
  by_cases h1:args.length<=i/\i<args.length+(n - args.length)
  ·rw [if_pos h1]
   have:(vs.toArray++Array.replicate (n - vs.toArray.size) undef).getD i undef=undef:=by
    rw [Array.getD_eq_getD_getElem?,Array.getElem?_append_right (by simp;omega),Array.getElem?_replicate];split<;>rfl
   rw [this];exact kY ρ
  ·rw [if_neg h1,Db]
   by_cases h2:i<args.length
   ·rw [if_pos aa,Nat.sub_zero,List.getElem?_eq_getElem h2]
    obtain⟨v,h3,h4⟩:=hv.get (List.getElem?_eq_getElem h2)
    have:(vs.toArray++Array.replicate (n - vs.toArray.size) undef).getD i undef=v:=by
     rw [Array.getD_eq_getD_getElem?,Array.getElem?_append_left (by simp;omega)];simp [h3]
    rw [this];exact h4
   ·rw [if_neg aa];trivial
theorem Fh(aw:aO P E.TY){ρ:Rn}{s:HS}{w:World}{T:cQ}{a:Act}(hd:Hd ρ s.H.get s.nx w)(tm:yI ρ T a):∀{l:List ResultVar} {ws:List CW},vy E T s l=some ws->∃vs,(l.mapM (jh a.tmps)).run P w= .ok vs w/\tF ρ ws vs
 |[],ws,h=>by cases h;exact⟨[],by simp,ag⟩
 |.tmp t::l,ws,h=>by
  obtain⟨x,h1,h⟩:=au h;obtain⟨m,h2,h⟩:=au h;cases h;obtain⟨vs,h3,h4⟩:=Fh aw hd tm h2;exact⟨a.tmps.getD t undef::vs,by simp [jh,h3],uf h1 (tm.tmp t),h4⟩
 |.cell t ty::l,ws,h=>by
  obtain⟨p,h1,h⟩:=au h;obtain⟨q,h2,h⟩:=au h;obtain⟨x,h3,h⟩:=au h;obtain⟨m,h4,h⟩:=au h;cases h;obtain⟨vs,h5,h6⟩:=Fh aw hd tm h4;obtain⟨b,c,h7,h8⟩:=qD h1 (tm.tmp t);obtain⟨cs,tyy,h9,_,_,cu⟩:=dI hd (bz h2) h7;obtain⟨u,lB,ou⟩:=G1 aw cu h9 h3
  have aK:(jh a.tmps (.cell t ty)).run P w= .ok u w:=by
   simp only [Instr.loadAt,Instr.sureAddr]at lB;simp only [jh,h8,asAddr]
   simpa using lB
  exact⟨u::vs,by simp [aK,h5],ou,h6⟩
theorem TO{ρ:Rn}:∀{ws:List CW} {vs:List Value},tF ρ ws vs->dU ρ (TC ws) (AM.vy vs)
 |[],[],_=>⟨#[],rfl,ag⟩
 |[x],[v],h=>lR h.1
 |x::y::l,v::u::m,h=>⟨(v::u::m).toArray,rfl,by simpa using h⟩
 |[],_::_,h=>h.elim
 |_::_,[],h=>h.elim
 |[_],_::_::_,h=>h.2.elim
 |_::_::_,[_],h=>h.2.elim
theorem ME{TY:List cP}{TZ:Zs}{K:Kn}(aw:aO P TY)(hz:xg P TY TZ)(hk:u7 P K.TD)(he:PZ P K.eqs)(tt:G2 P K.EY)(hm:P.follows .mixedOrders=true)(mQ:∀(f:FuncId) (fn:Func),P.funcs[f]? =some fn->fn.name≠ "runtime.NumGoroutine")(n:Nat):∀d,u7 P (NV P TY TZ K n d)
 |0=>λ f args s v s' h=>by cases h
 |d+1=>λ f args s v s' h=>by
  unfold NV at h;split at h
  ·rename_i r hr
   cases h;exact hk f args s v s' hr
  obtain⟨fn,h1,h⟩:=au h;obtain⟨c,h2,h⟩:=au h;obtain⟨h3,h⟩:=aC h;obtain⟨r,h4,h⟩:=au h;refine⟨⟨fn,h1,mQ f fn h1,by rw [h2];rfl⟩,λ ρ w vs hd hv=>calls_of_wp h1 h2 ?_⟩;have ih:=ME aw hz hk he tt hm mQ n d;refine nn (E:=⟨TY,TZ,NV P TY TZ K n d,K.eqs,K.EY⟩) aw hz ⟨ih,he,tt⟩ hm n c h4 hd (MD hv (ah h3)) λ ρ' a' w' hp tm'=>?_
  have fin:(bo (vy ⟨TY,TZ,NV P TY TZ K n d,K.eqs,K.EY⟩ r.T r.s fn.results.toList) λ l=>some (TC l,r.s))=some (v,s')->a'.defers=[]/\∃v0,(results fn a'.tmps).run P w'= .ok v0 w'/\∃u,Ending.returned v0= .returned u/\∃ρ',bI ρ ρ' s s' w w'/\dU ρ' v u:=λ h=>by
   obtain⟨l,h5,h⟩:=au h;cases h;obtain⟨us,h6,h7⟩:=Fh (E:=⟨TY,TZ,NV P TY TZ K n d,K.eqs,K.EY⟩) aw hp.hd tm' h5;exact⟨tm'.defers,_,tW h6,_,rfl,ρ',hp,TO h7⟩
  obtain⟨e,T1,s1⟩:=r;cases e with
  |exit i=>cases h
  |normal=>exact fin h
  |ret=>exact fin h
def Ep(x:Option (CV × HS)):Bool:=match x with|some p=>(match p.1 with|.c y=>(match y with|.bool b=>b|_=>false)|_=>false)|none=>false
def KD(P:Program):Bool:=P.funcs.all λ fn=>decide (fn.name≠ "runtime.NumGoroutine")
theorem KG(h:KD P=true):∀(f:FuncId) (fn:Func),P.funcs[f]? =some fn->fn.name≠ "runtime.NumGoroutine":=λ f fn hf=>by
 obtain⟨h1,h2⟩:=Array.getElem?_eq_some_iff.1 hf;have:=Array.all_eq_true.1 h f h1;rw [h2]at this;exact of_decide_eq_true this
theorem OY{TY:List cP}{TZ:Zs}{K:Kn}(aw:aO P TY)(hz:xg P TY TZ)(hk:u7 P K.TD)(he:PZ P K.eqs)(tt:G2 P K.EY)(hm:P.follows .mixedOrders=true)(mQ:∀(f:FuncId) (fn:Func),P.funcs[f]? =some fn->fn.name≠ "runtime.NumGoroutine"){n d:Nat}{f:FuncId}
  (h:Ep (NV P TY TZ K n d f [] ⟨.lf,0,0,[]⟩)=true):AM.Fn P f [] (.bool (.lit true)):=by
 cases hv:NV P TY TZ K n d f [] ⟨.lf,0,0,[]⟩with
 |none=>rw [hv]at h;cases h
 |some p=>
  obtain⟨v,s'⟩:=p;rw [hv]at h
  have hvt:v= .c (.bool true):=by
   simp only [Ep]at h;split at h
   ·rename_i y
    split at h
    ·rw [h]
    ·cases h
   ·cases h
  subst hvt;obtain⟨hc,dD⟩:=ME aw hz hk he tt hm mQ n d f [] _ _ _ hv;refine⟨hc,λ M w vs xc hM hvs=>?_⟩
  have ZH:vs=[]:=by
   cases vs with
   |nil=>rfl
   |cons=>exact hvs.elim
  subst ZH;refine(dD (λ _=>none) w [] ⟨λ k o hk=>(by cases hk),λ k k' o o' b c c' hk=>(by cases hk),λ _ _=>rfl,xc,λ k o b c hk=>(by cases hk)⟩ trivial).mono λ e w' ⟨u,he,ρ',hp,hu⟩=>?_;have hu:u= .bool true:=hu;subst hu;exact⟨_,he,⟨hp.size,λ b hb=>.inl (hp.frame b hb λ k o c hk=>(by cases hk)),hp.io⟩,M,λ _ _ _=>Iff.rfl,λ b off hm=>Nat.lt_of_lt_of_le (hM b off hm) hp.size,rfl⟩
end
end Go.CM
end
