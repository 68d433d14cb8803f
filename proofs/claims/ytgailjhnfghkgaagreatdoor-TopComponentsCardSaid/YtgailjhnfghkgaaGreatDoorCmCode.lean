import Derived.Test.YtgailjhnfghkgaaGreatDoorCmOps3
import Derived.Laws.IdiomStrings
import Derived.Laws.BytesArg
import Derived.MapKept
import Derived.Lib.UnsafeStr
import Derived.Lib.AppendStr
import Derived.ChangeKeysEq
import Derived.Test.YtgailjhnfghkgaaGreatDoorAmRet
import Derived.Test.YtgailjhnfghkgaaGreatDoorAmQAll2
section
namespace Go.CM
open Go Go.AM Go.MapKept
section
variable{P:Program}{E:Ev}{O:Rn}{s s':HS}{w:World}{T:cW}{e:Operand->Value}{oo:Oper}{v:CV}
theorem Kc(az:aR P E.TY){t f:Nat}{x:Operand}(h:DC E T t x f s=some (v,s'))(ho:oo.op= .fieldAddr t x f)(hd:Hd O s.H.get s.nx w)(he:∀x∈oo.op.operands,ef O (cP T x) (e x)):jQ P e oo O s s' w v:=by
 rw [ho]at he;obtain⟨p,h1,h⟩:=aw h;split at h
 ·rename_i fs gg
  obtain⟨⟨o,u⟩,h2,h⟩:=aw h;obtain⟨h3,h⟩:=aE h;cases h;have gg:(au E.TY t).d= .struct fs:=gg;obtain⟨F,hu,tX⟩:=di az gg;obtain⟨b,c,g1,g2⟩:=rv h1 (he x (by simp [Op.operands]));have hf:=cu h2;rw [tX,ajR]at hf;cases hg:F.toList[f]? with
  |none=>rw [hg]at hf;cases hf
  |some fl=>
   rw [hg]at hf;cases hf;rw [ajt]at hg;have cd:(underlying t).run P w= .ok (.struct F) w:=by simp [underlying,hu]
   have tT:(sizeOf fl.type).run P w= .ok (E.sz fl.type) w:=(az.at (t:=fl.type) (.inl (me h3))).size w;have bn:E.sz fl.type≠0:=by have:=ah h3;have h3:1<=E.sz fl.type:=this;omega
   refine aG hd (u:=.pointer (some ⟨b,p.2+fl.offset,none⟩)) ?_ ⟨b,c,g1,rfl⟩;simp [execOp,ho,Instr.fieldAt,cd,hg,g2,Instr.sureAddr,fieldPlace,tT,bn,aU]
 ·cases h
theorem NL(az:aR P E.TY){t f:Nat}{x:Operand}(h:HV E T t x f s=some (v,s'))(ho:oo.op= .field t x f)(hd:Hd O s.H.get s.nx w)(he:∀x∈oo.op.operands,ef O (cP T x) (e x)):jQ P e oo O s s' w v:=by
 rw [ho]at he;obtain⟨l,h1,h⟩:=aw h;split at h
 ·rename_i fs gg
  obtain⟨⟨o,u⟩,h2,h⟩:=aw h;obtain⟨y,h3,rfl,rfl⟩:=Bp h;have gg:(au E.TY t).d= .struct fs:=gg;obtain⟨F,hu,tX⟩:=di az gg;obtain⟨cs,g1,g2⟩:=rp h1 (he x (by simp [Op.operands]));have hf:=cu h2;rw [tX,ajR]at hf;cases hg:F.toList[f]? with
  |none=>rw [hg]at hf;cases hf
  |some fl=>
   rw [hg]at hf;cases hf;rw [ajt]at hg;have cd:(underlying t).run P w= .ok (.struct F) w:=by simp [underlying,hu]
   obtain⟨uu,g3,g4⟩:=uS (w:=w) az g2 h3;refine aG hd (u:=uu) ?_ (ma g4);simp [execOp,ho,Instr.field,cd,hg,g1,asAgg,g3]
 ·cases h
theorem Kd(az:aR P E.TY){t:Nat}{x i:Operand}(h:DD E T t x i s=some (v,s'))(ho:oo.op= .indexAddr t x i)(hd:Hd O s.H.get s.nx w)(he:∀x∈oo.op.operands,ef O (cP T x) (e x)):jQ P e oo O s s' w v:=by
 rw [ho]at he;obtain⟨n,h1,h⟩:=aw h;obtain⟨k,g1,_⟩:=ru h1 (he i (by simp [Op.operands]));split at h
 ·rename_i el gg
  obtain⟨sv,h2,h⟩:=aw h;obtain⟨h0,h⟩:=aE h;obtain⟨h3,h⟩:=aE h;cases h;have h3:=ah h3;have gg:(au E.TY t).d= .slice el:=gg;have hu:=bY az gg;obtain⟨b,c,cap,g2,g3,g4,_⟩:=Bo h2 (he x (by simp [Op.operands]));have cd:(underlying t).run P w= .ok (.slice el) w:=by simp [underlying,hu]
  have tT:(sizeOf el).run P w= .ok (E.sz el) w:=(az.at (t:=el) (.inl (me h0))).size w;refine aG hd (u:=.pointer (some ⟨b,sv.off+n*E.sz el,none⟩)) ?_ ⟨b,c,g2,rfl⟩;have:¬sv.len<=n:=aa;simp [execOp,ho,Instr.indexAt,g1,asIntOf,cd,g4,tT,this,aU]
 ·rename_i m el gg
  obtain⟨p,h2,h⟩:=aw h;obtain⟨h0,h⟩:=aE h;obtain⟨h3,h⟩:=aE h;cases h;have h3:=ah h3;have gg:(au E.TY t).d= .arr m el:=gg;have hu:=hZ az gg;obtain⟨b,c,g2,g3⟩:=rv h2 (he x (by simp [Op.operands]));have cd:(underlying t).run P w= .ok (.array m el) w:=by simp [underlying,hu]
  have tT:(sizeOf el).run P w= .ok (E.sz el) w:=(az.at (t:=el) (.inl (me h0))).size w;refine aG hd (u:=.pointer (some ⟨b,p.2+n*E.sz el,none⟩)) ?_ ⟨b,c,g2,rfl⟩;have:¬m<=n:=aa;simp [execOp,ho,Instr.indexAt,g1,asIntOf,cd,g3,Instr.sureAddr,tT,this,aU]
 ·cases h
theorem NM(az:aR P E.TY){t:Nat}{x i:Operand}(h:HW E T t x i s=some (v,s'))(ho:oo.op= .index t x i)(hd:Hd O s.H.get s.nx w)(he:∀x∈oo.op.operands,ef O (cP T x) (e x)):jQ P e oo O s s' w v:=by
 rw [ho]at he;obtain⟨n,h1,h⟩:=aw h;obtain⟨k,g1,_⟩:=ru h1 (he i (by simp [Op.operands]));split at h
 ·rename_i m el gg
  obtain⟨l,h2,h⟩:=aw h;obtain⟨h0,h⟩:=aE h;obtain⟨h3,h⟩:=aE h;obtain⟨y,h4,rfl,rfl⟩:=Bp h;have h3:=ah h3;have gg:(au E.TY t).d= .arr m el:=gg;have hu:=hZ az gg;obtain⟨cs,g2,g3⟩:=rp h2 (he x (by simp [Op.operands]));have cd:(underlying t).run P w= .ok (.array m el) w:=by simp [underlying,hu]
  have tT:(sizeOf el).run P w= .ok (E.sz el) w:=(az.at (t:=el) (.inl (me h0))).size w;obtain⟨u,g4,g5⟩:=uS (w:=w) az g3 h4;have:¬m<=n:=aa;exact aG hd (u:=u) (by simp [execOp,ho,Instr.index,g1,asIntOf,cd,g2,tT,this,g4]) (ma g5)
 ·rename_i gg
  obtain⟨c,h2,h⟩:=aw h;cases c<;>simp only [reduceCtorEq]at h
  rename_i l;obtain⟨b,h3,h⟩:=aw h;cases h;have gg:(au E.TY t).d= .str:=gg;obtain⟨u,hu,PJ,cd⟩:=(az.at (t:=t) (.inr (by rw [gg];simp))).under;rw [gg]at PJ;cases u<;>try exact PJ.elim
  obtain⟨g2,g3⟩:=cr h2 (he x (by simp [Op.operands]));have hb:b<256:=g3 b (List.mem_of_getElem? h3)
  have hs:(bJ l)[n]? =some (UInt8.ofNat b):=by
   have aX:n<l.length:=(List.getElem?_eq_some_iff.1 h3).1;have e1:l[n]=b:=(List.getElem?_eq_some_iff.1 h3).2;have bu:n<(bJ l).size:=by show n<(l.map UInt8.ofNat).toArray.size;simpa using aX
   have this:(bJ l)[n]? =some ((bJ l)[n]'bu):=by rw [getElem?_pos]
   have get:∀(a:Array UInt8) (h:n<(ByteArray.mk a).size),(ByteArray.mk a)[n]'h=a[n]'h:=λa h=>rfl;rw [this]
   congr 1
   have g:=get (l.map UInt8.ofNat).toArray bu;have q:∀(h:n<(l.map UInt8.ofNat).toArray.size),(l.map UInt8.ofNat).toArray[n]'h=UInt8.ofNat b:=λh=>by simp [e1]
   exact Eq.trans g (q _)
  have hbn:(UInt8.ofNat b).toNat=b:=by rw [UInt8.toNat_ofNat'];omega
  refine aG hd (u:=.int .u8 (b:Int)) ?_ ⟨rfl,by simp [eO,IntKind.min,IntKind.max,IntKind.signed,IntKind.bits];omega⟩;simp [execOp,ho,Instr.index,g1,asIntOf,cd,g2,hs];omega
 ·cases h
theorem Bt:∀(l:List Nat) (n:Nat),iB l n=l.length+n
 |[],n=>by simp [iB]
 |_::l,n=>by simp only [iB,Bt l,ajY];omega
theorem Ib:∀(l:List (CW × CW)) (n:Nat),J4 l n=l.length+n
 |[],n=>by simp [J4]
 |_::l,n=>by simp only [J4,Ib l,ajY];omega
theorem tA.len:∀{l:List (CW × CW)} {m:List MapEntry},tA O l m->m.length=l.length
 |[],[],_=>rfl|_::_,_::_,h=>by simp [tA.len h.2]|[],_::_,h=>h.elim|_::_,[],h=>h.elim
theorem rowOf(az:aR P E.TY){t:Nat}(h:(au E.TY t).d≠.other):∃u,P.underlying t=some u/\mc (au E.TY t).d u/\∀w,(underlying t).run P w= .ok u w:=(az.at (t:=t) (.inr h)).under
theorem nG:∀{l:List CC} {m:List Nat} {vs:List Value},bytesOf l=some m->cJ O l vs->vs=m.map (λ(n:Nat)=>Value.int .u8 (n:Int))/\∀x∈m,x<256
 |[],m,vs,h,hl=>by
  cases h;cases vs with
  |nil=>exact⟨rfl,by simp⟩
  |cons=>exact hl.elim
 |a::l,m,[],h,hl=>hl.elim
 |a::l,m,u::vs,h,hl=>by
  cases a<;>simp only [bytesOf,reduceCtorEq]at h
  rename_i k n;cases k<;>simp only [reduceCtorEq]at h
  obtain⟨b,h1,h⟩:=aw h;obtain⟨r,h2,h⟩:=aw h;cases h;obtain⟨g1,g2⟩:=nG h2 hl.2;obtain⟨e1,e2⟩:=hl.1;have e3:=H4 h1;subst e3;refine⟨by rw [e1,g1];rfl,λx hx=>?_⟩;rcases ajo.1 hx with rfl|hx
  ·simp [eO,IntKind.min,IntKind.max,IntKind.signed,IntKind.bits]at e2;omega
  ·exact g2 x hx
theorem RA{d:HN}(h:Vf d=true):d= .int .u8:=by
 unfold Vf at h;split at h
 ·split at h
  ·rfl
  ·cases h
 ·cases h
theorem RB(az:aR P E.TY){a b:Nat}{x:Operand}(h:FY E T a b x s=some (v,s'))(ho:oo.op= .convert a b x)(hd:Hd O s.H.get s.nx w)(he:∀x∈oo.op.operands,ef O (cP T x) (e x)):jQ P e oo O s s' w v:=by
 rw [ho]at he;have hx:=he x (by simp [Op.operands]);unfold FY at h;split at h
 ·rename_i k hb
  split at h
  ·rename_i k' ha
   obtain⟨p,h1,h⟩:=aw h;cases h;have ha:(au E.TY a).d= .int k':=ha;have hb:(au E.TY b).d= .int k:=hb;obtain⟨ua,g1,g2,g3⟩:=rowOf az (t:=a) (by rw [ha];simp);obtain⟨ub,g4,g5,g6⟩:=rowOf az (t:=b) (by rw [hb];simp);rw [ha]at g2;rw [hb]at g5;cases ua<;>try exact g2.elim
   cases ub<;>try exact g5.elim
   have g5:k=_:=g5;subst g5;exact aG hd (u:=.int k (k.wrap p.2)) (by simp [execOp,ho,(iX h1 hx).1,convert,g3,g6,Conv.intToInt]) (gf _ _ _)
  ·cases h
 ·rename_i hb
  split at h
  ·rename_i el ha
   obtain⟨h0,h⟩:=aE h;obtain⟨c,h1,h⟩:=aw h;have ha:(au E.TY a).d= .slice el:=ha;have hb:(au E.TY b).d= .str:=hb;have h0:(au E.TY el).d= .int .u8:=RA h0;have Zq:=bY az ha;obtain⟨ub,g4,g5,g6⟩:=rowOf az (t:=b) (by rw [hb];simp);rw [hb]at g5;cases ub<;>try exact g5.elim
   obtain⟨ue,g7,g8,g9⟩:=rowOf az (t:=el) (by rw [h0];simp);rw [h0]at g8;cases ue<;>try exact g8.elim
   have g8:IntKind.u8=_:=g8;subst g8;have hc:=cr h1 hx;cases c<;>simp only [reduceCtorEq]at h
   ·rename_i k off len cap
    obtain⟨l,h2,h⟩:=aw h;obtain⟨m,h3,h⟩:=aw h;cases h;obtain⟨q,h4,h5⟩:=aw h2;obtain⟨bb,cc,cap',r1,r2,r3,_⟩:=hc;obtain⟨cs,ty,r4,_,_,r5⟩:=dP hd (bB h4) r1;obtain⟨mv,r6,r7,r8⟩:=jG r5 r4 h5;obtain⟨r9,r10⟩:=nG h3 r6;have hlen:m.length=len:=by rw [<-r7,r9];simp
    have aN:=run_convert_bytes_back (P:=P) w a b el ⟨bb,off,none⟩ cap' (m.map UInt8.ofNat) Zq g7 g4 (λj hj=>by
     have mC:j<m.length:=by simpa using hj
     rw [aU];refine r8 j _ ?_;rw [r9];simp only [ajR,ajP mC,Option.map_some,List.getElem_map];have:=r10 m[j] (List.getElem_mem _)
     congr 2
     rw [UInt8.toNat_ofNat'];omega)
    rw [ajS,hlen]at aN;exact aG hd (u:=.string (bJ m)) (by simp [execOp,ho,r3,aN,bJ]) ⟨rfl,r10⟩
   ·cases h
    have hc:e x= .slice none 0 0:=hc;have aN:=run_convert_bytes_nil (P:=P) w a el Zq g7 0 0 b g4;exact aG hd (u:=.string ByteArray.empty) (by simp [execOp,ho,hc,aN]) ⟨rfl,by simp⟩
  ·cases h
 ·cases h
theorem Ke{u:Value}{w':World}(hd:Hd O s.H.get s.nx w)(aN:(execOp e oo).run P w= .ok (.value u) w')(hw:w'.heap=w.heap.push (.map #[] 0))(oK:kg w w')(hu:u= .map (some w.heap.size)):jQ P e oo O s (s.new (.map [])) w (.c (.mp s.nx)):=by
 obtain⟨O',h1,h2⟩:=bM.make (o:=.map []) 0 hd hw oK λO' hx=>⟨#[],0,rfl,ag⟩;exact .inl ⟨u,w',aN,O',h1,_,_,h2,hu⟩
theorem NN{t:Nat}{q:Nat × Nat}(h:tv E t=some q):(au E.TY t).d= .map q.1 q.2:=by
 unfold tv Ev.d at h;split at h
 ·rename_i hd;cases h;exact hd
 ·cases h
theorem rD (az:aR P E.TY){t:Nat}{q:Nat × Nat}(h:tv E t=some q):P.underlying t=some (.map q.1 q.2):=by
 have hd:=NN h;obtain⟨u,g1,g2,_⟩:=rowOf az (t:=t) (by rw [hd];simp);rw [hd]at g2;cases u<;>try exact g2.elim
 obtain⟨e1,e2⟩:=g2;rw [g1,e1,e2]
theorem Gc(az:aR P E.TY){t:Nat}{r:Option Operand}(h:(bo (tv E t) λ_=>bo (J2 T r) λ_=>some (.c (.mp s.nx),s.new (.map [])))=some (v,s'))(ho:oo.op= .makeMap t r)(hd:Hd O s.H.get s.nx w)(he:∀x∈oo.op.operands,ef O (cP T x) (e x)):jQ P e oo O s s' w v:=by
 rw [ho]at he;obtain⟨q,h1,h⟩:=aw h;obtain⟨n,h2,h⟩:=aw h;cases h;have hu:=rD az h1;have cd:(underlying t).run P w= .ok (.map q.1 q.2) w:=by simp [underlying,hu]
 have hr:=uU (e:=e) h2 λy hy=>he y (by simp [Op.operands,hy]);refine Ke hd (w':={ w with heap:=w.heap.push (.map #[] 0) }) ?_ rfl ⟨⟨rfl,rfl⟩,rfl,ajl _⟩ rfl;rcases hr with ⟨rfl,_⟩|⟨y,n,k,rfl,_,e1,_⟩
 ·simp [execOp,ho,Instr.makeMap,newObj,Sem.run]
 ·simp [execOp,ho,Instr.makeMap,newObj,Sem.run,e1,cd,asInt,asIntOf]
theorem Gd(az:aR P E.TY){t:Nat}{x:CW}{u:Value}(hc:XX x=true)(h:y7 E t x=true)(hx:pI O x u):∃d,P.underlying t=some d/\MapKept.IsKey d u:=by
 unfold y7 Ev.d at h;split at h
 ·rename_i c
  split at h
  ·split at h
   ·rename_i k' n k hd
    obtain rfl:=b8 h;obtain⟨d,g1,g2,_⟩:=rowOf az (t:=t) (by rw [hd];simp);rw [hd]at g2;cases d<;>try exact g2.elim
    obtain⟨rfl,_⟩:=hx;exact⟨_,g1,g2⟩
   ·cases h
  ·split at h
   ·rename_i hd
    obtain⟨d,g1,g2,_⟩:=rowOf az (t:=t) (by rw [hd];simp);rw [hd]at g2;cases d<;>try exact g2.elim
    obtain⟨rfl,_⟩:=hx;exact⟨_,g1,ag⟩
   ·cases h
  ·split at h
   ·rename_i hd
    obtain⟨d,g1,g2,_⟩:=rowOf az (t:=t) (by rw [hd];simp);rw [hd]at g2;cases d<;>try exact g2.elim
    have hx:u= .bool _:=hx;subst hx;exact⟨_,g1,ag⟩
   ·cases h
  ·cases h
 ·cases hc
theorem NO{d:TypeDesc}{x y:CW}{u u':Value}{b:Bool}(hk:MapKept.IsKey d u)(h:eqW x y=some b)(hx:pI O x u)(hy:pI O y u'):Instr.sameNow d u u'=some b:=by
 unfold eqW at h;split at h
 ·rename_i a
  split at h
  ·rename_i c
   unfold eqC at h;split at h
   ·rename_i k n
    split at h
    ·rename_i k' m
     obtain⟨h1,h9⟩:=aE h;obtain rfl:=b8 h1;obtain⟨rfl,_⟩:=hx;obtain⟨rfl,_⟩:=hy;cases d<;>try exact hk.elim
     simpa [Instr.sameNow]using h9
    ·cases h
   ·rename_i l
    split at h
    ·rename_i m
     obtain⟨rfl,h1⟩:=hx;obtain⟨rfl,h2⟩:=hy;cases d<;>try exact hk.elim
     have:(bJ l==bJ m)=HO l m:=by rw [beq_toListBytes];exact rC h1 h2
     simpa [Instr.sameNow,this]using h
    ·cases h
   ·rename_i p
    split at h
    ·rename_i q
     have hx:u= .bool p:=hx;have hy:u'= .bool q:=hy;subst hx;subst hy;cases d<;>try exact hk.elim
     simpa [Instr.sameNow]using h
    ·cases h
   ·cases h
  ·cases h
 ·rename_i l
  split at h
  ·obtain⟨cs,rfl,_⟩:=hx
   cases d<;>exact hk.elim
  ·cases h
theorem wX{d:TypeDesc}{x:CW}{u:Value}(hk:MapKept.IsKey d u)(hx:pI O x u):∀{es:List (CW × CW)} {en:List MapEntry} {i:Nat} {r:Option (Nat × CW)},y6 es x i=some r->tA O es en->
  (r=none/\Instr.findNow d u en i=some none)\/∃j c val bF,r=some (i+j,c)/\Instr.findNow d u en i=some (some (i+j,val))/\en[j]? =some bF/\bF.val=val/\pI O c val/\j<es.length
 |[],[],i,r,h,_=>by cases h;exact .inl ⟨rfl,rfl⟩
 |p::es,e'::en,i,r,h,hm=>by
  obtain⟨b,h1,h⟩:=aw h;have h2:=NO hk h1 hx hm.1.1;cases b with
  |true=>
   simp only at h;cases h;exact .inr ⟨0,_,_,_,rfl,by simp [Instr.findNow,h2],rfl,rfl,hm.1.2,by simp⟩
  |false=>
   simp only at h;rcases wX hk hx h hm.2 with ⟨g1,g2⟩|⟨j,c,val,bF,g1,g2,g3,g4,g5,g6⟩
   ·exact .inl ⟨g1,by simp [Instr.findNow,h2,g2]⟩
   ·refine .inr ⟨j+1,c,val,bF,by rw [g1];congr 2;omega,by simp [Instr.findNow,h2,g2];omega,by simpa using g3,g4,g5,by simp;omega⟩
 |[],_::_,_,_,_,hm=>hm.elim
 |_::_,[],_,_,_,hm=>hm.elim
theorem DQ{k:IntKind}{x:CC}{l:List CC}(h:pF k (x::l)=true):∃n,x= .int k n/\pF k l=true:=by
 cases x<;>simp only [pF]at h<;>try (cases h;done)
 split at h
 ·rename_i hk
  have:=b8 hk;subst this;exact⟨_,rfl,h⟩
 ·cases h
theorem Ic(az:aR P E.TY){e:Nat}(h:E.d e≠.other):∃i,P.info? e=some i/\i.size=E.sz e:=by
 obtain⟨i,u,h1,_,h3,_⟩:=(az.at (t:=e) (.inr h)).row;exact⟨i,h1,h3⟩
theorem wY(az:aR P E.TY){e off:Nat}{k:IntKind}(he:E.d e= .int k){cs:Array Value}{v:Value}(hv:cs[off]? =some v):(part e cs off).run P w= .ok v w:=by
 have aH:=az.at (t:=e) (.inr (by show E.d e≠.other;rw [he];simp));have ha:bN (au E.TY e).d=false:=by show bN (E.d e)=false;rw [he];rfl
 simp [part,aH.agg,ha,hv]
theorem Ie(az:aR P E.TY){e:Nat}{k:IntKind}(he:E.d e= .int k):P.underlying e=some (.int k):=by
 obtain⟨d,g1,g2,_⟩:=rowOf az (t:=e) (by show E.d e≠.other;rw [he];simp);rw [show(au E.TY e).d= .int k from he]at g2;cases d<;>first|exact g2.elim|(have g2:k=_:=g2;subst g2;exact g1)
theorem NP(az:aR P E.TY){e:Nat}{k:IntKind}(he:E.d e= .int k)(d:Nat)(xs ys:Array Value):∀{l m:List CC} {j:Nat} {b:Bool},cJ O l (xs.toList.drop j)->cJ O m (ys.toList.drop j)->pF k l=true->WG l m=some b->
  (Op.eqItems (d+1) e 1 xs ys (List.range' j l.length)).run P w= .ok b w
 |[],m,j,b,_,_,_,h=>by
  cases m with
  |nil=>cases h;simp [Op.eqItems]
  |cons=>cases h
 |x::l,m,j,b,h1,h2,h3,h=>by
  cases m with
  |nil=>cases h
  |cons y m=>
   obtain⟨r,h4,h5⟩:=aw h;obtain⟨n,rfl,h6⟩:=DQ h3
   have gx:∃v,xs[j]? =some v/\jU O (.int k n) v/\cJ O l (xs.toList.drop (j+1)):=by
    cases hd:xs.toList.drop j with
    |nil=>rw [hd]at h1;exact h1.elim
    |cons v r=>
     rw [hd]at h1;refine⟨v,by have:=ajs (·[0]?) hd;simpa using this,h1.1,?_⟩;have:xs.toList.drop (j+1)=r:=by rw [<-List.drop_drop,hd];rfl
     rw [this];exact h1.2
   have gy:∃v,ys[j]? =some v/\jU O y v/\cJ O m (ys.toList.drop (j+1)):=by
    cases hd:ys.toList.drop j with
    |nil=>rw [hd]at h2;exact h2.elim
    |cons v r=>
     rw [hd]at h2;refine⟨v,by have:=ajs (·[0]?) hd;simpa using this,h2.1,?_⟩;have:ys.toList.drop (j+1)=r:=by rw [<-List.drop_drop,hd];rfl
     rw [this];exact h2.2
   obtain⟨v,a1,⟨a2,_⟩,a3⟩:=gx;obtain⟨u,b1,b2,b3⟩:=gy;subst a2
   have hy:∃n',y= .int k n'/\r=(n==n'):=by
    cases y<;>try (cases h4;done)
    obtain⟨c1,c2⟩:=aE h4;have:=b8 c1;subst this;exact⟨_,rfl,(ajN c2).symm⟩
   obtain⟨n',rfl,rfl⟩:=hy;obtain⟨rfl,_⟩:=b2;have p1:=wY (w:=w) az he a1;have p2:=wY (w:=w) az he b1;have p3:(Op.equalIn (d+1) e (.int k n) (.int k n')).run P w= .ok (n==n') w:=by simp [Op.equalIn,run_underlying (Ie az he)]
   rw [ajY,List.range'_succ];simp only [Op.eqItems,Sem.run_bind,ajV,p1,p2,p3,Result.andThen_ok];cases hr:(n==n')with
   |true=>
    rw [hr]at h5;simp only [Bool.not_true,Bool.false_eq_true,if_false];exact NP az he d xs ys a3 b3 h6 h5
   |false=>
    rw [hr]at h5;obtain⟨_,_,h7⟩:=aw h5;cases h7;simp
theorem sK{t:Nat}{l:List CC}(h:pG E t l=true):∃n e k,E.d t= .arr n e/\l.length=n/\E.sz e=1/\E.d e= .int k/\pF k l=true:=by
 unfold pG at h;split at h
 ·rename_i n e hd
  split at h
  ·rename_i h1
   split at h
   ·rename_i h2
    split at h
    ·rename_i k h3
     exact⟨n,e,k,hd,uP h1,aA.1 h2,h3,h⟩
    ·cases h
   ·cases h
  ·cases h
 ·cases h
theorem hZ(az:aR P E.TY){t n e:Nat}(hd:E.d t= .arr n e):P.underlying t=some (.array n e):=by
 obtain⟨d,g1,g2,_⟩:=rowOf az (t:=t) (by show E.d t≠.other;rw [hd];simp);rw [show(au E.TY t).d= .arr n e from hd]at g2;cases d<;>first|exact g2.elim|(obtain⟨rfl,rfl⟩:=g2;exact g1)
theorem Kf(az:aR P E.TY){t:Nat}{l m:List CC}{xs ys:Array Value}{b:Bool}(hk:pG E t l=true)(h1:cJ O l xs.toList)(h2:cJ O m ys.toList)(h:WG l m=some b):(Op.equal t (.agg xs) (.agg ys)).run P w= .ok b w:=by
 obtain⟨n,e,k,g1,g2,g3,g4,g5⟩:=sK hk;obtain⟨i,i1,i2⟩:=Ic az (e:=e) (by rw [g4];simp);have hc:P.cellsOf e=1:=by simp [Program.cellsOf,i1,i2,g3]
 have b5:∀d,(Op.equalIn (d+2) t (.agg xs) (.agg ys)).run P w= .ok b w:=λd=>by
  rw [run_equalIn_array w (d+1) xs ys (hZ az g1) i1,hc,List.range_eq_range',<-g2];exact NP az g4 d xs ys (by simpa using h1) (by simpa using h2) g5 h
 exact b5 9998
theorem Kg(az:aR P E.TY){t:Nat}{l:List CC}{xs:Array Value}(hk:pG E t l=true)(h1:cJ O l xs.toList)(em:Bool):(Instr.checkKey em 10000 t (.agg xs)).run P w= .ok () w:=by
 obtain⟨n,e,k,g1,g2,g3,g4,g5⟩:=sK hk;obtain⟨i,i1,i2⟩:=Ic az (e:=e) (by rw [g4];simp);have hc:P.cellsOf e=1:=by simp [Program.cellsOf,i1,i2,g3]
 have hlen:=h1.len
 have b5:∀d,(Instr.checkKey em (d+2) t (.agg xs)).run P w= .ok () w:=λd=>by
  rw [show d+2=(d+1)+1 from rfl,Instr.checkKey];simp only [Sem.run_bind,run_underlying (hZ az g1),Result.andThen_ok];simp only [Std.Legacy.Range.forIn_eq_forIn_range',Std.Legacy.Range.size,Nat.sub_zero,Nat.add_one_sub_one,Nat.div_one]
  have each:∀j∈List.range' 0 n,j<xs.toList.length:=λj hj=>by
   have:=List.mem_range'_1.1 hj;omega
  generalize List.range' 0 n=is at each
  induction is with
  |nil=>simp
  |cons j is ih=>
   have hj:=each j (by simp);rw [ajw]at hj;have p1:=wY (w:=w) az g4 (ajE hj)
   have p2:(Instr.checkKey em (d+1) e xs[j]).run P w= .ok () w:=by
    rw [Instr.checkKey];simp [run_underlying (Ie az g4)]
   simp only [List.forIn_cons,Sem.run_bind,run_sizeOf w i1,hc,ajV,Result.andThen_ok,p1,p2,Sem.run_pure];exact ih λy hy=>each y (by simp [hy])
 exact b5 9998
theorem Ig(az:aR P E.TY){t:Nat}{l:List CC}{xs:Array Value}(hk:pG E t l=true)(h1:cJ O l xs.toList):∀{es:List (CW × CW)} {en:List MapEntry} {i:Nat} {r:Option (Nat × CW)},y6 es (.a l) i=some r->tA O es en->
  (r=none/\(Instr.findAsking t (.agg xs) en i).run P w= .ok none w)\/∃j c val bF,r=some (i+j,c)/\(Instr.findAsking t (.agg xs) en i).run P w= .ok (some (i+j,val)) w/\en[j]? =some bF/\bF.val=val/\pI O c val/\j<es.length
 |[],[],i,r,h,_=>by cases h;exact .inl ⟨rfl,by simp [Instr.findAsking]⟩
 |p::es,e'::en,i,r,h,hm=>by
  obtain⟨b,h2,h3⟩:=aw h;obtain⟨⟨m1,m2⟩,m3⟩:=hm
  have hq:∃m ys,e'.key= .agg ys/\cJ O m ys.toList/\WG l m=some b:=by
   cases hp:p.1 with
   |c=>rw [hp]at h2;cases h2
   |a m=>
    rw [hp]at h2 m1;obtain⟨ys,y1,y2⟩:=m1;exact⟨m,ys,y1,y2,h2⟩
  obtain⟨m,ys,y1,y2,y3⟩:=hq;have heq:=Kf (w:=w) az hk h1 y2 y3;cases b with
  |true=>
   simp only at h3;cases h3;exact .inr ⟨0,_,_,_,rfl,by simp [Instr.findAsking,y1,heq,Result.andThen],rfl,rfl,m2,by simp⟩
  |false=>
   simp only at h3;rcases Ig az hk h1 h3 m3 with ⟨g1,g2⟩|⟨j,c,val,bF,g1,g2,g3,g4,g5,g6⟩
   ·exact .inl ⟨g1,by simp [Instr.findAsking,y1,heq,Result.andThen,g2]⟩
   ·refine .inr ⟨j+1,c,val,bF,by rw [g1];congr 2;omega,by simp [Instr.findAsking,y1,heq,Result.andThen,g2];omega,by simpa using g3,g4,g5,by simp;omega⟩
 |[],_::_,_,_,_,hm=>hm.elim
 |_::_,[],_,_,_,hm=>hm.elim
theorem DR(az:aR P E.TY){t:Nat}{x:CW}{u:Value}(hk:y7 E t x=true)(hx:pI O x u){es:List (CW × CW)}{en:List MapEntry}{r:Option (Nat × CW)}(h:y6 es x 0=some r)(hm:tA O es en):
  (r=none/\(Instr.findKey t u en).run P w= .ok none w)\/∃j c val bF,r=some (j,c)/\(Instr.findKey t u en).run P w= .ok (some (j,val)) w/\en[j]? =some bF/\bF.val=val/\pI O c val/\j<es.length:=by
 cases x with
 |c x=>
  obtain⟨d,g1,g2⟩:=Gd az rfl hk hx;rcases wX g2 hx h hm with ⟨g3,g4⟩|⟨j,c,val,bF,g3,g4,g5⟩
  ·exact .inl ⟨g3,run_findKey (w:=w) g1 g4⟩
  ·rw [ajQ]at g3 g4
   exact .inr ⟨j,c,val,bF,g3,run_findKey (w:=w) g1 g4,g5⟩
 |a l=>
  obtain⟨xs,rfl,h1⟩:=hx;have hk:pG E t l=true:=hk;obtain⟨n,e,k,g1,_⟩:=sK hk;have hu:=hZ az g1
  have K2:(Instr.findKey t (.agg xs) en).run P w=(Instr.findAsking t (.agg xs) en).run P w:=by
   cases en with
   |nil=>simp [Instr.findKey,run_underlying hu,Instr.findNow,Instr.findAsking]
   |cons a en=>simp [Instr.findKey,run_underlying hu,Instr.findNow,Instr.sameNow]
  rw [K2];rcases Ig (w:=w) az hk h1 h hm with g|⟨j,c,val,bF,g3,g4,g5⟩
  ·exact .inl g
  ·rw [ajQ]at g3 g4
   exact .inr ⟨j,c,val,bF,g3,g4,g5⟩
theorem sL(az:aR P E.TY){t:Nat}{x:CW}{u:Value}(hk:y7 E t x=true)(hx:pI O x u)(em:Bool):(Instr.checkKey em 10000 t u).run P w= .ok () w:=by
 cases x with
 |c x=>
  obtain⟨d,g1,g2⟩:=Gd az rfl hk hx;exact run_checkKey (P:=P) (w:=w) g1 g2 em 9999
 |a l=>
  obtain⟨xs,rfl,h1⟩:=hx;exact Kg az hk h1 em
theorem NQ(hz:xK P E.TY E.TZ){t:Nat}{z:CW}(h:Nf E t=some z):∃zv,(zeroValue t).run P w= .ok zv w/\pI O z zv:=by
 have key:E.z t≠[]->∃i zv,P.info? t=some i/\i.zero=some zv/\(∀O,cJ O (um E.TZ t) zv.cells.toList)/\DH (bN (au E.TY t).d) zv=true:=hz.row t;unfold Nf at h;split at h
 ·rename_i ha
  obtain⟨_,h⟩:=aE h;split at h
  ·cases h
  ·rename_i a l hl
   cases h;obtain⟨i,zv,h1,h2,h3,h4⟩:=key (by rw [hl];simp);have ha:bN (au E.TY t).d=true:=ha;rw [ha]at h4;cases zv<;>simp [DH]at h4
   rename_i cs;have h3:=h3 O;have n7:um E.TZ t=a::l:=hl;rw [n7]at h3;exact⟨_,by simp [zeroValue,typeInfo,h1,h2],cs,rfl,h3⟩
 ·rename_i ha
  split at h
  ·rename_i x hl
   cases h;obtain⟨i,zv,h1,h2,h3,h4⟩:=key (by rw [hl];simp);have ha:bN (au E.TY t).d=false:=ha;rw [ha]at h4;have h3:=h3 O;have n7:um E.TZ t=[x]:=hl;rw [n7]at h3;refine⟨zv,by simp [zeroValue,typeInfo,h1,h2],?_⟩;have wW:zv.cells= #[zv]:=by cases zv<;>first|rfl|simp [DH]at h4
   rw [wW]at h3;exact h3.1
  ·cases h
theorem RC(az:aR P E.TY)(hz:xK P E.TY E.TZ){t:Nat}{x k:Operand}{ok:Bool}(h:Nr E T t x k ok s=some (v,s'))(ho:oo.op= .lookup t x k ok)(hd:Hd O s.H.get s.nx w)(he:∀x∈oo.op.operands,ef O (cP T x) (e x)):jQ P e oo O s s' w v:=by
 rw [ho]at he;obtain⟨q,h1,h⟩:=aw h;obtain⟨m,h2,h⟩:=aw h;obtain⟨kv,h3,h⟩:=aw h;obtain⟨h4,h⟩:=aE h;obtain⟨z,h5,h⟩:=aw h;obtain⟨es,h6,h⟩:=aw h;obtain⟨r,h7,h⟩:=aw h;have hu:=rD az h1;have cd:(underlying t).run P w= .ok (.map q.1 q.2) w:=by simp [underlying,hu]
 have hm:=cr h2 (he x (by simp [Op.operands]));have kR:=uQ h3 (he k (by simp [Op.operands]));obtain⟨zv,g3,g4⟩:=NQ (P:=P) (w:=w) (O:=O) hz h5
 have hen:∃en:Array MapEntry,tA O es en.toList/\((e x= .map none/\en= #[])\/∃b n,e x= .map (some b)/\w.heap[b]? =some (.map en n)):=by
  cases m<;>simp only [reduceCtorEq]at h6
  ·rename_i j
   obtain⟨b,c,r1,r2⟩:=hm;obtain⟨b',c',o,r3,r4,r5⟩:=hd.obj _ _ (uR h6);rw [r1]at r3;cases r3;obtain⟨en,n,rfl,r6⟩:=r5;exact⟨en,r6,.inr ⟨b,n,r2,r4⟩⟩
  ·cases h6
   exact⟨#[],ag,.inl ⟨hm,rfl⟩⟩
 obtain⟨en,r1,r2⟩:=hen
 have B7:∀res:Option (Nat × Value),(Instr.findKey q.1 (e k) en.toList).run P w= .ok res w->(execOp e oo).run P w= .ok (.value (if ok then .tuple #[(match res with|some (_,v)=>v|none=>zv),.bool res.isSome] else (match res with|some (_,v)=>v|none=>zv))) w:=by
  intro res hf;have KK:=sL (w:=w) az h4 kR en.isEmpty;have K2:=hf;rcases r2 with ⟨e1,rfl⟩|⟨b,n,e1,hb⟩
  ·have aa4:=sL (w:=w) az h4 kR true
   have aa5:(Instr.findKey q.1 (e k) []).run P w= .ok res w:=K2;cases res<;>cases ok<;>simp [execOp,ho,Instr.lookup,cd,e1,aa4,aa5,g3,Result.andThen]
  ·cases res<;>cases ok<;>simp [execOp,ho,Instr.lookup,cd,e1,MapKept.run_getObj_map hb,KK,K2,g3,Result.andThen]
 rcases DR (w:=w) az h4 kR h7 r1 with ⟨rfl,g6⟩|⟨j,c,val,bF,rfl,g6,_,_,g7,_⟩
 ·have aN:=B7 none g6
  cases ok with
  |true=>simp only at h;cases h;exact aG hd aN ⟨_,rfl,g4,rfl,ag⟩
  |false=>simp only at h;cases h;exact aG hd aN (ma g4)
 ·have aN:=B7 _ g6
  cases ok with
  |true=>simp only at h;cases h;exact aG hd aN ⟨_,rfl,g7,rfl,ag⟩
  |false=>simp only at h;cases h;exact aG hd aN (ma g7)
theorem DS{kx vx:CW}:∀{es:List (CW × CW)} {en:List MapEntry} {j:Nat} {bF:MapEntry},tA O es en->j<es.length->pI O kx bF.key->pI O vx bF.val->tA O (lA es j kx vx) (en.set j bF)
 |_::_,_::_,0,_,h,_,h1,h2=>⟨⟨h1,h2⟩,h.2⟩
 |_::_,_::_,j+1,_,h,hj,h1,h2=>⟨h.1,DS (j:=j) h.2 (by simpa using hj) h1 h2⟩
 |[],[],_,_,_,hj,_,_=>by simp at hj
 |[],_::_,_,_,h,_,_,_=>h.elim
 |_::_,[],_,_,h,_,_,_=>h.elim
theorem tA.Tz {kx vx:CW}{bF:MapEntry}:∀{es:List (CW × CW)} {en:List MapEntry},tA O es en->pI O kx bF.key->pI O vx bF.val->tA O (es++[(kx,vx)]) (en++[bF])
 |[],[],_,h1,h2=>⟨⟨h1,h2⟩,ag⟩
 |_::_,_::_,h,h1,h2=>⟨h.1,tA.Tz h.2 h1 h2⟩
 |[],_::_,h,_,_=>h.elim
 |_::_,[],h,_,_=>h.elim
theorem NR{d:TypeDesc}{u u':Value}(hk:MapKept.IsKey d u)(h:Instr.sameNow d u u'=some true):u'=u:=by
 cases d<;>cases u<;>try exact hk.elim
 all_goals cases u'<;>simp [Instr.sameNow]at h
 ·rw [h]
 ·obtain⟨rfl,rfl⟩:=h;rfl
 ·rw [beq_toListBytes,beq_iff_eq,ByteArray.toList_eq,ByteArray.toList_eq]at h
  rw [WideShapes.bytes_inj h]
theorem DT{d:TypeDesc}{u:Value}(hk:MapKept.IsKey d u):∀{en:List MapEntry} {i j:Nat} {val:Value},Instr.findNow d u en i=some (some (i+j,val))->∃bF,en[j]? =some bF/\bF.key=u
 |[],i,j,val,h=>by simp [Instr.findNow]at h
 |e'::en,i,j,val,h=>by
  simp only [Instr.findNow]at h;split at h
  ·rename_i h1
   simp only [Option.some.injEq,Prod.mk.injEq]at h;have:j=0:=aa;subst this;exact⟨e',rfl,NR hk h1⟩
  ·cases j with
   |zero=>
    exfalso
    have aux:∀{en:List MapEntry} {i k:Nat} {val:Value},Instr.findNow d u en i=some (some (k,val))->i<=k:=by
     intro en
     induction en with
     |nil=>intro i k val h;simp [Instr.findNow]at h
     |cons a en ih=>
      intro i k val h;simp only [Instr.findNow]at h;split at h
      ·simp only [Option.some.injEq,Prod.mk.injEq]at h;omega
      ·have:=ih h;omega
      ·cases h
    have:=aux h;omega
   |succ j=>
    rw [show i+(j+1)=(i+1)+j by omega]at h;obtain⟨bF,h2,h3⟩:=DT hk h;exact⟨bF,by simpa using h2,h3⟩
  ·cases h
theorem NS(az:aR P E.TY){t:Nat}{x k y:Operand}(h:Ns E T t x k y s=some (v,s'))(ho:oo.op= .mapUpdate t x k y\/oo.op= .insert t x k y)(hd:Hd O s.H.get s.nx w)(he:∀x∈oo.op.operands,ef O (cP T x) (e x)):jQ P e oo O s s' w v:=by
 have fg:ef O (cP T x) (e x)/\ef O (cP T k) (e k)/\ef O (cP T y) (e y):=by
  rcases ho with ho|ho<;>(rw [ho]at he;exact⟨he x (by simp [Op.operands]),he k (by simp [Op.operands]),he y (by simp [Op.operands])⟩)
 have bT:∀w',(Instr.mapUpdate t (e x) (e k) (e y)).run P w= .ok () w'->(execOp e oo).run P w= .ok .skip w':=λw' hr=>by
  rcases ho with ho|ho<;>simp [execOp,ho,hr]
 obtain⟨q,h1,h⟩:=aw h;obtain⟨m,h2,h⟩:=aw h;obtain⟨kv,h3,h⟩:=aw h;obtain⟨vv,h4,h⟩:=aw h;obtain⟨h5,h⟩:=aE h;have hu:=rD az h1;have cd:(underlying t).run P w= .ok (.map q.1 q.2) w:=by simp [underlying,hu]
 have hm:=cr h2 fg.1;have kR:=uQ h3 fg.2.1;have O3:=uQ h4 fg.2.2;have ZA:∃j,m= .mp j:=by cases m<;>first|exact⟨_,rfl⟩|cases h
 obtain⟨j,rfl⟩:=ZA;obtain⟨es,h6,h⟩:=aw h;obtain⟨r,h7,h⟩:=aw h;obtain⟨b,c,r1,r2⟩:=hm;obtain⟨b',c',o,r3,r4,r5⟩:=hd.obj _ _ (uR h6);rw [r1]at r3;cases r3;obtain⟨en,n,rfl,r6⟩:=r5;have KK:=sL (w:=w) az h5 kR false
 have fin:∀{es':List (CW × CW)} {en':Array MapEntry} {n':Nat},(Instr.mapUpdate t (e x) (e k) (e y)).run P w= .ok () { w with heap:=w.heap.setIfInBounds b (.map en' n') }->tA O es' en'.toList->jQ P e oo O s (s.put j (.map es')) w (.t []):=λhr bg=>
  .inr (.inl ⟨_,bT _ hr,O,bM.write hd (uR h6) r1 rfl ⟨⟨rfl,rfl⟩,rfl,ajl _⟩ ⟨_,_,rfl,bg⟩,lE O⟩)
 rcases DR (w:=w) az h5 kR h7 r6 with ⟨rfl,g6⟩|⟨i,cc,val,bF,rfl,g6,g7,g8,g9,g10⟩
 ·have K2:=g6
  simp only at h;cases h;refine fin (en':=en.push { key:=e k,val:=e y,born:=n }) (n':=n+1) ?_ (by rw [Array.toList_push];exact tA.Tz r6 kR O3);simp [Instr.mapUpdate,cd,r2,MapKept.run_getObj_map r4,KK,K2,MapKept.run_setObj_map _ r4,Result.andThen]
 ·have K2:=g6
  simp only at h;obtain⟨ZP,hh⟩:=aE h;cases hh;obtain⟨d,g1,g2⟩:=Gd az ZP h5 kR;rcases wX g2 kR h7 r6 with ⟨z1,_⟩|⟨i',cc',val',ent'',z1,g6',_⟩
  ·cases z1
  obtain⟨rfl,rfl⟩:i=i'/\cc=cc':=by simpa using z1
  have aa6:=run_findKey (P:=P) (w:=w) g1 g6';rw [ajQ]at aa6 g6';obtain⟨ent',e1,e2⟩:=DT g2 (i:=0) (j:=i) (by rw [ajQ];exact g6');rw [g7]at e1;cases e1;rw [ajt]at g7;have cX:=run_keyThatStays (P:=P) (w:=w) g2;refine fin (en':=en.modify i λe'=>{ e' with key:=e k,val:=e y }) (n':=n) ?_ ?_
  ·simp [Instr.mapUpdate,cd,r2,MapKept.run_getObj_map r4,KK,K2,g7,e2,cX,MapKept.run_setObj_map _ r4,Result.andThen]
  ·have:(en.modify i λe'=>{ e' with key:=e k,val:=e y }).toList=en.toList.set i { bF with key:=e k,val:=e y }:=by
    apply List.ext_getElem?;intro q;rw [ajt,Array.getElem?_modify,List.getElem?_set]
    by_cases hq:i=q
    ·subst hq
     have aX:i<en.toList.length:=by rw [ajw];exact(ajL.1 g7).1
     simp [g7];have:=(ajL.1 g7).1
     simpa using this
    ·simp [hq]
   rw [this];exact DS r6 g10 kR O3
theorem DU{n:Nat}(h:(n:Int)<=9223372036854775807):eO .i64 (n:Int):=by simp [eO,IntKind.min,IntKind.max,IntKind.signed,IntKind.bits];omega
theorem NT{n:Nat}{s1:HS}(h:Tv s1 n=some (v,s')):(n:Int)<=9223372036854775807/\v= .c (.int .i64 n)/\s1=s':=by
 obtain⟨h1,h2⟩:=aE h;cases h2;have:=ah h1;exact⟨aa,rfl,rfl⟩
theorem Vq(az:aR P E.TY){t:Nat}{x:Operand}{y:CC}{c:Call}(h:Nt E t y s=some (v,s'))(ho:oo.op= .call c)(hc:c.callee= .builtin .len)(ha:c.args= #[x])(ht:c.argTypes[0]? =some t)(hd:Hd O s.H.get s.nx w)(hy:jU O y (e x)):jQ P e oo O s s' w v:=by
 have fin:∀{n:Nat} {s1:HS},s1=s->Tv s1 n=some (v,s')->(Builtin.len_ c.argTypes oo.type #[e x]).run P w= .ok (goInt n) w->jQ P e oo O s s' w v:=λ{n s1} hs h hr=>by
  obtain⟨h1,rfl,rfl⟩:=NT h;subst hs;exact aG hd (u:=.int .i64 n) (by simp [execOp,ho,resolve,hc,ha,invoke,builtin,hr,goInt]) ⟨rfl,DU h1⟩
 unfold Nt at h;split at h
 ·rename_i el gg
  have hu:=bY az (show(au E.TY t).d= .slice el from gg);have cd:(underlying t).run P w= .ok (.slice el) w:=by simp [underlying,hu]
  split at h
  ·obtain⟨b,c',cap,_,_,g3,_⟩:=hy
   exact fin rfl h (by simp [Builtin.len_,ht,cd,g3])
  ·have hy:e x= .slice none 0 0:=hy
   exact fin rfl h (by simp [Builtin.len_,ht,cd,hy])
  ·cases h
 ·rename_i gg
  have gg:(au E.TY t).d= .str:=gg;obtain⟨u,g1,g2,cd⟩:=rowOf az (t:=t) (by rw [gg];simp);rw [gg]at g2;cases u<;>try exact g2.elim
  replace cd:=cd w;split at h
  ·rename_i l
   obtain⟨g3,_⟩:=hy;refine fin rfl h ?_;have:(bJ l).size=iB l 0:=by rw [Bt];show((l.map UInt8.ofNat).toArray).size=_;simp
   simp [Builtin.len_,ht,cd,g3,this]
  ·cases h
 ·rename_i kt et gg
  have hu:P.underlying t=some (.map kt et):=by
   have:=rD (E:=E) az (t:=t) (q:=(kt,et)) (by unfold tv;rw [gg]);exact this
  have cd:(underlying t).run P w= .ok (.map kt et) w:=by simp [underlying,hu]
  split at h
  ·have hy:e x= .map none:=hy
   exact fin rfl h (by simp [Builtin.len_,ht,cd,hy])
  ·obtain⟨es,h1,h⟩:=aw h
   obtain⟨b,c',r1,r2⟩:=hy;obtain⟨b',c'',o,r3,r4,r5⟩:=hd.obj _ _ (uR h1);rw [r1]at r3;cases r3;obtain⟨en,n,rfl,r6⟩:=r5;refine fin rfl h ?_;have:en.size=J4 es 0:=by rw [Ib,<-ajw,r6.len];rfl
   simp [Builtin.len_,ht,cd,r2,MapKept.run_getObj_map r4,this,Result.andThen]
  ·cases h
 ·cases h
theorem NU{sz:Nat}{y:CC}{q:Nat × List CC}{u:Value}(h:Rm s sz y=some q)(hd:Hd O s.H.get s.nx w)(hy:jU O y u):
  (y= .ar/\q=(0,[])/\u= .slice none 0 0)\/∃a cap mv,u= .slice (some a) q.1 cap/\cJ O q.2 mv/\mv.length=q.1*sz/\∀j x,mv[j]? =some x->w.cell? (a.add j)=some x:=by
 unfold Rm at h;split at h
 ·cases h;exact .inl ⟨rfl,rfl,hy⟩
 ·rename_i k off len cap
  obtain⟨l,h1,h⟩:=aw h;cases h;obtain⟨p,h2,h3⟩:=aw h1;obtain⟨b,c,cp,r1,r2,r3,_⟩:=hy;obtain⟨cs,ty,r4,_,_,r5⟩:=dP hd (bB h2) r1;obtain⟨mv,r6,r7,r8⟩:=jG r5 r4 h3;exact .inr ⟨⟨b,off,none⟩,cp,mv,r3,r6,r7,λj x hj=>by rw [aU];exact r8 j x hj⟩
 ·cases h
theorem sM{l:List CC}{mv:List Value}(h:cJ O l mv):∀v∈mv,v.oneCell'=true:=λv hv=>lW (h.cell v hv)
theorem sN(t ty el:TypeId)(i:TypeInfo)(ht:P.underlying t=some (.slice el))(hi:P.info? el=some i)
  (g o sLen sCap tag:Nat) (cur:Array Value) (hg:w.heap[g]? =some (.cells cur tag (0,0)))
  (a:Addr) (m c:Nat) (news:List Value) (hl:news.length=m*i.size) (wZ:∀j u,news[j]? =some u->w.cell? (a.add j)=some u) (h1:∀u∈news,u.oneCell'=true)
  (ku:sLen+m<=sCap) (tZ:o+sLen*i.size+news.length<=cur.size):
  (Builtin.append_ #[t,t] ty #[.slice (some ⟨g,o,none⟩) sLen sCap,.slice (some a) m c]).run P w=
   .ok (.slice (some ⟨g,o,none⟩) (sLen+m) sCap) (w.setRow g (cur.toList.take (o+sLen*i.size)++news++cur.toList.drop (o+sLen*i.size+news.length)).toArray):=by
 have hf:=run_firstCells_some (P:=P) w i.size m a m c news hl wZ;have cX:=run_storeCells_at P g (o+sLen*i.size) tag news 0 cur w hg (by simpa using tZ) h1;simp only [akb]at cX;have cd:(underlying t).run P w= .ok (.slice el) w:=by simp [underlying,ht]
 have NV:(⟨g,o,none⟩:Addr).add (sLen*i.size)=⟨g,o+sLen*i.size,none⟩:=by rw [aU]
 simp [Builtin.append_,cd,sizeOf,typeInfo,hi,Builtin.lenOf,ku,hf,NV,cX]
theorem DW{l:List CC}{vs:List Value}{n cap:Nat}{zc:Array Value}{z:Nat}(hl:cJ O l vs)(hlen:vs.length=n*z)(hz:zc.size=z)(hle:n<=cap)(XT:1<=z)(ty:TypeId):∀O',Ext O O'->B5 O' cap (.cells l (some (z,ty))) (.cells (vs.toArray++Builtin.zeroCells zc (cap - n)) ty (0,0)):=λO' hx=>by
 have h1:=hl.len
 have hs:(vs.toArray++Builtin.zeroCells zc (cap - n)).size=cap*z:=by
  simp only [Array.size_append,List.size_toArray,Builtin.zeroCells,Array.size_map,Array.size_range,hlen,hz];rw [<-ake];congr 1;omega
 refine⟨_,ty,rfl,by rw [hs,<-h1,hlen];exact ajO _ hle,⟨rfl,λh=>absurd h (Nat.ne_of_gt XT),λ_=>hs⟩,?_⟩
 have:((vs.toArray++Builtin.zeroCells zc (cap - n)).toList.take l.length)=vs:=by
  rw [Array.toList_append,List.take_append_of_le_length (by simp;omega),<-h1];simp
 rw [this];exact hl.ext hx
theorem pK(az:aR P E.TY){t t2 el:Nat}{x y:Operand}{a:CC}{c:Call}{q:Nat × List CC}{i:TypeInfo}{z:Value}{mv:List Value}(Ff:nB E t=some el)(h:ot E el a q s=some (v,s'))(ho:oo.op= .call c)(hc:c.callee= .builtin .append)(ha:c.args= #[x,y])(ht:c.argTypes= #[t,t2])(hd:Hd O s.H.get s.nx w)(hx:jU O a (e x))
  (h0:kQ (au E.TY el).bytes=true) (cA:1<=E.sz el) (_hi:P.info? el=some i) (_hz1:i.zero=some z) (bu:i.size=E.sz el) (tY:i.bytes=(au E.TY el).bytes) (xX:z.cells.size=E.sz el)
  (RD:0<q.1->cJ O q.2 mv/\mv.length=q.1*i.size)
  (S0:q.1=0->∀base n cap,n<=cap->(Builtin.append_ #[t,t2] oo.type #[.slice base n cap,e y]).run P w= .ok (.slice base n cap) w)
  (SN:0<q.1->(q.1:Int)<=9223372036854775807->q.1*i.bytes<=281474976710656->(Builtin.append_ #[t,t2] oo.type #[.slice none 0 0,e y]).run P w= .ok (.slice (some ⟨w.heap.size,0,none⟩) q.1 (grownCap w q.1 0 el)) (w.drew.alloc (.cells (mv.toArray++Builtin.zeroCells z.cells (grownCap w q.1 0 el - q.1)) el)))
  (SR:0<q.1->∀(g o sLen sCap tag:Nat) (cur:Array Value),w.heap[g]? =some (.cells cur tag (0,0))->sLen+q.1<=sCap->o+sLen*i.size+mv.length<=cur.size->(Builtin.append_ #[t,t2] oo.type #[.slice (some ⟨g,o,none⟩) sLen sCap,e y]).run P w= .ok (.slice (some ⟨g,o,none⟩) (sLen+q.1) sCap) (w.setRow g (cur.toList.take (o+sLen*i.size)++mv++cur.toList.drop (o+sLen*i.size+mv.length)).toArray))
  (SG:0<q.1->∀(b:Addr) (sLen sCap:Nat) (olds:List Value),olds.length=sLen*i.size->(∀j u,olds[j]? =some u->w.cell? (b.add j)=some u)->sCap<sLen+q.1->((sLen+q.1:Nat):Int)<=9223372036854775807->Builtin.nextslicecap (sLen+q.1) sCap*i.bytes<=281474976710656->
   (Builtin.append_ #[t,t2] oo.type #[.slice (some b) sLen sCap,e y]).run P w= .ok (.slice (some ⟨w.heap.size,0,none⟩) (sLen+q.1) (grownCap w (sLen+q.1) sCap el)) (w.drew.alloc (.cells (olds.toArray++mv.toArray++Builtin.zeroCells z.cells (grownCap w (sLen+q.1) sCap el - (sLen+q.1))) el))):jQ P e oo O s s' w v:=by
 have bT:∀u w',(Builtin.append_ #[t,t2] oo.type #[e x,e y]).run P w= .ok u w'->(execOp e oo).run P w= .ok (.value u) w':=λu w' hr=>by
  simp [execOp,ho,resolve,hc,ha,ht,invoke,builtin,hr]
 have K3:=ah h0
 have Ge:∀{base:Option Addr} {n cap:Nat},e x= .slice base n cap->n<=cap->q.1=0->(Builtin.append_ #[t,t2] oo.type #[e x,e y]).run P w= .ok (e x) w:=λ{base n cap} h1 h2 h3=>by
  rw [h1];exact S0 h3 _ _ _ h2
 have fits:∀{need eI:Nat},eI<need->kQ need=true->Builtin.nextslicecap need eI*i.bytes<=281474976710656:=λ{need eI} h4 h5=>by
  have h6:=ah h5;refine growslice_fits h4 ?_;have:need*i.bytes<=1000000*1000000:=akf h6 (by rw [tY];exact K3);omega
 have grow:∀{n eI:Nat} {l:List CC} {vs:List Value},Bb s (E.sz el) el n l=some (v,s')->cJ O l vs->vs.length=n*i.size->
   (Builtin.append_ #[t,t2] oo.type #[e x,e y]).run P w= .ok (.slice (some ⟨w.heap.size,0,none⟩) n (grownCap w n eI el)) (w.drew.alloc (.cells (vs.toArray++Builtin.zeroCells z.cells (grownCap w n eI el - n)) el))->jQ P e oo O s s' w v:=by
  intro n eI l vs h4 h5 h6 h7;obtain⟨_,h8⟩:=aE h4;cases h8;obtain⟨O',g1,g2⟩:=bM.make (o:=.cells l (some (E.sz el,el))) (w':=w.drew.alloc (.cells (vs.toArray++Builtin.zeroCells z.cells (grownCap w n eI el - n)) el)) (grownCap w n eI el) hd rfl ⟨⟨rfl,rfl⟩,rfl,akg _⟩ (DW h5 (by rw [h6,bu]) xX (grownCap_ge _ _ _ _) cA el);exact .inl ⟨_,_,bT _ _ h7,O',g1,_,_,_,g2,grownCap_ge _ _ _ _,rfl,rfl⟩
 cases a with
 |ar=>
  have hx:e x= .slice none 0 0:=hx;simp only [ot]at h;cases hq:q.1 with
  |zero=>
   rw [hq]at h;cases h;exact aG hd (bT _ _ (by rw [Ge hx (ajl _) hq,hx])) rfl
  |succ n=>
   rw [hq]at h;obtain⟨h5,h6⟩:=RD aa;rw [hq]at h6;obtain⟨h8,_⟩:=aE h;refine grow (eI:=0) h h5 h6 ?_;rw [hx];have NW:=ah h8;have:(n+1)*i.bytes<=1000000*1000000:=akf NW (by rw [tY];exact K3);have aN:=SN aa aa (by rw [hq];omega);rw [hq]at aN;exact aN
 |sl k off len cap=>
  obtain⟨b1,c1,cp,r1,r2,r3,r4⟩:=hx;cases cap with
  |n c0=>
   have r4:cp=c0:=r4;subst r4;simp only [ot]at h;cases hle:Nat.ble (len+q.1) cp with
   |true=>
    rw [hle]at h;have hle:=ah hle;cases hq:q.1 with
    |zero=>
     rw [hq]at h;cases h;refine aG hd (bT _ _ (Ge r3 r2 hq)) ?_;exact⟨b1,c1,cp,r1,r2,r3,rfl⟩
    |succ n=>
     rw [hq]at h hle;obtain⟨p,h4,h⟩:=aw h;obtain⟨l',h5,h⟩:=aw h;cases h;obtain⟨g2,g3⟩:=RD aa;rw [hq]at g3;obtain⟨cs,ty,g5,g6,g7,g8⟩:=dP hd (bB h4) r1;obtain⟨g9,g10⟩:=kr g6 g7 g8 g2 h5;have aN:=SR aa b1 off len cp ty cs g5 (by rw [hq];exact hle) (by rw [bu];exact ajW g10 g6);rw [hq]at aN;rw [bu]at aN;refine .inl ⟨_,_,bT _ _ (by rw [r3];exact aN),O,bM.write hd (bB h4) r1 (uT g5) ⟨⟨rfl,rfl⟩,rfl,ajl _⟩ g9,b1,c1,cp,r1,hle,rfl,rfl⟩
   |false=>
    rw [hle]at h;have aX:cp<len+q.1:=Nat.lt_of_not_le λh'=>by rw [<-Nat.ble_eq]at h';rw [h']at hle;cases hle
    simp only at h;obtain⟨h4,h⟩:=aE h;obtain⟨eI,h5,h⟩:=aw h;obtain⟨p,h6,h7⟩:=aw h5;obtain⟨g2,g3⟩:=RD aa;obtain⟨cs,ty,g5,g6,g7,g8⟩:=dP hd (bB h6) r1;obtain⟨ov,g9,g10,g11⟩:=jG g8 g5 h7;obtain⟨h8,_⟩:=aE h;have NW:=ah h8;refine grow (eI:=cp) h (g9.app g2) (by rw [ajp,g10,g3,ake,bu]) ?_;rw [r3];have aN:=SG aa ⟨b1,off,none⟩ len cp ov (by rw [g10,bu]) (λj u hj=>by rw [aU];exact g11 j u hj) aX aa (fits aX h8);rw [aN]
    congr 4
    simp
  |g=>
   have r4:cp=c1:=r4;subst r4;simp only [ot]at h;obtain⟨h4,h⟩:=aE h;have h4:=aA.1 h4;subst h4;cases hq:q.1 with
   |zero=>
    rw [hq]at h;cases h;refine aG hd (bT _ _ (Ge r3 r2 hq)) ?_;exact⟨b1,cp,cp,r1,r2,r3,rfl⟩
   |succ n=>
    rw [hq]at h;obtain⟨h5,h⟩:=aE h;obtain⟨p,h6,h⟩:=aw h;obtain⟨l,g⟩:=p;cases g with
    |none=>cases h
    |some g=>
     obtain⟨gz,gt⟩:=g;obtain⟨h7,hA⟩:=aE h;obtain⟨h7b,hB⟩:=aE hA;obtain⟨eI,h8,hC⟩:=aw hB;clear h hA hB;have h7:gz=E.sz el:=aA.1 h7;have h7b:gt=el:=aA.1 h7b;subst h7b;subst h7;obtain⟨g2,g3⟩:=RD aa;rw [hq]at g3;obtain⟨cs,ty,g5,g6,g7,g8⟩:=dP hd (bB h6) r1;have g7b:ty=gt:=g7.1;have g7:cs.size=cp*E.sz gt:=g7.2.2 (Nat.ne_of_gt cA);subst g7b;have g6:l.length<=cs.size:=g6;have g8:cJ O l (cs.toList.take l.length):=g8;have h8:nA l (len*E.sz ty)=some eI:=h8;obtain⟨g9,g10⟩:=g8.take _ h8;have SO:(cs.toList.take l.length).length=l.length:=by have e1:cs.toList.length=cs.size:=ajw;rw [ajA];omega
     rw [SO]at g10
     have ig:cJ O eI (cs.toList.take (len*E.sz ty)):=by
      rw [List.take_take,Nat.min_eq_left g10]at g9;exact g9
     have RE:(cs.toList.take (len*E.sz ty)).length=len*E.sz ty:=by have e1:cs.toList.length=cs.size:=ajw;rw [ajA];omega
     have NW:=ah h5
     by_cases ku:len+(n+1)<=cp
     ·
      have tZ:0+len*i.size+mv.length<=cs.size:=by rw [g3,bu,ajQ,<-ake,g7];exact ajO _ ku
      have aN:=SR aa b1 0 len cp ty cs g5 (by rw [hq];exact ku) tZ;rw [hq]at aN;rw [bu,ajQ]at aN;cases hC
      have rS:∀O',Ext O O'->B5 O' cp (.cells (eI++q.2) (some (E.sz ty,ty))) (.cells (cs.toList.take (len*E.sz ty)++mv++cs.toList.drop (len*E.sz ty+mv.length)).toArray ty (0,0)):=λO' hx=>by
       have hA:=(ig.app g2).ext hx;have hL:=hA.len
       have hS:(cs.toList.take (len*E.sz ty)++mv++cs.toList.drop (len*E.sz ty+mv.length)).toArray.size=cs.size:=by
        have e1:cs.toList.length=cs.size:=ajw;rw [bu,ajQ]at tZ;simp only [List.size_toArray,ajp,aks,RE];omega
       rw [bu,ajQ]at tZ;rw [ajp,RE]at hL;refine⟨_,ty,rfl,by rw [hS];omega,⟨rfl,λh=>absurd h (Nat.ne_of_gt cA),λ_=>by rw [hS];exact g7⟩,?_⟩
       have:((cs.toList.take (len*E.sz ty)++mv++cs.toList.drop (len*E.sz ty+mv.length)).toArray.toList.take (eI++q.2).length)=cs.toList.take (len*E.sz ty)++mv:=by
        show(cs.toList.take (len*E.sz ty)++mv++cs.toList.drop (len*E.sz ty+mv.length)).take (eI++q.2).length=_;rw [List.take_append_of_le_length (by have e:=hL;simp only [ajp]at e ⊢;omega),aj4 (by have e:=hL;simp only [ajp]at e ⊢;omega)]
       rw [this];exact hA
      obtain⟨O',k1,k2⟩:=bM.Ty (w':=w.setRow b1 (cs.toList.take (len*E.sz ty)++mv++cs.toList.drop (len*E.sz ty+mv.length)).toArray) hd (bB h6) r1 rfl (.inl rfl) (λi hi bn=>setRow_other w b1 i _ bn) (setRow_heap w b1 cs _ ty (0,0) g5) (by rw [setRow_size];exact ajl _) ⟨⟨rfl,rfl⟩,rfl,ajl _⟩ rS;exact .inl ⟨_,_,bT _ _ (by rw [r3];exact aN),O',k1,b1,cp,cp,k2,ku,rfl,rfl⟩
     ·
      have aX:cp<len+(n+1):=aa
      have aN:=SG aa ⟨b1,0,none⟩ len cp (cs.toList.take (len*E.sz ty)) (by rw [RE,bu]) (λj u hj=>by
       rw [aU,cell_of_heap g5,ajQ,<-ajt];rw [akm]at hj;split at hj
       ·exact hj
       ·cases hj) (by rw [hq];exact aX) (by rw [hq];have NW:len+(n+1)<=1000000:=NW;omega) (by rw [hq];exact fits aX h5)
      rw [hq]at aN;cases hC;have rS:=DW (z:=E.sz ty) (ig.app g2) (n:=len+(n+1)) (cap:=grownCap w (len+(n+1)) cp ty) (zc:=z.cells) (by rw [ajp,RE,g3,bu,<-ake]) xX (grownCap_ge _ _ _ _) cA ty;have fL:(cs.toList.take (len*E.sz ty)).toArray++mv.toArray=(cs.toList.take (len*E.sz ty)++mv).toArray:=by simp
      rw [fL]at aN;obtain⟨O',k1,k2⟩:=bM.Ty (w':=w.drew.alloc (.cells ((cs.toList.take (len*E.sz ty)++mv).toArray++Builtin.zeroCells z.cells (grownCap w (len+(n+1)) cp ty - (len+(n+1)))) ty)) (b':=w.heap.size) hd (bB h6) r1 rfl (.inr (ajl _)) (λi hi bn=>by show(w.heap.push _)[i]? =_;rw [Array.getElem?_push_lt hi,ajE hi]) (by show(w.heap.push _)[w.heap.size]? =_;simp) (by show _<=(w.heap.push _).size;simp) ⟨⟨rfl,rfl⟩,rfl,akg _⟩ rS;exact .inl ⟨_,_,bT _ _ (by rw [r3];exact aN),O',k1,_,_,_,k2,grownCap_ge _ _ _ _,rfl,rfl⟩
  |u=>cases h
 |_=>cases h
theorem Kh(az:aR P E.TY)(hz:xK P E.TY E.TZ){t el:Nat}{x y:Operand}{a b:CC}{c:Call}(Ff:nB E t=some el)(h:Bc E el a b s=some (v,s'))(ho:oo.op= .call c)(hc:c.callee= .builtin .append)(ha:c.args= #[x,y])(ht:c.argTypes= #[t,t])(hd:Hd O s.H.get s.nx w)(hx:jU O a (e x))(hy:jU O b (e y)):jQ P e oo O s s' w v:=by
 obtain⟨h0,h⟩:=aE h;obtain⟨h1,h⟩:=aE h;obtain⟨h3,h⟩:=aE h;obtain⟨q,h2,h⟩:=aw h;have hu:=bY az (jI Ff);obtain⟨i,z,hi,gE,bu,tY,xX,_⟩:=nF hz az h3 h1;rcases NU h2 hd hy with ⟨_,h4,h5⟩|⟨ad,cc,mv,h4,h5,h6,h7⟩
 ·have hq:q.1=0:=by rw [h4]
  exact pK (mv:=[]) az Ff h ho hc ha ht hd hx h0 (ah h1) hi gE bu tY xX (λh=>by omega) (λ_ base n cap hn=>by rw [h5];exact bR hu hi base none n cap 0 hn w) (λh=>by omega) (λh=>by omega) (λh=>by omega)
 ·exact pK (mv:=mv) az Ff h ho hc ha ht hd hx h0 (ah h1) hi gE bu tY xX (λ_=>⟨h5,by rw [bu];exact h6⟩)
   (λhq base n cap hn=>by rw [h4,hq];exact bR hu hi base (some ad) n cap cc hn w)
   (λh0 g1 g2=>by rw [h4];exact run_append_nil (P:=P) w t oo.type el i z hu hi gE ad q.1 cc mv (by rw [bu];exact h6) h7 h0 g1 g2)
   (λ_ g o sLen sCap tag cur g1 g2 g3=>by rw [h4];exact sN (P:=P) (w:=w) t oo.type el i hu hi g o sLen sCap tag cur g1 ad q.1 cc mv (by rw [bu];exact h6) h7 (sM h5) g2 g3)
   (λ_ b sLen sCap olds g1 g2 g3 g4 g5=>by rw [h4];exact run_append_grow (P:=P) w t oo.type el i z hu hi gE b sLen sCap olds g1 g2 ad q.1 cc mv (by rw [bu];exact h6) h7 g3 g4 g5)
theorem Ih(a b:Nat):uk a b=min a b:=by
 unfold uk;cases h:Nat.ble a b with
 |true=>simp only;rw [Nat.ble_eq]at h;omega
 |false=>
  have:¬a<=b:=λh'=>by rw [<-Nat.ble_eq]at h';rw [h']at h;cases h
  simp only;omega
theorem RF(az:aR P E.TY){t:Nat}{x y:Operand}{sv:Po}{b:CC}{c:Call}(h:Nu E t sv b s=some (v,s'))(ho:oo.op= .call c)(hc:c.callee= .builtin .copy)(ha:c.args= #[x,y])(ht:c.argTypes= #[t,t])(hd:Hd O s.H.get s.nx w)(hx:jU O (.sl sv.k sv.off sv.len sv.cap) (e x))(hy:jU O b (e y)):jQ P e oo O s s' w v:=by
 obtain⟨el,h0,h⟩:=aw h;obtain⟨h1,h⟩:=aE h;obtain⟨q,h2,h⟩:=aw h;obtain⟨p,h3,h⟩:=aw h;obtain⟨m,h4,h⟩:=aw h;obtain⟨l,h5,h⟩:=aw h;obtain⟨h6,rfl,rfl⟩:=NT h;have hu:=bY az (jI h0);have cd:∀w,(underlying t).run P w= .ok (.slice el) w:=λw=>by simp [underlying,hu]
 have tT:∀w,(sizeOf el).run P w= .ok (E.sz el) w:=λw=>(az.at (t:=el) (.inl (me h1))).size w;obtain⟨b1,c1,cp,r1,r2,r3,r4⟩:=hx;obtain⟨cs,ty,g5,g6,g7,g8⟩:=dP hd (bB h3) r1
 have bT:∀u w',(Builtin.copy_ #[t,t] oo.type #[e x,e y]).run P w= .ok u w'->(execOp e oo).run P w= .ok (.value u) w':=λu w' hr=>by
  simp [execOp,ho,resolve,hc,ha,ht,invoke,builtin,hr]
 have xT:Nat.min q.1 sv.len=uk q.1 sv.len:=(Ih _ _).symm
 have aa8:∃mv:List Value,cJ O m mv/\mv.length=uk q.1 sv.len*E.sz el/\(Builtin.lenOf (e y)).run P w= .ok q.1 w/\(Builtin.firstCells (E.sz el) (uk q.1 sv.len) (e y)).run P w= .ok mv.toArray w:=by
  rcases NU h2 hd hy with ⟨_,h7,h8⟩|⟨ad,cap,mv,h7,h8,h9,cA⟩
  ·have e1:uk q.1 sv.len=0:=by rw [Ih,h7];simp
   rw [h7]at h4;rw [h7]at e1;rw [e1,Nat.zero_mul,pJ]at h4;cases h4;refine⟨[],ag,by rw [h7,e1];simp,by rw [h8,h7];simp [Builtin.lenOf],?_⟩;rw [h8];simp [Builtin.firstCells]
  ·obtain⟨lP,oP⟩:=h8.take _ h4
   have hl:(mv.take (uk q.1 sv.len*E.sz el)).length=uk q.1 sv.len*E.sz el:=by rw [ajA];omega
   refine⟨_,lP,hl,by rw [h7];simp [Builtin.lenOf],?_⟩;rw [h7]
   exact run_firstCells_some (P:=P) w (E.sz el) (uk q.1 sv.len) ad q.1 cap _ hl (λj u hj=>cA j u (by
    rw [akm]at hj;split at hj
    ·exact hj
    ·cases hj))
 obtain⟨mv,g1,g2,g3,g4⟩:=aa8;obtain⟨g9,g10⟩:=kr g6 g7 g8 g1 h5;have cX:=run_storeCells_at P b1 sv.off ty mv 0 cs w g5 (by simpa using ajW g10 g6) (sM g1);simp only [akb]at cX
 have aN:(Builtin.copy_ #[t,t] oo.type #[e x,e y]).run P w= .ok (goInt (uk q.1 sv.len)) (w.setRow b1 (cs.toList.take sv.off++mv++cs.toList.drop (sv.off+mv.length)).toArray):=by
  rw [r3];simp only [Builtin.copy_];simp [cd,g3,xT,tT,g4,cX]
 exact .inl ⟨_,_,bT _ _ aN,O,bM.write hd (bB h3) r1 (uT g5) ⟨⟨rfl,rfl⟩,rfl,ajl _⟩ g9,rfl,DU h6⟩
theorem NX(az:aR P E.TY)(hz:xK P E.TY E.TZ){t:Nat}{x:Operand}{a:CC}{c:Call}(h:HX E t a s=some (v,s'))(ho:oo.op= .call c)(hc:c.callee= .builtin .clear)(ha:c.args= #[x])(ht:c.argTypes[0]? =some t)(hd:Hd O s.H.get s.nx w)(hx:jU O a (e x)):jQ P e oo O s s' w v:=by
 obtain⟨el,h0,h⟩:=aw h;have hu:=bY az (jI h0);have cd:∀w,(underlying t).run P w= .ok (.slice el) w:=λw=>by simp [underlying,hu]
 have bT:∀w',(Builtin.clear_ c.argTypes oo.type #[e x]).run P w= .ok (.tuple #[]) w'->(execOp e oo).run P w= .ok (.value (.tuple #[])) w':=λw' hr=>by
  simp [execOp,ho,resolve,hc,ha,invoke,builtin,hr]
 cases a with
 |ar=>
  cases h;have hx:e x= .slice none 0 0:=hx;exact aG hd (bT _ (by simp [Builtin.clear_,ht,cd,hx])) ⟨_,rfl,ag⟩
 |sl k off len cap=>
  obtain⟨b1,c1,cp,r1,r2,r3,r4⟩:=hx;cases len with
  |zero=>
   cases h;exact aG hd (bT _ (by simp [Builtin.clear_,ht,cd,r3])) ⟨_,rfl,ag⟩
  |succ n=>
   obtain⟨h1,h⟩:=aE h;obtain⟨h2,h⟩:=aE h;obtain⟨p,h3,h⟩:=aw h;obtain⟨l,h4,h⟩:=aw h;cases h;obtain⟨i,z,hi,gE,bu,tY,xX,Zr⟩:=nF hz az h2 h1;have cA:=ah h1;have mM:∀w,(zeroValue el).run P w= .ok z w:=λw=>by simp [zeroValue,typeInfo,hi,gE]
   have hm:=Br (O:=O) (Zr O) aa (n+1);obtain⟨cs,ty,g5,g6,g7,g8⟩:=dP hd (bB h3) r1;obtain⟨g9,g10⟩:=kr g6 g7 g8 hm h4;have cX:=run_storeCells_at P b1 off ty (Builtin.zeroCells z.cells (n+1)).toList 0 cs w g5 (by simpa [Builtin.zeroCells]using ajW g10 g6) (sM hm);simp only [akb]at cX;refine .inl ⟨_,_,bT _ (by simp [Builtin.clear_,ht,cd,r3,mM,cX];simp [Builtin.zeroCells]),O,bM.write hd (bB h3) r1 (uT g5) ⟨⟨rfl,rfl⟩,rfl,ajl _⟩ g9,⟨_,rfl,ag⟩⟩
 |_=>cases h
theorem NY{x:Operand}{a:CC}{c:Call}(h:HY a s=some (v,s'))(ho:oo.op= .call c)(hc:c.callee= .builtin .unsafeSliceData)(ha:c.args= #[x])(hd:Hd O s.H.get s.nx w)(hx:jU O a (e x)):jQ P e oo O s s' w v:=by
 have bT:∀u,(Builtin.unsafeSliceData_ c.argTypes oo.type #[e x]).run P w= .ok u w->(execOp e oo).run P w= .ok (.value u) w:=λu hr=>by
  simp [execOp,ho,resolve,hc,ha,invoke,builtin,hr]
 cases a with
 |ar=>
  cases h;have hx:e x= .slice none 0 0:=hx;exact aG hd (bT (.pointer none) (by rw [hx];rfl)) rfl
 |sl k off len cap=>
  obtain⟨b1,c1,cp,r1,r2,r3,r4⟩:=hx;obtain⟨h1,h⟩:=aE h;cases h;have h1:=ah h1;exact aG hd (bT (.pointer (some ⟨b1,off,none⟩)) (by rw [r3];exact Lib.run_unsafeSliceData_row w _ _ _ _ _ aa)) ⟨b1,c1,r1,rfl⟩
 |_=>cases h
theorem DX:∀{l:List Nat},(∀x∈l,x<256)->cJ O (Vc l) (Lib.strCells (bJ l))
 |[],_=>trivial
 |b::l,h=>by
  have hb:=h b (by simp);have ih:=DX (l:=l) λx hx=>h x (ajj _ hx);refine⟨?_,by simpa [Lib.strCells,bJ]using ih⟩;show _=Value.int .u8 b/\_;refine⟨?_,by show eO .u8 (b:Int);simp [eO,IntKind.min,IntKind.max,IntKind.signed,IntKind.bits];omega⟩;have e:(UInt8.ofNat b).toNat=b:=by simp;omega
  simp [e]
theorem Gf(az:aR P E.TY)(hz:xK P E.TY E.TZ){t t2 el:Nat}{x y:Operand}{a:CC}{l:List Nat}{c:Call}(Ff:nB E t=some el)(h2:Ni (E.d t2)=true)(h:HR E el a l s=some (v,s'))(ho:oo.op= .call c)(hc:c.callee= .builtin .append)(ha:c.args= #[x,y])(ht:c.argTypes= #[t,t2])(hd:Hd O s.H.get s.nx w)(hx:jU O a (e x))(hy:jU O (.str l) (e y)):jQ P e oo O s s' w v:=by
 obtain⟨h0,h⟩:=aE h;obtain⟨h1,h⟩:=aE h;obtain⟨h3,h⟩:=aE h;have h1:=aA.1 h1;have h1b:Nat.ble 1 (E.sz el)=true:=by rw [h1];rfl
 have hu:=bY az (jI Ff)
 have PJ:P.underlying t2=some .string:=by
  cases Qm:E.d t2<;>rw [Qm]at h2<;>try (cases h2;done)
  obtain⟨d,g1,g2,_⟩:=rowOf az (t:=t2) (by show(au E.TY t2).d≠.other;rw [show(au E.TY t2).d= .str from Qm];simp);rw [show(au E.TY t2).d= .str from Qm]at g2;cases d<;>first|exact g1|exact g2.elim
 obtain⟨i,z,hi,gE,bu,tY,xX,_⟩:=nF hz az h3 h1b;obtain⟨hy,hl⟩:=hy;have hlen:iB l 0=(bJ l).size:=by rw [Bt];show _=((l.map UInt8.ofNat).toArray).size;simp
 have RD:(Lib.strCells (bJ l)).length=iB l 0*i.size:=by rw [Lib.strCells_length,hlen,bu,h1,ajV]
 have OZ:i.size=1:=bu.trans h1;have z8:(Lib.strCells (bJ l)).length=(bJ l).size:=Lib.strCells_length _
 have fL:(bJ l).data.map (λb=>Value.int .u8 b.toNat)=(Lib.strCells (bJ l)).toArray:=by
  apply Array.ext';simp [Lib.strCells]
 refine pK (mv:=Lib.strCells (bJ l)) az Ff h ho hc ha ht hd hx h0 aa hi gE bu tY xX (λ_=>⟨DX hl,RD⟩) (λhq base n cap hn=>?_) (λhq g1 g2=>?_) (λ_ g o sLen sCap tag cur g1 g2 g3=>?_) (λ_ b sLen sCap olds g1 g2 g3 g4 g5=>?_)
 ·have KJ:(bJ l).size=0:=by have hq:iB l 0=0:=hq;omega
  have hf:=Lib.run_firstCells_string (P:=P) w i.size (bJ l);have he:Lib.strCells (bJ l)=[]:=List.length_eq_zero_iff.1 aa;rw [KJ,he]at hf;rw [hy];cases base<;>simp [Builtin.append_,run_underlying hu,run_underlying PJ,sizeOf,typeInfo,hi,Builtin.lenOf,KJ,hn,hf,storeCells]
 ·have hq:0<iB l 0:=hq
  have g1:((iB l 0:Nat):Int)<=9223372036854775807:=g1;have g2:iB l 0*i.bytes<=281474976710656:=g2;rw [hlen]at hq g1 g2;have:=run_append_nil_string (P:=P) w t t2 oo.type el i z hu PJ hi gE (bJ l) hq g1 g2;rw [hy,this,fL];show _=Result.ok (Value.slice (some ⟨w.heap.size,0,none⟩) (iB l 0) (grownCap w (iB l 0) 0 el)) (w.drew.alloc (.cells ((Lib.strCells (bJ l)).toArray++Builtin.zeroCells z.cells (grownCap w (iB l 0) 0 el - iB l 0)) el));rw [hlen]
 ·have g2:sLen+iB l 0<=sCap:=g2
  have hf:=Lib.run_firstCells_string (P:=P) w i.size (bJ l);have cX:=run_storeCells_at P g (o+sLen*i.size) tag (Lib.strCells (bJ l)) 0 cur w g1 (by simpa using g3) (Lib.strCells_oneCell _);simp only [akb]at cX;have NV:(⟨g,o,none⟩:Addr).add (sLen*i.size)=⟨g,o+sLen*i.size,none⟩:=by rw [aU]
  rw [hlen]at g2;rw [hy];show _=Result.ok (Value.slice (some ⟨g,o,none⟩) (sLen+iB l 0) sCap) _;rw [hlen];simp [Builtin.append_,run_underlying hu,run_underlying PJ,sizeOf,typeInfo,hi,Builtin.lenOf,g2,hf,NV,cX]
 ·have g3:sCap<sLen+iB l 0:=g3
  have g4:((sLen+iB l 0:Nat):Int)<=9223372036854775807:=g4;have g5:Builtin.nextslicecap (sLen+iB l 0) sCap*i.bytes<=281474976710656:=g5;rw [hlen]at g3 g4 g5;have:=Lib.run_append_grow_string (P:=P) w t t2 oo.type el i z hu PJ hi gE b sLen sCap olds g1 g2 (bJ l) g3 g4 g5;rw [hy,this];show _=Result.ok (Value.slice (some ⟨w.heap.size,0,none⟩) (sLen+iB l 0) (grownCap w (sLen+iB l 0) sCap el)) (w.drew.alloc (.cells (olds.toArray++(Lib.strCells (bJ l)).toArray++Builtin.zeroCells z.cells (grownCap w (sLen+iB l 0) sCap el - (sLen+iB l 0))) el));rw [hlen]
theorem Bu{w:World}{a:Addr}{n i:Nat}(h:i≠a.block):(w.freeze a n).heap[i]? =w.heap[i]? :=by
 unfold World.freeze;split
 ·rfl
 ·show(w.heap.modify a.block _)[i]? =_
  rw [Array.getElem?_modify,ajm (Ne.symm h)]
theorem DY{w:World}{a:Addr}{n:Nat}:(w.freeze a n).heap.size=w.heap.size:=by
 unfold World.freeze;split
 ·rfl
 ·show(w.heap.modify a.block _).size=_
  simp
theorem Ki{w:World}{a:Addr}{n:Nat}:kg w (w.freeze a n):=by
 unfold World.freeze;split
 ·exact kg.refl w
 ·exact⟨⟨rfl,rfl⟩,rfl,ajl _⟩
theorem RG(aa9:H7 P E.FW){t t2 n:Nat}{x y:Operand}{a:CC}{c:Call}(h:Nv E t a n s=some (v,s'))(ho:oo.op= .call c)(hc:c.callee= .builtin .unsafeString)(ha:c.args= #[x,y])(ht:c.argTypes= #[t,t2])(hd:Hd O s.H.get s.nx w)(hx:jU O a (e x))(hy:e y= .int .i64 n):jQ P e oo O s s' w v:=by
 have bT:∀u w',(Builtin.unsafeString_ #[t,t2] oo.type #[e x,.int .i64 n]).run P w= .ok u w'->(execOp e oo).run P w= .ok (.value u) w':=λu w' hr=>by
  simp [execOp,ho,resolve,hc,ha,ht,invoke,builtin,hy,hr]
 cases n with
 |zero=>
  cases a<;>try (cases h;done)
  ·cases h
   obtain⟨b,c,r1,r2⟩:=hx;exact aG hd (u:=.string .empty) (bT _ _ (by rw [r2];exact Lib.run_unsafeString_none w _ _ _ _)) ⟨rfl,by simp⟩
  ·cases h
   have hx:e x= .pointer none:=hx;exact aG hd (u:=.string .empty) (bT _ _ (by rw [hx];exact Lib.run_unsafeString_none w _ _ _ _)) ⟨rfl,by simp⟩
 |succ n=>
  cases a<;>try (cases h;done)
  rename_i k off;obtain⟨h1,h⟩:=aE h;have h1:=aA.1 h1;subst h1;obtain⟨p,h2,h⟩:=aw h;obtain⟨l,g⟩:=p;cases g with
  |none=>cases h
  |some g=>
   obtain⟨gz,gt⟩:=g;obtain⟨h3,hA⟩:=aE h;obtain⟨h3b,hA2⟩:=aE hA;obtain⟨m,h4,hB⟩:=aw hA2;obtain⟨q,h5,hC⟩:=aw hB;clear h hA hA2 hB;cases hC;obtain⟨b,c1,r1,r2⟩:=hx;obtain⟨cs,ty,g5,g6,g7,g8⟩:=dP hd (bB h2) r1;have az:ty=gt:=g7.1;subst az;obtain⟨k1,k2⟩:=aa9 _ h3;have h4:y4 l 0 (n+1)=some m:=h4;have g6:l.length<=cs.size:=g6;obtain⟨mv,r6,r7,r8⟩:=jG g8 g5 h4;obtain⟨r9,r10⟩:=nG h5 r6;have hlen:q.length=n+1:=by rw [<-r7,r9];simp
   have hsm:=ah h3b
   have hle:n+1<=l.length:=by
    have:=(zh (show nA (wD l 0) (n+1)=some m from h4)).2
    rwa [wJ]at this
   have aN:=Lib.run_unsafeString_row (P:=P) w t t2 oo.type ty k1 k2 b cs.size (by simp [World.shape?,g5]) (q.map UInt8.ofNat) (by intro e;have:=ajs List.length e;simp [hlen]at this) (by simp [hlen];omega) (by simp [hlen];omega) (λj x hj=>by
    rw [aU];refine r8 j _ ?_;rw [r9];rw [ajR]at hj;cases hq:q[j]? with
    |none=>rw [hq]at hj;cases hj
    |some y=>
     rw [hq]at hj;cases hj;have hm:=List.mem_of_getElem? hq;have:=r10 y hm;rw [ajR,hq];simp only [Option.map_some]
     congr 2
     rw [UInt8.toNat_ofNat'];omega)
   rw [ajS,hlen]at aN;refine .inl ⟨.string (bJ q),_,bT _ _ (by rw [r2];exact aN),O,bM.drop hd (bB h2) r1 (λi _ hi=>Bu hi) (by rw [DY];exact ajl _) Ki,⟨rfl,r10⟩⟩
theorem w3:∀{l:List Operand},(∀x∈l,ef O (cP T x) (e x))->nC O (Rj T l) (l.map e)
 |[],_=>trivial
 |x::l,h=>⟨h x (by simp),w3 λy hy=>h y (ajj _ hy)⟩
theorem nC.app:∀{l l':List CV} {m m':List Value},nC O l m->nC O l' m'->nC O (Vg l l') (m++m')
 |[],_,[],_,_,h'=>h'|_::_,_,_::_,_,h,h'=>⟨h.1,nC.app h.2 h'⟩|[],_,_::_,_,h,_=>h.elim|_::_,_,[],_,h,_=>h.elim
theorem w4:∀{l:List CC} {m:List Value},cJ O l m->nC O (FZ l) m
 |[],[],_=>trivial|_::_,_::_,h=>⟨h.1,w4 h.2⟩|[],_::_,h=>h.elim|_::_,[],h=>h.elim
theorem Kj{f:FuncId}{_vs:Array Value}{c:Call}{x:Operand}(hcb:eJ P f)(hc:c.callee= .value x)(ho:oo.op= .call c){cs:Array Value}(hx:e x= .func (.func f) #[] cs):(execOp e oo).run P w= .ok (.enter f (c.args.map e++cs)) w:=by
 obtain⟨fn,h1,h2,h3⟩:=hcb;have h4:fn.body≠none:=λh=>by rw [h]at h3;cases h3
 have Hi:¬(fn.name= "runtime.NumGoroutine"):=h2;simp [execOp,ho,resolve,hc,hx,Deferred.ofValue,invoke,callFunc,h1,Hi,h4,program,Sem.run]
theorem RH(az:aR P E.TY)(hz:xK P E.TY E.TZ)(dJ:DJ P E){c:Call}(h:F4 E T c s=some (v,s'))(ho:oo.op= .call c)(hd:Hd O s.H.get s.nx w)(he:∀x∈oo.op.operands,ef O (cP T x) (e x)):jQ P e oo O s s' w v:=by
 rw [ho]at he;have bw:∀x∈c.args.toList,ef O (cP T x) (e x):=λx hx=>he x (by simp only [Op.operands,Call.operands,Array.mem_append];exact .inr (aj6.1 hx));unfold F4 at h;split at h
 ·rename_i x hc
  have hx:ef O (cP T x) (e x):=he x (by simp only [Op.operands,Call.operands,hc,Array.mem_append];exact .inl (by simp))
  have fin:∀{f:FuncId} {as:List CV} {cs:Array Value},E.call f as s=some (v,s')->e x= .func (.func f) #[] cs->nC O as (c.args.toList.map e++cs.toList)->jQ P e oo O s s' w v:=λ{f as cs} h1 h2 h3=>by
   obtain⟨h4,h5⟩:=dJ.cal f as s v s' h1;refine .inr (.inr ⟨f,c.args.map e++cs,w,Kj (_vs:= #[]) h4 hc ho h2,?_⟩);have:=h5 O w _ hd h3;have fL:(c.args.toList.map e++cs.toList).toArray=c.args.map e++cs:=by apply Array.ext';simp
   rw [fL]at this;exact this.mono λe w' ⟨u,he,O',hp,hv⟩=>⟨u,he,O',hp,hv⟩
  generalize hv:cP T x=y at h hx;cases y with
  |c a=>
   cases a with
   |fn f=>
    simp only at h;refine fin h (cs:= #[]) hx ?_;have:=w3 (T:=T) (e:=e) bw
    simpa using this
   |_=>cases h
  |Ts f l=>
   simp only at h;obtain⟨cs,h1,h2⟩:=hx;exact fin h h1 ((w3 (T:=T) (e:=e) bw).app (w4 h2))
  |_=>cases h
 ·rename_i b hc
  unfold y9 at h;generalize hA:c.args.toList=A at h bw;generalize hB:c.argTypes.toList=B at h;cases A with
  |nil=>cases h
  |cons x A=>
   cases A with
   |nil=>
    have ha:c.args= #[x]:=by simpa using ajs List.toArray hA
    cases b<;>try (cases h;done)
    ·
     cases B with
     |nil=>cases h
     |cons t B=>
      have ht:c.argTypes[0]? =some t:=by rw [<-ajt,hB];rfl
      obtain⟨y,h1,h⟩:=aw h;exact NX az hz h ho hc ha ht hd (cr h1 (bw x (by simp)))
    ·
     cases B with
     |nil=>cases h
     |cons t B=>
      have ht:c.argTypes[0]? =some t:=by rw [<-ajt,hB];rfl
      obtain⟨y,h1,h⟩:=aw h;exact Vq az h ho hc ha ht hd (cr h1 (bw x (by simp)))
    ·
     obtain⟨y,h1,h⟩:=aw h;exact NY h ho hc ha hd (cr h1 (bw x (by simp)))
   |cons y A=>
    cases A with
    |cons=>cases h
    |nil=>
     have ha:c.args= #[x,y]:=by simpa using ajs List.toArray hA
     have two:∀{t:Nat} {tys:List Nat},B=t::tys->Bh t tys=true->c.argTypes= #[t,t]:=λ{t tys} e1 e2=>by
      subst e1;cases tys with
      |nil=>cases e2
      |cons u l=>
       cases l with
       |nil=>have:=aA.1 e2;subst this;simpa using ajs List.toArray hB
       |cons=>cases e2
     cases b<;>try (cases h;done)
     ·
      cases B with
      |nil=>cases h
      |cons t tys=>
       obtain⟨el,h1,h⟩:=aw h;obtain⟨a,h2,h⟩:=aw h;obtain⟨b,h3,h⟩:=aw h;have hb:=cr h3 (bw y (by simp))
       have other:bt (Bh t tys) (Bc E el a b s)=some (v,s')->jQ P e oo O s s' w v:=λh=>by
        obtain⟨h0,h⟩:=aE h;exact Kh az hz h1 h ho hc ha (two rfl h0) hd (cr h2 (bw x (by simp))) hb
       cases b with
       |str l=>
        cases tys with
        |nil=>cases h
        |cons u r=>
         cases r with
         |cons=>cases h
         |nil=>
          obtain⟨h0,h⟩:=aE h;exact Gf az hz h1 h0 h ho hc ha (by simpa using ajs List.toArray hB) hd (cr h2 (bw x (by simp))) hb
       |_=>exact other h
     ·
      cases B with
      |nil=>cases h
      |cons t tys=>
       obtain⟨h0,h⟩:=aE h;obtain⟨sv,h2,h⟩:=aw h;obtain⟨b,h3,h⟩:=aw h;exact RF az h ho hc ha (two rfl h0) hd (Bo h2 (bw x (by simp))) (cr h3 (bw y (by simp)))
     ·
      obtain⟨p,h2,h⟩:=aw h;obtain⟨q,h3,h⟩:=aw h;obtain⟨h4,h⟩:=aE h;cases h;obtain⟨e1,i1⟩:=iX h2 (bw x (by simp));obtain⟨e2,i2⟩:=iX h3 (bw y (by simp));obtain⟨k,m⟩:=p;obtain⟨k',n⟩:=q;have hk:k=k':=b8 h4;subst hk
      by_cases hle:m<=n
      ·have:Max.max m n=n:=Int.max_eq_right hle
       refine aG hd (u:=.int k n) ?_ ?_
       ·rcases Int.lt_or_eq_of_le hle with h5|h5
        ·simp [execOp,ho,resolve,hc,ha,invoke,builtin,e1,e2,Builtin.max_,Builtin.max2,h5]
        ·subst h5;simp [execOp,ho,resolve,hc,ha,invoke,builtin,e1,e2,Builtin.max_,Builtin.max2]
       ·show jU O (.int k (match decide (m<=n)with|true=>n|false=>m)) _
        rw [aj3 hle];exact⟨rfl,i2⟩
      ·refine aG hd (u:=.int k m) ?_ ?_
       ·have h5:¬m<n:=aa
        simp [execOp,ho,resolve,hc,ha,invoke,builtin,e1,e2,Builtin.max_,Builtin.max2,h5]
       ·show jU O (.int k (match decide (m<=n)with|true=>n|false=>m)) _
        rw [akp hle];exact⟨rfl,i1⟩
     ·
      obtain⟨p,h2,h⟩:=aw h;obtain⟨q,h3,h⟩:=aw h;obtain⟨h4,h⟩:=aE h;cases h;obtain⟨e1,i1⟩:=iX h2 (bw x (by simp));obtain⟨e2,i2⟩:=iX h3 (bw y (by simp));obtain⟨k,m⟩:=p;obtain⟨k',n⟩:=q;have hk:k=k':=b8 h4;subst hk
      by_cases hle:m<=n
      ·refine aG hd (u:=.int k m) ?_ ?_
       ·have h5:¬n<m:=aa
        simp [execOp,ho,resolve,hc,ha,invoke,builtin,e1,e2,Builtin.min_,Builtin.min2,h5]
       ·show jU O (.int k (match decide (m<=n)with|true=>m|false=>n)) _
        rw [aj3 hle];exact⟨rfl,i1⟩
      ·refine aG hd (u:=.int k n) ?_ ?_
       ·have h5:n<m:=aa
        simp [execOp,ho,resolve,hc,ha,invoke,builtin,e1,e2,Builtin.min_,Builtin.min2,h5]
       ·show jU O (.int k (match decide (m<=n)with|true=>m|false=>n)) _
        rw [akp hle];exact⟨rfl,i2⟩
     ·
      cases B with
      |nil=>cases h
      |cons t tys=>
       cases tys with
       |nil=>cases h
       |cons u r=>
        cases r with
        |cons=>cases h
        |nil=>
         obtain⟨⟨k,m⟩,h2,h6⟩:=aw h;obtain⟨h3,h7⟩:=aE h6;obtain⟨n,h4,h8⟩:=aw h7;obtain⟨a,h5,h9⟩:=aw h8;obtain⟨e2,i2⟩:=iX h2 (bw y (by simp));have hk:k= .i64:=b8 h3;subst hk
         have hm:m=(n:Int):=by
          cases m with
          |ofNat m=>cases h4;rfl
          |negSucc m=>cases h4
         subst hm;exact RG dJ.FW h9 ho hc ha (by simpa using ajs List.toArray hB) hd (cr h5 (bw x (by simp))) e2
 ·cases h
theorem TA(az:aR P E.TY)(hz:xK P E.TY E.TZ)(dJ:DJ P E){o:Op}(h:F5 E o T s=some (v,s'))(ho:oo.op=o)(hd:Hd O s.H.get s.nx w)(he:∀x∈o.operands,ef O (cP T x) (e x)):jQ P e oo O s s' w v:=by
 subst ho;generalize ho:oo.op=o at h he;rw [<-ho]at he;cases o with
 |move x=>cases h;exact Ia (.inl ho) hd he
 |assign x=>cases h;exact Ia (.inr ho) hd he
 |pick c a b=>exact Rt h ho hd he
 |alloc t=>exact NH hz h ho hd
 |box t x=>exact Vp h ho hd he
 |build t ps=>exact NI az hz h ho hd he
 |buildSlice t n ps=>exact Ka az hz h ho hd he
 |insert t x k y=>exact NS az h (.inr ho) hd he
 |load t x=>exact Ry az h ho hd he
 |store t x y=>exact NG az h ho hd he
 |nilCheck x=>exact Vn h ho hd he
 |binOp op t x y ty=>exact Vm az dJ.eqs h ho hd he
 |unOp op t x=>exact X4 h ho hd he
 |convert a b x=>exact RB az h ho hd he
 |makeFunc fn first cap=>exact Vo h ho hd he
 |makeMap t r=>exact Gc az h ho hd he
 |makeSlice t l c=>exact Rz az hz h ho hd he
 |slice t x lo hi mx=>exact NK az h ho hd he
 |fieldAddr t x f=>exact Kc az h ho hd he
 |field t x f=>exact NL az h ho hd he
 |indexAddr t x i=>exact Kd az h ho hd he
 |index t x i=>exact NM az h ho hd he
 |lookup t x k ok=>exact RC az hz h ho hd he
 |mapUpdate t x k y=>exact NS az h (.inl ho) hd he
 |extract x i=>exact F9 h ho hd he
 |call c=>exact RH az hz dJ h ho hd he
 |_=>cases h
end
end Go.CM
end
section
namespace Go.CM
open Go Go.AM
section
variable{P:Program}{E:Ev}{O:Rn}{w:World}
theorem Ii{ops:Array Oper}{o:Oper}{T:cW}{a:Act}{g:Bool}(h:Vh ops o.guard T=some g)(hv:∀d,d∈o.looksAt ops->ef O (l9 T d) (a.tmps.getD d undef)):Region.wanted o (yielded ops a.tmps)=g:=by
 unfold Region.wanted;cases hg:o.guard with
 |none=>rw [hg]at h;cases h;rfl
 |some jw=>
  obtain⟨j,want⟩:=jw;rw [hg]at h;obtain⟨d,h3,h⟩:=aw h;have h3:(ops[j]?).bind (·.dst)=some d:=h3
  have hm:d∈o.looksAt ops:=by
   unfold Oper.looksAt;rw [hg];simp [h3]
  have hr:=hv d hm;show(yielded ops a.tmps j==some want)=g;unfold yielded;rw [h3];simp only [Option.bind_some];split at h
  ·rename_i x hx
   split at h
   ·rename_i b
    rw [hx]at hr;have hr:a.tmps.getD d undef= .bool b:=hr
    have hq:a.tmps[d]? =some (.bool b):=by
     cases hq:a.tmps[d]? with
     |none=>rw [ajG,hq]at hr;cases hr
     |some v=>rw [ajG,hq]at hr;exact ajs some hr
    rw [hq];cases want<;>cases b<;>(cases h;rfl)
   ·cases h
  ·rename_i l hl
   split at h
   ·cases h
    rw [hl]at hr;obtain⟨cs,h4,h5⟩:=hr;cases hq:a.tmps[d]? with
    |none=>rfl
    |some v=>
     rw [ajG,hq]at h4;have h4:v= .tuple cs:=h4;subst h4;rfl
   ·cases h
  ·cases h
theorem Bv{ops:Array Oper}{o:Oper}{t:Nat}(h:Operand.tmp t∈o.op.operands):t∈o.looksAt ops:=by
 unfold Oper.looksAt;exact ajK.2 (.inl (List.mem_filterMap.2 ⟨.tmp t,aj6.2 h,rfl⟩))
theorem NZ{ops:Array Oper}{o:Oper}{T:cW}{a:Act}(hv:∀d,d∈o.looksAt ops->ef O (l9 T d) (a.tmps.getD d undef)):∀x∈o.op.operands,ef O (cP T x) (a.eval x):=λx hx=>by
 cases x with
 |tmp t=>exact hv t (Bv hx)
 |const v=>exact wQ O v
 |global g=>trivial
 |func f=>exact rfl
theorem w5(az:aR P E.TY)(hz:xK P E.TY E.TZ)(dJ:DJ P E){ops:Array Oper}{Q:Exit->Act->World->Prop}:∀(rest:List Oper) (i:Nat) {T T':cW} {s s':HS} {O:Rn} {w:World} {a:Act},
  ops.toList.drop i=rest->HZ E ops rest T s=some (T',s')->Hd O s.H.get s.nx w->zl O T a->(∀O' a' w',bM O O' s s' w w'->zl O' T' a'->Q .normal a' w')->wpOps P ops Q (List.range' i rest.length) a w
 |[],i,T,T',s,s',O,w,a,_,h,hd,tm,hQ=>by cases h;exact hQ O a w (bM.refl hd) tm
 |o::rest,i,T,T',s,s',O,w,a,hr,h,hd,tm,hQ=>by
  have hi:ops[i]? =some o:=by
   have:=ajs (·.head?) hr;simp [List.head?_drop]at this;exact this
  have Fj:ops.toList.drop (i+1)=rest:=by
   have:=ajs List.tail hr
   simpa [List.tail_drop]using this
  rw [ajY,List.range'_succ,wpOps_cons];obtain⟨g,hg,h⟩:=aw h;have hw:=Ii (a:=a) hg (λd _=>tm.tmp d);simp only [wpOp,hi];cases g with
  |true=>
   rw [ajq hw];obtain⟨p,h1,h⟩:=aw h;obtain⟨T1,h2,h⟩:=aw h;refine .inl ((TA (e:=a.eval) (oo:=o) az hz dJ h1 rfl hd (λx _=>H5 tm x)).wp λu w' ⟨O',hp,hv⟩=>?_);exact w5 az hz dJ rest (i+1) Fj h hp.hd ((tm.ext hp.ext).put h2 hv) λO'' a' w'' hp' tm'=>hQ O'' a' w'' (hp.trans hp') tm'
  |false=>
   rw [ajm (by rw [hw];simp)];obtain⟨T1,h2,h⟩:=aw h;exact w5 az hz dJ rest (i+1) Fj h hd (tm.put h2 (lE O)) hQ
end
section
variable{σ σ':Rn}(he:Ext σ σ')
include he
theorem jU.back{a:CC}{v0 v:Value}(h0:jU σ a v0)(h:jU σ' a v):jU σ a v:=by
 cases a with
 |ptr k off=>
  obtain⟨b,c,h1,_⟩:=h0;obtain⟨b',c',h2,h3⟩:=h;rw [he _ _ h1]at h2;cases h2;exact⟨b,c,h1,h3⟩
 |sl k off len cap=>
  obtain⟨b,c,x,h1,_⟩:=h0;obtain⟨b',c',x',h2,h3⟩:=h;rw [he _ _ h1]at h2;cases h2;exact⟨b,c,x',h1,h3⟩
 |mp k=>
  obtain⟨b,c,h1,_⟩:=h0;obtain⟨b',c',h2,h3⟩:=h;rw [he _ _ h1]at h2;cases h2;exact⟨b,c,h1,h3⟩
 |_=>exact h
theorem cJ.back:∀{l:List CC} {m0 m:List Value},cJ σ l m0->cJ σ' l m->cJ σ l m
 |[],_,[],_,_=>trivial
 |_::_,_::_,_::_,h0,h=>⟨h0.1.back he h.1,cJ.back h0.2 h.2⟩
 |[],_,_::_,_,h=>h.elim
 |_::_,[],_,h0,_=>h0.elim
 |_::_,_::_,[],_,h=>h.elim
theorem pI.back{a:CW}{v0 v:Value}(h0:pI σ a v0)(h:pI σ' a v):pI σ a v:=by
 cases a with
 |c x=>exact jU.back he h0 h
 |a l=>
  obtain⟨cs0,_,h0⟩:=h0;obtain⟨cs,h1,h2⟩:=h;exact⟨cs,h1,h0.back he h2⟩
theorem tA.back:∀{l:List (CW × CW)} {m0 m:List MapEntry},tA σ l m0->tA σ' l m->tA σ l m
 |[],_,[],_,_=>trivial
 |_::_,_::_,_::_,h0,h=>⟨⟨h0.1.1.back he h.1.1,h0.1.2.back he h.1.2⟩,tA.back h0.2 h.2⟩
 |[],_,_::_,_,h=>h.elim
 |_::_,[],_,h0,_=>h0.elim
 |_::_,_::_,[],_,h=>h.elim
theorem B5.back{c:Nat}{o:CO}{x0 x:Obj}(h0:B5 σ c o x0)(h:B5 σ' c o x):B5 σ c o x:=by
 cases o with
 |cells l g=>
  obtain⟨_,_,_,_,_,h0⟩:=h0;obtain⟨cs,ty,h1,h2,h3,h4⟩:=h;exact⟨cs,ty,h1,h2,h3,h0.back he h4⟩
 |map es=>
  obtain⟨_,_,_,h0⟩:=h0;obtain⟨en,n,h1,h2⟩:=h;exact⟨en,n,h1,h0.back he h2⟩
end
def zm(Bf:Nat->Nat->Prop)(i j:Nat):Prop:=j≠i/\¬Bf i j/\¬Bf j i
def Hid(n:Nat)(Bf:Nat->Nat->Prop)(touch:Nat->Nat->Prop)(i k:Nat):Prop:=∃j,j<n/\zm Bf i j/\touch j k
structure DZ(A:Array Oper)(Bf:Nat->Nat->Prop):Prop where
 lt:∀i j,Bf i j->j<i
 Jt:∀i j,Bf i j->∃o,A[i]? =some o/\∃e∈o.after,e7 e=true/\(e.on=j\/Bf e.on j)
 back:∀i o,A[i]? =some o->∀e∈o.after,e7 e=true->e.on<i
 looks:∀i o,A[i]? =some o->∀t∈o.looksAt A,∀j,bK A j=some t->j=i\/Bf i j\/Bf j i
 Mv:∀i j d,bK A i=some d->bK A j=some d->i=j
structure jJ(E:Ev)(A:Array Oper)(Bf:Nat->Nat->Prop)(T:Nat->cW)(H:Nat->Nat->Option CO)(lo:Nat->Nat)(wr:Nat->List Nat)(touch:Nat->Nat->Prop):Prop where
 step:∀i o,A[i]? =some o->∃g,Vh A o.guard (T i)=some g/\
  (g=true->∃v s1 s2,F5 E o.op (T i) s1=some (v,s2)/\oI o.dst (T i) v=some (T (i+1))/\s1.nx=lo i/\s1.wb=lo i/\s2.nx=lo (i+1)/\s2.wr=wr i/\
    (∀k,Hid A.size Bf touch i k->s1.H.get k=none)/\(∀k,¬Hid A.size Bf touch i k->s1.H.get k=H i k)/\(∀k,touch i k->H (i+1) k=s2.H.get k))/\
  (g=false->oI o.dst (T i) (.t [])=some (T (i+1))/\lo (i+1)=lo i/\(∀k,¬touch i k))
 rest:∀i k,i<A.size->¬touch i k->H (i+1) k=H i k
 mono:∀i,i<A.size->lo i<=lo (i+1)
 new:∀i k,i<A.size->lo i<=k->k<lo (i+1)->touch i k
 wrT:∀i k,i<A.size->k∈wr i->touch i k
 apart:∀i k,i<A.size->touch i k->¬Hid A.size Bf touch i k
def iD(O:Rn)(n:Nat):Rn:=λk=>if k<n then O k else none
theorem uV{O:Rn}{n k:Nat}(h:k<n):iD O n k=O k:=ajq h
theorem Bw{O:Rn}{n k:Nat}(h:n<=k):iD O n k=none:=ajm aa
theorem cQ{O:Rn}{n k:Nat}{x:Nat × Nat}(h:iD O n k=some x):k<n/\O k=some x:=by
 unfold iD at h;split at h
 ·exact⟨‹_›,h⟩
 ·cases h
theorem jK{O O':Rn}{n m:Nat}(h:Ext O O')(hn:n<=m):Ext (iD O n) (iD O' m):=λk x hk=>by
 obtain⟨h1,h2⟩:=cQ hk;rw [uV aa];exact h k x h2
theorem uW(O:Rn)(n:Nat):Ext (iD O n) O:=λ_k _x hk=>(cQ hk).2
section
variable{P:Program}{E:Ev}{A:Array Oper}{Bf:Nat->Nat->Prop}{T:Nat->cW}{H:Nat->Nat->Option CO}{lo:Nat->Nat}{wr:Nat->List Nat}{touch:Nat->Nat->Prop}
theorem jJ.slot(p:jJ E A Bf T H lo wr touch){i t:Nat}(hi:i<A.size)(h:bK A i≠some t):l9 (T (i+1)) t=l9 (T i) t/\(T (i+1)).n=(T i).n:=by
 obtain⟨g,_,h1,h2⟩:=p.step i _ (ajE hi)
 have key:∀v,oI A[i].dst (T i) v=some (T (i+1))->l9 (T (i+1)) t=l9 (T i) t/\(T (i+1)).n=(T i).n:=λv hv=>by
  have hd:bK A i=A[i].dst:=by simp [bK,Array.getElem?_eq_getElem hi]
  rw [hd]at h;cases Ij:A[i].dst with
  |none=>
   rw [Ij]at hv;have hv:some (T i)=some (T (i+1)):=hv;rw [<-ajN hv];exact⟨rfl,rfl⟩
  |some d=>
   rw [Ij]at hv h;have hv:J1 (T i) d v=some (T (i+1)):=hv;refine⟨?_,?_⟩
   ·rw [rA hv,ajm λe=>h (by rw [e])]
   ·obtain⟨_,h3⟩:=aE hv
    have h3:=ajN h3;rw [<-h3]
 cases g with
 |true=>obtain⟨v,s1,s2,_,h3,_⟩:=h1 rfl;exact key v h3
 |false=>exact key _ (h2 rfl).1
theorem jJ.size(p:jJ E A Bf T H lo wr touch):∀{i:Nat},i<=A.size->(T i).n=(T 0).n
 |0,_=>rfl
 |i+1,h=>by
  have hi:i<A.size:=h
  obtain⟨t,ht⟩:∃t,bK A i≠some t:=by
   cases hd:bK A i with
   |none=>exact⟨0,by simp⟩
   |some d=>exact⟨d+1,by simp⟩
  rw [(p.slot hi ht).2,jJ.size p (Nat.le_of_lt hi)]
theorem jJ.D0(p:jJ E A Bf T H lo wr touch){t m:Nat}:∀{i:Nat},m<=i->i<=A.size->(∀j,m<=j->j<i->bK A j≠some t)->l9 (T i) t=l9 (T m) t
 |0,h,_,_=>by have:m=0:=aa
              subst this;rfl
 |i+1,h,hi,hn=>by
  by_cases e:m=i+1
  ·subst e;rfl
  ·rw [(p.slot aa (hn i aa aa)).1]
   exact jJ.D0 p aa aa λj h1 h2=>hn j h1 aa
theorem jJ.keys(p:jJ E A Bf T H lo wr touch){k m:Nat}:∀{i:Nat},m<=i->i<=A.size->(∀j,m<=j->j<i->¬touch j k)->H i k=H m k
 |0,h,_,_=>by have:m=0:=aa
              subst this;rfl
 |i+1,h,hi,hn=>by
  by_cases e:m=i+1
  ·subst e;rfl
  ·rw [p.rest i k aa (hn i aa aa)]
   exact jJ.keys p aa aa λj h1 h2=>hn j h1 aa
theorem jJ.lo_le(p:jJ E A Bf T H lo wr touch){m:Nat}:∀{i:Nat},m<=i->i<=A.size->lo m<=lo i
 |0,h,_=>by have:m=0:=aa
            subst this;exact ajl _
 |i+1,h,hi=>by
  by_cases e:m=i+1
  ·subst e;exact ajl _
  ·exact ajW (jJ.lo_le p aa aa) (p.mono i aa)
structure Inv(A:Array Oper)(T:Nat->cW)(H:Nat->Nat->Option CO)(lo:Nat->Nat)(wr:Nat->List Nat)(touch:Nat->Nat->Prop)(ρ0:Rn)(w0:World)(D:Nat->Prop)(O:Rn)(m:Nat->Nat)(a:Act)(w:World):Prop where
 X7:∀k,(m k=0/\∀j,D j->¬touch j k)\/∃j,m k=j+1/\D j/\touch j k/\∀j',D j'->touch j' k->j'<=j
 base:∀k,k<lo 0->O k=ρ0 k
 gq:∀k,O k≠none->k<lo 0\/∃j,D j/\lo j<=k/\k<lo (j+1)
 obj:∀k o,H (m k) k=some o->∃b c x,iD O (lo (m k)) k=some (b,c)/\w.heap[b]? =some x/\B5 (iD O (lo (m k))) c o x
 inj:∀k k' o o' b c c',H (m k) k=some o->H (m k') k'=some o'->O k=some (b,c)->O k'=some (b,c')->k=k'
 frame:∀b,b<w0.heap.size->(∀k o c,H 0 k=some o->ρ0 k≠some (b,c))->w.heap[b]? =w0.heap[b]?
 fresh:∀k o b c,H (m k) k=some o->O k=some (b,c)->w0.heap.size<=b\/∃k0 o0 c0,H 0 k0=some o0/\ρ0 k0=some (b,c0)
 size:w0.heap.size<=w.heap.size
 io:kg w0 w
 keep:∀i,D i->∀k,touch i k->k<lo i->k∉wr i->H (i+1) k=H i k
 Vr:AQ w0/\∀k o b c,H 0 k=some o->ρ0 k=some (b,c)->b≠0
 defers:a.defers=[]
 D3:a.tmps.size=(T 0).n
 tmp:∀t,(∃j,D j/\bK A j=some t/\ef (iD O (lo (j+1))) (l9 (T (j+1)) t) (a.tmps.getD t undef))\/((∀j,D j->bK A j≠some t)/\ef (iD O (lo 0)) (l9 (T 0) t) (a.tmps.getD t undef))
section
variable{ρ0 O:Rn}{w0 w:World}{D:Nat->Prop}{m:Nat->Nat}{a:Act}{i:Nat}{o:Oper}
theorem sP(dj:¬D i)(nH:∀i,D i->∀j,Bf i j->D j){j:Nat}(hj:D j)(h:¬zm Bf i j):Bf i j:=by
 have bn:j≠i:=λe=>dj (e▸hj);exact ajy λh1=>h ⟨bn,h1,λh2=>dj (nH j hj i h2)⟩
theorem Inv.seen(p:jJ E A Bf T H lo wr touch)(od:DZ A Bf)(I:Inv A T H lo wr touch ρ0 w0 D O m a w)(hD:∀i,D i->i<A.size)(nH:∀i,D i->∀j,Bf i j->D j)(hi:i<A.size)(dj:¬D i)(gP:∀j,Bf i j->D j){k:Nat}(hk:¬Hid A.size Bf touch i k):
  m k<=i/\H i k=H (m k) k:=by
 have hu:∀j,j<A.size->touch j k->¬zm Bf i j:=λj h1 h2 h3=>hk ⟨j,h1,h3,h2⟩
 have N4:∀j,j<i->touch j k->D j:=λj hj ht=>by
  have:=hu j aa ht;refine gP j (ajy λh1=>this ⟨aa,h1,λh2=>?_⟩);have:=od.lt j i h2;omega
 rcases I.X7 k with ⟨h1,h2⟩|⟨j,h1,h2,h3,h4⟩
 ·refine⟨aa,?_⟩
  rw [h1];exact p.keys (ajk _) aa λj _ hj ht=>h2 j (N4 j hj ht) ht
 ·have hb:=sP (Bf:=Bf) dj nH h2 (hu j (hD j h2) h3)
  have aX:=od.lt i j hb;refine⟨aa,?_⟩;rw [h1]
  exact p.keys aa aa λj' mS jX ht=>by
   have:=h4 j' (N4 j' jX ht) ht;omega
theorem Inv.X8(p:jJ E A Bf T H lo wr touch)(od:DZ A Bf)(I:Inv A T H lo wr touch ρ0 w0 D O m a w)(_hD:∀i,D i->i<A.size)(nH:∀i,D i->∀j,Bf i j->D j)(ho:A[i]? =some o)(hi:i<A.size)(dj:¬D i)(gP:∀j,Bf i j->D j){t:Nat}(ht:t∈o.looksAt A):
  ef (iD O (lo i)) (l9 (T i) t) (a.tmps.getD t undef):=by
 have X9:∀j,bK A j=some t->¬zm Bf i j:=λj hj hu=>by
  rcases od.looks i o ho t ht j hj with h|h|h
  ·exact hu.1 h
  ·exact hu.2.1 h
  ·exact hu.2.2 h
 rcases I.tmp t with ⟨j,h1,h2,h3⟩|⟨h1,h2⟩
 ·have aX:=od.lt i j (sP dj nH h1 (X9 j h2))
  rw [p.D0 (t:=t) (m:=j+1) aa aa λj' mS jX hd=>by have:=od.Mv j' j t hd h2;omega];exact h3.ext (jK (Ext.refl _) (p.lo_le aa aa))
 ·rw [p.D0 (t:=t) (m:=0) (ajk _) aa λj' _ jX hd=>by
   refine h1 j' (gP j' (ajy λhb=>X9 j' hd ⟨aa,hb,λh2=>?_⟩)) hd;have:=od.lt j' i h2;omega]
  exact h2.ext (jK (Ext.refl _) (p.lo_le (ajk _) aa))
theorem Inv.lw{A:Array Oper}{T:Nat->cW}{H:Nat->Nat->Option CO}{lo:Nat->Nat}{wr:Nat->List Nat}{touch:Nat->Nat->Prop}(I:Inv A T H lo wr touch ρ0 w0 D O m a w):AQ w:=
 rh I.Vr.1 (I.frame 0 (nD I.Vr.1) λk o c hk hr=>I.Vr.2 k o 0 c hk hr rfl)
theorem Inv.nz{A:Array Oper}{T:Nat->cW}{H:Nat->Nat->Option CO}{lo:Nat->Nat}{wr:Nat->List Nat}{touch:Nat->Nat->Prop}(I:Inv A T H lo wr touch ρ0 w0 D O m a w){k:Nat}{o:CO}{b c:Nat}(hk:H (m k) k=some o)(hb:O k=some (b,c)):b≠0:=by
 rcases I.fresh k o b c hk hb with h|⟨k0,o0,c0,h1,h2⟩
 ·have:=nD I.Vr.1;omega
 ·exact I.Vr.2 k0 o0 b c0 h1 h2
theorem Inv.hd(p:jJ E A Bf T H lo wr touch)(od:DZ A Bf)(I:Inv A T H lo wr touch ρ0 w0 D O m a w)(hD:∀i,D i->i<A.size)(nH:∀i,D i->∀j,Bf i j->D j)(hi:i<A.size)(dj:¬D i)(gP:∀j,Bf i j->D j){h:Nat->Option CO}
  (h1:∀k,Hid A.size Bf touch i k->h k=none) (h2:∀k,¬Hid A.size Bf touch i k->h k=H i k):Hd (iD O (lo i)) h (lo i) w:=by
 have see:∀{k o},h k=some o->m k<=i/\H (m k) k=some o:=λ{k o} hk=>by
  have hn:¬Hid A.size Bf touch i k:=λhh=>by rw [h1 k hh]at hk;cases hk
  obtain⟨h3,h4⟩:=I.seen p od hD nH hi dj gP hn;exact⟨h3,by rw [<-h4,<-h2 k hn];exact hk⟩
 refine⟨λk o hk=>?_,λk k' o o' b c c' hk oC hb cy=>?_,λk hk=>Bw hk,I.lw,λk o b c hk hb=>I.nz (see hk).2 (cQ hb).2⟩
 ·obtain⟨h3,h4⟩:=see hk
  obtain⟨b,c,x,h5,h6,h7⟩:=I.obj k o h4;have he:Ext (iD O (lo (m k))) (iD O (lo i)):=jK (Ext.refl _) (p.lo_le h3 aa);exact⟨b,c,x,he _ _ h5,h6,h7.ext he⟩
 ·exact I.inj k k' o o' b c c' (see hk).2 (see oC).2 (cQ hb).2 (cQ cy).2
theorem Inv.skip(p:jJ E A Bf T H lo wr touch)(_od:DZ A Bf)(I:Inv A T H lo wr touch ρ0 w0 D O m a w)(ho:A[i]? =some o)(hi:i<A.size)(dj:¬D i)(hd:oI o.dst (T i) (.t [])=some (T (i+1)))(ht:∀k,¬touch i k){D':Nat->Prop}(oX:∀j,D' j↔j=i\/D j):
  Inv A T H lo wr touch ρ0 w0 D' O m (a.put o.dst undef) w:=by
 have uC:bK A i=o.dst:=by simp [bK,ho]
 refine⟨λk=>?_,I.base,λk hk=>?_,I.obj,I.inj,I.frame,I.fresh,I.size,I.io,λj hj k uM=>?_,I.Vr,?_,?_,λt=>?_⟩
 ·rcases I.X7 k with ⟨h1,h2⟩|⟨j,h1,h2,h3,h4⟩
  ·exact .inl ⟨h1,λj hj=>by
    rcases (oX j).1 hj with rfl|hj
    ·exact ht k
    ·exact h2 j hj⟩
  ·exact .inr ⟨j,h1,(oX j).2 (.inr h2),h3,λj' mC Vt=>by
    rcases (oX j').1 mC with rfl|mC
    ·exact absurd Vt (ht k)
    ·exact h4 j' mC Vt⟩
 ·rcases I.gq k hk with h|⟨j,h1,h2⟩
  ·exact .inl h
  ·exact .inr ⟨j,(oX j).2 (.inr h1),h2⟩
 ·rcases (oX j).1 hj with rfl|hj
  ·exact absurd uM (ht k)
  ·exact I.keep j hj k uM
 ·cases Ij:o.dst<;>simp [Act.put,I.defers]
 ·cases Ij:o.dst<;>simp [Act.put,I.D3]
 ·by_cases Hr:o.dst=some t
  ·refine .inl ⟨i,(oX i).2 (.inl rfl),by rw [uC];exact Hr,?_⟩
   rw [Hr]at hd ⊢;have hd:J1 (T i) t (.t [])=some (T (i+1)):=hd;rw [rA hd,ajq rfl];obtain⟨h1,_⟩:=aE hd;have aX:t<a.tmps.size:=by rw [I.D3,<-p.size (Nat.le_of_lt hi)];exact ah h1
   have:(a.put (some t) undef).tmps.getD t undef=undef:=by simp [Act.put,aX]
   rw [this];exact lE _
  ·have e1:(a.put o.dst undef).tmps.getD t undef=a.tmps.getD t undef:=by
    cases Ij:o.dst with
    |none=>rfl
    |some d=>
     have bn:d≠t:=λe=>Hr (by rw [Ij,e]);simp [Act.put,Array.getD_eq_getD_getElem?,Array.getElem?_setIfInBounds_ne bn]
   rw [e1];rcases I.tmp t with ⟨j,h1,h2⟩|⟨h1,h2⟩
   ·exact .inl ⟨j,(oX j).2 (.inr h1),h2⟩
   ·exact .inr ⟨λj hj=>by
     rcases (oX j).1 hj with rfl|hj
     ·rw [uC];exact Hr
     ·exact h1 j hj,h2⟩
theorem Inv.next(p:jJ E A Bf T H lo wr touch)(od:DZ A Bf)(I:Inv A T H lo wr touch ρ0 w0 D O m a w)(hD:∀i,D i->i<A.size)(nH:∀i,D i->∀j,Bf i j->D j)(ho:A[i]? =some o)(hi:i<A.size)(dj:¬D i)(gP:∀j,Bf i j->D j)
  {v:CV} {u:Value} {s1 s2:HS} {O':Rn} {w':World} (hd:oI o.dst (T i) v=some (T (i+1))) (e1:s1.nx=lo i) (e2:s1.wb=lo i) (e3:s2.nx=lo (i+1)) (e4:s2.wr=wr i)
  (h1:∀k,Hid A.size Bf touch i k->s1.H.get k=none) (h2:∀k,¬Hid A.size Bf touch i k->s1.H.get k=H i k) (h3:∀k,touch i k->H (i+1) k=s2.H.get k)
  (po:bM (iD O (lo i)) O' s1 s2 w w') (hv:ef O' v u) {D':Nat->Prop} (oX:∀j,D' j↔j=i\/D j):
  ∃ρ2 m2,Inv A T H lo wr touch ρ0 w0 D' ρ2 m2 (a.put o.dst u) w':=by
 classical
 have uC:bK A i=o.dst:=by simp [bK,ho]
 have JZ:=I.hd p od hD nH hi dj gP h1 h2
 let ρ2:Rn:=λk=>if lo i<=k/\k<lo (i+1) then O' k else O k
 let m2:Nat->Nat:=λk=>if touch i k then i+1 else m k
 have abb:∀{k},lo i<=k->k<lo (i+1)->ρ2 k=O' k:=λ{k} g1 g2=>ajq ⟨g1,g2⟩;have D4:∀{k},(k<lo i\/lo (i+1)<=k)->ρ2 k=O k:=λ{k} g=>ajm aa;have qZ:=p.mono i hi;have aeQ:lo 0<=lo i:=p.lo_le (ajk _) aa
 have N5:∀k,k<lo (i+1)->O' k=ρ2 k:=λk hk=>by
  by_cases KS:k<lo i
  ·rw [D4 (.inl KS),po.same k (by rw [e1];exact KS),uV KS]
  ·rw [abb aa hk]
 have TB:O'=iD ρ2 (lo (i+1)):=funext λk=>by
  by_cases hk:k<lo (i+1)
  ·rw [uV hk];exact N5 k hk
  ·rw [Bw aa];exact po.hd.new k (by rw [e3];omega)
 have fk:Ext O ρ2:=λk x hk=>by
  rw [<-hk];refine D4 ?_;rcases I.gq k (by rw [hk];simp)with g|⟨j,g1,g2,g3⟩
  ·exact .inl aa
  ·have bn:j≠i:=λe=>dj (e▸g1)
   have Zd:=hD j g1;rcases ajF j i with g|g
   ·have:=p.lo_le (m:=j+1) (i:=i) aa aa;exact .inl aa
   ·have:=p.lo_le (m:=i+1) (i:=j) aa aa;exact .inr aa
 have Ya:Ext (iD O (lo i)) O':=po.ext;have hmT:∀{k},touch i k->m2 k=i+1:=λ{k} g=>ajq g;have Yb:∀{k},¬touch i k->m2 k=m k:=λ{k} g=>ajm g;have see:∀{k},¬Hid A.size Bf touch i k->m k<=i/\H i k=H (m k) k:=λ{k} hk=>I.seen p od hD nH hi dj gP hk
 have hidden:∀{k o},Hid A.size Bf touch i k->H (m2 k) k=some o->¬touch i k/\m2 k=m k/\H (m k) k=some o/\ρ2 k=O k:=λ{k o} hk RI=>by
  have WH:¬touch i k:=λg=>p.apart i k hi g hk;refine⟨WH,Yb WH,by rw [Yb WH]at RI;exact RI,D4 ?_⟩;rcases ajF k (lo i)with g|g
  ·exact .inl g
  ·rcases ajF k (lo (i+1))with g'|g'
   ·exact absurd (p.new i k hi g g') WH
   ·exact .inr g'
 have left_:∀{k o},¬touch i k->¬Hid A.size Bf touch i k->H (m k) k=some o->s1.H.get k=some o/\s2.H.get k=some o/\k<lo i:=λ{k o} WH hk RI=>by
  obtain⟨g1,g2⟩:=see hk;have g3:s1.H.get k=some o:=by rw [h2 k hk,g2];exact RI
  have g4:k<lo i:=JZ.lt g3;exact⟨g3,by rw [po.keep k (by rw [e2];exact g4) (by rw [e1];exact g4) (by rw [e4];exact λg=>WH (p.wrT i k hi g))];exact g3,g4⟩
 have seen2:∀{k o},¬Hid A.size Bf touch i k->H (m2 k) k=some o->s2.H.get k=some o/\k<lo (i+1)/\ρ2 k=O' k:=λ{k o} hk RI=>by
  have g:s2.H.get k=some o:=by
   by_cases ht:touch i k
   ·rw [hmT ht,h3 k ht]at RI;exact RI
   ·rw [Yb ht]at RI;exact(left_ ht hk RI).2.1
  have g2:k<lo (i+1):=by rw [<-e3];exact po.hd.lt g
  exact⟨g,g2,(N5 k g2).symm⟩
 have back:∀{k o},s1.H.get k=some o->¬Hid A.size Bf touch i k/\H (m k) k=some o:=λ{k o} hk=>by
  have hn:¬Hid A.size Bf touch i k:=λhh=>by rw [h1 k hh]at hk;cases hk
  exact⟨hn,by rw [<-(see hn).2,<-h2 k hn];exact hk⟩
 refine⟨ρ2,m2,⟨λk=>?_,λk hk=>?_,λk hk=>?_,λk y hk=>?_,λk k' y y' b c c' hk oC hb cy=>?_,λb hb hn=>?_,λk y b c hk hb=>?_,ajW I.size po.size,I.io.trans po.io,λj hj k uM aX hnw=>?_,I.Vr,?_,?_,λt=>?_⟩⟩
 ·by_cases ht:touch i k
  ·refine .inr ⟨i,hmT ht,(oX i).2 (.inl rfl),ht,λj' mC Vt=>?_⟩
   rcases (oX j').1 mC with rfl|mC
   ·exact ajl _
   ·have:¬zm Bf i j':=λhu=>p.apart i k hi ht ⟨j',hD j' mC,hu,Vt⟩
    exact Nat.le_of_lt (od.lt i j' (sP dj nH mC this))
  ·rw [Yb ht]
   rcases I.X7 k with ⟨g1,g2⟩|⟨j,g1,g2,g3,g4⟩
   ·exact .inl ⟨g1,λj hj=>by
     rcases (oX j).1 hj with rfl|hj
     ·exact ht
     ·exact g2 j hj⟩
   ·exact .inr ⟨j,g1,(oX j).2 (.inr g2),g3,λj' mC Vt=>by
     rcases (oX j').1 mC with rfl|mC
     ·exact absurd Vt ht
     ·exact g4 j' mC Vt⟩
 ·rw [D4 (.inl aa)];exact I.base k hk
 ·by_cases KS:lo i<=k/\k<lo (i+1)
  ·exact .inr ⟨i,(oX i).2 (.inl rfl),KS⟩
  ·rw [D4 aa]at hk
   rcases I.gq k hk with g|⟨j,g1,g2⟩
   ·exact .inl g
   ·exact .inr ⟨j,(oX j).2 (.inr g1),g2⟩
 ·by_cases ht:touch i k
  ·rw [hmT ht]at hk ⊢
   rw [h3 k ht]at hk;obtain⟨b,c,x,g1,g2,g3⟩:=po.hd.obj k y hk;rw [TB]at g1 g3;exact⟨b,c,x,g1,g2,g3⟩
  ·rw [Yb ht]at hk ⊢
   obtain⟨b,c,x,g1,g2,g3⟩:=I.obj k y hk;have hx:Ext (iD O (lo (m k))) (iD ρ2 (lo (m k))):=jK fk (ajl _)
   by_cases hh:Hid A.size Bf touch i k
   ·refine⟨b,c,x,hx _ _ g1,?_,g3.ext hx⟩
    rw [po.frame b (ajL.1 g2).1 λk1 o1 c1 Wf j9=>?_]
    ·exact g2
    ·obtain⟨g4,g5⟩:=back Wf
     have:=I.inj k1 k _ _ b c1 c g5 hk (cQ j9).2 (cQ g1).2;subst this;exact g4 hh
   ·obtain⟨g4,g5,g6⟩:=left_ ht hh hk
    obtain⟨b',c',x',g7,g8,g9⟩:=po.hd.obj k y g5;obtain⟨g10,g11⟩:=see hh;have g12:Ext (iD O (lo (m k))) O':=(jK (Ext.refl _) (p.lo_le g10 aa)).trans Ya;rw [g12 _ _ g1]at g7;cases g7;exact⟨b,c,x',hx _ _ g1,g8,(g3.back g12 g9).ext hx⟩
 ·by_cases hh:Hid A.size Bf touch i k<;>by_cases Yc:Hid A.size Bf touch i k'
  ·obtain⟨_,_,g1,g2⟩:=hidden hh hk
   obtain⟨_,_,g3,g4⟩:=hidden Yc oC;exact I.inj k k' _ _ b c c' g1 g3 (by rw [<-g2];exact hb) (by rw [<-g4];exact cy)
  ·exfalso
   obtain⟨_,_,g1,g2⟩:=hidden hh hk;obtain⟨g3,_,g4⟩:=seen2 Yc oC;rw [g2]at hb;rw [g4]at cy;rcases po.fresh k' y' b c' g3 cy with g5|⟨k0,o0,c0,g5,g6⟩
   ·obtain⟨b1,c1,x1,g7,g8,_⟩:=I.obj k y g1
    rw [(cQ g7).2]at hb;cases hb;have:=(ajL.1 g8).1;omega
   ·obtain⟨g7,g8⟩:=back g5
    have:=I.inj k0 k _ _ b c0 c g8 g1 (cQ g6).2 hb;subst this;exact g7 hh
  ·exfalso
   obtain⟨_,_,g1,g2⟩:=hidden Yc oC;obtain⟨g3,_,g4⟩:=seen2 hh hk;rw [g2]at cy;rw [g4]at hb;rcases po.fresh k y b c g3 hb with g5|⟨k0,o0,c0,g5,g6⟩
   ·obtain⟨b1,c1,x1,g7,g8,_⟩:=I.obj k' y' g1
    rw [(cQ g7).2]at cy;cases cy;have:=(ajL.1 g8).1;omega
   ·obtain⟨g7,g8⟩:=back g5
    have:=I.inj k0 k' _ _ b c0 c' g8 g1 (cQ g6).2 cy;subst this;exact g7 Yc
  ·obtain⟨g1,_,g2⟩:=seen2 hh hk
   obtain⟨g3,_,g4⟩:=seen2 Yc oC;exact po.hd.inj k k' _ _ b c c' g1 g3 (by rw [<-g2];exact hb) (by rw [<-g4];exact cy)
 ·rw [po.frame b (ajT hb I.size) λk o c hk BW=>?_]
  ·exact I.frame b hb hn
  ·obtain⟨_,g1⟩:=back hk
   rcases I.fresh k o b c g1 (cQ BW).2 with g|⟨k0,o0,c0,g3,g4⟩
   ·omega
   ·exact hn k0 o0 c0 g3 g4
 ·by_cases hh:Hid A.size Bf touch i k
  ·obtain⟨_,_,g1,g2⟩:=hidden hh hk
   exact I.fresh k y b c g1 (by rw [<-g2];exact hb)
  ·obtain⟨g1,_,g2⟩:=seen2 hh hk
   rcases po.fresh k y b c g1 (by rw [<-g2];exact hb)with g|⟨k0,o0,c0,g3,g4⟩
   ·exact .inl (ajW I.size g)
   ·exact I.fresh k0 o0 b c0 (back g3).2 (cQ g4).2
 ·rcases (oX j).1 hj with rfl|hj
  ·have hh:¬Hid A.size Bf touch j k:=p.apart j k hi uM
   rw [h3 k uM,po.keep k (by rw [e2];exact aX) (by rw [e1];exact aX) (by rw [e4];exact hnw),h2 k hh]
  ·exact I.keep j hj k uM aX hnw
 ·cases Ij:o.dst<;>simp [Act.put,I.defers]
 ·cases Ij:o.dst<;>simp [Act.put,I.D3]
 ·by_cases Hr:o.dst=some t
  ·refine .inl ⟨i,(oX i).2 (.inl rfl),by rw [uC];exact Hr,?_⟩
   rw [Hr]at hd ⊢;have hd:J1 (T i) t v=some (T (i+1)):=hd;rw [rA hd,ajq rfl];obtain⟨g1,_⟩:=aE hd;have aX:t<a.tmps.size:=by rw [I.D3,<-p.size (Nat.le_of_lt hi)];exact ah g1
   have:(a.put (some t) u).tmps.getD t undef=u:=by simp [Act.put,aX]
   rw [this,<-TB];exact hv
  ·have g:(a.put o.dst u).tmps.getD t undef=a.tmps.getD t undef:=by
    cases Ij:o.dst with
    |none=>rfl
    |some d=>
     have bn:d≠t:=λe=>Hr (by rw [Ij,e]);simp [Act.put,Array.getD_eq_getD_getElem?,Array.getElem?_setIfInBounds_ne bn]
   rw [g];rcases I.tmp t with ⟨j,g1,g2,g3⟩|⟨g1,g2⟩
   ·exact .inl ⟨j,(oX j).2 (.inr g1),g2,g3.ext (jK fk (ajl _))⟩
   ·exact .inr ⟨λj hj=>by
     rcases (oX j).1 hj with rfl|hj
     ·rw [uC];exact Hr
     ·exact g1 j hj,g2.ext (jK fk (ajl _))⟩
end
end
section
variable{P:Program}{E:Ev}{A:Array Oper}{Bf:Nat->Nat->Prop}{T:Nat->cW}{H:Nat->Nat->Option CO}{lo:Nat->Nat}{wr:Nat->List Nat}{touch:Nat->Nat->Prop}
theorem TC{l:Array Bool}{i:Nat}(h:On l i):i<l.size:=by
 rcases ajF i l.size with h'|h'
 ·exact h'
 ·unfold On at h;rw [ajD h']at h;cases h
theorem N6(az:aR P E.TY)(hz:xK P E.TY E.TZ)(dJ:DJ P E)(p:jJ E A Bf T H lo wr touch)(od:DZ A Bf){R:Exit->Act->World->Prop}{ρ0:Rn}{w0:World}
  (hR:∀O m a w,Inv A T H lo wr touch ρ0 w0 (λi=>i<A.size) O m a w->R .normal a w):∀(fuel:Nat) (l:Array Bool) (O:Rn) (m:Nat->Nat) (a:Act) (w:World),l.size=A.size->(∀i,On l i->∀j,Bf i j->On l j)->ET l<=fuel->
   Inv A T H lo wr touch ρ0 w0 (On l) O m a w->wpAny P .any A R fuel l a w:=by
 have done_:∀(l:Array Bool) (O:Rn) (m:Nat->Nat) (a:Act) (w:World),l.size=A.size->(∀i,i<A.size->On l i)->Inv A T H lo wr touch ρ0 w0 (On l) O m a w->R .normal a w:=λl O m a w hl b5 I=>by
  have:On l=λi=>i<A.size:=funext λi=>propext ⟨λh=>by rw [<-hl];exact TC h,b5 i⟩;rw [this]at I;exact hR O m a w I
 intro fuel
 induction fuel with
 |zero=>
  intro l O m a w hl da hu I;have b5:∀i,i<A.size->On l i:=λi hi=>qE aa aa;refine⟨?_,done_ l O m a w hl b5 I⟩;rw [List.eq_nil_iff_forall_not_mem];intro i hi;obtain⟨o,ho,dj,_⟩:=(AM.mem_ready hl).1 hi;exact dj (b5 i (ajL.1 ho).1)
 |succ fuel ih=>
  intro l O m a w hl da hu I;refine⟨λmN=>done_ l O m a w hl (λi hi=>?_) I,λi hi=>?_⟩
  ·induction i using Nat.strongRecOn with
   |ind i ihi=>
    refine ajy λdj=>?_
    have:i∈Region.ready .any A l:=(AM.mem_ready hl).2 ⟨A[i],ajE hi,dj,λe he hb=>by
     have:=od.back i _ (ajE hi) e he hb;exact ihi e.on this aa⟩
    rw [mN]at this;cases this
  ·obtain⟨o,ho,dj,TD⟩:=(AM.mem_ready hl).1 hi
   have FB:i<A.size:=(ajL.1 ho).1;have bD:i<l.size:=aa
   have gP:∀j,Bf i j->On l j:=λj hj=>by
    obtain⟨o',oW,e,he,hb,h⟩:=od.Jt i j hj;rw [ho]at oW;cases oW;rcases h with rfl|h
    ·exact TD e he hb
    ·exact da _ (TD e he hb) j h
   have hD:∀i,On l i->i<A.size:=λi h=>by rw [<-hl];exact TC h
   have oX:∀j,On (l.setIfInBounds i true) j↔j=i\/On l j:=λj=>nn bD
   have Qy:∀k,On (l.setIfInBounds i true) k->∀j,Bf k j->On (l.setIfInBounds i true) j:=λk hk j hj=>by
    rw [oX]at hk ⊢;rcases hk with rfl|hk
    ·exact .inr (gP j hj)
    ·exact .inr (da k hk j hj)
   have AK:ET (l.setIfInBounds i true)<=fuel:=by have:=oc bD dj;omega
   obtain⟨g,hg,h1,h2⟩:=p.step i o ho;have TE:∀t,t∈o.looksAt A->ef (iD O (lo i)) (l9 (T i) t) (a.tmps.getD t undef):=λt ht=>I.X8 p od hD da ho FB dj gP ht;have hw:=Ii (a:=a) hg TE;simp only [wpOp,ho];cases g with
   |true=>
    rw [ajq hw];obtain⟨v,s1,s2,ZI,hd,e1,e2,e3,e4,g1,g2,g3⟩:=h1 rfl;have JZ:Hd (iD O (lo i)) s1.H.get s1.nx w:=by rw [e1];exact I.hd p od hD da FB dj gP g1 g2
    refine .inl ((TA (e:=a.eval) (oo:=o) az hz dJ ZI rfl JZ (NZ TE)).wp λu w' ⟨O',po,hv⟩=>?_);obtain⟨ρ2,m2,I2⟩:=I.next p od hD da ho FB dj gP hd e1 e2 e3 e4 g1 g2 g3 po hv oX;exact ih _ ρ2 m2 _ _ (by simp [hl]) Qy AK I2
   |false=>
    rw [ajm (by rw [hw];simp)];obtain⟨hd,_,ht⟩:=h2 rfl;exact ih _ O m _ _ (by simp [hl]) Qy AK (I.skip p od ho FB dj hd ht oX)
theorem Ik(az:aR P E.TY)(hz:xK P E.TY E.TZ)(dJ:DJ P E)(hm:P.follows .mixedOrders=true)(p:jJ E A Bf T H lo wr touch)(od:DZ A Bf){R:Exit->Act->World->Prop}{O:Rn}{w:World}{a:Act}{s s':HS}{T0 T1:cW}{id:Nat}
  (h0:H 0=s.H.get) (Ha:lo 0=s.nx) (hn:H A.size=s'.H.get) (hln:lo A.size=s'.nx) (hwb:s'.wb=s.wb) (pa:∀k,k∈s.wr->k∈s'.wr) (hwr:∀i k,i<A.size->k∈wr i->k<s.wb->k∈s'.wr) (hT:T 0=T0) (Xo:T A.size=T1)
  (hd:Hd O s.H.get s.nx w) (tm:zl O T0 a) (hR:∀O' a' w',bM O O' s s' w w'->zl O' T1 a'->R .normal a' w'):(Code.region id A true).wp P R a w:=by
 refine wp_region_any hm ?_
 have N5:iD O (lo 0)=O:=funext λk=>by
  by_cases hk:k<lo 0
  ·exact uV hk
  ·rw [Bw aa,hd.new k aa]
 have dF:∀i,¬On (Array.replicate A.size false) i:=λi hi=>by
  unfold On at hi;rw [Array.getElem?_replicate]at hi;split at hi<;>cases hi
 refine N6 az hz dJ p od (ρ0:=O) (w0:=w) (λO' m a' w' I=>?_) A.size _ O (λ_=>0) a _ (by simp) (λi hi=>absurd hi (dF i)) (by simp [ET]) ?_
 ·have b5:∀k,H A.size k=H (m k) k:=λk=>by
   rcases I.X7 k with ⟨h1,h2⟩|⟨j,h1,h2,h3,h4⟩
   ·rw [h1];exact p.keys (ajk _) (ajl _) λj _ hj ht=>h2 j hj ht
   ·rw [h1];exact p.keys aa (ajl _) λj' mS jX ht=>by have:=h4 j' jX ht;omega
  have aeT:∀k,m k<=A.size:=λk=>by
   rcases I.X7 k with ⟨h1,_⟩|⟨j,h1,h2,_⟩<;>omega
  have hex:Ext O O':=λk x hk=>by
   have:k<lo 0:=Nat.lt_of_not_le λh=>by rw [hd.new k aa]at hk;cases hk
   rw [I.base k this];exact hk
  have jb:∀k,s'.nx<=k->O' k=none:=λk hk=>ajy λbn=>by
   rcases I.gq k bn with h|⟨j,h1,_,h2⟩
   ·have:=p.lo_le (m:=0) (ajk A.size) (ajl _);omega
   ·have:=p.lo_le (m:=j+1) (i:=A.size) h1 (ajl _);omega
  have hk:∀{k o},s'.H.get k=some o->H (m k) k=some o:=λ{k o} h=>by rw [<-b5,hn];exact h
  refine hR O' a' w' ⟨hex,⟨λk o ho=>?_,λk k' o o' b c c' ho oW hb cy=>I.inj k k' o o' b c c' (hk ho) (hk oW) hb cy,jb,I.lw,λk o b c ho hb=>I.nz (hk ho) hb⟩,λb hb dj=>I.frame b hb λk o c ho=>dj k o c (by rw [<-h0];exact ho),λk o b c ho hb=>?_,I.size,I.io,?_,λk aX=>I.base k aa,hwb,pa,λk h1 h2 h3=>?_⟩ ⟨I.defers,?_,λt=>?_⟩
  ·obtain⟨b,c,x,h1,h2,h3⟩:=I.obj k o (hk ho)
   exact⟨b,c,x,uW _ _ _ _ h1,h2,h3.ext (uW _ _)⟩
  ·rcases I.fresh k o b c (hk ho) hb with h|⟨k0,o0,c0,h1,h2⟩
   ·exact .inl h
   ·exact .inr ⟨k0,o0,c0,by rw [<-h0];exact h1,h2⟩
  ·rw [<-Ha,<-hln];exact p.lo_le (ajk _) (ajl _)
  ·have key:∀i,i<=A.size->H i k=H 0 k:=by
    intro i
    induction i with
    |zero=>exact λ_=>rfl
    |succ i ih=>
     intro hi;rw [<-ih aa]
     by_cases ht:touch i k
     ·have:=p.lo_le (m:=0) (i:=i) (ajk _) aa
      exact I.keep i hi k ht aa λhw=>h3 (hwr i k hi hw h1)
     ·exact p.rest i k hi ht
   rw [<-hn,<-h0];exact key A.size (ajl _)
  ·rw [I.D3,<-Xo,p.size (ajl _)]
  ·rw [<-Xo]
   rcases I.tmp t with ⟨j,h1,h2,h3⟩|⟨h1,h2⟩
   ·rw [p.D0 (t:=t) (m:=j+1) h1 (ajl _) λj' mS jX Ij=>by have:=od.Mv j' j t Ij h2;omega]
    exact h3.ext (uW _ _)
   ·rw [p.D0 (t:=t) (m:=0) (ajk _) (ajl _) λj' _ jX Ij=>h1 j' jX Ij]
    exact h2.ext (uW _ _)
 ·refine⟨λk=>.inl ⟨rfl,λj hj=>absurd hj (dF j)⟩,λ_ _=>rfl,λk hk=>.inl (Nat.lt_of_not_le λh=>hk (hd.new k aa)),λk o ho=>?_,λk k' o o' b c c' ho oW hb cy=>?_,λb _ _=>rfl,λk o b c ho hb=>.inr ⟨k,o,c,ho,hb⟩,ajl _,⟨⟨rfl,rfl⟩,rfl,akg _⟩,λi hi=>absurd hi (dF i),⟨hd.lw,λk o b c hk hb=>hd.nz k o b c (by rw [<-h0];exact hk) hb⟩,tm.defers,?_,λt=>.inr ⟨λj hj=>absurd hj (dF j),?_⟩⟩
  ·show ∃b c x,iD O (lo 0) k=some (b,c)/\w.heap[b]? =some x/\B5 (iD O (lo 0)) c o x
   rw [N5];have ho:H 0 k=some o:=ho;rw [h0]at ho;exact hd.obj k o ho
  ·have ho:H 0 k=some o:=ho
   have oW:H 0 k'=some o':=oW;rw [h0]at ho oW;exact hd.inj k k' o o' b c c' ho oW hb cy
  ·rw [hT];exact tm.size
  ·rw [N5,hT];exact tm.tmp t
end
theorem uX(m j:Nat):oJ m j=m.testBit j:=by
 unfold oJ Nat.testBit;have h1:Nat.land (Nat.shiftRight m j) 1=1 &&& m >>> j:=Nat.and_comm _ _;rw [h1];have h2:1 &&& m >>> j=(m >>> j) % 2:=by rw [Nat.and_comm,Nat.and_one_is_mod]
 rw [h2];rcases Nat.mod_two_eq_zero_or_one (m >>> j)with h|h<;>rw [h]<;>rfl
theorem Bx{C:List Nat}{j:Nat}:∀{l:List Edge} {acc:Nat},oJ (Tw C l acc) j=true↔oJ acc j=true\/∃e∈l,e7 e=true/\(e.on=j\/oJ (C.getD e.on 0) j=true)
 |[],acc=>by simp [Tw]
 |e::l,acc=>by
  simp only [Tw];cases hb:e7 e with
  |true=>
   simp only [Bx (l:=l)]
   have:oJ (Nat.lor (Nat.lor acc (Nat.shiftLeft 1 e.on)) (C.getD e.on 0)) j=true↔oJ acc j=true\/e.on=j\/oJ (C.getD e.on 0) j=true:=by
    simp only [uX];have e1:Nat.lor (Nat.lor acc (Nat.shiftLeft 1 e.on)) (C.getD e.on 0)=(acc ||| 1 <<< e.on) ||| C.getD e.on 0:=rfl
    rw [e1,Nat.testBit_or,Nat.testBit_or,Nat.one_shiftLeft,Nat.testBit_two_pow];simp only [Bool.or_eq_true,decide_eq_true_eq,or_assoc]
   rw [this]
   constructor
   ·rintro ((h|h)|⟨e',h1,h2⟩)
    ·exact .inl h
    ·exact .inr ⟨e,by simp,hb,h⟩
    ·exact .inr ⟨e',ajj _ h1,h2⟩
   ·rintro (h|⟨e',h1,h2,h3⟩)
    ·exact .inl (.inl h)
    ·rcases ajo.1 h1 with rfl|h1
     ·exact .inl (.inr h3)
     ·exact .inr ⟨e',h1,h2,h3⟩
  |false=>
   simp only [Bx (l:=l)]
   constructor
   ·rintro (h|⟨e',h1,h2⟩)
    ·exact .inl h
    ·exact .inr ⟨e',ajj _ h1,h2⟩
   ·rintro (h|⟨e',h1,h2,h3⟩)
    ·exact .inl h
    ·rcases ajo.1 h1 with rfl|h1
     ·rw [hb]at h2;cases h2
     ·exact .inr ⟨e',h1,h2,h3⟩
theorem sQ{i:Nat}:∀{l:List Oper} {C:List Nat},i<C.length->(dG l C).getD i 0=C.getD i 0
 |[],C,_=>rfl
 |o::l,C,h=>by
  rw [dG,sQ (by simp;omega)];simp [List.getD_eq_getElem?_getD,List.getElem?_append_left h]
theorem zn{i j:Nat}:∀{l:List Oper} {C:List Nat},oJ ((dG l C).getD i 0) j=true->C.length<=i->∃o,l[i - C.length]? =some o/\∃e∈o.after.toList,e7 e=true/\(e.on=j\/oJ ((dG l C).getD e.on 0) j=true)
 |[],C,h,hi=>by
  have:(dG [] C).getD i 0=0:=by simp [dG,List.getD_eq_getElem?_getD,List.getElem?_eq_none hi]
  rw [this,uX]at h;simp at h
 |o::l,C,h,hi=>by
  by_cases he:i=C.length
  ·subst he
   refine⟨o,by simp,?_⟩
   have e1:(dG (o::l) C).getD C.length 0=Tw C o.after.toList 0:=by
    rw [dG,sQ (by simp)];simp [List.getD_eq_getElem?_getD]
   rw [e1,Bx]at h;rcases h with h|⟨e,h1,h2,h3⟩
   ·rw [uX]at h;simp at h
   ·refine⟨e,h1,h2,h3.imp id λh3=>?_⟩
    rcases ajF e.on C.length with h4|h4
    ·rw [sQ h4];exact h3
    ·have:C.getD e.on 0=0:=by simp [List.getD_eq_getElem?_getD,List.getElem?_eq_none h4]
     rw [this,uX]at h3;simp at h3
  ·rw [dG]at h
   obtain⟨o',h1,h2⟩:=zn h (by simp;omega);refine⟨o',?_,h2⟩;rw [show i - C.length=(i - (C++[Tw C o.after.toList 0]).length)+1 by simp;omega]
   simpa using h1
theorem zo{i:Nat}:∀{l:List Edge},zd i l=true->∀e∈l,e7 e=true->e.on<i
 |[],_,e,h,_=>by cases h
 |e0::l,h,e,he,hb=>by
  simp only [zd]at h;rcases ajo.1 he with rfl|he
  ·rw [hb]at h
   simp only []at h;split at h
   ·rename_i h1;exact ah h1
   ·cases h
  ·refine zo ?_ e he hb
   split at h
   ·split at h
    ·exact h
    ·cases h
   ·exact h
theorem D5{C:List Nat}{i j:Nat}:re C i j=true↔j=i\/oJ (C.getD i 0) j=true\/oJ (C.getD j 0) i=true:=by
 unfold re;cases h:Nat.beq j i with
 |true=>simp [aA.1 h]
 |false=>
  have bn:j≠i:=beq_false h;cases h2:oJ (C.getD i 0) j<;>simp [bn]
theorem zp{C:List Nat}{i t:Nat}:∀{D:List (Nat × Nat)},ze C i t D=true->∀j,(t,j)∈D->re C i j=true
 |[],_,j,h=>by cases h
 |p::D,h,j,hj=>by
  simp only [ze]at h;rcases ajo.1 hj with rfl|hj
  ·rw [aA.2 rfl]at h
   simp only []at h;split at h
   ·assumption
   ·cases h
  ·refine zp ?_ j hj
   split at h
   ·exact h
   ·split at h
    ·exact h
    ·cases h
theorem zq{C:List Nat}{i:Nat}{D:List (Nat × Nat)}:∀{l:List Nat},DE C i D l=true->∀t∈l,ze C i t D=true
 |[],_,t,h=>by cases h
 |a::l,h,t,ht=>by
  simp only [DE]at h;split at h
  ·rcases ajo.1 ht with rfl|ht
   ·assumption
   ·exact zq h t ht
  ·cases h
theorem zt{d:Nat}:∀{l:List (Nat × Nat)},H0 d l=true->∀p∈l,p.1≠d
 |[],_,p,h=>by cases h
 |q::l,h,p,hp=>by
  simp only [H0]at h;split at h
  ·cases h
  ·rcases ajo.1 hp with rfl|hp
   ·exact beq_false (by assumption)
   ·exact zt h p hp
theorem w6{d i j:Nat}:∀{l:List (Nat × Nat)},Bk l=true->(d,i)∈l->(d,j)∈l->i=j
 |[],_,h,_=>by cases h
 |q::l,h,h1,h2=>by
  simp only [Bk]at h;split at h
  ·rename_i hn
   have hn:=zt hn;rcases ajo.1 h1 with g1|g1
   ·subst g1
    rcases ajo.1 h2 with g2|g2
    ·cases g2;rfl
    ·exact absurd rfl (hn (d,j) g2)
   ·rcases ajo.1 h2 with g2|g2
    ·subst g2;exact absurd rfl (hn (d,i) g1)
    ·exact w6 h g1 g2
  ·cases h
theorem zu{d:Nat}:∀{l:List Oper} {i j:Nat} {o:Oper},l[j]? =some o->o.dst=some d->(d,i+j)∈tz l i
 |[],i,j,o,h,_=>by simp at h
 |o'::l,i,0,o,h,hd=>by
  simp at h;subst h;simp only [tz,hd];exact ajn
 |o'::l,i,j+1,o,h,hd=>by
  have:=zu (i:=i+1) (l:=l) (by simpa using h) hd;rw [show i+1+j=i+(j+1) by omega]at this;simp only [tz];split
  ·exact ajj _ this
  ·exact this
theorem w7{A:Array Oper}{C:List Nat}{D:List (Nat × Nat)}:∀{l:List Oper} {i:Nat},Bl A C D l i=true->∀j o,l[j]? =some o->zd (i+j) o.after.toList=true/\DE C (i+j) D (o.looksAt A)=true
 |[],i,_,j,o,h=>by simp at h
 |o'::l,i,h,j,o,ho=>by
  simp only [Bl]at h;split at h
  ·cases h
  ·split at h
   ·cases h
   ·cases j with
    |zero=>simp at ho;subst ho;exact⟨by assumption,by assumption⟩
    |succ j=>
     have:=w7 h j o (by simpa using ho);rw [show i+1+j=i+(j+1) by omega]at this;exact this
def TF(A:Array Oper)(i j:Nat):Prop:=oJ ((dG A.toList []).getD i 0) j=true
theorem RJ{A:Array Oper}(h:F7 A=true):DZ A (TF A):=by
 unfold F7 at h;split at h
 ·cases h
 rename_i abd;have key:=w7 h
 have mem:∀{i d},bK A i=some d->(d,i)∈tz A.toList 0:=λ{i d} hi=>by
  obtain⟨o,ho,hd⟩:=Option.bind_eq_some_iff.1 hi;have:=zu (i:=0) (l:=A.toList) (j:=i) (o:=o) (by rw [ajt];exact ho) hd;rw [ajQ]at this;exact this
 have back:∀i o,A[i]? =some o->∀e∈o.after,e7 e=true->e.on<i:=λi o ho e he hb=>by
  have:=(key i o (by rw [ajt];exact ho)).1;rw [ajQ]at this;exact zo this e (aj6.2 he) hb
 have Jt:∀i j,TF A i j->∃o,A[i]? =some o/\∃e∈o.after,e7 e=true/\(e.on=j\/TF A e.on j):=λi j hb=>by
  obtain⟨o,h1,e,h2,h3⟩:=zn hb (ajk _);exact⟨o,by rw [<-ajt];simpa using h1,e,aj6.1 h2,h3⟩
 refine⟨λi=>?_,Jt,back,λi o ho t ht j hj=>?_,λi j d hi hj=>w6 (by simpa using abd) (mem hi) (mem hj)⟩
 ·induction i using Nat.strongRecOn with
  |ind i ih=>
   intro j hb;obtain⟨o,ho,e,he,Yd,h1⟩:=Jt i j hb;have h2:=back i o ho e he Yd;rcases h1 with rfl|h1
   ·exact h2
   ·exact Nat.lt_trans (ih e.on h2 j h1) h2
 ·have:=(key i o (by rw [ajt];exact ho)).2
  rw [ajQ]at this;exact D5.1 (zp (zq this t ht) j (mem hj))
theorem w8{k:Nat}:∀{l:List Nat} {H:Tr CO},(tw l H).get k=if k∈l then none else H.get k
 |[],H=>by simp [tw]
 |j::l,H=>by
  simp only [tw,w8 (l:=l),Tr.fw,ajo]
  by_cases h1:k∈l
  ·simp [h1]
  ·by_cases h2:k=j<;>simp [h1,h2]
theorem w9{G:Tr CO}{k:Nat}:∀{l:List Nat} {H:Tr CO},(tx G l H).get k=if k∈l then G.get k else H.get k
 |[],H=>by simp [tx]
 |j::l,H=>by
  simp only [tx,w9 (l:=l),Tr.fw,ajo]
  by_cases h1:k∈l
  ·simp [h1]
  ·by_cases h2:k=j
   ·subst h2;simp [h1]
   ·simp [h1,h2]
theorem mem_range{k:Nat}:∀{n lo:Nat},k∈pH lo n↔lo<=k/\k<lo+n
 |0,lo=>by simp [pH]
 |n+1,lo=>by simp only [pH,ajo,mem_range (n:=n)];omega
theorem mem_keys{h:Hint}{k:Nat}:k∈h.keys↔k∈h.ws\/(h.lo<=k/\k<h.hi):=by
 unfold Hint.keys;rw [ajK,mem_range]
 constructor
 ·rintro (h|h)
  ·exact .inl h
  ·exact .inr aa
 ·rintro (h|h)
  ·exact .inl h
  ·exact .inr aa
theorem jL{h:Hint}:h.idle=true↔h.ws=[]/\h.hi<=h.lo:=by
 unfold Hint.idle;cases hw:h.ws with
 |nil=>simp
 |cons=>simp
theorem zw{h:Hint}(hi:h.idle=true)(k:Nat):k∉h.keys:=by
 obtain⟨h1,h2⟩:=jL.1 hi;rw [mem_keys,h1];rintro (h|h)
 ·cases h
 ·omega
theorem Il{m:List Nat}:∀{l:List Nat},J5 l m=true->∀k∈l,k∉m
 |[],_,k,h=>by cases h
 |a::l,h,k,hk=>by
  simp only [J5]at h;split at h
  ·cases h
  ·rename_i hm
   rcases ajo.1 hk with rfl|hk
   ·intro h2;rw [rf.2 h2]at hm;cases hm
   ·exact Il h k hk
theorem Im{m:List Nat}:∀{l:List Nat},wG l m=true->∀k∈l,k∈m
 |[],_,k,h=>by cases h
 |a::l,h,k,hk=>by
  simp only [wG]at h;split at h
  ·rename_i hm
   rcases ajo.1 hk with rfl|hk
   ·exact rf.1 hm
   ·exact Im h k hk
  ·cases h
theorem mf{C:List Nat}{i:Nat}{x:Hint}:∀{hs:List Hint} {j0:Nat},x∈others C i hs j0↔∃j,hs[j]? =some x/\x.idle=false/\re C i (j0+j)=false
 |[],j0=>by simp [others]
 |h::hs,j0=>by
  have ih:=mf (C:=C) (i:=i) (x:=x) (hs:=hs) (j0:=j0+1)
  have rest:(∃j,hs[j]? =some x/\x.idle=false/\re C i (j0+1+j)=false)↔∃j,(h::hs)[j+1]? =some x/\x.idle=false/\re C i (j0+(j+1))=false:=by
   constructor<;>rintro⟨j,h1,h2,h3⟩<;>refine⟨j,by simpa using h1,h2,?_⟩
   ·rw [show j0+(j+1)=j0+1+j by omega];exact h3
   ·rw [show j0+1+j=j0+(j+1) by omega];exact h3
  have split_:(∃j,(h::hs)[j]? =some x/\x.idle=false/\re C i (j0+j)=false)↔(h=x/\x.idle=false/\re C i j0=false)\/∃j,(h::hs)[j+1]? =some x/\x.idle=false/\re C i (j0+(j+1))=false:=by
   constructor
   ·rintro⟨j,h1,h2,h3⟩
    cases j with
    |zero=>exact .inl ⟨by simpa using h1,h2,h3⟩
    |succ j=>exact .inr ⟨j,h1,h2,h3⟩
   ·rintro (⟨h1,h2,h3⟩|⟨j,h1⟩)
    ·exact⟨0,by simp [h1],h2,h3⟩
    ·exact⟨j+1,h1⟩
  rw [split_,<-rest,<-ih];simp only [others];cases TG:h.idle with
  |true=>
   simp only [];refine⟨.inr,?_⟩;rintro (⟨rfl,h2,_⟩|h)
   ·rw [TG]at h2;cases h2
   ·exact h
  |false=>
   cases ho:re C i j0 with
   |true=>
    simp only [];refine⟨.inr,?_⟩;rintro (⟨_,_,h3⟩|h)
    ·cases h3
    ·exact h
   |false=>
    simp only [ajo]
    constructor
    ·rintro (rfl|h)
     ·exact .inl ⟨rfl,TG,ag⟩
     ·exact .inr h
    ·rintro (⟨rfl,_⟩|h)
     ·exact .inl rfl
     ·exact .inr h
theorem zx{k:Nat}:∀{l:List Hint},k∈jE l↔∃h∈l,k∈h.keys
 |[]=>by simp [jE]
 |h::l=>by
  have:jE (h::l)=h.keys++jE l\/jE (h::l)=h.ws++(pH h.lo (h.hi - h.lo)++jE l):=by
   first|exact .inl rfl|exact .inr rfl
  have e:k∈jE (h::l)↔k∈h.keys\/k∈jE l:=by
   unfold Hint.keys;rcases this with e|e<;>rw [e]<;>simp [Hint.keys,or_assoc]
  rw [e,zx (l:=l)];simp
theorem tB:∀{l:List Hint},uO l=true->∀h∈l,h.idle=true
 |[],_,h,hm=>by cases hm
 |a::l,h,x,hx=>by
  simp only [uO]at h;split at h
  ·rcases ajo.1 hx with rfl|hx
   ·assumption
   ·exact tB h x hx
  ·cases h
theorem xa{C:List Nat}{hs:List Hint}:∀{n:Nat},Bi C hs n=true->∀i,i<n->others C i hs 0=[]
 |0,_,i,h=>by omega
 |n+1,h,i,hi=>by
  simp only [Bi]at h;split at h
  ·rename_i hn
   by_cases e:i=n
   ·subst e;exact hn
   ·exact xa h i aa
  ·cases h
theorem Bz{A:Array Oper}{i j:Nat}:re (dG A.toList []) i j=false↔zm (TF A) i j:=by
 have:=D5 (C:=dG A.toList []) (i:=i) (j:=j)
 constructor
 ·intro h
  refine⟨λe=>?_,λe=>?_,λe=>?_⟩<;>(rw [this.2 (by first|exact .inl e|exact .inr (.inl e)|exact .inr (.inr e))]at h;cases h)
 ·intro h
  cases hb:re (dG A.toList []) i j with
  |false=>rfl
  |true=>rcases this.1 hb with e|e|e<;>first|exact absurd e h.1|exact absurd e h.2.1|exact absurd e h.2.2
section
variable{P:Program}{E:Ev}{A:Array Oper}
def Io(E:Ev)(A:Array Oper)(j:Nat)(T:cW)(s:HS)(T1:cW)(s1:HS)(h:Hint):Prop:=
 ∃o g,A[j]? =some o/\Vh A o.guard T=some g/\
  (g=true->∃v p,F5 E o.op T ⟨s.H,s.nx,s.nx,[]⟩=some (v,p)/\s.nx<=p.nx/\oI o.dst T v=some T1/\h=⟨p.wr,s.nx,p.nx⟩/\s1=za s p h)/\
  (g=false->oI o.dst T (.t [])=some T1/\h=⟨[],s.nx,s.nx⟩/\s1=s)
def Ip(E:Ev)(A:Array Oper)(hs:List Hint)(j:Nat)(T:cW)(s:HS)(T1:cW)(s1:HS)(wr:List Nat):Prop:=
 ∃o h g,A[j]? =some o/\hs[j]? =some h/\h.lo=s.nx/\h.lo<=h.hi/\J5 h.keys (jE (others (dG A.toList []) j hs 0))=true/\Vh A o.guard T=some g/\
  (g=true->∃v p,F5 E o.op T ⟨tw (jE (others (dG A.toList []) j hs 0)) s.H,s.nx,s.nx,[]⟩=some (v,p)/\h.hi=p.nx/\wG p.wr h.ws=true/\oI o.dst T v=some T1/\s1=⟨tx p.H h.keys s.H,p.nx,s.wb,pD s.wb p.wr s.wr⟩/\wr=p.wr)/\
  (g=false->h.idle=true/\oI o.dst T (.t [])=some T1/\s1=s/\wr=[])
theorem zy{rest:List Oper}{o:Oper}{i:Nat}(hr:A.toList.drop i=o::rest):A[i]? =some o/\A.toList.drop (i+1)=rest/\i<A.size:=by
 have hi:A[i]? =some o:=by
  have:=ajs (·.head?) hr;simp [List.head?_drop]at this;exact this
 refine⟨hi,?_,(ajL.1 hi).1⟩;have:=ajs List.tail hr
 simpa [List.tail_drop]using this
theorem drop_nil{i:Nat}(hr:A.toList.drop i=[])(hi:i<=A.size):i=A.size:=by
 have:=ajs List.length hr;simp at this;omega
theorem tC:∀(rest:List Oper) (i:Nat) {acc:List Hint} {T T':cW} {s s':HS} {hs:List Hint},A.toList.drop i=rest->i<=A.size->acc.length=i->q9 E A rest acc T s=some (T',s',hs)->
  ∃(Tf:Nat->cW) (sf:Nat->HS),Tf i=T/\sf i=s/\Tf A.size=T'/\sf A.size=s'/\hs.length=A.size/\(∀j,j<i->hs[j]? =acc.reverse[j]?)/\∀j,i<=j->j<A.size->∃h,hs[j]? =some h/\Io E A j (Tf j) (sf j) (Tf (j+1)) (sf (j+1)) h
 |[],i,acc,T,T',s,s',hs,hr,hi,tQ,h=>by
  cases h;have:=drop_nil hr hi;subst this;exact⟨λ_=>T,λ_=>s,rfl,rfl,rfl,rfl,by simp [tQ],λ_ _=>rfl,λj h1 h2=>by omega⟩
 |o::rest,i,acc,T,T',s,s',hs,hr,hi,tQ,h=>by
  obtain⟨ho,Fj,aX⟩:=zy hr;obtain⟨g,hg,h⟩:=aw h
  have key:∀{T1:cW} {s1:HS} {x:Hint},q9 E A rest (x::acc) T1 s1=some (T',s',hs)->Io E A i T s T1 s1 x->∃(Tf:Nat->cW) (sf:Nat->HS),Tf i=T/\sf i=s/\Tf A.size=T'/\sf A.size=s'/\hs.length=A.size/\(∀j,j<i->hs[j]? =acc.reverse[j]?)/\
    ∀j,i<=j->j<A.size->∃h,hs[j]? =some h/\Io E A j (Tf j) (sf j) (Tf (j+1)) (sf (j+1)) h:=λ{T1 s1 x} h cX=>by
   obtain⟨Tf,sf,g1,g2,g3,g4,g5,g6,g7⟩:=tC rest (i+1) Fj aX (by simp [tQ]) h
   have hx:hs[i]? =some x:=by
    rw [g6 i (Nat.lt_succ_self i)];simp [tQ]
   refine⟨λj=>if j<=i then T else Tf j,λj=>if j<=i then s else sf j,by simp,by simp,by simp [show ¬A.size<=i by omega,g3],by simp [show ¬A.size<=i by omega,g4],g5,λj hj=>?_,λj h1 h2=>?_⟩
   ·rw [g6 j aa]
    simp [List.getElem?_append_left,tQ,hj]
   ·by_cases e:j=i
    ·subst e
     refine⟨x,hx,?_⟩;have e1:¬j+1<=j:=aa;simp only [ajl,if_true,e1,if_false,g1,g2];exact cX
    ·obtain⟨y,h3,h4⟩:=g7 j aa h2
     refine⟨y,h3,?_⟩;have e1:¬j<=i:=aa;have e2:¬j+1<=i:=aa;simp only [e1,e2,if_false];exact h4
  cases g with
  |true=>
   obtain⟨p,h1,h⟩:=aw h;obtain⟨h2,h⟩:=aE h;obtain⟨T1,h3,h⟩:=aw h;exact key h ⟨o,true,ho,hg,λ_=>⟨p.1,p.2,h1,ah h2,h3,rfl,rfl⟩,λe=>by cases e⟩
  |false=>
   obtain⟨T1,h3,h⟩:=aw h;exact key h ⟨o,false,ho,hg,λe=>(by cases e),λ_=>⟨h3,rfl,rfl⟩⟩
theorem xb{hs:List Hint}:∀(rest:List Oper) (i:Nat) {T T':cW} {s s':HS},A.toList.drop i=rest->i<=A.size->wH E A (dG A.toList []) hs rest i T s=some (T',s')->
  ∃(Tf:Nat->cW) (sf:Nat->HS) (wf:Nat->List Nat),Tf i=T/\sf i=s/\Tf A.size=T'/\sf A.size=s'/\∀j,i<=j->j<A.size->Ip E A hs j (Tf j) (sf j) (Tf (j+1)) (sf (j+1)) (wf j)
 |[],i,T,T',s,s',hr,hi,h=>by
  cases h;have:=drop_nil hr hi;subst this;exact⟨λ_=>T,λ_=>s,λ_=>[],rfl,rfl,rfl,rfl,λj h1 h2=>by omega⟩
 |o::rest,i,T,T',s,s',hr,hi,h=>by
  obtain⟨ho,Fj,aX⟩:=zy hr;obtain⟨x,hx,h⟩:=aw h;obtain⟨KN,h⟩:=aE h;obtain⟨hle,h⟩:=aE h;obtain⟨Ye,h⟩:=aE h;obtain⟨g,hg,h⟩:=aw h
  have key:∀{T1:cW} {s1:HS} {wr:List Nat},wH E A (dG A.toList []) hs rest (i+1) T1 s1=some (T',s')->Ip E A hs i T s T1 s1 wr->∃(Tf:Nat->cW) (sf:Nat->HS) (wf:Nat->List Nat),Tf i=T/\sf i=s/\Tf A.size=T'/\sf A.size=s'/\
    ∀j,i<=j->j<A.size->Ip E A hs j (Tf j) (sf j) (Tf (j+1)) (sf (j+1)) (wf j):=λ{T1 s1 wr} h cX=>by
   obtain⟨Tf,sf,wf,g1,g2,g3,g4,g5⟩:=xb rest (i+1) Fj aX h;refine⟨λj=>if j<=i then T else Tf j,λj=>if j<=i then s else sf j,λj=>if j<=i then wr else wf j,by simp,by simp,by simp [show ¬A.size<=i by omega,g3],by simp [show ¬A.size<=i by omega,g4],λj h1 h2=>?_⟩
   by_cases e:j=i
   ·subst e
    have e1:¬j+1<=j:=aa;simp only [ajl,if_true,e1,if_false,g1,g2];exact cX
   ·have e1:¬j<=i:=aa
    have e2:¬j+1<=i:=aa;simp only [e1,e2,if_false];exact g5 j aa h2
  cases g with
  |true=>
   obtain⟨p,h1,h⟩:=aw h;obtain⟨h2,h⟩:=aE h;obtain⟨h4,h⟩:=aE h;obtain⟨T1,h3,h⟩:=aw h;exact key h ⟨o,x,true,ho,hx,aA.1 KN,ah hle,Ye,hg,λ_=>⟨p.1,p.2,h1,aA.1 h2,h4,h3,rfl,rfl⟩,λe=>by cases e⟩
  |false=>
   obtain⟨h4,h⟩:=aE h;obtain⟨T1,h3,h⟩:=aw h;exact key h ⟨o,x,false,ho,hx,aA.1 KN,ah hle,Ye,hg,λe=>(by cases e),λ_=>⟨h4,h3,rfl,rfl⟩⟩
theorem N7{n:Nat}{sf:Nat->HS}{wf:Nat->List Nat}(h:∀j,j<n->(sf (j+1)).wb=(sf j).wb/\(∀k,k∈(sf j).wr->k∈(sf (j+1)).wr)/\∀k,k∈wf j->k<(sf j).wb->k∈(sf (j+1)).wr):
  (sf n).wb=(sf 0).wb/\(∀k,k∈(sf 0).wr->k∈(sf n).wr)/\∀i k,i<n->k∈wf i->k<(sf 0).wb->k∈(sf n).wr:=by
 have h1:∀i,i<=n->(sf i).wb=(sf 0).wb:=by
  intro i
  induction i with
  |zero=>exact λ_=>rfl
  |succ i ih=>intro hi;rw [(h i hi).1,ih aa]
 have h2:∀d i,i+d<=n->∀k,k∈(sf i).wr->k∈(sf (i+d)).wr:=by
  intro d
  induction d with
  |zero=>exact λ_ _ _ hk=>hk
  |succ d ih=>intro i hi k hk;exact(h (i+d) aa).2.1 k (ih i aa k hk)
 refine⟨h1 n (ajl _),λk hk=>?_,λi k hi hk aX=>?_⟩
 ·have:=h2 n 0 aa k hk
  rw [ajQ]at this;exact this
 ·have:=h2 (n - (i+1)) (i+1) aa k ((h i hi).2.2 k hk (by rw [h1 i aa];exact aX))
  rw [show i+1+(n - (i+1))=n by omega]at this;exact this
theorem Gg{hs:List Hint}{Tf:Nat->cW}{sf:Nat->HS}(_hlen:hs.length=A.size)(da:Bj (dG A.toList []) hs A.size=true)(cX:∀j,j<A.size->∃h,hs[j]? =some h/\Io E A j (Tf j) (sf j) (Tf (j+1)) (sf (j+1)) h):
  jJ E A (TF A) Tf (λi=>(sf i).H.get) (λi=>(sf i).nx) (λi=>match hs[i]? with|some h=>h.ws|none=>[]) (λi _=>∃h,hs[i]? =some h/\h.idle=false):=by
 have nohid:∀i k,i<A.size->¬Hid A.size (TF A) (λi _=>∃h,hs[i]? =some h/\h.idle=false) i k:=λi k hi ⟨j,hj,hu,h,h1,h2⟩=>by
  unfold Bj at da;split at da
  ·rename_i ha
   rw [tB ha h (List.mem_of_getElem? h1)]at h2;cases h2
  ·have h3:=xa da i hi
   have:h∈others (dG A.toList []) i hs 0:=mf.2 ⟨j,h1,h2,by rw [ajQ];exact Bz.2 hu⟩;rw [h3]at this;cases this
 have one:∀i,i<A.size->∃h,hs[i]? =some h/\h.lo=(sf i).nx/\h.hi=(sf (i+1)).nx/\h.lo<=h.hi/\(h.idle=true->sf (i+1)=sf i):=λi hi=>by
  obtain⟨h,h1,o,g,h2,h3,h4,h5⟩:=cX i hi;refine⟨h,h1,?_⟩;cases g with
  |true=>
   obtain⟨v,p,g1,g2,g3,g4,g5⟩:=h4 rfl;subst g4;cases uq:Hint.idle ⟨p.wr,(sf i).nx,p.nx⟩with
   |true=>
    have:=jL.1 uq;have e:sf (i+1)=sf i:=by rw [g5];unfold za;rw [uq]
    exact⟨rfl,by rw [e];exact Nat.le_antisymm this.2 g2,g2,λ_=>e⟩
   |false=>
    exact⟨rfl,by rw [g5];unfold za;rw [uq],g2,λe=>by cases e⟩
  |false=>
   obtain⟨g1,g2,g3⟩:=h5 rfl;subst g2;exact⟨rfl,by rw [g3],ajl _,λ_=>g3⟩
 refine⟨λi o ho=>?_,λi k hi hn=>?_,λi hi=>?_,λi k hi h1 h2=>?_,λi k hi hk=>?_,λi k hi _=>nohid i k hi⟩
 ·have hi:i<A.size:=(ajL.1 ho).1
  obtain⟨h,h1,o',g,h2,h3,h4,h5⟩:=cX i hi;rw [ho]at h2;cases h2;refine⟨g,h3,λhg=>?_,λhg=>?_⟩
  ·obtain⟨v,p,g1,g2,g3,g4,g5⟩:=h4 hg
   obtain⟨x,zO,Lc,hx3,hx4,hx5⟩:=one i hi;rw [h1]at zO;cases zO;refine⟨v,_,p,g1,g3,rfl,rfl,?_,?_,λk hk=>absurd hk (nohid i k hi),λk _=>rfl,λk ⟨y,BV,O7⟩=>?_⟩
   ·rw [<-hx3,g4]
   ·simp only [h1];rw [g4]
   ·rw [h1]at BV;cases BV
    show(sf (i+1)).H.get k=p.H.get k;rw [g5];unfold za;rw [O7]
  ·obtain⟨g1,g2,g3⟩:=h5 hg
   refine⟨g1,by rw [g3],λk ⟨y,BV,O7⟩=>?_⟩;rw [h1]at BV;cases BV;rw [g2]at O7;have:Hint.idle ⟨[],(sf i).nx,(sf i).nx⟩=true:=jL.2 ⟨rfl,ajl _⟩;rw [this]at O7;cases O7
 ·obtain⟨h,h1,h2,h3,h4,h5⟩:=one i hi
  have:h.idle=true:=by
   cases uq:h.idle with
   |true=>rfl
   |false=>exact absurd ⟨h,h1,uq⟩ hn
  show(sf (i+1)).H.get k=(sf i).H.get k;rw [h5 this]
 ·obtain⟨h,h1,h2,h3,h4,h5⟩:=one i hi
  show(sf i).nx<=(sf (i+1)).nx;rw [<-h2,<-h3];exact h4
 ·obtain⟨h,h3,h4,h5,h6,h7⟩:=one i hi
  refine⟨h,h3,?_⟩;cases uq:h.idle with
  |false=>rfl
  |true=>
   have:=(jL.1 uq).2;have h1:(sf i).nx<=k:=h1;have h2:k<(sf (i+1)).nx:=h2;omega
 ·obtain⟨h,h3,_⟩:=one i hi
  simp only [h3]at hk;refine⟨h,h3,?_⟩;cases uq:h.idle with
  |false=>rfl
  |true=>rw [(jL.1 uq).1]at hk;cases hk
theorem Kk{hs:List Hint}{Tf:Nat->cW}{sf:Nat->HS}{wf:Nat->List Nat}(hlen:hs.length=A.size)(cX:∀j,j<A.size->Ip E A hs j (Tf j) (sf j) (Tf (j+1)) (sf (j+1)) (wf j)):
  jJ E A (TF A) Tf (λi=>(sf i).H.get) (λi=>(sf i).nx) wf (λi k=>∃h,hs[i]? =some h/\k∈h.keys):=by
 have uq:∀i k,Hid A.size (TF A) (λi k=>∃h,hs[i]? =some h/\k∈h.keys) i k↔k∈jE (others (dG A.toList []) i hs 0):=λi k=>by
  rw [zx]
  constructor
  ·rintro⟨j,hj,hu,h,h1,h2⟩
   refine⟨h,mf.2 ⟨j,h1,?_,by rw [ajQ];exact Bz.2 hu⟩,h2⟩;cases hi:h.idle with
   |false=>rfl
   |true=>exact absurd h2 (zw hi k)
  ·rintro⟨h,h1,h2⟩
   obtain⟨j,h3,_,h4⟩:=mf.1 h1;rw [ajQ]at h4;exact⟨j,by rw [<-hlen];exact(List.getElem?_eq_some_iff.1 h3).1,Bz.1 h4,h,h3,h2⟩
 have one:∀i,i<A.size->∃h,hs[i]? =some h/\h.lo=(sf i).nx/\h.hi=(sf (i+1)).nx/\h.lo<=h.hi/\J5 h.keys (jE (others (dG A.toList []) i hs 0))=true/\(∀k,k∉h.keys->(sf (i+1)).H.get k=(sf i).H.get k)/\(∀k,k∈wf i->k∈h.ws):=λi hi=>by
  obtain⟨o,h,g,h1,h2,h3,h4,h5,h6,h7,h8⟩:=cX i hi;refine⟨h,h2,h3,?_⟩;cases g with
  |true=>
   obtain⟨v,p,g1,g2,g3,g4,g5,g6⟩:=h7 rfl;refine⟨by rw [g5];exact g2,h4,h5,λk hk=>?_,λk hk=>Im g3 k (by rw [<-g6];exact hk)⟩;rw [g5];show(tx p.H h.keys (sf i).H).get k=_;rw [w9,ajm hk]
  |false=>
   obtain⟨g1,g2,g3,g4⟩:=h8 rfl;have:=(jL.1 g1).2;exact⟨by rw [g3];omega,h4,h5,λk _=>by rw [g3],λk hk=>by rw [g4]at hk;cases hk⟩
 refine⟨λi o ho=>?_,λi k hi hn=>?_,λi hi=>?_,λi k hi h1 h2=>?_,λi k hi hk=>?_,λi k hi ⟨h,h1,h2⟩ hh=>?_⟩
 ·have hi:i<A.size:=(ajL.1 ho).1
  obtain⟨o',h,g,h1,h2,h3,h4,h5,h6,h7,h8⟩:=cX i hi;rw [ho]at h1;cases h1;refine⟨g,h6,λhg=>?_,λhg=>?_⟩
  ·obtain⟨v,p,g1,g2,g3,g4,g5,g6⟩:=h7 hg
   refine⟨v,_,p,g1,g4,rfl,rfl,by rw [g5],g6.symm,λk hk=>?_,λk hk=>?_,λk ⟨y,BV,O7⟩=>?_⟩
   ·show(tw _ (sf i).H).get k=none
    rw [w8,ajq ((uq i k).1 hk)]
   ·show(tw _ (sf i).H).get k=(sf i).H.get k
    rw [w8,ajm λe=>hk ((uq i k).2 e)]
   ·rw [h2]at BV;cases BV
    show(sf (i+1)).H.get k=p.H.get k;rw [g5];show(tx p.H h.keys (sf i).H).get k=_;rw [w9,ajq O7]
  ·obtain⟨g1,g2,g3,g4⟩:=h8 hg
   refine⟨g2,by rw [g3],λk ⟨y,BV,O7⟩=>?_⟩;rw [h2]at BV;cases BV;exact zw g1 k O7
 ·obtain⟨h,h1,h2,h3,h4,h5,h6,_⟩:=one i hi
  exact h6 k λe=>hn ⟨h,h1,e⟩
 ·obtain⟨h,h1,h2,h3,h4,_⟩:=one i hi
  show(sf i).nx<=(sf (i+1)).nx;rw [<-h2,<-h3];exact h4
 ·obtain⟨h,h3,h4,h5,h6,_⟩:=one i hi
  have h1:(sf i).nx<=k:=h1;have h2:k<(sf (i+1)).nx:=h2;exact⟨h,h3,mem_keys.2 (.inr aa)⟩
 ·obtain⟨h,h3,_,_,_,_,_,h4⟩:=one i hi
  exact⟨h,h3,mem_keys.2 (.inl (h4 k hk))⟩
 ·obtain⟨h',h3,_,_,_,h4,_⟩:=one i hi
  rw [h1]at h3;cases h3;exact Il h4 k h2 ((uq i k).1 hh)
theorem Vu(az:aR P E.TY)(hz:xK P E.TY E.TZ)(dJ:DJ P E)(hm:P.follows .mixedOrders=true){T T':cW}{s s':HS}(h:Tx E A T s=some (T',s')){R:Exit->Act->World->Prop}{O:Rn}{w:World}{a:Act}{id:Nat}
  (hd:Hd O s.H.get s.nx w) (tm:zl O T a) (hR:∀O' a' w',bM O O' s s' w w'->zl O' T' a'->R .normal a' w'):(Code.region id A true).wp P R a w:=by
 obtain⟨he,h⟩:=aE h;obtain⟨⟨T2,s2,hs⟩,h1,h⟩:=aw h;have od:=RJ he;obtain⟨Tf,sf,g1,g2,g3,g4,g5,_,g7⟩:=tC (E:=E) (A:=A) A.toList 0 rfl (ajk _) rfl h1;split at h
 ·rename_i da
  have da:Bj (dG A.toList []) hs A.size=true:=da;cases h;have p:=Gg g5 da λj hj=>g7 j (ajk _) hj
  obtain⟨e1,e2,e3⟩:=N7 (n:=A.size) (sf:=sf) (wf:=λi=>match hs[i]? with|some h=>h.ws|none=>[]) λj hj=>by
   obtain⟨x,h1,o,g,h2,h3,h4,h5⟩:=g7 j (ajk _) hj;simp only [h1];cases g with
   |true=>
    obtain⟨v,q,f1,f2,f3,f4,f5⟩:=h4 rfl;rw [f5];unfold za;cases uq:x.idle with
    |true=>exact⟨rfl,λ_ hk=>hk,λk hk=>by rw [(jL.1 uq).1]at hk;cases hk⟩
    |false=>exact⟨rfl,λk hk=>jF.2 (.inl hk),λk hk aX=>jF.2 (.inr ⟨by rw [f4]at hk;exact hk,aX⟩)⟩
   |false=>
    obtain⟨f1,f2,f3⟩:=h5 rfl;rw [f3];exact⟨rfl,λ_ hk=>hk,λk hk=>by rw [f2]at hk;cases hk⟩
  rw [g2,g4]at e1 e2 e3;exact Ik az hz dJ hm p od (s:=s) (by rw [g2]) (by simp only [g2]) (by rw [g4]) (by simp only [g4]) e1 e2 (λi k hi hk aX=>e3 i k hi hk aX) g1 g3 hd tm hR
 ·obtain⟨Tg,sg,wf,f1,f2,f3,f4,f5⟩:=xb A.toList 0 rfl (ajk _) h
  have p:=Kk g5 λj hj=>f5 j (ajk _) hj
  obtain⟨e1,e2,e3⟩:=N7 (n:=A.size) (sf:=sg) (wf:=wf) λj hj=>by
   obtain⟨o,x,g,h1,h2,h3,h4,h5,h6,h7,h8⟩:=f5 j (ajk _) hj;cases g with
   |true=>
    obtain⟨v,q,q1,q2,q3,q4,q5,q6⟩:=h7 rfl;rw [q5,q6];exact⟨rfl,λk hk=>jF.2 (.inl hk),λk hk aX=>jF.2 (.inr ⟨hk,aX⟩)⟩
   |false=>
    obtain⟨q1,q2,q3,q4⟩:=h8 rfl;rw [q3,q4];exact⟨rfl,λ_ hk=>hk,λk hk=>by cases hk⟩
  rw [f2,f4]at e1 e2 e3;exact Ik az hz dJ hm p od (s:=s) (s':=s') (by rw [f2]) (by simp only [f2]) (by rw [f4]) (by simp only [f4]) e1 e2 e3 f1 f3 hd tm hR
end
section
end
section
variable{P:Program}{E:Ev}
theorem Kl(az:aR P E.TY)(hz:xK P E.TY E.TZ)(dJ:DJ P E)(hm:P.follows .mixedOrders=true){A:Array Oper}{d:Bool}{T T':cW}{s s':HS}(h:wI E A d T s=some (T',s')){R:Exit->Act->World->Prop}{O:Rn}{w:World}{a:Act}{id:Nat}
  (hd:Hd O s.H.get s.nx w) (tm:zl O T a) (hR:∀O' a' w',bM O O' s s' w w'->zl O' T' a'->R .normal a' w'):(Code.region id A d).wp P R a w:=by
 cases d with
 |true=>exact Vu az hz dJ hm h hd tm hR
 |false=>exact wp_region (by
   have:=w5 (Q:=R) az hz dJ (ops:=A) A.toList 0 rfl h hd tm hR;rw [List.range_eq_range',<-ajw];exact this)
theorem nI(az:aR P E.TY)(hz:xK P E.TY E.TZ)(dJ:DJ P E)(hm:P.follows .mixedOrders=true)(n:Nat):∀(c:Code) {T:cW} {s:HS} {r:Out} {O:Rn} {w:World} {a:Act} {R:Exit->Act->World->Prop},
  yg c E n T s=some r->Hd O s.H.get s.nx w->zl O T a->(∀O' a' w',bM O O' s r.s w w'->zl O' r.T a'->R (v7 r.e) a' w')->c.wp P R a w
 |.skip,T,s,r,O,w,a,R,h,hd,tm,hR=>by
  have h:some ⟨.normal,T,s⟩=some r:=h;cases h;exact wp_skip (hR O a w (bM.refl hd) tm)
 |.ret,T,s,r,O,w,a,R,h,hd,tm,hR=>by
  have h:some ⟨.ret,T,s⟩=some r:=h;cases h;exact wp_ret (hR O a w (bM.refl hd) tm)
 |.exit id,T,s,r,O,w,a,R,h,hd,tm,hR=>by
  have h:some ⟨.exit id,T,s⟩=some r:=h;cases h;exact wp_exit (hR O a w (bM.refl hd) tm)
 |.region id ops d,T,s,r,O,w,a,R,h,hd,tm,hR=>by
  have h:(bo (wI E ops d T s) λp=>some ⟨.normal,p.1,p.2⟩)=some r:=h;obtain⟨p,h1,h⟩:=aw h;cases h;exact Kl az hz dJ hm h1 hd tm hR
 |.seq x y,T,s,r,O,w,a,R,h,hd,tm,hR=>by
  have h:(bo (yg x E n T s) λr=>X2 r (yg y E n))=some r:=h;obtain⟨r1,h1,h⟩:=aw h;refine wp_seq (nI az hz dJ hm n x h1 hd tm λO' a' w' hp tm'=>?_);obtain⟨e,T1,s1⟩:=r1;cases e with
  |normal=>
   have h:yg y E n T1 s1=some r:=h;exact nI az hz dJ hm n y h hp.hd tm' λO'' a'' w'' hp' tm''=>hR O'' a'' w'' (hp.trans hp') tm''
  |exit i=>
   have h:some ⟨.exit i,T1,s1⟩=some r:=h;cases h;exact hR O' a' w' hp tm'
  |ret=>
   have h:some ⟨.ret,T1,s1⟩=some r:=h;cases h;exact hR O' a' w' hp tm'
 |.cond c x y,T,s,r,O,w,a,R,h,hd,tm,hR=>by
  have h:(bo (XV (cP T c)) λt=>Bool.rec (motive:=λ_=>Option Out) (yg y E n T s) (yg x E n T s) t)=some r:=h;obtain⟨t,h1,h⟩:=aw h;have hv:=Bn h1 (H5 tm c);refine wp_cond hv ?_;cases t with
  |true=>exact nI az hz dJ hm n x h hd tm hR
  |false=>exact nI az hz dJ hm n y h hd tm hR
 |.block id x,T,s,r,O,w,a,R,h,hd,tm,hR=>by
  have h:(bo (yg x E n T s) λr=>X3 id r)=some r:=h;obtain⟨r1,h1,h⟩:=aw h;refine wp_block (nI az hz dJ hm n x h1 hd tm λO' a' w' hp tm'=>?_);obtain⟨e,T1,s1⟩:=r1;cases e with
  |normal=>
   have h:some ⟨.normal,T1,s1⟩=some r:=h;cases h;exact hR O' a' w' hp tm'
  |ret=>
   have h:some ⟨.ret,T1,s1⟩=some r:=h;cases h;exact hR O' a' w' hp tm'
  |exit j=>
   have h:(Bool.rec (motive:=λ_=>Option Out) (some ⟨.exit j,T1,s1⟩) (some ⟨.normal,T1,s1⟩) (Nat.beq j id))=some r:=h;simp only [v7,Exit.inBlock];cases hb:Nat.beq j id with
   |true=>
    rw [hb]at h;have h:some ⟨.normal,T1,s1⟩=some r:=h;cases h;rw [ajq (aA.1 hb)];exact hR O' a' w' hp tm'
   |false=>
    rw [hb]at h;have h:some ⟨.exit j,T1,s1⟩=some r:=h;cases h;rw [ajm (beq_false hb)];exact hR O' a' w' hp tm'
 |.scope x,T,s,r,O,w,a,R,h,hd,tm,hR=>wp_scope_straight (nI az hz dJ hm n x (r:=r) h hd tm λO' a' w' hp tm'=>by
   have:=hR O' a' w' hp tm';cases he:r.e<;>rw [he]at this<;>exact this)
 |.loop x,T,s,r,O,w,a,R,h,hd,tm,hR=>by
  have h:Bm (yg x E n) n T s=some r:=h
  let I:Nat->Act->World->Prop:=λk a' w'=>∃T1 s1 ρ1,Bm (yg x E n) k T1 s1=some r/\bM O ρ1 s s1 w w'/\zl ρ1 T1 a'
  refine FG I id n ⟨T,s,O,h,bM.refl hd,tm⟩ λk a1 w1 ⟨T1,s1,ρ1,h1,gu,tm1⟩=>?_;cases k with
  |zero=>cases h1
  |succ k=>
   obtain⟨r1,h2,h1⟩:=aw h1;refine nI az hz dJ hm n x h2 gu.hd tm1 λO' a' w' hp tm'=>?_;obtain⟨e,T2,s2⟩:=r1;cases e with
   |normal=>exact⟨k,⟨T2,s2,O',h1,gu.trans hp,tm'⟩,Nat.lt_succ_self k⟩
   |exit i=>
    have h1:some ⟨.exit i,T2,s2⟩=some r:=h1;cases h1;exact hR O' a' w' (gu.trans hp) tm'
   |ret=>
    have h1:some ⟨.ret,T2,s2⟩=some r:=h1;cases h1;exact hR O' a' w' (gu.trans hp) tm'
 |.label _,_,_,_,_,_,_,_,h,_,_,_=>by cases h
 |.goto _,_,_,_,_,_,_,_,h,_,_,_=>by cases h
theorem nC.get{O:Rn}:∀{l:List CV} {m:List Value} {i:Nat} {a:CV},nC O l m->l[i]? =some a->∃v,m[i]? =some v/\ef O a v
 |[],_,_,_,_,h=>by simp at h
 |a::l,v::m,0,_,hv,h=>by simp at h;subst h;exact⟨v,rfl,hv.1⟩
 |a::l,v::m,i+1,x,hv,h=>by simpa using nC.get hv.2 (by simpa using h)
 |_::_,[],_,_,hv,_=>hv.elim
theorem nC.len{O:Rn}:∀{l:List CV} {m:List Value},nC O l m->m.length=l.length
 |[],[],_=>rfl|_::_,_::_,h=>by simp [nC.len h.2]|[],_::_,h=>h.elim|_::_,[],h=>h.elim
theorem D6{k:Nat}:∀{l:List CV} {i:Nat} {t:Tr CV},(zf l i t).get k=if i<=k/\k<i+l.length then l[k - i]? else t.get k
 |[],i,t=>by simp [zf];omega
 |a::l,i,t=>by
  rw [zf,D6 (l:=l),Tr.fw];simp only [ajY]
  by_cases h1:i+1<=k/\k<i+1+l.length
  ·rw [ajq h1,ajq aa,show k - i=(k - (i+1))+1 by omega];simp
  ·rw [ajm h1]
   by_cases h2:k=i
   ·subst h2;rw [ajq rfl,ajq aa];simp
   ·rw [ajm h2,ajm aa]
theorem zz{k:Nat}:∀{n i:Nat} {t:Tr CV},(sH n i t).get k=if i<=k/\k<i+n then some (.t []) else t.get k
 |0,i,t=>by simp [sH];omega
 |n+1,i,t=>by
  rw [sH,zz (n:=n),Tr.fw]
  by_cases h1:i+1<=k/\k<i+1+n
  ·rw [ajq h1,ajq aa]
  ·rw [ajm h1]
   by_cases h2:k=i
   ·subst h2;rw [ajq rfl,ajq aa]
   ·rw [ajm h2,ajm aa]
theorem N8{O:Rn}{args:List CV}{vs:List Value}{n:Nat}(hv:nC O args vs)(hn:args.length<=n):zl O (Nw args n) { tmps:=vs.toArray++Array.replicate (n - vs.toArray.size) undef,defers:=[] }:=by
 have hl:=hv.len;refine⟨rfl,?_,λi=>?_⟩
 ·show(vs.toArray++Array.replicate (n - vs.toArray.size) undef).size=n
  simp;omega
 ·show ef O (match (sH (n - args.length) args.length (zf args 0 .lf)).get i with|some v=>v|none=>.U9) ((vs.toArray++Array.replicate (n - vs.toArray.size) undef).getD i undef)
  rw [zz]
  by_cases h1:args.length<=i/\i<args.length+(n - args.length)
  ·rw [ajq h1]
   have:(vs.toArray++Array.replicate (n - vs.toArray.size) undef).getD i undef=undef:=by
    rw [ajG,Array.getElem?_append_right (by simp;omega),Array.getElem?_replicate];split<;>rfl
   rw [this];exact lE O
  ·rw [ajm h1,D6]
   by_cases h2:i<args.length
   ·rw [ajq aa,Nat.sub_zero,ajP h2]
    obtain⟨v,h3,h4⟩:=hv.get (ajP h2)
    have:(vs.toArray++Array.replicate (n - vs.toArray.size) undef).getD i undef=v:=by
     rw [ajG,akh (by simp;omega)];simp [h3]
    rw [this];exact h4
   ·rw [ajm aa];trivial
theorem Gh(az:aR P E.TY){O:Rn}{s:HS}{w:World}{T:cW}{a:Act}(hd:Hd O s.H.get s.nx w)(tm:zl O T a):∀{l:List ResultVar} {ws:List CW},wh E T s l=some ws->∃vs,(l.mapM (jz a.tmps)).run P w= .ok vs w/\uo O ws vs
 |[],ws,h=>by cases h;exact⟨[],by simp,ag⟩
 |.tmp t::l,ws,h=>by
  obtain⟨x,h1,h⟩:=aw h;obtain⟨m,h2,h⟩:=aw h;cases h;obtain⟨vs,h3,h4⟩:=Gh az hd tm h2;exact⟨a.tmps.getD t undef::vs,by simp [jz,h3],uQ h1 (tm.tmp t),h4⟩
 |.cell t ty::l,ws,h=>by
  obtain⟨p,h1,h⟩:=aw h;obtain⟨q,h2,h⟩:=aw h;obtain⟨x,h3,h⟩:=aw h;obtain⟨m,h4,h⟩:=aw h;cases h;obtain⟨vs,h5,h6⟩:=Gh az hd tm h4;obtain⟨b,c,h7,h8⟩:=rv h1 (tm.tmp t);obtain⟨cs,tyy,h9,_,_,cA⟩:=dP hd (bB h2) h7;obtain⟨u,lP,oP⟩:=H6 az cA h9 h3
  have aN:(jz a.tmps (.cell t ty)).run P w= .ok u w:=by
   simp only [Instr.loadAt,Instr.sureAddr]at lP;simp only [jz,h8,asAddr]
   simpa using lP
  exact⟨u::vs,by simp [aN,h5],oP,h6⟩
theorem Vv{O:Rn}:∀{ws:List CW} {vs:List Value},uo O ws vs->ef O (Vi ws) (AM.wh vs)
 |[],[],_=>⟨#[],rfl,ag⟩
 |[x],[v],h=>ma h.1
 |x::y::l,v::u::m,h=>⟨(v::u::m).toArray,rfl,by simpa using h⟩
 |[],_::_,h=>h.elim
 |_::_,[],h=>h.elim
 |[_],_::_::_,h=>h.2.elim
 |_::_::_,[_],h=>h.2.elim
theorem N9{TY:List cV}{TZ:Zs}{K:Kn}(az:aR P TY)(hz:xK P TY TZ)(hk:vo P K.Vj)(he:Rs P K.eqs)(tY:H7 P K.FW)(hm:P.follows .mixedOrders=true)(nf:∀(f:FuncId) (fn:Func),P.funcs[f]? =some fn->fn.name≠ "runtime.NumGoroutine")(n:Nat):∀d,vo P (O6 P TY TZ K n d)
 |0=>λf args s v s' h=>by cases h
 |d+1=>λf args s v s' h=>by
  unfold O6 at h;split at h
  ·rename_i r hr
   cases h;exact hk f args s v s' hr
  obtain⟨fn,h1,h⟩:=aw h;obtain⟨c,h2,h⟩:=aw h;obtain⟨h3,h⟩:=aE h;obtain⟨r,h4,h⟩:=aw h;refine⟨⟨fn,h1,nf f fn h1,by rw [h2];rfl⟩,λO w vs hd hv=>calls_of_wp h1 h2 ?_⟩;have ih:=N9 az hz hk he tY hm nf n d;refine nI (E:=⟨TY,TZ,O6 P TY TZ K n d,K.eqs,K.FW⟩) az hz ⟨ih,he,tY⟩ hm n c h4 hd (N8 hv (ah h3)) λO' a' w' hp tm'=>?_
  have fin:(bo (wh ⟨TY,TZ,O6 P TY TZ K n d,K.eqs,K.FW⟩ r.T r.s fn.results.toList) λl=>some (Vi l,r.s))=some (v,s')->a'.defers=[]/\∃v0,(results fn a'.tmps).run P w'= .ok v0 w'/\∃u,Ending.returned v0= .returned u/\∃O',bM O O' s s' w w'/\ef O' v u:=λh=>by
   obtain⟨l,h5,h⟩:=aw h;cases h;obtain⟨us,h6,h7⟩:=Gh (E:=⟨TY,TZ,O6 P TY TZ K n d,K.eqs,K.FW⟩) az hp.hd tm' h5;exact⟨tm'.defers,_,uK h6,_,rfl,O',hp,Vv h7⟩
  obtain⟨e,T1,s1⟩:=r;cases e with
  |exit i=>cases h
  |normal=>exact fin h
  |ret=>exact fin h
def Fe(x:Option (CV × HS)):Bool:=match x with|some p=>(match p.1 with|.c y=>(match y with|.bool b=>b|_=>false)|_=>false)|none=>false
def LN(P:Program):Bool:=P.funcs.all λfn=>decide (fn.name≠ "runtime.NumGoroutine")
theorem LQ(h:LN P=true):∀(f:FuncId) (fn:Func),P.funcs[f]? =some fn->fn.name≠ "runtime.NumGoroutine":=λf fn hf=>by
 obtain⟨h1,h2⟩:=ajL.1 hf;have:=Array.all_eq_true.1 h f h1;rw [h2]at this;exact ajX this
theorem P6{TY:List cV}{TZ:Zs}{K:Kn}(az:aR P TY)(hz:xK P TY TZ)(hk:vo P K.Vj)(he:Rs P K.eqs)(tY:H7 P K.FW)(hm:P.follows .mixedOrders=true)(nf:∀(f:FuncId) (fn:Func),P.funcs[f]? =some fn->fn.name≠ "runtime.NumGoroutine"){n d:Nat}{f:FuncId}
  (h:Fe (O6 P TY TZ K n d f [] ⟨.lf,0,0,[]⟩)=true):AM.Fn P f [] (.bool (.lit true)):=by
 cases hv:O6 P TY TZ K n d f [] ⟨.lf,0,0,[]⟩with
 |none=>rw [hv]at h;cases h
 |some p=>
  obtain⟨v,s'⟩:=p;rw [hv]at h
  have hvt:v= .c (.bool true):=by
   simp only [Fe]at h;split at h
   ·rename_i y
    split at h
    ·rw [h]
    ·cases h
   ·cases h
  subst hvt;obtain⟨hc,dJ⟩:=N9 az hz hk he tY hm nf n d f [] _ _ _ hv;refine⟨hc,λM w vs xJ hM hvs=>?_⟩
  have abe:vs=[]:=by
   cases vs with
   |nil=>rfl
   |cons=>exact hvs.elim
  subst abe;refine(dJ (λ_=>none) w [] ⟨λk o hk=>(by cases hk),λk k' o o' b c c' hk=>(by cases hk),λ_ _=>rfl,xJ,λk o b c hk=>(by cases hk)⟩ trivial).mono λe w' ⟨u,he,O',hp,hu⟩=>?_;have hu:u= .bool true:=hu;subst hu;exact⟨_,he,⟨hp.size,λb hb=>.inl (hp.frame b hb λk o c hk=>(by cases hk)),hp.io⟩,M,λ_ _ _=>Iff.rfl,λb off hm=>ajT (hM b off hm) hp.size,rfl⟩
end
end Go.CM
end
