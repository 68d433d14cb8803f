import Derived.Test.YtjabhmhhhlcopaaGreatDoorAmState
import Derived.Laws.AppendOwn
import Derived.Laws.MakeOwn
import Derived.Laws.StructEq
section
namespace Go.AM
open Go
def zC (a:AV) (v:Value):Prop:=∀ρ w M,RepC ρ w M a v
def descOK:TyD→TypeDesc→Prop
  |.int k,.int k'=>k=k'|.bool,.bool=>True|.str,.string=>True|.slice e,.slice e'=>e=e'|.arr n e,.array n' e'=>n=n'∧e=e'
  |.struct fs,.struct F=>fs=F.toList.map (fun f=>(f.offset,f.type))|.map k e,.map k' e'=>k=k'∧e=e'
  |.other,.struct _=>False|.other,.array _ _=>False|.other,_=>True|_,_=>False
def zKind (d:TyD) (z:Value):Prop:=
  match d with
  |.int k=>z= .int k 0|.bool=>z= .bool false|.slice _=>z= .slice none 0 0|_=>True
def zeroOK (E:TyE) (z:Value):Prop:=
  RepL zC E.zero z.cells.toList∧(isAggD E.d=true→∃cs,z= .agg cs)∧(isAggD E.d=false→isCell z)∧zKind E.d z∧E.zero.length=E.sz
def EqSt (P:Program) (t:Nat):Prop:=P.stoodInHeld t=false∧P.eqGuardType P.depth t=false∧∀f∈(P.fieldsOf t).toList,f.name≠ "_"
def eqStB (P:Program) (t:Nat):Bool:=
  !P.stoodInHeld t&& !P.eqGuardType P.depth t&&(P.fieldsOf t).toList.all fun f=>!decide (f.name= "_")
theorem eqStB_ok {P:Program} {t:Nat} (h:eqStB P t=true):EqSt P t:=by
  unfold eqStB at h
  simp only [Bool.and_eq_true,Bool.not_eq_true',List.all_eq_true,decide_eq_false_iff_not] at h
  exact ⟨h.1.1,h.1.2,h.2⟩
structure TyRow (P:Program) (t:Nat) (E:TyE):Prop where
  row:∃i u,P.info? t=some i∧P.underlying t=some u∧i.size=E.sz∧i.bytes=E.bytes∧descOK E.d u∧(E.zero≠[]→∃z,i.zero=some z∧zeroOK E z)
  eqs:zeroFac E.zero=true→EqSt P t
  eqr:zeroRul E.zero=true→EqSt P t
def ltAll (n:Nat):List (Nat × Nat)→Bool
  |[]=>true|(_,t)::l=>Nat.ble (t+1) n&&ltAll n l
def closedB (n:Nat):List TyE→Bool
  |[]=>true|E::l=>(match E.d with|.struct fs=>ltAll n fs|_=>true)&&closedB n l
structure TyOk (P:Program) (TY:List TyE):Prop where
  row:∀t,t<TY.length→TyRow P t (nthT TY t)
  closed:∀t fs,(nthT TY t).d= .struct fs→∀x∈fs,x.2<TY.length
  pos:∃m,P.types.size=m+1
def natEq (a b:Nat):Bool:=Nat.beq a b
def cellB (a:AV) (v:Value):Bool:=
  match a,v with
  |.int k n,.int k' n'=>kq k k'&&decide (n=n')&&fitB k n
  |.bool (.lit b),.bool b'=>b==b'
  |.nils,.slice none 0 0=>true
  |.str [],.string s=>Nat.beq s.size 0
  |.any,.agg _=>false|.any,.tuple _=>false|.any,_=>true
  |_,_=>false
def cellsB:List AV→List Value→Bool
  |[],[]=>true|a::l,v::m=>cellB a v&&cellsB l m|_,_=>false
def fieldsB:List (Nat × Nat)→List Field→Bool
  |[],[]=>true|(o,t)::l,f::m=>natEq o f.offset&&natEq t f.type&&fieldsB l m|_,_=>false
def descB (d:TyD) (u:TypeDesc):Bool:=
  match d,u with
  |.int k,.int k'=>kq k k'|.bool,.bool=>true|.str,.string=>true|.slice e,.slice e'=>natEq e e'|.arr n e,.array n' e'=>natEq n n'&&natEq e e'
  |.struct fs,.struct F=>fieldsB fs F.toList|.map k e,.map k' e'=>natEq k k'&&natEq e e'
  |.other,.struct _=>false|.other,.array _ _=>false|.other,_=>true|_,_=>false
def aggB (b:Bool) (z:Value):Bool:=
  match b,z with|true,.agg _=>true|true,_=>false|false,.agg _=>false|false,.tuple _=>false|false,_=>true
def kindB (d:TyD) (z:Value):Bool:=
  match d,z with
  |.int k,.int k' n=>kq k k'&&decide (n=0)|.bool,.bool b=>b==false|.slice _,.slice none 0 0=>true
  |.int _,_=>false|.bool,_=>false|.slice _,_=>false|_,_=>true
def zeroBB (E:TyE) (z:Value):Bool:=cellsB E.zero z.cells.toList&&aggB (isAggD E.d) z&&kindB E.d z&&natEq E.zero.length E.sz
def rowB (P:Program) (t:Nat) (E:TyE):Bool:=
  match P.info? t,P.underlying t with
  |some i,some u=>natEq i.size E.sz&&natEq i.bytes E.bytes&&descB E.d u&&(match E.zero,i.zero with|[],_=>true|_,some z=>zeroBB E z|_,none=>false)&&(match zeroFac E.zero with|true=>eqStB P t|false=>true)&&(match zeroRul E.zero with|true=>eqStB P t|false=>true)
  |_,_=>false
def rowsB (P:Program):Nat→List TyE→Bool
  |_,[]=>true|t,E::l=>rowB P t E&&rowsB P (t+1) l
theorem natEq_eq {a b:Nat} (h:natEq a b=true):a=b:=beq_iff'.1 h
theorem str_nil {ρ:Env} {w:World} {M:Msk} {s:ByteArray} (h:s.size=0):RepC ρ w M (.str []) (.string s):=by
  refine ⟨?_,by simp⟩
  obtain ⟨⟨l⟩⟩:=s
  cases l with
  |nil=>rfl
  |cons a l=>simp [ByteArray.size] at h
theorem cellB_ok {a:AV} {v:Value} (h:cellB a v=true):zC a v:=by
  intro ρ w M
  cases a<;>cases v<;>simp only [cellB,Bool.and_eq_true,decide_eq_true_eq] at h<;>try (first|(cases h;done)|trivial)
  · obtain ⟨⟨h1,rfl⟩,h3⟩:=h
    obtain rfl:=kq_eq h1
    exact ⟨rfl,fit_in h3⟩
  · rename_i e b
    cases e<;>simp at h
    subst h;rfl
  · rename_i a n m
    match a,n,m,h with
    |none,0,0,_=>rfl
  · rename_i l s
    cases l with
    |nil=>exact str_nil (beq_iff'.1 h)
    |cons a l=>cases h
theorem cellsB_ok:∀{l:List AV} {m:List Value},cellsB l m=true→RepL zC l m
  |[],[],_=>trivial
  |a::l,v::m,h=>by simp only [cellsB,Bool.and_eq_true] at h;exact ⟨cellB_ok h.1,cellsB_ok h.2⟩
  |[],_::_,h=>by cases h
  |_::_,[],h=>by cases h
theorem fieldsB_ok:∀{l:List (Nat × Nat)} {m:List Field},fieldsB l m=true→l=m.map fun f=>(f.offset,f.type)
  |[],[],_=>rfl
  |(o,t)::l,f::m,h=>by
   simp only [fieldsB,Bool.and_eq_true] at h
   rw [List.map_cons,←fieldsB_ok h.2,natEq_eq h.1.1,natEq_eq h.1.2]
  |[],_::_,h=>by cases h
  |_::_,[],h=>by cases h
theorem descB_ok {d:TyD} {u:TypeDesc} (h:descB d u=true):descOK d u:=by
  cases d<;>cases u<;>simp only [descB,Bool.and_eq_true] at h<;>try (first|(cases h;done)|trivial)
  · exact kq_eq h
  · exact natEq_eq h
  · exact ⟨natEq_eq h.1,natEq_eq h.2⟩
  · exact fieldsB_ok h
  · exact ⟨natEq_eq h.1,natEq_eq h.2⟩
theorem kindB_ok {d:TyD} {z:Value} (h:kindB d z=true):zKind d z:=by
  cases d<;>try trivial
  · cases z<;>simp only [kindB,Bool.and_eq_true,decide_eq_true_eq,Bool.false_eq_true] at h
    obtain ⟨h4,rfl⟩:=h
    obtain rfl:=kq_eq h4;rfl
  · cases z<;>simp [kindB] at h
    subst h;rfl
  · cases z<;>simp only [kindB,Bool.false_eq_true] at h
    rename_i e a n m
    match a,n,m,h with
    |none,0,0,_=>rfl
theorem zeroBB_ok {E:TyE} {z:Value} (h:zeroBB E z=true):zeroOK E z:=by
  unfold zeroBB at h
  simp only [Bool.and_eq_true] at h
  obtain ⟨⟨⟨h1,h2⟩,h3⟩,h4⟩:=h
  refine ⟨cellsB_ok h1,fun ha=>?_,fun ha=>?_,kindB_ok h3,natEq_eq h4⟩
  · rw [ha] at h2;cases z<;>simp [aggB] at h2;exact ⟨_,rfl⟩
  · rw [ha] at h2;cases z<;>simp [aggB] at h2<;>trivial
theorem rowB_ok {P:Program} {t:Nat} {E:TyE} (h:rowB P t E=true):TyRow P t E:=by
  unfold rowB at h
  split at h
  · rename_i i u hi hu
    simp only [Bool.and_eq_true] at h
    obtain ⟨⟨⟨⟨⟨h1,h2⟩,h3⟩,h4⟩,h5⟩,h6⟩:=h
    refine ⟨⟨i,u,hi,hu,natEq_eq h1,natEq_eq h2,descB_ok h3,fun hne=>?_⟩,fun hz=>by rw [hz] at h5;exact eqStB_ok h5,fun hz=>by rw [hz] at h6;exact eqStB_ok h6⟩
    split at h4
    · rename_i he;exact absurd he hne
    · rename_i z hz _;exact ⟨z,hz,zeroBB_ok h4⟩
    · cases h4
  · cases h
theorem rowsB_ok {P:Program}:∀{l:List TyE} {t:Nat},rowsB P t l=true→∀i,i<l.length→TyRow P (t+i) (nthT l i)
  |[],_,_,i,hi=>by simp at hi
  |E::l,t,h,0,_=>by simp only [rowsB,Bool.and_eq_true] at h;exact rowB_ok h.1
  |E::l,t,h,i+1,hi=>by
   simp only [rowsB,Bool.and_eq_true] at h
   have:=rowsB_ok h.2 i (by simpa using hi)
   rw [show t+(i+1)=t+1+i from by omega]
   exact this
theorem ltAll_ok {n:Nat}:∀{l:List (Nat × Nat)},ltAll n l=true→∀x∈l,x.2<n
  |(o,t)::l,h,x,hx=>by
   simp only [ltAll,Bool.and_eq_true,Nat.ble_eq] at h
   rcases List.mem_cons.1 hx with rfl|hx
   · exact h.1
   · exact ltAll_ok h.2 x hx
  |[],_,_,hx=>by cases hx
theorem closedB_ok {n:Nat}:∀{l:List TyE},closedB n l=true→∀t fs,(nthT l t).d= .struct fs→∀x∈fs,x.2<n
  |[],_,t,fs,hd,x,hx=>by simp [nthT] at hd
  |E::l,h,0,fs,hd,x,hx=>by
   simp only [closedB,Bool.and_eq_true] at h
   have hd:E.d= .struct fs:=hd
   rw [hd] at h
   exact ltAll_ok h.1 x hx
  |E::l,h,t+1,fs,hd,x,hx=>by
   simp only [closedB,Bool.and_eq_true] at h
   exact closedB_ok h.2 t fs hd x hx
theorem tyOk_of {P:Program} {TY:List TyE} (h:rowsB P 0 TY=true) (h':closedB TY.length TY=true) (h'':Nat.ble 1 P.types.size=true):TyOk P TY:=
  ⟨fun t ht=>by simpa using rowsB_ok h t ht,closedB_ok h',P.types.size - 1,by rw [Nat.ble_eq] at h'';omega⟩
theorem nthT_other:∀{l:List TyE} {t:Nat},l.length≤t→nthT l t=⟨.other,0,0,[]⟩
  |[],_,_=>rfl
  |_::_,0,h=>by simp at h
  |_::l,t+1,h=>nthT_other (l:=l) (by simpa using h)
theorem TyOk.at {P:Program} {TY:List TyE} (h:TyOk P TY) {t:Nat} (ht:(nthT TY t).sz≠0∨(nthT TY t).d≠.other):TyRow P t (nthT TY t):=by
  rcases Nat.lt_or_ge t TY.length with h'|h'
  · exact h.row t h'
  · rw [nthT_other h'] at ht;simp at ht
end Go.AM
end
section
namespace Go.AM
open Go
def noEnv:Env:=fun _=>none
def RepRc (w w':World) (M:Msk):AV→Value→Prop
  |.new r,v=>∃o:Sl,v=o.val∧VecH noEnv w' M o 0 r []∧∀b,o.blk=some b→w.heap.size≤b
  |a,v=>RepG noEnv w' M a v
def RepR (w w':World) (M:Msk):AV→Value→Prop
  |.new r,v=>RepRc w w' M (.new r) v
  |.tup l,v=>∃cs,v= .tuple cs∧RepL (RepRc w w' M) l cs.toList
  |a,v=>RepT noEnv w' M a v
def RetH (M:Msk) (w w':World) (ret:AV) (v:Value):Prop:=
  ∃M':Msk,(∀b off,b<w.heap.size→(M' b off↔M b off))∧(∀b off,M' b off→b<w'.heap.size)∧RepR w w' M' ret v
def Callable (P:Program) (f:FuncId):Prop:=∃fn,P.funcs[f]? =some fn∧fn.name≠ "runtime.NumGoroutine"∧fn.body.isSome=true
def Fn (P:Program):FuncId→List AV→AV→Prop:=fun f args ret=>Callable P f∧
  ∀(M:Msk) (w:World) (vs:List Value),lwP w→(∀b off,M b off→b<w.heap.size)→RepL (RepT noEnv w M) args vs→
   Calls P f vs.toArray w fun e w'=>∃v,e= .returned v∧Stp (fun _ _=>False) w w'∧RetH M w w' ret v
theorem lw_stp {M:Msk} {w w':World} (h:lwP w) (hs:Stp M w w') (hM:∀off,¬M 0 off):lwP w':=fun j hj=>hs.cell (h j hj) (hM j)
abbrev LentW (ρ:Env) (M:Msk) (w:World):Prop:=∀w',Stp (fun b off=>(∃k,hasB ρ k b)∧M b off) w w'→lwP w'
def lentBase (ρ:Env) (M:Msk) (w:World) (hw:LentW ρ M w):Base w:=⟨M,fun b=>∃k,hasB ρ k b,ρ,hw⟩
def ownBase (M:Msk) (w:World) (h:lwP w):Base w:=⟨M,fun _=>False,noEnv,fun _ hs=>lw_stp h hs fun _ hm=>hm.1⟩
def FnM (P:Program):FuncId→List AV→Store→AV→Store→Prop:=fun f args S1 ret S2=>Callable P f∧
  ∀(ρ:Env) (M:Msk) (w:World) (vs:List Value) (hw:LentW ρ M w),St (lentBase ρ M w hw) ρ M S1 w→RepL (RepT ρ w M) args vs→
   Calls P f vs.toArray w fun e w'=>∃v ρ' M',e= .returned v∧St (lentBase ρ M w hw) ρ' M' S2 w'∧RepT ρ' w' M' ret v
def FnN (P:Program):FuncId→List AV→Store→(X:Type)→(X→AV)→(X→Store)→(X→Prop)→Prop:=fun f args S1 X ret S2 ok=>Callable P f∧
  ∀(ρ:Env) (M:Msk) (w:World) (vs:List Value) (hw:LentW ρ M w),St (lentBase ρ M w hw) ρ M S1 w→RepL (RepT ρ w M) args vs→
   Calls P f vs.toArray w fun e w'=>∃z:X,ok z∧∃v ρ' M',e= .returned v∧St (lentBase ρ M w hw) ρ' M' (S2 z) w'∧RepT ρ' w' M' (ret z) v
def FnE (P:Program):FuncId→List AV→(X:Type)→(X→AV)→(X→Prop)→Prop:=fun f args X out ok=>Callable P f∧
  ∀(M:Msk) (w:World) (vs:List Value),lwP w→(∀b off,M b off→b<w.heap.size)→RepL (RepT noEnv w M) args vs→
   Calls P f vs.toArray w fun e w'=>∃x:X,ok x∧∃v,e= .returned v∧Stp (fun _ _=>False) w w'∧RetH M w w' (out x) v
structure SpecOk (P:Program) (F:Spec):Prop where
  e:∀f as X out ok,F.e f as X out ok→FnE P f as X out ok
  q:∀f as r,F.q f as r→Fn P f as r
  m:∀f as S r S',F.m f as S r S'→FnM P f as S r S'
  n:∀f as S X r S' ok,F.n f as S X r S' ok→FnN P f as S X r S' ok
def specOf (P:Program):Spec:=⟨Fn P,FnM P,FnE P,FnN P,false⟩
theorem specOf_ok (P:Program):SpecOk P (specOf P):=⟨fun _ _ _ _ _ h=>h,fun _ _ _ h=>h,fun _ _ _ _ _ h=>h,fun _ _ _ _ _ _ _ h=>h⟩
def Runs (P:Program) (s:Sem Next) (w:World) (R:Value→World→Prop):Prop:=
  (∃v w',s.run P w= .ok (.value v) w'∧R v w')∨(∃w',s.run P w= .ok .skip w'∧R undef w')∨
  ∃f args w',s.run P w= .ok (.enter f args) w'∧Calls P f args w' fun e w''=>∃v,e= .returned v∧R v w''
theorem Runs.wp {P:Program} {o:Oper} {a:Act} {w:World} {R:Value→World→Prop} {next:Act→World→Prop} {Q:Exit→Act→World→Prop}
    (h:Runs P (execOp a.eval o) w R) (hn:∀v w',R v w'→next (a.put o.dst v) w'):o.wp P a w next Q:=by
  unfold Oper.wp
  rcases h with ⟨v,w',h1,h2⟩|⟨w',h1,h2⟩|⟨f,args,w',h1,h2⟩
  · rw [h1];exact hn _ _ h2
  · rw [h1];exact hn _ _ h2
  · rw [h1]
    refine h2.mono fun e w'' ⟨v,he,hR⟩=>?_
    subst he
    exact hn _ _ hR
theorem Runs.mono {P:Program} {s:Sem Next} {w:World} {R R':Value→World→Prop} (h:Runs P s w R) (hR:∀v w',R v w'→R' v w'):Runs P s w R':=by
  rcases h with ⟨v,w',h1,h2⟩|⟨w',h1,h2⟩|⟨f,args,w',h1,h2⟩
  · exact .inl ⟨v,w',h1,hR _ _ h2⟩
  · exact .inr (.inl ⟨w',h1,hR _ _ h2⟩)
  · exact .inr (.inr ⟨f,args,w',h1,h2.mono fun e w'' ⟨v,he,h⟩=>⟨v,he,hR _ _ h⟩⟩)
theorem Runs.val {P:Program} {s:Sem Next} {w w':World} {R:Value→World→Prop} {v:Value} (h:s.run P w= .ok (.value v) w') (hR:R v w'):Runs P s w R:=.inl ⟨v,w',h,hR⟩
theorem leA_none {w:World} {M:Msk} {a b:AV} {v:Value} (h:leA [] [] a b):(RepT noEnv w M a v→RepT noEnv w M b v)∧(RepG noEnv w M a v→RepG noEnv w M b v)∧(b≠.any→RepC noEnv w M a v→RepC noEnv w M b v):=by
  have nil_ro:∀(r:RO),r.len=0→v= .slice none 0 0→RepRO w M r v:=fun r hr hv=>by
    subst hv
    exact ⟨by rw [hr];exact Nat.zero_le _,none,0,by rw [hr],by rw [hr];exact Nat.le_refl _,.inl (by simp [RO.cells,hr])⟩
  cases b with
  |any=>exact ⟨fun _=>trivial,fun _=>trivial,fun h=>absurd rfl h⟩
  |int k n=>
   cases a<;>try exact h.elim
   simp only [leA,ifK_iff] at h
   obtain ⟨h1,rfl⟩:=h
   obtain rfl:=kq_eq h1
   exact ⟨id,id,fun _=>id⟩
  |bool e=>
   cases a<;>try exact h.elim
   rename_i e'
   have h:e'.val=e.val:=h
   refine ⟨fun hv=>?_,fun hv=>?_,fun _ hv=>?_⟩<;>(have hv:v= .bool e'.val:=hv;exact (by rw [hv,h]:v= .bool e.val))
  |ro r=>
   cases a<;>try exact h.elim
   · have h:_=r:=h
     subst h;exact ⟨id,id,fun _=>id⟩
   · exact ⟨fun hv=>nil_ro r h hv,fun hv=>nil_ro r h hv,fun _ hv=>nil_ro r h hv⟩
  |vec k=>cases a<;>first|exact h.elim|exact h.2.1.elim
  |ptr k o=>cases a<;>first|exact h.elim|exact h.2.2.1.elim
  |nils=>
   cases a<;>try exact h.elim
   exact ⟨id,id,fun _=>id⟩
  |str l=>
   cases a<;>try exact h.elim
   have h:_=l:=h
   subst h;exact ⟨id,id,fun _=>id⟩
  |rptr r i=>
   cases a<;>try exact h.elim
   obtain ⟨rfl,rfl⟩:=h
   exact ⟨id,id,fun _=>id⟩
  |cfn f r i=>
   cases a<;>try exact h.elim
   obtain ⟨rfl,rfl,rfl⟩:=h
   exact ⟨id,id,fun _=>id⟩
  |fn f l=>
   cases l with
   |cons x l=>cases a<;>exact h.elim
   |nil=>
    cases a<;>try exact h.elim
    rename_i g m
    cases m<;>try exact h.elim
    have h:g=f:=h
    subst h
    exact ⟨id,id,fun _=>id⟩
  |_=>exact h.elim
theorem leL_none {w:World} {M:Msk}:∀{l m:List AV} {vs:List Value},leL [] [] l m→RepL (RepC noEnv w M) l vs→RepL (RepC noEnv w M) m vs
  |[],[],_,_,h=>h
  |a::l,b::m,v::vs,h,hv=>by
   refine ⟨?_,leL_none h.2 hv.2⟩
   by_cases hb:b= .any
   · subst hb;exact RepC.isCell hv.1
   · exact (leA_none h.1).2.2 hb hv.1
  |[],_::_,_,h,_=>h.elim
  |_::_,[],_,h,_=>h.elim
  |_::_,_::_,[],_,hv=>hv.elim
theorem leG_none {w:World} {M:Msk}:∀{l m:List AV} {vs:List Value},leG [] [] l m→RepL (RepG noEnv w M) l vs→RepL (RepG noEnv w M) m vs
  |[],[],_,_,h=>h
  |a::l,b::m,v::vs,h,hv=>by
   refine ⟨?_,leG_none h.2 hv.2⟩
   have h1:=h.1
   cases b with
   |agg y=>
    cases a<;>try exact h1.elim
    obtain ⟨cs,h2,h3⟩:=hv.1
    exact ⟨cs,h2,leL_none h1 h3⟩
   |_=>exact (leA_none h1).2.1 hv.1
  |[],_::_,_,h,_=>h.elim
  |_::_,[],_,h,_=>h.elim
  |_::_,_::_,[],_,hv=>hv.elim
theorem leT_none {w:World} {M:Msk} {a b:AV} {v:Value} (h:leT [] [] a b) (hv:RepT noEnv w M a v):RepT noEnv w M b v:=by
  cases b with
  |agg m=>
   cases a<;>try exact h.elim
   obtain ⟨cs,h2,h3⟩:=hv
   exact ⟨cs,h2,leL_none h h3⟩
  |tup m=>
   cases a<;>try exact h.elim
   obtain ⟨cs,h2,h3⟩:=hv
   exact ⟨cs,h2,leG_none h h3⟩
  |fn f m=>
   cases a<;>try exact h.elim
   obtain ⟨cs,h2,h3⟩:=hv
   obtain ⟨rfl,h⟩:=h
   exact ⟨cs,h2,leL_none h h3⟩
  |_=>simp only [leT] at h;exact (leA_none h).1 hv
theorem args_none {w:World} {M:Msk}:∀{l m:List AV} {vs:List Value},argsK l m→RepL (RepT noEnv w M) l vs→RepL (RepT noEnv w M) m vs
  |[],[],_,_,h=>h
  |_::_,_::_,_::_,h,hv=>⟨leT_none h.1 hv.1,args_none h.2 hv.2⟩
  |[],_::_,_,h,_=>h.elim
  |_::_,[],_,h,_=>h.elim
  |_::_,_::_,[],_,hv=>hv.elim
end Go.AM
end
section
namespace Go.AM
open Go
def Cmp (S S':Store):Prop:=∀k B B',findS S k=some B→findS S' k=some B'→B=B'
theorem Cmp.refl (S:Store):Cmp S S:=fun k B B' h h'=>by rw [h] at h';exact Option.some.inj h'
def addS (d:Nat):Option Blk→Store→Store
  |none,S=>S|some b,S=>(d,b)::S
def Out (w0:World) (M0:Base w0) (ρ:Env) (M:Msk) (S:Store) (w:World) (d:Nat) (B:Option Blk) (v:AV) (u:Value) (w':World):Prop:=
  ∃ρ' M',St M0 ρ' M' (addS d B S) w'∧RepT ρ' w' M' v u∧Keep w M w' M'∧∀k o,ρ k=some o→ρ' k=some o
def QS (P:Program) (d:Nat) (o:Op) (T:List AV) (S:Store) (v:AV) (B:Option Blk):Prop:=
  (∀(w0:World) (M0:Base w0) (ρ:Env) (M:Msk) (w:World) (S':Store) (e:Operand→Value) (oo:Oper),oo.op=o→Cmp S S'→St M0 ρ M S' w→
    (∀x∈o.operands,RepT ρ w M (evalF T x) (e x))→(B≠none→findS S' d=none∧loc d=true)→Runs P (execOp e oo) w (Out w0 M0 ρ M S' w d B v))∧
  ((quietOp o&& !makesOp o)=true→B=none→∀(w0:World) (M0:Base w0) (ρ:Env) (w:World) (M:Msk) (S':Store) (e:Operand→Value) (oo:Oper),oo.op=o→Cmp S S'→St M0 ρ M S' w→
    (∀x∈o.operands,RepT ρ w M (evalF T x) (e x))→∃u,(execOp e oo).run P w= .ok (.value u) w∧RepT ρ w M v u)
section
variable {P:Program} {w0 w:World} {M0:Base w0} {ρ:Env} {M:Msk} {S:Store} {d:Nat}
theorem Out.pure {v:AV} {u:Value} (st:St M0 ρ M S w) (h:RepT ρ w M v u):Out w0 M0 ρ M S w d none v u w:=
  ⟨ρ,M,st,h,Keep.refl _ _,fun _ _ h=>h⟩
theorem q_look {S0:Store} {o:Op} {T:List AV} {K:AV→Option Blk→Prop} {v:AV} (hK:K v none)
    (h:∀(w0:World) (M0:Base w0) (ρ:Env) (w:World) (M:Msk) (S':Store) (e:Operand→Value) (oo:Oper),oo.op=o→Cmp S0 S'→St M0 ρ M S' w→(∀x∈o.operands,RepT ρ w M (evalF T x) (e x))→∃u,(execOp e oo).run P w= .ok (.value u) w∧RepT ρ w M v u):
    ∃v B,K v B∧QS P d o T S0 v B:=
  ⟨v,none,hK,(fun w0 M0 ρ M w S' e oo ho hc st he _=>by
    obtain ⟨u,h1,h2⟩:=h w0 M0 ρ w M S' e oo ho hc st he
    exact .val h1 (Out.pure st h2)),fun _ _=>h⟩
theorem q_pure {S0:Store} {o:Op} {T:List AV} {K:AV→Option Blk→Prop} {v:AV} (hK:K v none)
    (h:∀(ρ:Env) (w:World) (M:Msk) (e:Operand→Value) (oo:Oper),oo.op=o→(∀x∈o.operands,RepT ρ w M (evalF T x) (e x))→∃u,(execOp e oo).run P w= .ok (.value u) w∧RepT ρ w M v u):
    ∃v B,K v B∧QS P d o T S0 v B:=q_look hK fun _ _ ρ w M _ e oo ho _ _ he=>h ρ w M e oo ho he
theorem BlkH.ext {w':World} {M':Msk} {ρ':Env} {k:Nat} {B:Blk} (hk:Keep w M w' M') (hρ:∀k o,ρ k=some o→ρ' k=some o)
    (hb:∀b,hasB ρ k b→w'.heap[b]? =w.heap[b]?∧∀off,M' b off↔M b off) (h:BlkH ρ w M k B):BlkH ρ' w' M' k B:=by
  cases B with
  |box l=>
   obtain ⟨b,h2,cs,ty,h3,h4,h5⟩:=h
   have:=hb b (by simp [hasB,h2,Own.has])
   exact ⟨b,hρ _ _ h2,cs,ty,this.1.trans h3,fun off=>(this.2 off).trans (h4 off),h5.imp fun _ _=>RepC.keep hk hρ⟩
  |map kd vk m=>
   obtain ⟨b,h2,es,n,h3,h4,h5⟩:=h
   have:=hb b (by simp [hasB,h2,Own.has])
   exact ⟨b,hρ _ _ h2,es,n,this.1.trans h3,fun off=>(this.2 off).trans (h4 off),h5⟩
  |deep r hole=>
   obtain ⟨o,rows,h2,h3⟩:=h
   exact ⟨o,rows,hρ _ _ h2,h3.ext (g:=gridQ r) hk fun b h=>hb b (by simp only [hasB,h2];exact h)⟩
  |gho l i j=>
   obtain ⟨o,rows,h2,h3,h4⟩:=h
   exact ⟨o,rows,hρ _ _ h2,h3.ext (g:=true) hk fun b h=>hb b (by simp only [hasB,h2];exact h),h4⟩
  |stk n r=>
   obtain ⟨o,cur,h2,h3,h4⟩:=h
   exact ⟨o,cur,hρ _ _ h2,h3.ext0 hk fun b h=>hb b (by simp only [hasB,h2];exact .inr h),h4.ext fun b h=>hb b (by simp only [hasB,h2];exact .inl h)⟩
  |jnk n z=>
   obtain ⟨o,h2,h4⟩:=h
   exact ⟨o,hρ _ _ h2,h4.ext fun b h=>hb b (by simp only [hasB,h2];exact h)⟩
  |vec wm r ov=>
   obtain ⟨⟨o,h2,h3,h4,h5,h6,h7⟩,hov⟩:=h
   refine ⟨⟨o,hρ _ _ h2,h3,h4,h5,h6,?_⟩,hov⟩
   cases hbl:o.blk with
   |none=>simp only [hbl] at h7 ⊢;exact h7
   |some b=>
    simp only [hbl] at h7 ⊢
    have:=hb b (by simp [hasB,h2,Own.has,hbl])
    obtain ⟨h8,cs,ty,h9,h10,h12,h13⟩:=h7
    refine ⟨h8,cs,ty,this.1.trans h9,h10,fun off=>(this.2 off).trans (h12 off),fun q hq=>?_⟩
    obtain ⟨c,h14,h15⟩:=h13 q hq
    refine ⟨c,h14,?_⟩
    split
    · exact CellP.keep hk h15
    · simp only at h15
      split at h15
      · rename_i he;simp only [he,if_true];exact RepC.keep hk hρ h15
      · rename_i he;simp only [he,if_false];exact CellP.keep hk h15
theorem blk_lt (st:St M0 ρ M S w) {k b:Nat} (h:hasB ρ k b):b<w.heap.size:=by
  have hs:(ρ k).isSome:=by cases hk:ρ k with|none=>simp [hasB,hk] at h|some o=>rfl
  rw [st.dom] at hs
  obtain ⟨B,hB⟩:=Option.isSome_iff_exists.1 hs
  have hlt:∀{ob:Obj},w.heap[b]? =some ob→b<w.heap.size:=fun {ob} hh=>by
    rcases Nat.lt_or_ge b w.heap.size with h'|h'
    · exact h'
    · rw [Array.getElem?_eq_none h'] at hh;cases hh
  cases B with
  |box l=>
   obtain ⟨b',h2,cs,ty,h3,_⟩:=st.blk k _ hB
   simp [hasB,h2,Own.has] at h;subst h
   exact hlt h3
  |map kd vk m=>
   obtain ⟨b',h2,es,n,h3,_⟩:=st.blk k _ hB
   simp [hasB,h2,Own.has] at h;subst h
   exact hlt h3
  |deep r hole=>
   obtain ⟨o,rows,h2,h3⟩:=st.blk k _ hB
   simp only [hasB,h2] at h
   obtain ⟨cs,ty,h4⟩:=h3.cells h
   exact hlt h4
  |gho l i j=>
   obtain ⟨o,rows,h2,h3,_⟩:=st.blk k _ hB
   simp only [hasB,h2] at h
   obtain ⟨cs,ty,h4⟩:=h3.cells h
   exact hlt h4
  |stk n r=>
   obtain ⟨o,cur,h2,h3,h4⟩:=st.blk k _ hB
   simp only [hasB,h2] at h
   obtain ⟨cs,ty,h5⟩:=h.elim h4.cells h3.cells
   exact hlt h5
  |jnk n z=>
   obtain ⟨o,h2,h4⟩:=st.blk k _ hB
   simp only [hasB,h2] at h
   obtain ⟨cs,ty,h5⟩:=h4.cells h
   exact hlt h5
  |vec wm r ov=>
   obtain ⟨⟨o,h2,_,_,_,_,h7⟩,_⟩:=st.blk k _ hB
   simp [hasB,h2,Own.has] at h
   simp only [h] at h7
   obtain ⟨_,cs,ty,h9,_⟩:=h7
   exact hlt h9
theorem Stp.keep' {w w':World} {M M':Msk} (h:Stp (fun _ _=>False) w w') (hm:∀b off,b<w.heap.size→M' b off→M b off):Keep w M w' M':=
  fun b off _ hc hn=>⟨h.cell hc (fun h=>h),fun hM=>hn (hm b off (cell_lt hc) hM)⟩
theorem St.same {w':World} {M':Msk} (st:St M0 ρ M S w) (hs:Stp (fun _ _=>False) w w') (hM:∀b off,b<w.heap.size→(M' b off↔M b off)) (hlt:∀b off,M' b off→b<w'.heap.size):
    St M0 ρ M' S w'∧Keep w M w' M':=by
  have hheap:∀b,b<w.heap.size→w'.heap[b]? =w.heap[b]? :=fun b hb=>by
    rcases hs.2 b hb with h|⟨cs,cs',ty,h1,h2,h3,h4⟩|⟨_,_,_,_,_,_,h⟩
    · exact h
    · rw [h1,h2]
      have:cs'=cs:=Array.ext_getElem? fun i=>h4 i (by simp)
      rw [this]
    · exact h.elim
  have hk:Keep w M w' M':=hs.keep' fun b off hb=>(hM b off hb).1
  refine ⟨⟨st.dom,fun k B hB=>BlkH.ext hk (fun _ _ h=>h) (fun b hb=>⟨hheap b (blk_lt st hb),fun off=>hM b off (blk_lt st hb)⟩) (st.blk k B hB),st.inj,hlt,?_,fun b off hb hm=>st.sub b off hb ((hM b off (Nat.lt_of_lt_of_le hb st.stp.1)).1 hm),fun b off hb hl hm=>(hM b off (Nat.lt_of_lt_of_le hb st.stp.1)).2 (st.old b off hb hl hm),st.fresh,st.pin⟩,hk⟩
  · exact st.stp.trans hs (fun _ _ _ h=>h.elim)
theorem St.pushO {w':World} {ob:Obj} (N:Nat→Prop) {own:Own} {B:Blk} (st:St M0 ρ M S w) (hd:findS S d=none) (hloc:loc d=true) (hw:w'.heap=w.heap.push ob) (hio:IoS w w')
    (ho:∀b,own.has b→b=w.heap.size)
    (hB:∀(ρ':Env) (M':Msk),ρ' d=some own→(∀off,M' w.heap.size off↔N off)→Keep w M w' M'→(∀k o,ρ k=some o→ρ' k=some o)→BlkH ρ' w' M' d B):
    ∃ρ' M',St M0 ρ' M' ((d,B)::S) w'∧ρ' d=some own∧Keep w M w' M'∧∀k o,ρ k=some o→ρ' k=some o:=by
  have hρd:ρ d=none:=by
    have:=st.dom d;rw [hd] at this
    cases h:ρ d with|none=>rfl|some o=>rw [h] at this;cases this
  have hs:Stp (fun _ _=>False) w w':=⟨by rw [hw];simp,fun b hb=>.inl (by rw [hw];simp [Array.getElem?_push,Nat.ne_of_lt hb]),hio⟩
  have hnM:∀off,¬M w.heap.size off:=fun off h=>absurd (st.mlt _ _ h) (Nat.lt_irrefl _)
  let M':Msk:=fun b off=>M b off∨(b=w.heap.size∧N off)
  have hMold:∀b off,b<w.heap.size→(M' b off↔M b off):=fun b off hb=>⟨fun h=>h.elim id (fun h=>absurd h.1 (Nat.ne_of_lt hb)),.inl⟩
  have hMlt:∀b off,M' b off→b<w'.heap.size:=fun b off h=>by
    rw [hw];simp
    rcases h with h|⟨rfl,_⟩
    · exact Nat.lt_succ_of_lt (st.mlt _ _ h)
    · exact Nat.lt_succ_self _
  obtain ⟨st',hk⟩:=st.same hs hMold hMlt
  let ρ':Env:=fun k=>if k=d then some own else ρ k
  have hext:∀k o,ρ k=some o→ρ' k=some o:=fun k o h=>by
    have:k≠d:=fun e=>by subst e;rw [hρd] at h;cases h
    simp [ρ',this,h]
  have hρ'd:ρ' d=some own:=by simp [ρ']
  have hnew:∀off,M' w.heap.size off↔N off:=fun off=>⟨fun h=>h.elim (fun h=>absurd h (hnM off)) (fun h=>h.2),fun h=>.inr ⟨rfl,h⟩⟩
  have hold:∀k b,k≠d→hasB ρ' k b→hasB ρ k b:=fun k b hk h=>by simpa [hasB,ρ',hk] using h
  refine ⟨ρ',M',⟨fun k=>?_,fun k B' hB'=>?_,fun i j b hi hj=>?_,hMlt,st'.stp,st'.sub,st'.old,fun k b hkb=>?_,fun k o hk ho=>?_⟩,hρ'd,hk,hext⟩
  · by_cases hkd:k=d
    · subst hkd;simp [hρ'd,find_cons]
    · simp [ρ',hkd,find_cons,Ne.symm hkd,st.dom k]
  · by_cases hkd:k=d
    · subst hkd
      simp only [find_cons,if_true] at hB'
      cases hB'
      exact hB ρ' M' hρ'd hnew hk hext
    · simp only [find_cons,Ne.symm hkd,if_false] at hB'
      exact BlkH.ext (Keep.refl _ _) hext (fun b hb=>⟨rfl,fun _=>Iff.rfl⟩) (st'.blk k B' hB')
  · by_cases hid:i=d
    · by_cases hjd:j=d
      · rw [hid,hjd]
      · subst hid
        have h1:=blk_lt st (hold j b hjd hj)
        simp only [hasB,hρ'd] at hi
        have:=ho _ hi
        omega
    · by_cases hjd:j=d
      · subst hjd
        have h1:=blk_lt st (hold i b hid hi)
        simp only [hasB,hρ'd] at hj
        have:=ho _ hj
        omega
      · exact st.inj _ _ _ (hold i b hid hi) (hold j b hjd hj)
  · by_cases hkd:k=d
    · subst hkd
      simp only [hasB,hρ'd] at hkb
      rw [ho _ hkb];exact .inl st.stp.1
    · exact st.fresh k b (hold k b hkd hkb)
  · by_cases hkd:k=d
    · subst hkd;rw [hloc] at hk;cases hk
    · exact st.pin k o hk (by simpa [ρ',hkd] using ho)
theorem St.push {w':World} {cs:Array Value} {ty:TypeId} {own:Own} {B:Blk} (st:St M0 ρ M S w) (hd:findS S d=none) (hloc:loc d=true) (hw:w'.heap=w.heap.push (.cells cs ty (0,0))) (hio:IoS w w')
    (ho:∀b,own.has b→b=w.heap.size)
    (hB:∀(ρ':Env) (M':Msk),ρ' d=some own→(∀off,M' w.heap.size off↔off<cs.size)→Keep w M w' M'→(∀k o,ρ k=some o→ρ' k=some o)→BlkH ρ' w' M' d B):
    ∃ρ' M',St M0 ρ' M' ((d,B)::S) w'∧ρ' d=some own∧Keep w M w' M'∧∀k o,ρ k=some o→ρ' k=some o:=
  St.pushO (fun off=>off<cs.size) st hd hloc hw hio ho hB
theorem St.find (st:St M0 ρ M S w) {S0:Store} (hc:Cmp S0 S) {k:Nat} {B:Blk} {o:Own} (hf:findS S0 k=some B) (ho:ρ k=some o):findS S k=some B:=by
  have h:=st.dom k
  rw [ho] at h
  obtain ⟨B',hB'⟩:=Option.isSome_iff_exists.1 h.symm
  rw [hB',hc k B B' hf hB']
theorem St.find' (st:St M0 ρ M S w) {S0:Store} (hc:Cmp S0 S) {k:Nat} {B:Blk} {β:Type} {f:Own→Option β} {x:β} (hf:findS S0 k=some B) (ho:(ρ k).bind f=some x):findS S k=some B:=by
  cases h:ρ k with
  |none=>rw [h] at ho;cases ho
  |some o=>exact st.find hc hf h
end
end Go.AM
end
section
namespace Go.AM
open Go
section
variable {P:Program} {TY:List TyE}
theorem TyRow.size {t:Nat} {E:TyE} (h:TyRow P t E) (w:World):(sizeOf t).run P w= .ok E.sz w:=by
  obtain ⟨i,u,h1,_,h3,_⟩:=h.row
  simp [sizeOf,typeInfo,h1,h3]
theorem TyRow.agg {t:Nat} {E:TyE} (h:TyRow P t E) (w:World):(isAgg t).run P w= .ok (isAggD E.d) w:=by
  obtain ⟨i,u,h1,h2,h3,h4,h5,_⟩:=h.row
  cases hd:E.d<;>cases u<;>simp_all [descOK,isAgg,underlying,isAggD]
theorem TyRow.under {t:Nat} {E:TyE} (h:TyRow P t E):∃u,P.underlying t=some u∧descOK E.d u∧∀w,(underlying t).run P w= .ok u w:=by
  obtain ⟨i,u,h1,h2,h3,h4,h5,_⟩:=h.row
  exact ⟨u,h2,h5,fun w=>by simp [underlying,h2]⟩
theorem addr_add (b off n:Nat):(⟨b,off,none⟩:Addr).add n=⟨b,off+n,none⟩:=by
  unfold Addr.add
  split
  · rename_i h;subst h;rfl
  · rfl
theorem RepL.get {R:AV→Value→Prop}:∀{l:List AV} {m:List Value},RepL R l m→∀i,i<l.length→∃v,m[i]? =some v∧R (nth l i) v
  |[],[],_,i,hi=>by simp at hi
  |a::l,v::m,h,0,_=>⟨v,rfl,h.1⟩
  |a::l,v::m,h,i+1,hi=>by obtain ⟨u,h1,h2⟩:=RepL.get h.2 i (by simpa using hi);exact ⟨u,by simpa using h1,h2⟩
  |[],_::_,h,_,_=>h.elim
  |_::_,[],h,_,_=>h.elim
theorem RepL.drop {R:AV→Value→Prop}:∀{l:List AV} {m:List Value} (n:Nat),RepL R l m→RepL R (l.drop n) (m.drop n)
  |_,_,0,h=>by simpa using h
  |[],[],_+1,_=>trivial
  |a::l,v::m,n+1,h=>by simpa using RepL.drop n h.2
  |[],_::_,_+1,h=>h.elim
  |_::_,[],_+1,h=>h.elim
theorem RepL.take {R:AV→Value→Prop}:∀{l:List AV} {m:List Value} (n:Nat),RepL R l m→RepL R (l.take n) (m.take n)
  |_,_,0,_=>by simp;trivial
  |[],[],_+1,_=>trivial
  |a::l,v::m,n+1,h=>by show RepL R (a::l.take n) (v::m.take n);exact ⟨h.1,RepL.take n h.2⟩
  |[],_::_,_+1,h=>h.elim
  |_::_,[],_+1,h=>h.elim
theorem RepL.append {R:AV→Value→Prop}:∀{l l':List AV} {m m':List Value},RepL R l m→RepL R l' m'→RepL R (l++l') (m++m')
  |[],_,[],_,_,h'=>h'
  |_::_,_,_::_,_,h,h'=>⟨h.1,RepL.append h.2 h'⟩
  |[],_,_::_,_,h,_=>h.elim
  |_::_,_,[],_,h,_=>h.elim
theorem take_nth (l:List AV) (n:Nat):(l.drop n).head? =if n<l.length then some (nth l n) else none:=by
  induction l generalizing n with
  |nil=>simp
  |cons a l ih=>cases n with
   |zero=>simp [nth]
   |succ n=>simpa [nth] using ih n
theorem part_iff {t:Nat} {l:List AV} {off:Nat} {K:AV→Prop} (h:partK TY t l off K):
    ∃a,K a∧off+(nthT TY t).sz≤l.length∧((isAggD (nthT TY t).d=true∧a= .agg ((l.drop off).take (nthT TY t).sz))∨(isAggD (nthT TY t).d=false∧(nthT TY t).sz=1∧a=nth l off)):=by
  have one:∀{K:AV→Prop},ifK (Nat.beq (nthT TY t).sz 1) (dropK l off fun l=>match l with|a::_=>forceA a K|[]=>False)→(nthT TY t).sz=1∧off+1≤l.length∧K (nth l off):=by
    intro K h
    rw [ifK_iff] at h
    obtain ⟨h1,h2⟩:=h
    obtain ⟨h3,h4⟩:=drop_iff h2
    refine ⟨beq_iff'.1 h1,?_⟩
    have h5:=take_nth l off
    cases hd:l.drop off with
    |nil=>rw [hd] at h4;exact h4.elim
    |cons a m=>
     rw [hd] at h4 h5
     have hlt:off<l.length:=by
       rcases Nat.lt_or_ge off l.length with h'|h'
       · exact h'
       · rw [List.drop_eq_nil_of_le h'] at hd;cases hd
     simp [hlt] at h5
     exact ⟨hlt,by rw [←h5];exact force_iff.1 h4⟩
  have two:(dropK l off fun l=>takeK l (nthT TY t).sz fun m=>K (.agg m))→off+(nthT TY t).sz≤l.length∧K (.agg ((l.drop off).take (nthT TY t).sz)):=by
    intro h
    obtain ⟨h1,h2⟩:=drop_iff h
    obtain ⟨h3,h4⟩:=take_iff h2
    rw [List.length_drop] at h3
    exact ⟨by omega,h4⟩
  unfold partK at h
  cases hd:(nthT TY t).d<;>simp only [hd] at h<;>first
    |exact ⟨_,(two h).2,(two h).1,.inl ⟨rfl,rfl⟩⟩
    |(obtain ⟨h1,h2,h3⟩:=one h;exact ⟨_,h3,by omega,.inr ⟨rfl,h1,rfl⟩⟩)
theorem cells_two {v:AV} {n:Nat} {K:List AV→Prop} (h:match v with|.agg m=>(match sameLen m n with|true=>K m|false=>False)|_=>False):
    ∃m,K m∧m.length=n∧v= .agg m:=by
  split at h
  · rename_i m
    split at h
    · rename_i hs;exact ⟨m,h,same_len hs,rfl⟩
    · exact h.elim
  · exact h.elim
theorem cells_one {v:AV} {n:Nat} {K:List AV→Prop} (h:match cellOK v with|true=>(match sameLen [v] n with|true=>K [v]|false=>False)|false=>False):
    K [v]∧1=n∧cellOK v=true:=by
  split at h
  · rename_i hc
    split at h
    · rename_i hs;exact ⟨h,same_len hs,hc⟩
    · exact h.elim
  · exact h.elim
theorem cells_iff {t:Nat} {v:AV} {K:List AV→Prop} (h:asCellsK TY t v K):
    ∃m,K m∧m.length=(nthT TY t).sz∧((isAggD (nthT TY t).d=true∧v= .agg m)∨(isAggD (nthT TY t).d=false∧cellOK v=true∧m=[v])):=by
  unfold asCellsK at h
  split at h<;>rename_i hd
  · obtain ⟨m,h1,h2,h3⟩:=cells_two h;exact ⟨m,h1,h2,.inl ⟨by rw [hd];rfl,h3⟩⟩
  · obtain ⟨m,h1,h2,h3⟩:=cells_two h;exact ⟨m,h1,h2,.inl ⟨by rw [hd];rfl,h3⟩⟩
  · rename_i hd2
    obtain ⟨h1,h2,h3⟩:=cells_one h
    refine ⟨[v],h1,h2,.inr ⟨?_,h3,rfl⟩⟩
    cases hx:(nthT TY t).d<;>first|rfl|(exact absurd hx (hd _))|(exact absurd hx (hd2 _))|(exact absurd hx (hd2 _ _))|(exact absurd hx (hd _ _))
theorem cellOK_rep {ρ:Env} {w:World} {M:Msk} {a:AV} {v:Value} (h:cellOK a=true) (hv:RepT ρ w M a v):RepC ρ w M a v:=by
  cases a with
  |fn f l=>
   cases l with
   |nil=>obtain ⟨cs,rfl,h2⟩:=hv;cases hcs:cs.toList with
    |nil=>have:cs= #[]:=by simpa using congrArg List.toArray hcs
          subst this;exact rfl
    |cons x l=>rw [hcs] at h2;exact h2.elim
   |cons x l=>cases h
  |agg l=>cases h
  |tup l=>cases h
  |any=>cases h
  |_=>exact hv
theorem const_rep (ρ:Env) (w:World) (M:Msk) (v:Value):RepT ρ w M (constA v) v:=by
  unfold constA
  split
  · rename_i k n
    cases hf:fitB k n with
    |true=>exact ⟨rfl,fit_in hf⟩
    |false=>trivial
  · exact rfl
  · exact rfl
  · split
    · rename_i hb;exact str_nil (ρ:=ρ) (w:=w) (M:=M) (beq_iff'.1 hb)
    · trivial
  · trivial
theorem eval_rep {ρ:Env} {w:World} {M:Msk} {T:List AV} {a:Act} (tm:Tm ρ w M T a) (x:Operand):RepT ρ w M (evalF T x) (a.eval x):=by
  cases x with
  |tmp t=>exact tm.tmp t
  |const v=>exact const_rep _ _ _ _
  |global g=>trivial
  |func f=>exact ⟨#[],rfl,trivial⟩
theorem wrap_rep {k:IntKind} {n:Int} {ρ:Env} {w:World} {M:Msk} (h:inK k n):RepT ρ w M (.int k n) (.int k (k.wrap n)):=by
  rw [wrap_in h];exact ⟨rfl,h⟩
theorem tdiv_in {k:IntKind} {a b:Int} (ha:inK k a) (h0:0≤a) (hb:0<b):inK k (a / b):=by
  have h1:0≤a / b:=Int.ediv_nonneg h0 (by omega)
  have h2:a / b≤a:=Int.ediv_le_self b h0
  have hmin:k.min≤0:=by cases k<;>simp [IntKind.min,IntKind.bits,IntKind.signed]
  exact ⟨by omega,by have:=ha.2;omega⟩
theorem mod_in {k:IntKind} {a b:Int} (hb':inK k b) (hb:0<b):inK k (a % b):=by
  have h1:0≤a % b:=Int.emod_nonneg _ (by omega)
  have h2:a % b<b:=Int.emod_lt_of_pos _ hb
  have hmin:k.min≤0:=by cases k<;>simp [IntKind.min,IntKind.bits,IntKind.signed]
  exact ⟨by omega,by have:=hb'.2;omega⟩
theorem fdiv_in {k:IntKind} {a:Int} (ha:inK k a) (n:Nat):inK k (a.fdiv (2 ^ n)):=by
  have hp:(0:Int)<2 ^ n:=Int.pow_pos (by decide)
  have hmin:k.min≤0:=by cases k<;>simp [IntKind.min,IntKind.bits,IntKind.signed]
  have hmax:0≤k.max:=by cases k<;>simp [IntKind.max,IntKind.bits,IntKind.signed]
  rw [Int.fdiv_eq_ediv_of_nonneg _ (Int.le_of_lt hp)]
  obtain ⟨h1,h2⟩:=ha
  have h3:a / 2 ^ n≤max a 0:=by
    rcases Int.le_total 0 a with h|h
    · have:=Int.ediv_le_self (2 ^ n:Int) h;omega
    · have:=Int.ediv_nonpos_of_nonpos_of_neg h hp;omega
  have h4:min a 0≤a / 2 ^ n:=by
    rcases Int.le_total 0 a with h|h
    · have:=Int.ediv_nonneg h (Int.le_of_lt hp);omega
    · have h5:a≤a / 2 ^ n:=by
        rw [Int.le_ediv_iff_mul_le hp]
        have h1:(1:Int)≤2 ^ n:=by omega
        have h2:=Int.mul_le_mul_of_nonpos_left h h1
        rw [Int.mul_one] at h2;exact h2
      omega
  exact ⟨by omega,by omega⟩
theorem run_equal_bool {t:Nat} (hu:P.underlying t=some .bool) (a b:Bool) (w:World):(Op.equal t (.bool a) (.bool b)).run P w= .ok (a==b) w:=by
  have h:∀n,(Op.equalIn (n+1) t (.bool a) (.bool b)).run P w= .ok (a==b) w:=fun n=>by simp [Op.equalIn,underlying,hu]
  exact h 9999
theorem utf8_ascii {n:Int} (h0:0≤n) (h1:n<128):Utf8.encode n=strB [n]:=by
  have hv:Utf8.valid n=true:=by simp [Utf8.valid];omega
  have hc:n.toNat<0x80:=by omega
  simp [Utf8.encode,hv,hc,strB]
theorem strB_len (a:List Int):(strB a).size=a.length:=by simp [strB,ByteArray.size]
theorem strB_app (a b:List Int):strB a++strB b=strB (a++b):=by
  apply ByteArray.ext
  simp [strB]
theorem byte_inj {x y:Int} (hx:byteP x) (hy:byteP y) (h:UInt8.ofNat x.toNat=UInt8.ofNat y.toNat):x=y:=by
  have h:=congrArg UInt8.toNat h
  obtain ⟨h1,h2⟩:=hx
  obtain ⟨h3,h4⟩:=hy
  simp [UInt8.toNat_ofNat'] at h
  omega
theorem bytes_same:∀{a b:List Int},(∀x∈a,byteP x)→(∀x∈b,byteP x)→(a.map fun x=>UInt8.ofNat x.toNat)=(b.map fun x=>UInt8.ofNat x.toNat)→a=b
  |[],[],_,_,_=>rfl
  |[],_::_,_,_,h=>by simp at h
  |_::_,[],_,_,h=>by simp at h
  |x::a,y::b,ha,hb,h=>by
   simp only [List.map_cons,List.cons.injEq] at h
   rw [byte_inj (ha x (by simp)) (hb y (by simp)) h.1,bytes_same (fun z hz=>ha z (List.mem_cons_of_mem _ hz)) (fun z hz=>hb z (List.mem_cons_of_mem _ hz)) h.2]
theorem strB_eq {a b:List Int} (ha:∀x∈a,byteP x) (hb:∀x∈b,byteP x):((strB a).toList==(strB b).toList)=(a==b):=by
  by_cases e:a=b
  · subst e;exact (beq_self_eq_true _).trans (beq_self_eq_true _).symm
  · rw [beq_eq_false_iff_ne.2 e,Bool.eq_false_iff,←beq_toListBytes]
    intro h
    have h:(strB a).data==(strB b).data:=h
    have h:(strB a).data=(strB b).data:=eq_of_beq h
    exact e (bytes_same ha hb (by simpa [strB] using h))
theorem two_str {ρ:Env} {w:World} {M:Msk} {a b:List Int} {u:Value} (h:RepT ρ w M (.agg [.str a,.str b]) u):u= .agg #[.string (strB a),.string (strB b)]∧(∀x∈a,byteP x)∧∀x∈b,byteP x:=by
  obtain ⟨cs,rfl,hcs⟩:=h
  obtain ⟨l⟩:=cs
  match l,hcs with
  |[c,d],hcs=>
   obtain ⟨⟨rfl,g1⟩,⟨rfl,g2⟩,_⟩:=hcs
   exact ⟨rfl,g1,g2⟩
theorem run_equalIn_str (w:World) (d:Nat) (t:TypeId) {a b:List Int} (ha:∀x∈a,byteP x) (hb:∀x∈b,byteP x) (hu:P.underlying t=some .string):
    (Op.equalIn (d+1) t (.string (strB a)) (.string (strB b))).run P w= .ok (a==b) w:=by
  rw [run_equalIn_string w d t _ _ hu,strB_eq ha hb]
theorem rul_eq (hty:TyOk P TY) {t:Nat} (hf:rulT TY t=true):P.eqGuardType P.depth t=false∧∀{a b c d:List Int},(∀x∈a,byteP x)→(∀x∈b,byteP x)→(∀x∈c,byteP x)→(∀x∈d,byteP x)→∀w,
    (Op.equalIn 10000 t (.agg #[.string (strB a),.string (strB b)]) (.agg #[.string (strB c),.string (strB d)])).run P w= .ok (a==c&&b==d) w:=by
  unfold rulT at hf
  split at hf
  · rename_i ta tb hd
    split at hf
    · rename_i hz hda hdb
      have hrow:=hty.at (t:=t) (.inr (by rw [hd];simp))
      obtain ⟨hst,hgd,hnm⟩:=hrow.eqr hz
      obtain ⟨u,hu,h2,hru⟩:=hrow.under
      clear hru
      rw [hd] at h2
      cases u<;>try exact h2.elim
      rename_i F
      have hF:P.fieldsOf t=F:=by simp [Program.fieldsOf,hu]
      rw [hF] at hnm
      have h2:[(0,ta),(1,tb)]=F.toList.map (fun f=>(f.offset,f.type)):=h2
      have hra:=hty.at (t:=ta) (.inr (by rw [hda];simp))
      have hrb:=hty.at (t:=tb) (.inr (by rw [hdb];simp))
      have hua:P.underlying ta=some .string:=by
        obtain ⟨u,g1,g2,_⟩:=hra.under
        rw [hda] at g2
        cases u<;>first|exact g1|exact g2.elim
      have hub:P.underlying tb=some .string:=by
        obtain ⟨u,g1,g2,_⟩:=hrb.under
        rw [hdb] at g2
        cases u<;>first|exact g1|exact g2.elim
      have hga:∀w,(isAgg ta).run P w= .ok false w:=fun w=>by rw [hra.agg w,hda];rfl
      have hgb:∀w,(isAgg tb).run P w= .ok false w:=fun w=>by rw [hrb.agg w,hdb];rfl
      obtain ⟨f0,f1,hFl⟩:∃f0 f1,F.toList=[f0,f1]:=by
        have hl:F.toList.length=2:=by have:=congrArg List.length h2;simpa using this.symm
        match F.toList,hl with
        |[x,y],_=>exact ⟨x,y,rfl⟩
      rw [hFl] at h2
      simp only [List.map_cons,List.map_nil,List.cons.injEq,Prod.mk.injEq,and_true] at h2
      obtain ⟨⟨ho0,rfl⟩,⟨ho1,rfl⟩⟩:=h2
      rw [hFl] at hnm
      have hn0:=hnm f0 (by simp)
      have hn1:=hnm f1 (by simp)
      have hp0:∀w (x y:Value),(part f0.type #[x,y] f0.offset).run P w= .ok x w:=fun w x y=>by simp [part,hga,←ho0]
      have hp1:∀w (x y:Value),(part f1.type #[x,y] f1.offset).run P w= .ok y w:=fun w x y=>by simp [part,hgb,←ho1]
      refine ⟨hgd,fun {a b c d} ha hb hc hd w=>?_⟩
      rw [run_equalIn_struct w 9999 t _ _ (by rw [hF];exact hu) hst,hF,hFl]
      have q0:=run_equalIn_str (P:=P) w 9998 f0.type ha hc hua
      have q1:=run_equalIn_str (P:=P) w 9998 f1.type hb hd hub
      generalize (a==c)=e1 at q0 ⊢
      generalize (b==d)=e2 at q1 ⊢
      cases e1<;>cases e2<;>simp [Op.eqFields,hn0,hn1,hp0,hp1,q0,q1]
    · cases hf
  · cases hf
theorem bin_sound (hty:TyOk P TY) {op:BinOp} {t:Nat} {a b:AV} {K:AV→Prop} (h:binK TY op t a b K):
    ∃v,K v∧∀(ρ:Env) (w:World) (M:Msk) (x y:Operand) (u1 u2:Value),RepT ρ w M a u1→RepT ρ w M b u2→
     ∃u,(do eqGuard op t x y u1 u2;binOp op t u1 u2:Sem Value).run P w= .ok u w∧RepT ρ w M v u:=by
  have guard_int:∀(x y:Operand) (k k':IntKind) (n m:Int) (w:World),(eqGuard op t x y (.int k n) (.int k' m)).run P w= .ok () w:=by
    intro x y k k' n m w;cases op<;>rfl
  cases a with
  |int k a=>
   cases b with
   |int k' b=>
    have fin:∀(v:AV),K v→(∀(ρ:Env) (w:World) (M:Msk),inK k a→inK k' b→∃u,(binOp op t (.int k a) (.int k' b)).run P w= .ok u w∧RepT ρ w M v u)→
        ∃v,K v∧∀(ρ:Env) (w:World) (M:Msk) (x y:Operand) (u1 u2:Value),RepT ρ w M (.int k a) u1→RepT ρ w M (.int k' b) u2→
         ∃u,(do eqGuard op t x y u1 u2;binOp op t u1 u2:Sem Value).run P w= .ok u w∧RepT ρ w M v u:=by
      intro v hK hv
      refine ⟨v,hK,fun ρ w M x y u1 u2 h1 h2=>?_⟩
      obtain ⟨rfl,h1⟩:=h1
      obtain ⟨rfl,h2⟩:=h2
      obtain ⟨u,h3,h4⟩:=hv ρ w M h1 h2
      exact ⟨u,by simp [guard_int,h3],h4⟩
    cases op<;>simp only [binK,ifK_iff] at h
    case shl=>
      refine fin _ h.2 fun ρ w M ha hb=>⟨.int k (shlI k a b),?_,rfl,in_wrap _ _⟩
      simp [binOp,Op.shift,shlI,Int.not_lt.2 h.1]
    case shr=>
      refine fin _ h.2 fun ρ w M ha hb=>⟨.int k (shrI k a b),?_,rfl,fdiv_in ha _⟩
      simp [binOp,Op.shift,shrI,Int.not_lt.2 h.1]
    all_goals (first|exact h.2.elim|skip)
    all_goals (obtain ⟨hk,h⟩:=h;obtain rfl:=kq_eq hk)
    case lss=>exact fin _ h fun ρ w M ha hb=>⟨.bool (decide (a<b)),by simp [binOp,Op.intCmp],rfl⟩
    case leq=>exact fin _ h fun ρ w M ha hb=>⟨.bool (decide (a≤b)),by simp [binOp,Op.intCmp],rfl⟩
    case gtr=>exact fin _ h fun ρ w M ha hb=>⟨.bool (decide (b<a)),by simp [binOp,Op.intCmp],rfl⟩
    case geq=>exact fin _ h fun ρ w M ha hb=>⟨.bool (decide (b≤a)),by simp [binOp,Op.intCmp],rfl⟩
    case eql=>exact fin _ h fun ρ w M ha hb=>⟨.bool (a==b),by simp [binOp,Op.intCmp],by show Value.bool (a==b)= .bool (decide (a=b));congr 1⟩
    case neq=>exact fin _ h fun ρ w M ha hb=>⟨.bool (a !=b),by simp [binOp,Op.intCmp],by show Value.bool (a !=b)= .bool (decide (a≠b));congr 1;simp [bne,Bool.beq_eq_decide_eq]⟩
    case add=>rw [rangeP_iff] at h;exact fin _ h.2 fun ρ w M ha hb=>⟨.int k (k.wrap (a+b)),by simp [binOp,Op.intArith],wrap_rep h.1⟩
    case sub=>rw [rangeP_iff] at h;exact fin _ h.2 fun ρ w M ha hb=>⟨.int k (k.wrap (a - b)),by simp [binOp,Op.intArith],wrap_rep h.1⟩
    case mul=>rw [rangeP_iff] at h;exact fin _ h.2 fun ρ w M ha hb=>⟨.int k (k.wrap (a*b)),by simp [binOp,Op.intArith],wrap_rep h.1⟩
    case quo=>
      obtain ⟨⟨h0,h1⟩,h2⟩:=h
      refine fin _ h2 fun ρ w M ha hb=>⟨.int k (k.wrap (a.tdiv b)),by simp [binOp,Op.intDiv,show b≠0 from by omega],?_⟩
      rw [Int.tdiv_eq_ediv_of_nonneg h0]
      exact wrap_rep (tdiv_in ha h0 h1)
    case rem=>
      rcases h with ⟨⟨h0,h1⟩,h2⟩|⟨h1,h2⟩
      · refine fin _ h2 fun ρ w M ha hb=>⟨.int k (a.tmod b),by simp [binOp,Op.intDiv,show b≠0 from by omega],?_⟩
        rw [Int.tmod_eq_emod_of_nonneg h0]
        exact ⟨rfl,mod_in hb h1⟩
      · refine fin _ h2 fun ρ w M ha hb=>⟨.int k (a.tmod b),by simp [binOp,Op.intDiv,show b≠0 from by omega],rfl,?_⟩
        rcases Int.le_total 0 a with h0|h0
        · rw [Int.tmod_eq_emod_of_nonneg h0];exact mod_in hb h1
        · have h3:=Int.neg_tmod (-a) b
          have h4:(-a).tmod b≤ -a:=by
            rw [Int.tmod_eq_emod_of_nonneg (by omega)]
            have e:=Int.mul_ediv_add_emod (-a) b
            have e2:=Int.mul_nonneg (show 0≤b by omega) (Int.ediv_nonneg (show 0≤ -a by omega) (show 0≤b by omega))
            omega
          have h5:0≤(-a).tmod b:=Int.tmod_nonneg _ (by omega)
          rw [Int.neg_neg] at h3
          obtain ⟨g1,g2⟩:=ha
          have hmax:0≤k.max:=by cases k<;>simp [IntKind.max,IntKind.bits,IntKind.signed]
          exact ⟨by omega,by omega⟩
    case and=>exact fin _ h fun ρ w M ha hb=>⟨.int k (andI k a b),by simp [binOp,Op.intBits,andI],rfl,in_wrap _ _⟩
    case or=>exact fin _ h fun ρ w M ha hb=>⟨.int k (orI k a b),by simp [binOp,Op.intBits,orI],rfl,in_wrap _ _⟩
   |_=>exact h.elim
  |bool a=>
   cases b with
   |bool b=>
    have hu:boolT TY t=true→P.underlying t=some .bool:=by
      intro hb
      unfold boolT at hb
      split at hb
      · rename_i hd
        obtain ⟨u,h1,h2,_⟩:=(hty.at (t:=t) (.inr (by rw [hd];simp))).under
        rw [hd] at h2
        cases u<;>first|exact h1|exact h2.elim
      · cases hb
    cases op<;>simp only [binK,ifK_iff] at h<;>try exact h.elim
    case eql=>
      refine ⟨_,h.2,fun ρ w M x y u1 u2 h1 h2=>?_⟩
      have h1:u1= .bool a.val:=h1
      have h2:u2= .bool b.val:=h2
      subst h1;subst h2
      exact ⟨.bool (a.val==b.val),by simp [eqGuard,binOp,run_equal_bool (hu h.1)],rfl⟩
    case neq=>
      refine ⟨_,h.2,fun ρ w M x y u1 u2 h1 h2=>?_⟩
      have h1:u1= .bool a.val:=h1
      have h2:u2= .bool b.val:=h2
      subst h1;subst h2
      exact ⟨.bool (!(a.val==b.val)),by simp [eqGuard,binOp,run_equal_bool (hu h.1)],rfl⟩
   |_=>exact h.elim
  |ro r=>
   cases b with
   |nils=>
    simp only [binK,ifK_iff] at h
    obtain ⟨hs,h⟩:=h
    have hu:∃e,P.underlying t=some (.slice e):=by
      unfold sliceT at hs
      split at hs
      · rename_i e hd
        obtain ⟨u,h1,h2,_⟩:=(hty.at (t:=t) (.inr (by rw [hd];simp))).under
        rw [hd] at h2
        cases u<;>first|exact ⟨_,h1⟩|exact h2.elim
      · cases hs
    obtain ⟨e,hu⟩:=hu
    have look:∀{w:World} {M:Msk} {u:Value},RepRO w M r u→∃x:Bool,(Op.equal t u (.slice none 0 0)).run P w= .ok x w∧(x=true→r.len=0):=fun {w M u} hr=>by
      obtain ⟨_,a,cap,rfl,hcap,hh⟩:=hr
      cases a with
      |none=>
       refine ⟨true,?_,fun _=>?_⟩
       · have h:∀n,(Op.equalIn (n+1) t (.slice none r.len cap) (.slice none 0 0)).run P w= .ok true w:=fun n=>by simp [Op.equalIn,underlying,hu]
         exact h 9999
       · rcases hh with hh|⟨b,off,hh,_⟩
         · have:=r.sz_pos
           rcases Nat.eq_zero_or_pos r.len with h0|h0
           · exact h0
           · have:0<r.cells:=Nat.mul_pos h0 this
             omega
         · cases hh
      |some a=>
       refine ⟨false,?_,fun h=>by cases h⟩
       have h:∀n,(Op.equalIn (n+1) t (.slice (some a) r.len cap) (.slice none 0 0)).run P w= .ok false w:=fun n=>by simp [Op.equalIn,underlying,hu]
       exact h 9999
    split at h
    · rw [len_iff] at h
      refine ⟨_,h,fun ρ w M x y u1 u2 h1 h2=>?_⟩
      have h2:u2= .slice none 0 0:=h2
      subst h2
      obtain ⟨b,g1,g2⟩:=look h1
      have h1:RepRO w M r u1:=h1
      obtain ⟨_,a,cap,rfl,_,_⟩:=h1
      exact ⟨.bool b,by simp [eqGuard,binOp,g1],b,rfl,g2⟩
    · rw [len_iff] at h
      refine ⟨_,h,fun ρ w M x y u1 u2 h1 h2=>?_⟩
      have h2:u2= .slice none 0 0:=h2
      subst h2
      obtain ⟨b,g1,g2⟩:=look h1
      have h1:RepRO w M r u1:=h1
      obtain ⟨_,a,cap,rfl,_,_⟩:=h1
      exact ⟨.bool (!b),by simp [eqGuard,binOp,g1],!b,rfl,fun h=>g2 (by simpa using h)⟩
    · exact h.elim
   |_=>exact h.elim
  |agg l=>
   cases b with
   |agg m=>
    simp only [binK] at h
    unfold facEqK at h
    split at h
    · rename_i l' m' a e b f
      simp only [ifK_iff] at h
      obtain ⟨hfac,h⟩:=h
      unfold facT at hfac
      split at hfac
      · rename_i ta tb hd
        split at hfac
        · rename_i hz hia hbb
          have hrow:=hty.at (t:=t) (.inr (by rw [hd];simp))
          obtain ⟨hst,hgd,hnm⟩:=hrow.eqs hz
          obtain ⟨u,hu,h2,hru⟩:=hrow.under
          clear hru
          rw [hd] at h2
          cases u<;>try exact h2.elim
          rename_i F
          have hF:P.fieldsOf t=F:=by simp [Program.fieldsOf,hu]
          rw [hF] at hnm
          have h2:[(0,ta),(1,tb)]=F.toList.map (fun f=>(f.offset,f.type)):=h2
          have hda:(nthT TY ta).d= .int .i64:=by
            unfold isI64 at hia;split at hia
            · assumption
            · cases hia
          have hdb:(nthT TY tb).d= .bool:=by
            unfold boolT at hbb;split at hbb
            · assumption
            · cases hbb
          have hra:=hty.at (t:=ta) (.inr (by rw [hda];simp))
          have hrb:=hty.at (t:=tb) (.inr (by rw [hdb];simp))
          have hua:P.underlying ta=some (.int .i64):=by
            obtain ⟨u,g1,g2,_⟩:=hra.under
            rw [hda] at g2
            cases u<;>first|exact g2.elim|(have g2:_=_:=g2;subst g2;exact g1)
          have hub:P.underlying tb=some .bool:=by
            obtain ⟨u,g1,g2,_⟩:=hrb.under
            rw [hdb] at g2
            cases u<;>first|exact g1|exact g2.elim
          have hga:∀w,(isAgg ta).run P w= .ok false w:=fun w=>by rw [hra.agg w,hda];rfl
          have hgb:∀w,(isAgg tb).run P w= .ok false w:=fun w=>by rw [hrb.agg w,hdb];rfl
          obtain ⟨f0,f1,hFl⟩:∃f0 f1,F.toList=[f0,f1]:=by
            have hl:F.toList.length=2:=by have:=congrArg List.length h2;simpa using this.symm
            match F.toList,hl with
            |[x,y],_=>exact ⟨x,y,rfl⟩
          rw [hFl] at h2
          simp only [List.map_cons,List.map_nil,List.cons.injEq,Prod.mk.injEq,and_true] at h2
          obtain ⟨⟨ho0,rfl⟩,⟨ho1,rfl⟩⟩:=h2
          rw [hFl] at hnm
          have hn0:=hnm f0 (by simp)
          have hn1:=hnm f1 (by simp)
          have hp0:∀w (x y:Value),(part f0.type #[x,y] f0.offset).run P w= .ok x w:=fun w x y=>by simp [part,hga,←ho0]
          have hp1:∀w (x y:Value),(part f1.type #[x,y] f1.offset).run P w= .ok y w:=fun w x y=>by simp [part,hgb,←ho1]
          have hq:∀w,(Op.equalIn 10000 t (.agg #[.int .i64 a,.bool e.val]) (.agg #[.int .i64 b,.bool f.val])).run P w= .ok (a==b&&e.val==f.val) w:=fun w=>by
            rw [run_equalIn_struct w 9999 t _ _ (by rw [hF];exact hu) hst,hF,hFl]
            have q0:=run_equalIn_int (P:=P) w 9998 f0.type .i64 .i64 a b hua
            have q1:=run_equalIn_bool' (P:=P) w 9998 f1.type e.val f.val hub
            cases hab:a==b<;>rw [hab] at q0<;>simp [Op.eqFields,hn0,hn1,hp0,hp1,q0,q1]
            cases e.val<;>cases f.val<;>rfl
          have fin:∀(v:AV) (r:Bool),K v→v= .bool (.v r)→(∀w,(binOp op t (.agg #[.int .i64 a,.bool e.val]) (.agg #[.int .i64 b,.bool f.val])).run P w= .ok (.bool r) w)→
              ∃v,K v∧∀(ρ:Env) (w:World) (M:Msk) (x y:Operand) (u1 u2:Value),RepT ρ w M (.agg [.int .i64 a,.bool e]) u1→RepT ρ w M (.agg [.int .i64 b,.bool f]) u2→
               ∃u,(do eqGuard op t x y u1 u2;binOp op t u1 u2:Sem Value).run P w= .ok u w∧RepT ρ w M v u:=fun v r hK hv hb=>by
            subst hv
            refine ⟨_,hK,fun ρ w M x y u1 u2 h1 h2=>?_⟩
            have two:∀{x:Int} {g:BE} {u:Value},RepT ρ w M (.agg [.int .i64 x,.bool g]) u→u= .agg #[.int .i64 x,.bool g.val]:=fun {x g u} hu=>by
              obtain ⟨cs,rfl,hcs⟩:=hu
              obtain ⟨l⟩:=cs
              match l,hcs with
              |[c,d],hcs=>
               obtain ⟨⟨rfl,_⟩,r2,_⟩:=hcs
               have r2:d= .bool g.val:=r2
               subst r2;rfl
            obtain rfl:=two h1
            obtain rfl:=two h2
            refine ⟨.bool r,?_,rfl⟩
            rw [Sem.run_bind,run_eqGuard_agg w op t x y _ _ hgd]
            exact hb w
          split at h
          · exact fin _ _ h rfl fun w=>by rw [run_eql_struct,hq w];rfl
          · exact fin _ _ h rfl fun w=>by rw [run_neq_struct,hq w];rfl
          · exact h.elim
        · cases hfac
      · cases hfac
    · rename_i l' m' a b c d
      simp only [ifK_iff] at h
      obtain ⟨hfac,h⟩:=h
      obtain ⟨hgd,hq⟩:=rul_eq hty hfac
      have fin:∀(v:AV) (r:Bool),K v→v= .bool (.v r)→((∀x∈a,byteP x)→(∀x∈b,byteP x)→(∀x∈c,byteP x)→(∀x∈d,byteP x)→∀w,(binOp op t (.agg #[.string (strB a),.string (strB b)]) (.agg #[.string (strB c),.string (strB d)])).run P w= .ok (.bool r) w)→
          ∃v,K v∧∀(ρ:Env) (w:World) (M:Msk) (x y:Operand) (u1 u2:Value),RepT ρ w M (.agg [.str a,.str b]) u1→RepT ρ w M (.agg [.str c,.str d]) u2→
           ∃u,(do eqGuard op t x y u1 u2;binOp op t u1 u2:Sem Value).run P w= .ok u w∧RepT ρ w M v u:=fun v r hK hv hb=>by
        subst hv
        refine ⟨_,hK,fun ρ w M x y u1 u2 h1 h2=>?_⟩
        obtain ⟨rfl,g1,g2⟩:=two_str h1
        obtain ⟨rfl,g3,g4⟩:=two_str h2
        refine ⟨.bool r,?_,rfl⟩
        rw [Sem.run_bind,run_eqGuard_agg w op t x y _ _ hgd]
        exact hb g1 g2 g3 g4 w
      split at h
      · exact fin _ _ h rfl fun g1 g2 g3 g4 w=>by rw [run_eql_struct,hq g1 g2 g3 g4 w];rfl
      · exact fin _ _ h rfl fun g1 g2 g3 g4 w=>by rw [run_neq_struct,hq g1 g2 g3 g4 w];rfl
      · exact h.elim
    · exact h.elim
   |_=>exact h.elim
  |str a=>
   cases b with
   |str b=>
    simp only [binK] at h
    have hg:∀(x y:Operand) (s r:ByteArray) (w:World),(eqGuard op t x y (.string s) (.string r)).run P w= .ok () w:=by
      intro x y s r w;cases op<;>rfl
    split at h
    · refine ⟨_,h.2,fun ρ w M x y u1 u2 h1 h2=>?_⟩
      obtain ⟨rfl,g1⟩:=h1
      obtain ⟨rfl,g2⟩:=h2
      refine ⟨.string (strB (a++b)),?_,rfl,fun z hz=>(List.mem_append.1 hz).elim (g1 z) (g2 z)⟩
      have hl:¬(((strB a).size+(strB b).size:Nat):Int)>IntKind.i64.max:=by
        rw [strB_len,strB_len,show IntKind.i64.max=9223372036854775807 from rfl]
        have:=h.1
        omega
      rw [Sem.run_bind,hg]
      simp only [binOp,Op.stringOp]
      simp only [hl,if_false,strB_app]
      rfl
    · refine ⟨_,h,fun ρ w M x y u1 u2 h1 h2=>?_⟩
      obtain ⟨rfl,g1⟩:=h1
      obtain ⟨rfl,g2⟩:=h2
      exact ⟨.bool (a==b),by rw [Sem.run_bind,hg];simp [binOp,Op.stringOp,strB_eq g1 g2],rfl⟩
    · refine ⟨_,h,fun ρ w M x y u1 u2 h1 h2=>?_⟩
      obtain ⟨rfl,g1⟩:=h1
      obtain ⟨rfl,g2⟩:=h2
      exact ⟨.bool (!(a==b)),by rw [Sem.run_bind,hg];simp [binOp,Op.stringOp,strB_eq g1 g2],rfl⟩
    · exact h.elim
   |_=>exact h.elim
  |nils=>
   cases b with
   |nils=>
    simp only [binK,ifK_iff] at h
    obtain ⟨hs,h⟩:=h
    have hu:∃e,P.underlying t=some (.slice e):=by
      unfold sliceT at hs
      split at hs
      · rename_i e hd
        obtain ⟨u,h1,h2,_⟩:=(hty.at (t:=t) (.inr (by rw [hd];simp))).under
        rw [hd] at h2
        cases u<;>first|exact ⟨_,h1⟩|exact h2.elim
      · cases hs
    obtain ⟨e,hu⟩:=hu
    have look:∀{w:World},(Op.equal t (.slice none 0 0) (.slice none 0 0)).run P w= .ok true w:=fun {w}=>by
      have h:∀n,(Op.equalIn (n+1) t (.slice none 0 0) (.slice none 0 0)).run P w= .ok true w:=fun n=>by simp [Op.equalIn,underlying,hu]
      exact h 9999
    split at h
    · refine ⟨_,h,fun ρ w M x y u1 u2 h1 h2=>?_⟩
      have h1:u1= .slice none 0 0:=h1
      have h2:u2= .slice none 0 0:=h2
      subst h1;subst h2
      exact ⟨.bool true,by simp [eqGuard,binOp,look],rfl⟩
    · refine ⟨_,h,fun ρ w M x y u1 u2 h1 h2=>?_⟩
      have h1:u1= .slice none 0 0:=h1
      have h2:u2= .slice none 0 0:=h2
      subst h1;subst h2
      exact ⟨.bool false,by simp [eqGuard,binOp,look],rfl⟩
    · exact h.elim
   |_=>exact h.elim
  |_=>exact h.elim
end
end Go.AM
end
section
namespace Go.AM
open Go
section
variable {P:Program} {TY:List TyE} {w0 w:World} {M0:Base w0} {ρ:Env} {M:Msk} {S S0:Store} {d:Nat}
theorem repT_of_repC {a:AV} {v:Value} (h:RepC ρ w M a v):RepT ρ w M a v:=by
  cases a with
  |any=>trivial
  |agg l=>exact h.elim
  |tup l=>exact h.elim
  |fn f l=>
   cases l with
   |nil=>have h:v=_:=h;subst h;exact ⟨#[],rfl,trivial⟩
   |cons=>exact h.elim
  |_=>exact h
theorem okEl_facts {t:Nat} {r:RO} (h:okEl TY t r=true):(nthT TY t).sz=r.sz∧isAggD (nthT TY t).d=(match r with|.pairs _=>true|.facs _=>true|.prins _=>true|.ruls _=>true|.arrs _ _ _=>true|_=>false):=by
  cases r<;>simp only [okEl] at h<;>split at h<;>first
    |(cases h;done)
    |(rename_i hd;exact ⟨by rw [beq_iff'.1 h];rfl,hd⟩)
theorem run_load1 {t b off:Nat} {c:Value} (hrow:TyRow P t (nthT TY t)) (ha:isAggD (nthT TY t).d=false) (hc:w.cell? ⟨b,off,none⟩=some c):
    (Instr.loadAt t (.pointer (some ⟨b,off,none⟩))).run P w= .ok c w:=by
  simp [Instr.loadAt,Instr.sureAddr,loadVar,hrow.agg,ha,hc]
theorem run_loadN {t b off:Nat} {cs:List Value} (hrow:TyRow P t (nthT TY t)) (ha:isAggD (nthT TY t).d=true) (hn:cs.length=(nthT TY t).sz)
    (hc:∀j c,cs[j]? =some c→w.cell? ⟨b,off+j,none⟩=some c):
    (Instr.loadAt t (.pointer (some ⟨b,off,none⟩))).run P w= .ok (.agg cs.toArray) w:=by
  have h:=run_loadCells_list (P:=P) w ⟨b,off,none⟩ cs (fun j v hj=>by rw [addr_add];exact hc j v hj)
  rw [hn] at h
  simp [Instr.loadAt,Instr.sureAddr,loadVar,hrow.agg,ha,hrow.size,h]
theorem run_loadEl {t b off i:Nat} {r:RO} (hty:TyOk P TY) (hok:okEl TY t r=true) (hi:i<r.len)
    (hc:∀q,q<r.cells→∃c,w.cell? ⟨b,off+q,none⟩=some c∧CellP w M r q c):
    ∃u,(Instr.loadAt t (.pointer (some ⟨b,off+i*r.sz,none⟩))).run P w= .ok u w∧RepT ρ w M (r.get i) u:=by
  obtain ⟨hs,ha⟩:=okEl_facts hok
  have hrow:=hty.at (t:=t) (.inl (by rw [hs];exact Nat.ne_of_gt r.sz_pos))
  cases r with
  |pairs l=>
   have hl:i<l.length:=hi
   obtain ⟨c,h1,h2⟩:=hc (i*2) (by simp only [RO.cells,RO.len,RO.sz];omega)
   obtain ⟨c',h1',h2'⟩:=hc (i*2+1) (by simp only [RO.cells,RO.len,RO.sz];omega)
   refine ⟨_,run_loadN (cs:=[c,c']) hrow ha (by rw [hs];rfl) (fun j v hj=>?_),get_two h2 h2'⟩
   match j,hj with
   |0,hj=>simp at hj;subst hj;exact h1
   |1,hj=>simp at hj;subst hj;simpa [Nat.add_assoc,RO.sz] using h1'
   |j+2,hj=>simp at hj
  |ruls l=>
   have hl:i<l.length:=hi
   obtain ⟨c,h1,h2⟩:=hc (i*2) (by simp only [RO.cells,RO.len,RO.sz];omega)
   obtain ⟨c',h1',h2'⟩:=hc (i*2+1) (by simp only [RO.cells,RO.len,RO.sz];omega)
   refine ⟨_,run_loadN (cs:=[c,c']) hrow ha (by rw [hs];rfl) (fun j v hj=>?_),get_rul h2 h2'⟩
   match j,hj with
   |0,hj=>simp at hj;subst hj;exact h1
   |1,hj=>simp at hj;subst hj;simpa [Nat.add_assoc,RO.sz] using h1'
   |j+2,hj=>simp at hj
  |facs l=>
   have hl:i<l.length:=hi
   obtain ⟨c,h1,h2⟩:=hc (i*2) (by simp only [RO.cells,RO.len,RO.sz];omega)
   obtain ⟨c',h1',h2'⟩:=hc (i*2+1) (by simp only [RO.cells,RO.len,RO.sz];omega)
   refine ⟨_,run_loadN (cs:=[c,c']) hrow ha (by rw [hs];rfl) (fun j v hj=>?_),get_fac h2 h2'⟩
   match j,hj with
   |0,hj=>simp at hj;subst hj;exact h1
   |1,hj=>simp at hj;subst hj;simpa [Nat.add_assoc,RO.sz] using h1'
   |j+2,hj=>simp at hj
  |prins l=>
   have hl:i<l.length:=hi
   obtain ⟨c,h1,h2⟩:=hc (i*4) (by simp only [RO.cells,RO.len,RO.sz];omega)
   obtain ⟨c',h1',h2'⟩:=hc (i*4+1) (by simp only [RO.cells,RO.len,RO.sz];omega)
   obtain ⟨c2,k1,k2⟩:=hc (i*4+2) (by simp only [RO.cells,RO.len,RO.sz];omega)
   obtain ⟨c3,k1',k2'⟩:=hc (i*4+3) (by simp only [RO.cells,RO.len,RO.sz];omega)
   refine ⟨_,run_loadN (cs:=[c,c',c2,c3]) hrow ha (by rw [hs];rfl) (fun j v hj=>?_),get_prn h2 h2' k2 k2'⟩
   match j,hj with
   |0,hj=>simp at hj;subst hj;exact h1
   |1,hj=>simp at hj;subst hj;simpa [Nat.add_assoc,RO.sz] using h1'
   |2,hj=>simp at hj;subst hj;simpa [Nat.add_assoc,RO.sz] using k1
   |3,hj=>simp at hj;subst hj;simpa [Nat.add_assoc,RO.sz] using k1'
   |j+4,hj=>simp at hj
  |arrs n k l=>
   have hl:i<l.length:=hi
   have hle:(i+1)*(n+2)≤l.length*(n+2):=Nat.mul_le_mul_right _ hl
   have hle':i*(n+2)+(n+2)≤l.length*(n+2):=by rw [Nat.add_mul,Nat.one_mul] at hle;exact hle
   obtain ⟨cs,h3,h4,h5⟩:=cells_list (w:=w) (b:=b) (off:=off+i*(n+2)) (n:=n+2) (C:=fun q c=>CellP w M (.arrs n k l) (i*(n+2)+q) c) fun q hq=>by
     obtain ⟨c,h1,h2⟩:=hc (i*(n+2)+q) (by simp only [RO.cells,RO.len,RO.sz];omega)
     exact ⟨c,by rw [Nat.add_assoc];exact h1,h2⟩
   refine ⟨_,run_loadN (cs:=cs) hrow ha (by rw [hs];exact h3) (fun j v hj=>by have:=h4 j v hj;simpa [RO.sz] using this),get_arr h3 fun q c hq=>?_⟩
   have hqn:q<n+2:=by
     rw [←h3]
     rcases Nat.lt_or_ge q cs.length with h'|h'
     · exact h'
     · rw [List.getElem?_eq_none h'] at hq;cases hq
   obtain ⟨c',h6,h7⟩:=h5 q hqn
   rw [hq] at h6;cases h6;exact h7
  |_=>
   obtain ⟨c,h1,h2⟩:=hc i (by simp only [RO.cells,RO.sz,Nat.mul_one];exact hi)
   exact ⟨c,run_load1 hrow ha (by simpa [RO.sz] using h1),get_one rfl h2 hi⟩
theorem ro_cells {r:RO} {b off cap m:Nat} (h:RepRO w M r (.slice (some ⟨b,off,none⟩) m cap)):
    ∀q,q<r.cells→∃c,w.cell? ⟨b,off+q,none⟩=some c∧CellP w M r q c:=by
  intro q hq
  obtain ⟨_,a,cap',hv,_,h⟩:=h
  cases hv
  rcases h with h|⟨b',off',ha,h⟩
  · omega
  · cases ha
    obtain ⟨c,h1,_,h2⟩:=h q hq
    exact ⟨c,h1,h2⟩
theorem ro_addr {r:RO} {v:Value} (h:RepRO w M r v) (hn:0<r.len):∃b off cap,v= .slice (some ⟨b,off,none⟩) r.len cap:=by
  obtain ⟨_,a,cap,rfl,_,h⟩:=h
  rcases h with h|⟨b,off,rfl,_⟩
  · have:=r.sz_pos
    have:0<r.cells:=Nat.mul_pos hn this
    omega
  · exact ⟨b,off,cap,rfl⟩
theorem getD_sl (rows:List RowO) (i:Nat):(rows.map (·.sl)).getD i nilSl=(rows.getD i nilRow).sl:=by
  simp only [List.getD,List.getElem?_map]
  cases rows[i]? <;>rfl
theorem of_rws {ρ:Env} {k:Nat} {o:Sl} {rows:List RowO} (hk:ρ k=some (.dp o rows true)):(ρ k).bind Own.rws=some (rows.map (·.sl)):=by rw [hk];rfl
theorem grid_load (hty:TyOk P TY) {ρ:Env} {w:World} {M:Msk} {k t b:Nat} {i:Int} {r:RO} {o:Sl} {rows:List RowO} {hc:Option (Int × Int)} (hok:okEl TY t r=true) (hD:DeepG w M o rows r none hc) (h2:o.blk=some b) (h3:0≤i) (h4:i<o.len) (hk:ρ k=some (.dp o rows true)):
    ∃u,(Instr.loadAt t (.pointer (some ⟨b,i.toNat*o.sz,none⟩))).run P w= .ok u w∧RepT ρ w M (.row k i) u:=by
  have h7:=hD.outer
  have hl:=hD.len
  have hrl:=hD.rlen
  simp only [h2] at h7
  obtain ⟨_,cs,ty,h9,h10,h12,h13⟩:=h7
  obtain ⟨c,h14,h15⟩:=h13 i.toNat (by omega)
  have h15:=h15.resolve_left (by simp)
  obtain ⟨hs,hag⟩:=okEl_facts hok
  have hrs:=rowsQ_sz hD.rq
  have hrow:=hty.at (t:=t) (.inl (by rw [hs,hrs];decide))
  have hag':isAggD (nthT TY t).d=false:=by rw [hag];have:=hD.rq;cases r<;>first|rfl|cases this
  refine ⟨c,?_,rows.map (·.sl),of_rws hk,h3,by rw [List.length_map];omega,by rw [getD_sl];exact h15⟩
  have:=run_load1 (P:=P) (w:=w) (b:=b) (off:=i.toNat*o.sz) hrow hag' (c:=c) (by rw [cell_of_heap h9,hD.osz,Nat.mul_one];exact h14)
  exact this
theorem load_sound (hty:TyOk P TY) {F:Spec} {t:Nat} {x:Operand} {T:List AV} {K:AV→Option Blk→Prop} (h:qK TY F d (.load t x) T S0 K):
    ∃v B,K v B∧QS P d (.load t x) T S0 v B:=by
  simp only [qK,eval_iff] at h
  have hmem:∀{e:Operand→Value} {ρ:Env} {w:World} {M:Msk},(∀y∈(Op.load t x).operands,RepT ρ w M (evalF T y) (e y))→RepT ρ w M (evalF T x) (e x):=fun h=>h x (by simp [Op.operands])
  generalize ha:evalF T x=a at h hmem
  cases a with
  |rptr r i=>
   simp only [ifK_iff,get_iff] at h
   obtain ⟨hok,h⟩:=h
   refine q_look h fun w0 M0 ρ w M S' e oo ho hc st he=>?_
   obtain ⟨b,off,cap,h1,h2,h3,h4⟩:=hmem he
   obtain ⟨u,h5,h6⟩:=run_loadEl (ρ:=ρ) (t:=t) hty hok (i:=i.toNat) (by omega) (ro_cells h1)
   exact ⟨_,(by simp [execOp,ho,h4,h5]),h6⟩
  |vptr k i=>
   simp only at h
   split at h
   · rename_i wm r hf
     simp only [ifK_iff,get_iff] at h
     obtain ⟨hok,h⟩:=h
     refine q_look h fun w0 M0 ρ w M S' e oo ho hc st he=>?_
     obtain ⟨o,b,h1,h2,h3,h4,h5⟩:=hmem he
     obtain ⟨⟨o',h6,h7,h8,h9,h10,h11⟩,_⟩:=st.blk k _ (st.find' hc hf h1)
     obtain rfl:=sli_sl h6 h1
     simp only [h2] at h11
     obtain ⟨h12,cs,ty,h13,h14,h15,h16⟩:=h11
     obtain ⟨u,h17,h18⟩:=run_loadEl (ρ:=ρ) (w:=w) (M:=M) (t:=t) (b:=b) (off:=0) hty hok (i:=i.toNat) (by omega)
       (fun q hq=>by obtain ⟨c,h1,h2⟩:=h16 q hq;exact ⟨c,by rw [cell_of_heap h13,Nat.zero_add];exact h1,h2⟩)
     rw [Nat.zero_add,←h8] at h17
     exact ⟨_,(by simp [execOp,ho,h5,h17]),h18⟩
   · rename_i wm r j k' hf
     simp only [ifK_iff,get_iff] at h
     obtain ⟨hok,h,h'⟩:=h
     by_cases hij:i=j
     · refine q_look (h hij) fun w0 M0 ρ w M S' e oo ho hc st he=>?_
       obtain ⟨o,b,h1,h2,h3,h4,h5⟩:=hmem he
       obtain ⟨⟨o',h6,h7,h8,h9,h10,h11⟩,hov⟩:=st.blk k _ (st.find' hc hf h1)
       obtain rfl:=sli_sl h6 h1
       simp only [h2] at h11
       obtain ⟨h12,cs,ty,h13,h14,h15,h16⟩:=h11
       rcases hov with hov|⟨_,_,hov,hq,_,_,_⟩
       · cases hov
       · cases hov
         have hsz:=ovQ_sz hq
         obtain ⟨hs,hag⟩:=okEl_facts hok
         have hrow:=hty.at (t:=t) (.inl (by rw [hs,hsz];decide))
         obtain ⟨c,h17,h18⟩:=h16 i.toNat (by simp only [RO.cells,hsz];omega)
         rw [if_pos (by omega)] at h18
         have hag':isAggD (nthT TY t).d=false:=by rw [hag];cases r<;>first|rfl|cases hq
         refine ⟨c,?_,show RepT ρ w M (.vec k') c from h18⟩
         have:=run_load1 (P:=P) (w:=w) (b:=b) (off:=i.toNat*o.sz) hrow hag' (c:=c) (by rw [cell_of_heap h13,h8,hsz,Nat.mul_one];exact h17)
         simp [execOp,ho,h5,this]
     · refine q_look (h' hij) fun w0 M0 ρ w M S' e oo ho hc st he=>?_
       obtain ⟨o,b,h1,h2,h3,h4,h5⟩:=hmem he
       obtain ⟨⟨o',h6,h7,h8,h9,h10,h11⟩,hov⟩:=st.blk k _ (st.find' hc hf h1)
       obtain rfl:=sli_sl h6 h1
       simp only [h2] at h11
       obtain ⟨h12,cs,ty,h13,h14,h15,h16⟩:=h11
       rcases hov with hov|⟨_,_,hov,hq,_,_,_⟩
       · cases hov
       · cases hov
         have hsz:=ovQ_sz hq
         obtain ⟨hs,hag⟩:=okEl_facts hok
         have hrow:=hty.at (t:=t) (.inl (by rw [hs,hsz];decide))
         obtain ⟨c,h17,h18⟩:=h16 i.toNat (by simp only [RO.cells,hsz];omega)
         rw [if_neg (by omega)] at h18
         have hag':isAggD (nthT TY t).d=false:=by rw [hag];cases r<;>first|rfl|cases hq
         refine ⟨c,?_,get_one hsz h18 (by omega)⟩
         have:=run_load1 (P:=P) (w:=w) (b:=b) (off:=i.toNat*o.sz) hrow hag' (c:=c) (by rw [cell_of_heap h13,h8,hsz,Nat.mul_one];exact h17)
         simp [execOp,ho,h5,this]
   · rename_i n0 r hf
     simp only [ifK_iff,get_iff] at h
     obtain ⟨hok,h⟩:=h
     refine q_look h fun w0 M0 ρ w M S' e oo ho hc st he=>?_
     obtain ⟨o,b,h1,h2,h3,h4,h5⟩:=hmem he
     obtain ⟨o0,cur,h6,h7',_⟩:=st.blk k _ (st.find' hc hf h1)
     have hco:cur=o:=by rw [of_st h6] at h1;exact Option.some.inj h1
     rw [hco] at h7'
     obtain ⟨h7,h8,h9,h10,h11⟩:=h7'
     simp only [h2] at h11
     obtain ⟨h12,cs,ty,h13,h14,h15,h16⟩:=h11
     obtain ⟨u,h17,h18⟩:=run_loadEl (ρ:=ρ) (w:=w) (M:=M) (t:=t) (b:=b) (off:=0) hty hok (i:=i.toNat) (by omega)
       (fun q hq=>by obtain ⟨c,h1,h2⟩:=h16 q hq;exact ⟨c,by rw [cell_of_heap h13,Nat.zero_add];exact h1,h2⟩)
     rw [Nat.zero_add,←h8] at h17
     exact ⟨_,(by simp [execOp,ho,h5,h17]),h18⟩
   · rename_i r hf
     rw [ifK_iff,ifK_iff] at h
     obtain ⟨hok,hg,h⟩:=h
     refine q_look h fun w0 M0 ρ w M S' e oo ho hc st he=>?_
     obtain ⟨o,b,h1,h2,h3,h4,h5⟩:=hmem he
     obtain ⟨o',rows,h6,hD⟩:=st.blk k _ (st.find' hc hf h1)
     rw [of_dp h6] at h1;cases h1
     rw [hg] at h6
     obtain ⟨u,h7,h8⟩:=grid_load hty hok hD h2 h3 h4 h6
     exact ⟨u,(by simp [execOp,ho,h5,h7]),h8⟩
   · rename_i l _ _ hf
     rw [ifK_iff] at h
     obtain ⟨hok,h⟩:=h
     refine q_look h fun w0 M0 ρ w M S' e oo ho hc st he=>?_
     obtain ⟨o,b,h1,h2,h3,h4,h5⟩:=hmem he
     obtain ⟨o',rows,h6,hD,_⟩:=st.blk k _ (st.find' hc hf h1)
     rw [of_dp h6] at h1;cases h1
     obtain ⟨u,h7,h8⟩:=grid_load hty hok hD h2 h3 h4 h6
     exact ⟨u,(by simp [execOp,ho,h5,h7]),h8⟩
   · exact h.elim
  |gptr k i j=>
   simp only at h
   split at h
   · rename_i l hf
     rw [ifK_iff] at h
     obtain ⟨hok,h⟩:=h
     refine q_look h fun w0 M0 ρ w M S' e oo ho hc st he=>?_
     obtain ⟨ll,b,h1,h2,h3,h4,⟨h5,h5'⟩,h6⟩:=hmem he
     obtain ⟨o,rows,g1,hD⟩:=st.blk k _ (st.find' hc hf h1)
     rw [of_rws g1] at h1;cases h1
     rw [List.length_map] at h3
     rw [getD_sl] at h4 h5'
     obtain ⟨_,hv1,_,_,_,hv5⟩:=hD.row i.toNat (by rw [←hD.rlen];exact h3) (by simp)
     simp only [h4] at hv5
     obtain ⟨_,cs,ty,g9,_,_,g13⟩:=hv5
     have hv1:(rows.getD i.toNat nilRow).sl.len=(l.getD i.toNat []).length:=hv1
     obtain ⟨c,g14,g15⟩:=g13 j.toNat (by simp only [RO.cells,RO.len,RO.sz,RO.row,Nat.mul_one];omega)
     obtain ⟨hs,hag⟩:=okEl_facts hok
     have hrow:=hty.at (t:=t) (.inl (by rw [hs];exact Nat.one_ne_zero))
     have:=run_load1 (P:=P) (w:=w) (b:=b) (off:=j.toNat) hrow hag (c:=c) (by rw [cell_of_heap g9];exact g14)
     exact ⟨c,(by simp [execOp,ho,h6,this]),g15⟩
   · exact h.elim
  |ptr k off=>
   simp only at h
   split at h
   · rename_i l hf
     obtain ⟨v,hK,hlen,hv⟩:=part_iff h
     refine q_look hK fun w0 M0 ρ w M S' e oo ho hc st he=>?_
     have h1:(ρ k).bind (Own.ref · off)=some (e x):=hmem he
     obtain ⟨b,h3,cs,ty,h4,h5,h6⟩:=st.blk k _ (st.find' hc hf h1)
     have h2:=ref_bx h3 h1
     have hsize:l.length=cs.size:=by rw [RepL.length h6,Array.length_toList]
     rcases hv with ⟨hag,rfl⟩|⟨hag,hs,rfl⟩
     · have hrow:=hty.at (t:=t) (.inr (fun e=>by rw [e] at hag;cases hag))
       refine ⟨.agg ((cs.toList.drop off).take (nthT TY t).sz).toArray,?_,_,rfl,by simpa using (h6.drop off).take _⟩
       have:=run_loadN (P:=P) (w:=w) (b:=b) (off:=off) (cs:=(cs.toList.drop off).take (nthT TY t).sz) hrow hag (by simp;omega) (fun j c hj=>by
         rw [List.getElem?_take] at hj
         split at hj
         · rw [List.getElem?_drop,Array.getElem?_toList] at hj;rw [cell_of_heap h4];exact hj
         · cases hj)
       simp [execOp,ho,h2,this]
     · have hrow:=hty.at (t:=t) (.inl (by rw [hs];decide))
       obtain ⟨c,h7,h8⟩:=h6.get off (by omega)
       refine ⟨c,?_,?_⟩
       · have:=run_load1 (P:=P) (w:=w) (b:=b) (off:=off) hrow hag (c:=c) (by rw [cell_of_heap h4];simpa using h7)
         simp [execOp,ho,h2,this]
       · exact repT_of_repC h8
   · exact h.elim
  |cptr k i j=>
   have key:∀{l:List (Int × Int)} {M:Msk} {w:World} {b:Nat} {o:Sl} {cs:Array Value} {ty:TypeId},oneT TY t=true→Nat.ble j 1=true→o.sz=2→0≤i→i.toNat<l.length→w.heap[b]? =some (.cells cs ty (0,0))→
       (∀q,q<(RO.pairs l).cells→∃c,cs[q]? =some c∧CellP w M (.pairs l) q c)→∃u,(Instr.loadAt t (.pointer (some ⟨b,i.toNat*o.sz+j,none⟩))).run P w= .ok u w∧u= .int .i64 (pairJ j (l.getD i.toNat (0,0)))∧inK .i64 (pairJ j (l.getD i.toNat (0,0))):=fun {l M w b o cs ty} hone hj hs h0 hl hh hc=>by
     unfold oneT at hone
     split at hone
     · cases hone
     · rename_i hag
       have hsz:=beq_iff'.1 hone
       have hrow:=hty.at (t:=t) (.inl (by rw [hsz];decide))
       have hj1:=Nat.le_of_ble_eq_true hj
       obtain ⟨c,h1,h2⟩:=hc (i.toNat*2+j) (by simp only [RO.cells,RO.len,RO.sz];omega)
       refine ⟨c,run_load1 hrow hag (by rw [cell_of_heap hh,hs];exact h1),?_⟩
       have hd:(i.toNat*2+j) / 2=i.toNat:=by omega
       simp only [CellP,hd] at h2
       match j,hj1,h2 with
       |0,_,h2=>rw [if_pos (by omega)] at h2;exact h2
       |1,_,h2=>rw [if_neg (by omega)] at h2;exact h2
   simp only at h
   split at h
   · rename_i wm l hf
     simp only [ifK_iff] at h
     obtain ⟨hone,hj,h⟩:=h
     refine q_look h fun w0 M0 ρ w M S' e oo ho hc st he=>?_
     obtain ⟨o,b,h1,h2,h3,h4,h5⟩:=hmem he
     obtain ⟨⟨o',h6,h7,h8,h9,h10,h11⟩,_⟩:=st.blk k _ (st.find' hc hf h1)
     obtain rfl:=sli_sl h6 h1
     simp only [h2] at h11
     obtain ⟨h12,cs,ty,h13,h14,h15,h16⟩:=h11
     have h7:o.len=l.length:=h7
     obtain ⟨u,h17,rfl,h18⟩:=key (w:=w) (M:=M) (o:=o) hone hj h8 h3 (by omega) h13 h16
     exact ⟨_,(by simp [execOp,ho,h5,h17]),⟨rfl,h18⟩⟩
   · rename_i n0 l hf
     simp only [ifK_iff] at h
     obtain ⟨hone,hj,h⟩:=h
     refine q_look h fun w0 M0 ρ w M S' e oo ho hc st he=>?_
     obtain ⟨o,b,h1,h2,h3,h4,h5⟩:=hmem he
     obtain ⟨o0,cur,h6,h7',_⟩:=st.blk k _ (st.find' hc hf h1)
     have hco:cur=o:=by rw [of_st h6] at h1;exact Option.some.inj h1
     rw [hco] at h7'
     obtain ⟨h7,h8,h9,h10,h11⟩:=h7'
     simp only [h2] at h11
     obtain ⟨h12,cs,ty,h13,h14,h15,h16⟩:=h11
     have h7:o.len=l.length:=h7
     obtain ⟨u,h17,rfl,h18⟩:=key (w:=w) (M:=M) (o:=o) hone hj h8 h3 (by omega) h13 h16
     exact ⟨_,(by simp [execOp,ho,h5,h17]),⟨rfl,h18⟩⟩
   · rename_i wm l hf
     simp only [ifK_iff] at h
     obtain ⟨hone,hj,h⟩:=h
     have hsz:(nthT TY t).sz=1∧isAggD (nthT TY t).d=false:=by
       unfold oneT at hone
       split at hone
       · cases hone
       · rename_i hag;exact ⟨beq_iff'.1 hone,hag⟩
     have hrow:=hty.at (t:=t) (.inl (by rw [hsz.1];decide))
     have hj1:=Nat.le_of_ble_eq_true hj
     obtain ⟨v,hK,hv⟩:∃v,K v none∧∀(w:World) (M:Msk) (c:Value) (ρ:Env),CellP w M (.facs l) (i.toNat*2+j) c→RepT ρ w M v c:=by
       match j,hj1,h with
       |0,_,h=>
        refine ⟨_,h,fun w M c ρ hc=>?_⟩
        simp only [CellP] at hc
        rw [if_pos (by omega),show (i.toNat*2+0) / 2=i.toNat from by omega] at hc
        exact hc
       |1,_,h=>
        refine ⟨_,h,fun w M c ρ hc=>?_⟩
        simp only [CellP] at hc
        rw [if_neg (by omega),show (i.toNat*2+1) / 2=i.toNat from by omega] at hc
        exact hc
     refine q_look hK fun w0 M0 ρ w M S' e oo ho hc st he=>?_
     obtain ⟨o,b,h1,h2,h3,h4,h5⟩:=hmem he
     obtain ⟨⟨o',h6,h7,h8,h9,h10,h11⟩,_⟩:=st.blk k _ (st.find' hc hf h1)
     obtain rfl:=sli_sl h6 h1
     simp only [h2] at h11
     obtain ⟨h12,cs,ty,h13,h14,h15,h16⟩:=h11
     have h7:o.len=l.length:=h7
     have h8:o.sz=2:=h8
     obtain ⟨c,g1,g2⟩:=h16 (i.toNat*2+j) (by simp only [RO.cells,RO.len,RO.sz];omega)
     have:=run_load1 (P:=P) (w:=w) (b:=b) (off:=i.toNat*o.sz+j) hrow hsz.2 (c:=c) (by rw [cell_of_heap h13,h8];exact g1)
     exact ⟨c,(by simp [execOp,ho,h5,this]),hv w M c ρ g2⟩
   · rename_i wm l hf
     simp only [ifK_iff] at h
     obtain ⟨hone,h⟩:=h
     have hsz:(nthT TY t).sz=1∧isAggD (nthT TY t).d=false:=by
       unfold oneT at hone
       split at hone
       · cases hone
       · rename_i hag;exact ⟨beq_iff'.1 hone,hag⟩
     have hrow:=hty.at (t:=t) (.inl (by rw [hsz.1];decide))
     obtain ⟨v,hK,hj1,hv⟩:∃v,K v none∧j<4∧∀(w:World) (M:Msk) (c:Value) (ρ:Env),CellP w M (.prins l) (i.toNat*4+j) c→RepT ρ w M v c:=by
       match j,h with
       |0,h=>
        refine ⟨_,h,by omega,fun w M c ρ hc=>?_⟩
        simp only [CellP] at hc
        rw [if_pos (by omega),show (i.toNat*4+0) / 4=i.toNat from by omega] at hc
        exact hc
       |1,h=>
        refine ⟨_,h,by omega,fun w M c ρ hc=>?_⟩
        simp only [CellP] at hc
        rw [if_neg (by omega),if_pos (by omega),show (i.toNat*4+1) / 4=i.toNat from by omega] at hc
        exact hc
       |2,h=>
        refine ⟨_,h,by omega,fun w M c ρ hc=>?_⟩
        simp only [CellP] at hc
        rw [if_neg (by omega),if_neg (by omega),if_pos (by omega),show (i.toNat*4+2) / 4=i.toNat from by omega] at hc
        exact rep_ints.2 hc
       |3,h=>
        refine ⟨_,h,by omega,fun w M c ρ hc=>?_⟩
        simp only [CellP] at hc
        rw [if_neg (by omega),if_neg (by omega),if_neg (by omega),show (i.toNat*4+3) / 4=i.toNat from by omega] at hc
        exact rep_pairs.2 hc
       |_+4,h=>exact h.elim
     refine q_look hK fun w0 M0 ρ w M S' e oo ho hc st he=>?_
     obtain ⟨o,b,h1,h2,h3,h4,h5⟩:=hmem he
     obtain ⟨⟨o',h6,h7,h8,h9,h10,h11⟩,_⟩:=st.blk k _ (st.find' hc hf h1)
     obtain rfl:=sli_sl h6 h1
     simp only [h2] at h11
     obtain ⟨h12,cs,ty,h13,h14,h15,h16⟩:=h11
     have h7:o.len=l.length:=h7
     have h8:o.sz=4:=h8
     obtain ⟨c,g1,g2⟩:=h16 (i.toNat*4+j) (by simp only [RO.cells,RO.len,RO.sz];omega)
     have:=run_load1 (P:=P) (w:=w) (b:=b) (off:=i.toNat*o.sz+j) hrow hsz.2 (c:=c) (by rw [cell_of_heap h13,h8];exact g1)
     exact ⟨c,(by simp [execOp,ho,h5,this]),hv w M c ρ g2⟩
   · exact h.elim
  |_=>exact h.elim
end
end Go.AM
end
section
namespace Go.AM
open Go
theorem fold_set (off:Nat):∀(vs:List Value) (k:Nat) (cells:Array Value),off+k+vs.length≤cells.size→
    ((vs.zipIdx k).foldl (fun (cs:Array Value) (x:Value × Nat)=>cs.setIfInBounds (off+x.2) x.1) cells).toList=cells.toList.take (off+k)++(vs++cells.toList.drop (off+k+vs.length))
  |[],k,cells,_=>by simp
  |v::vs,k,cells,h=>by
   simp only [List.length_cons] at h
   simp only [List.zipIdx_cons,List.foldl_cons]
   rw [fold_set off vs (k+1) _ (by simp;omega)]
   simp only [Array.toList_setIfInBounds,List.length_cons]
   have hlt:off+k<cells.toList.length:=by simp;omega
   rw [show off+(k+1)=(off+k)+1 from by omega,List.take_succ_eq_append_getElem (by simpa using hlt)]
   simp only [List.getElem_set_self,List.take_set_of_le (Nat.le_refl _)]
   rw [List.drop_set_of_lt (by omega),show off+k+1+vs.length=off+k+(vs.length+1) from by omega]
   simp
section
variable {P:Program} {TY:List TyE} {w0 w:World} {M0:Base w0} {ρ:Env} {M:Msk} {S S0:Store} {d:Nat}
theorem fill_sound {T:List AV} {place place':Nat→Option (Nat × Nat)} (hp:∀i x,place i=some x→place' i=some x):
    ∀{ps:List (Nat × Operand)} {l:List AV} {K:List AV→Prop},fillK T place ps l K→
     ∃m,K m∧m.length=l.length∧∀(ρ:Env) (w:World) (M:Msk) (e:Operand→Value) (cells:Array Value),(∀i x,(i,x)∈ps→RepT ρ w M (evalF T x) (e x))→RepL (RepC ρ w M) l cells.toList→
      ∃cells',Instr.fill place' cells (ps.map fun (i,x)=>(i,e x))=some cells'∧RepL (RepC ρ w M) m cells'.toList
  |[],l,K,h=>⟨l,h,rfl,fun _ _ _ _ cells _ hl=>⟨cells,rfl,hl⟩⟩
  |(i,x)::ps,l,K,h=>by
   simp only [fillK,eval_iff] at h
   cases hpl:place i with
   |none=>rw [hpl] at h;simp at h
   |some os=>
    obtain ⟨off,sz⟩:=os
    rw [hpl] at h
    have main:∀m,m.length=sz→(∀(ρ:Env) (w:World) (M:Msk) (u:Value),RepT ρ w M (evalF T x) u→RepL (RepC ρ w M) m u.cells.toList)→
        (spliceK l off m fun l'=>fillK T place ps l' K)→
        ∃m,K m∧m.length=l.length∧∀(ρ:Env) (w:World) (M:Msk) (e:Operand→Value) (cells:Array Value),(∀j y,(j,y)∈(i,x)::ps→RepT ρ w M (evalF T y) (e y))→RepL (RepC ρ w M) l cells.toList→
         ∃cells',Instr.fill place' cells (((i,x)::ps).map fun (i,x)=>(i,e x))=some cells'∧RepL (RepC ρ w M) m cells'.toList:=by
      intro m hm hrep hs
      obtain ⟨h1,h2⟩:=splice_iff hs
      obtain ⟨m',h3,h4,h5⟩:=fill_sound hp h2
      refine ⟨m',h3,by rw [h4];simp;omega,fun ρ w M e cells he hl=>?_⟩
      have hu:=hrep ρ w M (e x) (he i x (by simp))
      have hlen:l.length=cells.size:=by rw [RepL.length hl,Array.length_toList]
      have hul:m.length=(e x).cells.size:=by rw [RepL.length hu,Array.length_toList]
      have hfold:=fold_set off (e x).cells.toList 0 cells (by simp;omega)
      have hstep:(((e x).cells.zipIdx.foldl (fun cs (c,j)=>cs.setIfInBounds (off+j) c) cells).toList)=cells.toList.take off++((e x).cells.toList++cells.toList.drop (off+m.length)):=by
        rw [←Array.foldl_toList,Array.toList_zipIdx,hul]
        simpa [←Array.length_toList] using hfold
      obtain ⟨cells',h6,h7⟩:=h5 ρ w M e ((e x).cells.zipIdx.foldl (fun cs (c,j)=>cs.setIfInBounds (off+j) c) cells) (fun j y hy=>he j y (List.mem_cons_of_mem _ hy))
        (by rw [hstep];exact (hl.take off).append (hu.append (hl.drop _)))
      refine ⟨cells',?_,h7⟩
      simp only [List.map_cons,Instr.fill,hp i _ hpl]
      rw [if_neg]
      · exact h6
      · simp only [Bool.or_eq_true,decide_eq_true_eq,not_or,ne_eq,Decidable.not_not]
        exact ⟨by omega,by omega⟩
    have one:(match cellOK (evalF T x) with|true=>(match sameLen [evalF T x] sz with|true=>spliceK l off [evalF T x] fun l'=>fillK T place ps l' K|false=>False)|false=>False)→
        ∃m,K m∧m.length=l.length∧∀(ρ:Env) (w:World) (M:Msk) (e:Operand→Value) (cells:Array Value),(∀j y,(j,y)∈(i,x)::ps→RepT ρ w M (evalF T y) (e y))→RepL (RepC ρ w M) l cells.toList→
         ∃cells',Instr.fill place' cells (((i,x)::ps).map fun (i,x)=>(i,e x))=some cells'∧RepL (RepC ρ w M) m cells'.toList:=by
      intro h
      cases hc:cellOK (evalF T x) with
      |false=>rw [hc] at h;exact h.elim
      |true=>
       rw [hc] at h
       cases hs:sameLen [evalF T x] sz with
       |false=>simp only [hs] at h
       |true=>
        simp only [hs] at h
        refine main _ (same_len hs) (fun ρ w M u hu=>?_) h
        have hu:=cellOK_rep hc hu
        have hcell:=RepC.isCell hu
        cases u<;>first|exact ⟨hu,trivial⟩|exact hcell.elim
    cases hx:evalF T x with
    |agg m=>
     rw [hx] at h
     simp only at h
     cases hs:sameLen m sz with
     |false=>rw [hs] at h;exact h.elim
     |true=>
      rw [hs] at h
      refine main m (same_len hs) (fun ρ w M u hu=>?_) h
      rw [hx] at hu
      obtain ⟨cs,rfl,hcs⟩:=hu
      exact hcs
    |_=>rw [hx] at h one;exact one h
theorem fieldOff_get:∀{l:List (Nat × Nat)} {i:Nat} {x:Nat × Nat},fieldOff l i=some x→l[i]? =some x
  |a::l,0,x,h=>by simpa [fieldOff] using h
  |a::l,i+1,x,h=>by simpa using fieldOff_get (l:=l) (by simpa [fieldOff] using h)
  |[],i,x,h=>by simp [fieldOff] at h
theorem struct_row (hty:TyOk P TY) {t:Nat} {fs:List (Nat × Nat)} (hd:(nthT TY t).d= .struct fs):
    ∃F:Array Field,P.underlying t=some (.struct F)∧fs=F.toList.map fun f=>(f.offset,f.type):=by
  obtain ⟨u,h1,h2,_⟩:=(hty.at (t:=t) (.inr (by rw [hd];simp))).under
  rw [hd] at h2
  cases u<;>try exact h2.elim
  exact ⟨_,h1,h2⟩
theorem slice_row (hty:TyOk P TY) {t e:Nat} (hd:(nthT TY t).d= .slice e):P.underlying t=some (.slice e):=by
  obtain ⟨u,h1,h2,_⟩:=(hty.at (t:=t) (.inr (by rw [hd];simp))).under
  rw [hd] at h2
  cases u<;>try exact h2.elim
  rw [h1,show e=_ from h2]
theorem arr_row (hty:TyOk P TY) {t n e:Nat} (hd:(nthT TY t).d= .arr n e):P.underlying t=some (.array n e):=by
  obtain ⟨u,h1,h2,_⟩:=(hty.at (t:=t) (.inr (by rw [hd];simp))).under
  rw [hd] at h2
  cases u<;>try exact h2.elim
  obtain ⟨rfl,rfl⟩:=h2
  exact h1
theorem okSl_row (hty:TyOk P TY) {t:Nat} {r:RO} (h:okSl TY t r=true):∃e,(nthT TY t).d= .slice e∧P.underlying t=some (.slice e)∧(nthT TY e).sz=r.sz∧TyRow P e (nthT TY e):=by
  unfold okSl at h
  split at h
  · rename_i e hd
    have hs:(nthT TY e).sz=r.sz:=by cases r<;>simp only at h<;>exact beq_iff'.1 h
    exact ⟨e,hd,slice_row hty hd,hs,hty.at (.inl (by rw [hs];exact Nat.ne_of_gt r.sz_pos))⟩
  · cases h
theorem build_sound (hty:TyOk P TY) {F:Spec} {t:Nat} {ps:Array (Nat × Operand)} {T:List AV} {K:AV→Option Blk→Prop} (h:qK TY F d (.build t ps) T S0 K):
    ∃v B,K v B∧QS P d (.build t ps) T S0 v B:=by
  have hmem:∀{e:Operand→Value} {ρ:Env} {w:World} {M:Msk},(∀y∈(Op.build t ps).operands,RepT ρ w M (evalF T y) (e y))→∀i x,(i,x)∈ps.toList→RepT ρ w M (evalF T x) (e x):=
    fun h i x hx=>h x (by simp only [Op.operands,List.mem_toArray,List.mem_map];exact ⟨_,hx,rfl⟩)
  have hz:∀{E:TyE},zeroB E.zero=true→E.zero≠[]:=fun {E} hb he=>by rw [he] at hb;cases hb
  have hzr:∀(ρ:Env) (w:World) (M:Msk) {l:List AV} {m:List Value},RepL zC l m→RepL (RepC ρ w M) l m:=fun ρ w M=>RepL.imp fun a v h=>h ρ w M
  simp only [qK] at h
  split at h
  · rename_i fs hd
    rw [ifK_iff] at h
    obtain ⟨hzb,h⟩:=h
    obtain ⟨F',hu,hfs⟩:=struct_row hty hd
    have hrow:=hty.at (t:=t) (.inr (by rw [hd];simp))
    obtain ⟨i,u,hi,hu',_,_,_,hzero⟩:=hrow.row
    obtain ⟨z,hz1,hz2⟩:=hzero (hz hzb)
    have key:∀(l:List Field),(∀f∈l,f.type<TY.length)→∀w,(l.mapM fun f=>Prod.mk f.offset<$>sizeOf f.type:Sem (List (Nat × Nat))).run P w= .ok (l.map fun f=>(f.offset,(nthT TY f.type).sz)) w:=by
      intro l
      induction l with
      |nil=>intro _ w;simp
      |cons f l ih=>
       intro hl w
       have hn:=(hty.row f.type (hl f (by simp))).size w
       simp [List.mapM_cons,hn,ih (fun g hg=>hl g (List.mem_cons_of_mem _ hg))]
    have hpl:∀w,(F'.mapM fun f=>Prod.mk f.offset<$>sizeOf f.type:Sem (Array (Nat × Nat))).run P w= .ok (F'.toList.map fun f=>(f.offset,(nthT TY f.type).sz)).toArray w:=by
      intro w
      have:=key F'.toList (fun f hf=>hty.closed t fs hd (f.offset,f.type) (by rw [hfs];exact List.mem_map.2 ⟨f,hf,rfl⟩)) w
      have he:F'=F'.toList.toArray:=by simp
      rw [he,List.mapM_toArray]
      simp [this]
    have hplace:∀j x,qK.fieldPlace TY fs j=some x→(F'.toList.map fun f=>(f.offset,(nthT TY f.type).sz)).toArray[j]? =some x:=by
      intro j x hx
      unfold qK.fieldPlace at hx
      split at hx
      · rename_i o u ho
        cases hx
        have:=fieldOff_get ho
        rw [hfs,List.getElem?_map] at this
        cases hg:F'.toList[j]? with
        |none=>rw [hg] at this;cases this
        |some f=>rw [hg] at this;cases this;simp only [List.getElem?_toArray,List.getElem?_map,hg];rfl
      · cases hx
    obtain ⟨m,h1,h2,h3⟩:=fill_sound (place':=fun j=>(F'.toList.map fun f=>(f.offset,(nthT TY f.type).sz)).toArray[j]?) hplace h
    refine q_pure h1 fun ρ w M e oo ho he=>?_
    obtain ⟨cells',h4,h5⟩:=h3 ρ w M e z.cells (hmem he) (hzr ρ w M hz2.1)
    refine ⟨.agg cells',?_,cells',rfl,h5⟩
    have hzv:(zeroValue t).run P w= .ok z w:=by simp [zeroValue,typeInfo,hi,hz1]
    have hub:(underlying t).run P w= .ok (.struct F') w:=by simp [underlying,hu]
    simp only [List.getElem?_toArray,List.getElem?_map,Array.getElem?_toList] at h4
    simp [execOp,ho,Instr.build,hzv,hub,hpl]
    rw [h4]
    rfl
  · rename_i n e' hd
    rw [ifK_iff,ifK_iff] at h
    obtain ⟨hzb,hsz,h⟩:=h
    have hu:=arr_row hty hd
    have hrow:=hty.at (t:=t) (.inr (by rw [hd];simp))
    obtain ⟨i,u,hi,hu',_,_,_,hzero⟩:=hrow.row
    obtain ⟨z,hz1,hz2⟩:=hzero (hz hzb)
    have hrow':=hty.at (t:=e') (.inl (by rw [Nat.ble_eq] at hsz;omega))
    obtain ⟨m,h1,h2,h3⟩:=fill_sound (place':=fun i=>some (i*(nthT TY e').sz,(nthT TY e').sz)) (fun i x hx=>hx) h
    refine q_pure h1 fun ρ w M e oo ho he=>?_
    obtain ⟨cells',h4,h5⟩:=h3 ρ w M e z.cells (hmem he) (hzr ρ w M hz2.1)
    refine ⟨.agg cells',?_,cells',rfl,h5⟩
    have hzv:(zeroValue t).run P w= .ok z w:=by simp [zeroValue,typeInfo,hi,hz1]
    have hub:(underlying t).run P w= .ok (.array n e') w:=by simp [underlying,hu]
    simp [execOp,ho,Instr.build,hzv,hub,hrow'.size,h4]
  · exact h.elim
theorem simple_sound (hty:TyOk P TY) {F:Spec} {o:Op} {T:List AV} {K:AV→Option Blk→Prop} (h:qK TY F d o T S0 K)
    (ho:(∃x,o= .move x∨o= .assign x∨o= .nilCheck x)∨(∃op t x,o= .unOp op t x)∨(∃op t x y ty,o= .binOp op t x y ty)∨(∃c a b,o= .pick c a b)∨(∃x i,o= .extract x i)∨∃fn first cap,o= .makeFunc fn first cap):
    ∃v B,K v B∧QS P d o T S0 v B:=by
  rcases ho with ⟨x,rfl|rfl|rfl⟩|⟨op,t,x,rfl⟩|⟨op,t,x,y,ty,rfl⟩|⟨c,a,b,rfl⟩|⟨x,i,rfl⟩|⟨fn,first,cap,rfl⟩
  · simp only [qK,eval_iff] at h
    exact q_pure h fun ρ w M e oo ho he=>⟨e x,by simp [execOp,ho],he x (by simp [Op.operands])⟩
  · simp only [qK,eval_iff] at h
    exact q_pure h fun ρ w M e oo ho he=>⟨e x,by simp [execOp,ho],he x (by simp [Op.operands])⟩
  · simp only [qK,eval_iff] at h
    split at h
    · rename_i k off hx
      refine q_pure h fun ρ w M e oo ho he=>?_
      have:=he x (by simp [Op.operands])
      rw [hx] at this
      have h1:(ρ k).bind (Own.ref · off)=some (e x):=this
      obtain ⟨b,⟨_,h2⟩|⟨_,h2⟩⟩:=ref_some h1
      · exact ⟨e x,by simp [execOp,ho,h2],h1⟩
      · exact ⟨e x,by simp [execOp,ho,h2],h1⟩
    · rename_i f l hx
      refine q_pure h fun ρ w M e oo ho he=>?_
      have:=he x (by simp [Op.operands])
      rw [hx] at this
      obtain ⟨cs,h1,h2⟩:=this
      exact ⟨e x,by simp [execOp,ho,h1],cs,h1,h2⟩
    · rename_i k i hx
      refine q_pure h fun ρ w M e oo ho he=>?_
      have:=he x (by simp [Op.operands])
      rw [hx] at this
      obtain ⟨o,b,h1,h2,h3,h4,h5⟩:=this
      exact ⟨e x,by simp [execOp,ho,h5],o,b,h1,h2,h3,h4,h5⟩
    · rename_i r i hx
      refine q_pure h fun ρ w M e oo ho he=>?_
      have:=he x (by simp [Op.operands])
      rw [hx] at this
      obtain ⟨b,off,cap,h1,h2,h3,h4⟩:=this
      exact ⟨e x,by simp [execOp,ho,h4],b,off,cap,h1,h2,h3,h4⟩
    · exact h.elim
  · simp only [qK,eval_iff] at h
    split at h
    · rename_i e0 hx
      obtain ⟨e',h1,h2⟩:=not_val h
      refine q_pure h1 fun ρ w M e oo ho he=>?_
      have:=he x (by simp [Op.operands])
      rw [hx] at this
      have hv:e x= .bool e0.val:=this
      exact ⟨.bool (!e0.val),by simp [execOp,ho,hv,Op.unary],by show Value.bool _=_;rw [h2]⟩
    · rename_i k n hx
      rw [rangeP_iff] at h
      refine q_pure h.2 fun ρ w M e oo ho he=>?_
      have:=he x (by simp [Op.operands])
      rw [hx] at this
      have hv:e x= .int k n:=this.1
      exact ⟨.int k (k.wrap (0 - n)),by simp [execOp,ho,hv,Op.unary,Op.intArith],wrap_rep h.1⟩
    · exact h.elim
  · simp only [qK,eval_iff] at h
    obtain ⟨v,h1,h2⟩:=bin_sound hty h
    refine q_pure h1 fun ρ w M e oo ho he=>?_
    obtain ⟨u,h3,h4⟩:=h2 ρ w M x y (e x) (e y) (he x (by simp [Op.operands])) (he y (by simp [Op.operands]))
    refine ⟨u,?_,h4⟩
    simp only [execOp,ho]
    rw [Sem.run_bind,h3]
    rfl
  · simp only [qK,eval_iff] at h
    split at h
    · rename_i e0 hx
      have h:=split_val h
      have hK:K (if e0.val then evalF T a else evalF T b) none:=by
        cases hv:e0.val<;>rw [hv] at h<;>simpa using h
      refine q_pure hK fun ρ w M e oo ho he=>?_
      have:=he c (by simp [Op.operands])
      rw [hx] at this
      have hv:e c= .bool e0.val:=this
      refine ⟨if e0.val then e a else e b,?_,?_⟩
      · cases hb:e0.val<;>simp [execOp,ho,hv,hb,asBool]
      · cases hb:e0.val
        · simpa using he b (by simp [Op.operands])
        · simpa using he a (by simp [Op.operands])
    · exact h.elim
  · simp only [qK,eval_iff] at h
    split at h
    · rename_i l hx
      obtain ⟨h1,h2⟩:=drop_iff h
      have h5:=take_nth l i
      cases hd:l.drop i with
      |nil=>rw [hd] at h2;exact h2.elim
      |cons a m=>
       rw [hd] at h2 h5
       have hlt:i<l.length:=by
         rcases Nat.lt_or_ge i l.length with h'|h'
         · exact h'
         · rw [List.drop_eq_nil_of_le h'] at hd;cases hd
       simp [hlt] at h5
       refine q_pure (force_iff.1 h2) fun ρ w M e oo ho he=>?_
       have:=he x (by simp [Op.operands])
       rw [hx] at this
       obtain ⟨cs,h6,h7⟩:=this
       obtain ⟨u,h8,h9⟩:=h7.get i hlt
       rw [←h5] at h9
       rw [Array.getElem?_toList] at h8
       refine ⟨u,by simp [execOp,ho,h6,Instr.extract,h8],?_⟩
       cases a with
       |agg l=>exact h9
       |any=>trivial
       |tup l=>exact h9.elim
       |fn f l=>
        cases l with
        |nil=>have h9:u=_:=h9;subst h9;exact ⟨#[],rfl,trivial⟩
        |cons=>exact h9.elim
       |_=>exact h9
    · exact h.elim
  · cases fn with
    |func f=>
     simp only [qK] at h
     split at h
     · rename_i hf
       rw [evals_iff] at h
       have hf':first= #[]:=by simpa using congrArg List.toArray hf
       subst hf'
       by_cases hc:∃x r i,cap.toList=[x]∧evalF T x= .rptr r i
       · obtain ⟨x,r,i,hcl,hx⟩:=hc
         rw [hcl] at h
         simp only [List.map_cons,List.map_nil,hx,capfK] at h
         refine q_pure h fun ρ w M e oo ho he=>?_
         have hcap:cap= #[x]:=by simpa using congrArg List.toArray hcl
         subst hcap
         have hxv:=he x (by simp [Op.operands])
         rw [hx] at hxv
         obtain ⟨b,off,cp,h1,h2,h3,h4⟩:=hxv
         exact ⟨.func (.func f) #[] #[e x],by simp [execOp,ho,Instr.makeFunc],b,off,cp,h1,h2,h3,by rw [h4]⟩
       have h:ifK (cellsOK (cap.toList.map (evalF T))) (K (.fn f (cap.toList.map (evalF T))) none):=by
         unfold capfK at h
         split at h
         · rename_i r i he
           exfalso
           rcases hcl:cap.toList with _|⟨x,_|⟨y,l⟩⟩
           · rw [hcl] at he;exact absurd (congrArg List.length he) (by simp)
           · rw [hcl] at he;exact hc ⟨x,r,i,hcl,List.head_eq_of_cons_eq he⟩
           · rw [hcl] at he;exact absurd (congrArg List.length he) (by simp)
         · exact h
       rw [ifK_iff] at h
       obtain ⟨hok,h⟩:=h
       refine q_pure h fun ρ w M e oo ho he=>?_
       refine ⟨.func (.func f) #[] (cap.map e),by simp [execOp,ho,Instr.makeFunc],cap.map e,rfl,?_⟩
       have hall:∀x∈cap.toList,RepT ρ w M (evalF T x) (e x):=fun x hx=>he x (by simp [Op.operands];exact Array.mem_toList_iff.1 hx)
       rw [Array.toList_map]
       have key:∀(l:List Operand),cellsOK (l.map (evalF T))=true→(∀x∈l,RepT ρ w M (evalF T x) (e x))→RepL (RepC ρ w M) (l.map (evalF T)) (l.map e):=by
         intro l
         induction l with
         |nil=>intro _ _;trivial
         |cons x l ih=>
          intro hc hl
          simp only [List.map_cons,cellsOK] at hc
          cases hx:cellOK (evalF T x) with
          |false=>rw [hx] at hc;cases hc
          |true=>rw [hx] at hc;exact ⟨cellOK_rep hx (hl x (by simp)),ih hc fun y hy=>hl y (List.mem_cons_of_mem _ hy)⟩
       exact key _ hok hall
     · exact h.elim
    |_=>exact h.elim
end
end Go.AM
end
section
namespace Go.AM
open Go
section
variable {P:Program} {TY:List TyE} {w0 w:World} {M0:Base w0} {ρ:Env} {M:Msk} {S S0:Store} {d:Nat}
theorem alloc_sound (hty:TyOk P TY) {F:Spec} {t:Nat} {T:List AV} {K:AV→Option Blk→Prop} (h:qK TY F d (.alloc t) T S0 K):
    ∃v B,K v B∧QS P d (.alloc t) T S0 v B:=by
  simp only [qK,ifK_iff] at h
  obtain ⟨hl,hzb,h⟩:=h
  have bools_cells:∀{l:List AV} {cs:List Value},zeroBools l=true→RepL zC l cs→cs=List.replicate l.length (.bool false):=by
    intro l
    induction l with
    |nil=>intro cs _ hr;cases cs with|nil=>rfl|cons=>exact hr.elim
    |cons a l ih=>
     intro cs hz hr
     cases cs with
     |nil=>exact hr.elim
     |cons c cs=>
      have hz':a= .bool (.lit false)∧zeroBools l=true:=by
        unfold zeroBools at hz
        split at hz
        · rename_i he;cases he
        · rename_i he;cases he;exact ⟨rfl,hz⟩
        · cases hz
      obtain ⟨rfl,hz'⟩:=hz'
      have h1:c= .bool false:=hr.1 (fun _=>none) default (fun _ _=>False)
      rw [h1,ih hz' hr.2];rfl
  split at h
  · rename_i hba
    refine ⟨_,_,h,fun w0 M0 ρ M w S' e oo ho hc st he hd=>?_,fun _ hb=>by first|(cases hb;done)|(subst_vars;simp_all)⟩
    have hne:(nthT TY t).zero≠[]:=fun he=>by rw [he] at hzb;cases hzb
    have hrow:=hty.at (t:=t) (.inl (by rw [←same_len hl];exact fun he=>hne (List.eq_nil_of_length_eq_zero he)))
    obtain ⟨i,u,hi,hu',_,_,_,hzero⟩:=hrow.row
    obtain ⟨z,hz1,hz2⟩:=hzero hne
    have hzv:(zeroValue t).run P w= .ok z w:=by simp [zeroValue,typeInfo,hi,hz1]
    have hzz:zeroBools (nthT TY t).zero=true∧Nat.ble (nthT TY t).sz 1000000=true:=by
      unfold boolArr at hba
      split at hba
      · split at hba
        · exact ⟨by assumption,by assumption⟩
        · cases hba
      · cases hba
    have hlen:=same_len hl
    have hcs:z.cells.toList=List.replicate (nthT TY t).sz (.bool false):=by rw [←hlen];exact bools_cells hzz.1 hz2.1
    have hcz:z.cells.size=(nthT TY t).sz:=by rw [←Array.length_toList,hcs,List.length_replicate]
    have hszb:(nthT TY t).sz≤LB:=by have:=Nat.le_of_ble_eq_true hzz.2;simp only [LB];omega
    obtain ⟨ρ',M',h1,h2,h3,h4⟩:=st.push (w':={ w with heap:=w.heap.push (.cells z.cells t) }) (cs:=z.cells) (ty:=t) (own:=.sl ⟨some w.heap.size,(nthT TY t).sz,(nthT TY t).sz,1⟩) (B:=.vec 0 (.bools (List.replicate (nthT TY t).sz false)) []) (hd (by simp)).1 (hd (by simp)).2 rfl (by first|exact IoS.refl _|exact ⟨⟨rfl,rfl⟩,rfl,Nat.le_succ _⟩) (fun _ h=>(Option.some.inj h).symm)
      (fun ρ' M' hρ hM hk hext=>⟨⟨_,hρ,by simp [RO.len],rfl,by simp only [RO.len,List.length_replicate];exact hszb,Nat.zero_le _,by
        refine ⟨Nat.le_refl _,z.cells,t,by simp,by simp only [hcz,Nat.mul_one],fun off=>?_,fun q hq=>?_⟩
        · rw [hM off];simp
        · have hq:q<(nthT TY t).sz:=by simpa [RO.cells,RO.len,RO.sz] using hq
          refine ⟨.bool false,?_,?_⟩
          · rw [←Array.getElem?_toList,hcs];simp [hq]
          · simp [CellP,List.getElem?_replicate,hq]⟩,.inl rfl⟩)
    refine .val (v:=.pointer (some ⟨w.heap.size,0,none⟩)) (w':={ w with heap:=w.heap.push (.cells z.cells t) }) ?_ ⟨ρ',M',h1,⟨_,_,of_sl h2,rfl,Int.le_refl _,?_,by simp⟩,h3,h4⟩
    · simp [execOp,ho,Instr.alloc,hzv,newVar,newRow]
    · have:0<(nthT TY t).sz:=by rw [←hlen];exact List.length_pos_iff.2 hne
      simp only;omega
  refine ⟨_,_,h,fun w0 M0 ρ M w S' e oo ho hc st he hd=>?_,fun _ hb=>by first|(cases hb;done)|(subst_vars;simp_all)⟩
  have hne:(nthT TY t).zero≠[]:=fun he=>by rw [he] at hzb;cases hzb
  have hrow:=hty.at (t:=t) (.inl (by rw [←same_len hl];exact fun he=>hne (List.eq_nil_of_length_eq_zero he)))
  obtain ⟨i,u,hi,hu',_,_,_,hzero⟩:=hrow.row
  obtain ⟨z,hz1,hz2⟩:=hzero hne
  have hzv:(zeroValue t).run P w= .ok z w:=by simp [zeroValue,typeInfo,hi,hz1]
  obtain ⟨ρ',M',h1,h2,h3,h4⟩:=st.push (w':={ w with heap:=w.heap.push (.cells z.cells t) }) (cs:=z.cells) (ty:=t) (own:=.bx w.heap.size) (B:=.box (nthT TY t).zero) (hd (by simp)).1 (hd (by simp)).2 rfl (by first|exact IoS.refl _|exact ⟨⟨rfl,rfl⟩,rfl,Nat.le_succ _⟩) (fun _ h=>h.symm)
    (fun ρ' M' hρ hM hk hext=>⟨w.heap.size,hρ,z.cells,t,by simp,hM,hz2.1.imp fun a v h=>h _ _ _⟩)
  refine .val (v:=.pointer (some ⟨w.heap.size,0,none⟩)) (w':={ w with heap:=w.heap.push (.cells z.cells t) }) ?_ ⟨ρ',M',h1,of_bx 0 h2,h3,h4⟩
  simp [execOp,ho,Instr.alloc,hzv,newVar,newRow]
theorem box_sound (_hty:TyOk P TY) {F:Spec} {t:Nat} {x:Operand} {T:List AV} {K:AV→Option Blk→Prop} (h:qK TY F d (.box t x) T S0 K):
    ∃v B,K v B∧QS P d (.box t x) T S0 v B:=by
  simp only [qK,eval_iff] at h
  have hor:(asCellsK TY t (evalF T x) fun m=>K (.ptr d 0) (some (.box m)))∨∃l,evalF T x= .ro (.rows .i64 l)∧asCellsK TY t (.ro (.rows .i64 l)) fun _=>K (.rptr (.rows3 [l]) 0) none:=by
    unfold boxK at h
    split at h
    · rename_i l hx;rw [hx];exact h.imp id fun h=>⟨l,rfl,h⟩
    · exact .inl h
  rcases hor with h|⟨l,hxl,h⟩
  rotate_left
  · obtain ⟨m,hK,hlen,hm⟩:=cells_iff h
    refine ⟨_,none,hK,fun w0 M0 ρ M w S' e oo ho hc st he hd=>?_,fun hq=>by simp [quietOp,makesOp] at hq⟩
    have hx:=he x (by simp [Op.operands])
    rw [hxl] at hx
    have hx:RepRO w M (.rows .i64 l) (e x):=hx
    have hcell:(e x).cells= #[e x]:=by
      obtain ⟨_,a,cap,h1,_⟩:=hx
      rw [h1];rfl
    have hs:Stp (fun _ _=>False) w { w with heap:=w.heap.push (.cells (e x).cells t) }:=Stp.alloc _ w _
    obtain ⟨st2,hk⟩:=st.same (M':=M) hs (fun _ _ _=>Iff.rfl) (fun b off hmm=>Nat.lt_of_lt_of_le (st.mlt b off hmm) hs.size)
    refine .val (v:=.pointer (some ⟨w.heap.size,0,none⟩)) (w':={ w with heap:=w.heap.push (.cells (e x).cells t) }) ?_ ⟨ρ,M,st2,?_,hk,fun _ _ h=>h⟩
    · simp [execOp,ho,Instr.box,newVar,newRow]
    · refine ⟨w.heap.size,0,1,⟨by simp [RO.len,LB],some ⟨w.heap.size,0,none⟩,1,by simp [RO.len],by simp [RO.len],.inr ⟨w.heap.size,0,rfl,fun q hq=>?_⟩⟩,Int.le_refl _,by simp [RO.len],by simp⟩
      have hq:q=0:=by simp [RO.cells,RO.len,RO.sz] at hq;omega
      subst hq
      refine ⟨e x,?_,fun hm=>absurd (st.mlt _ _ hm) (Nat.lt_irrefl _),?_⟩
      · simp [World.cell?,hcell]
      · show Sl2 _ M .i64 _ (e x)
        exact rep_rows.1 (RepRO.keep hk hx)
  obtain ⟨m,hK,hlen,hm⟩:=cells_iff h
  refine ⟨_,_,hK,fun w0 M0 ρ M w S' e oo ho hc st he hd=>?_,fun _ hb=>by first|(cases hb;done)|(subst_vars;simp_all)⟩
  have hx:=he x (by simp [Op.operands])
  have hrep:RepL (RepC ρ w M) m (e x).cells.toList:=by
    rcases hm with ⟨_,hm⟩|⟨_,hc,rfl⟩
    · rw [hm] at hx
      obtain ⟨cs,h1,h2⟩:=hx
      rw [h1];exact h2
    · have hx:=cellOK_rep hc hx
      have hcell:=RepC.isCell hx
      revert hx hcell
      cases e x<;>intro hx hcell<;>first|exact ⟨hx,trivial⟩|exact hcell.elim
  obtain ⟨ρ',M',h1,h2,h3,h4⟩:=st.push (w':={ w with heap:=w.heap.push (.cells (e x).cells t) }) (cs:=(e x).cells) (ty:=t) (own:=.bx w.heap.size) (B:=.box m) (hd (by simp)).1 (hd (by simp)).2 rfl (by first|exact IoS.refl _|exact ⟨⟨rfl,rfl⟩,rfl,Nat.le_succ _⟩) (fun _ h=>h.symm)
    (fun ρ' M' hρ hM hk hext=>⟨w.heap.size,hρ,(e x).cells,t,by simp,hM,hrep.imp fun a v=>RepC.keep hk hext⟩)
  refine .val (v:=.pointer (some ⟨w.heap.size,0,none⟩)) (w':={ w with heap:=w.heap.push (.cells (e x).cells t) }) ?_ ⟨ρ',M',h1,of_bx 0 h2,h3,h4⟩
  simp [execOp,ho,Instr.box,newVar,newRow]
theorem getD_rep {α:Type} (n q:Nat) (a:α):(List.replicate n a).getD q a=a:=by
  simp only [List.getD,List.getElem?_replicate]
  split<;>rfl
theorem made_one {z c:Value} {m q:Nat} (hz:z.cells= #[c]) (hq:q<m):(madeCells z.cells m)[q]? =some c:=by
  simp [madeCells,hz,hq,Nat.mod_one]
theorem made_two {z c d:Value} {m q:Nat} (hz:z.cells= #[c,d]) (hq:q<m):(madeCells z.cells m)[q]? =some (if q % 2=0 then c else d):=by
  simp only [madeCells,hz]
  have:q % 2=0∨q % 2=1:=by omega
  rcases this with h|h<;>simp [hq,h]
theorem zeroFac_eq:∀{l:List AV},zeroFac l=true→l=[.int .i64 0,.bool (.lit false)]
  |[.int .i64 (.ofNat 0),.bool (.lit false)],_=>rfl
theorem zeroPrn_eq:∀{l:List AV},zeroPrn l=true→l=[.int .i64 0,.int .i64 0,.nils,.nils]
  |[.int .i64 (.ofNat 0),.int .i64 (.ofNat 0),.nils,.nils],_=>rfl
theorem made_four {z c d e f:Value} {m q:Nat} (hz:z.cells= #[c,d,e,f]) (hq:q<m):(madeCells z.cells m)[q]? =some (if q % 4=0 then c else if q % 4=1 then d else if q % 4=2 then e else f):=by
  simp only [madeCells,hz]
  have:q % 4=0∨q % 4=1∨q % 4=2∨q % 4=3:=by omega
  rcases this with h|h|h|h<;>simp [hq,h]
theorem zeroRul_eq:∀{l:List AV},zeroRul l=true→l=[.str [],.str []]
  |[.str [],.str []],_=>rfl
theorem zeroStr_eq:∀{l:List AV},zeroStr l=true→l=[.str []]
  |[.str []],_=>rfl
theorem zeroPair_eq:∀{l:List AV},zeroPair l=true→l=[.int .i64 0,.int .i64 0]
  |[.int .i64 (.ofNat 0),.int .i64 (.ofNat 0)],_=>rfl
theorem zeroInts_cells {k:IntKind}:∀{n:Nat} {l:List AV} {cs:List Value},zeroInts k n l=true→RepL zC l cs→cs=List.replicate n (.int k 0)
  |0,[],[],_,_=>rfl
  |n+1,a::l,c::cs,h,hr=>by
   obtain ⟨h1,h2⟩:=hr
   unfold zeroInts at h
   split at h
   · rename_i he;cases he
   · rename_i n' k' l' hn he
     cases hn;cases he
     split at h
     · rename_i hk
       obtain rfl:=kq_eq hk
       have h1:=(h1 noEnv default (fun _ _=>False)).1
       rw [zeroInts_cells h h2,h1];rfl
     · cases h
   · cases h
  |0,_::_,_,h,_=>by simp [zeroInts] at h
  |0,[],_::_,_,hr=>hr.elim
  |_+1,[],_,h,_=>by simp [zeroInts] at h
  |_+1,_::_,[],_,hr=>hr.elim
theorem sl_nil (w:World) (M:Msk) (C:Nat→Value→Prop):SlOf w M 0 C 0 (.slice none 0 0):=⟨none,0,rfl,Nat.le_refl _,.inl rfl⟩
theorem zeros_sound {e n:Nat} {K:RO→Prop} (hty:TyOk P TY) (hzb:zeroB (nthT TY e).zero=true) (h:zerosK TY e n K):
    ∃r,K r∧r.len=n∧∃i z,P.info? e=some i∧i.zero=some z∧i.size=(nthT TY e).sz∧i.bytes=(nthT TY e).bytes∧z.cells.size=r.sz∧
     ∀(w:World) (M:Msk) q,q<r.cells→∃c,(madeCells z.cells r.cells)[q]? =some c∧CellP w M r q c:=by
  have hne:(nthT TY e).zero≠[]:=fun he=>by rw [he] at hzb;cases hzb
  have get:(nthT TY e).d≠.other→∃i z,P.info? e=some i∧i.zero=some z∧i.size=(nthT TY e).sz∧i.bytes=(nthT TY e).bytes∧zeroOK (nthT TY e) z:=by
    intro hd
    obtain ⟨i,u,hi,hu,h1,h2,_,hzero⟩:=(hty.at (t:=e) (.inr hd)).row
    obtain ⟨z,hz1,hz2⟩:=hzero hne
    exact ⟨i,z,hi,hz1,h1,h2,hz2⟩
  have one:∀(r:RO),r.sz=1→r.len=n→K r→(nthT TY e).d≠.other→(∀z,zKind (nthT TY e).d z→∃c,z.cells= #[c]∧∀w M q,CellP w M r q c)→
      ∃r,K r∧r.len=n∧∃i z,P.info? e=some i∧i.zero=some z∧i.size=(nthT TY e).sz∧i.bytes=(nthT TY e).bytes∧z.cells.size=r.sz∧
      ∀(w:World) (M:Msk) q,q<r.cells→∃c,(madeCells z.cells r.cells)[q]? =some c∧CellP w M r q c:=by
    intro r hs hl hK hd hc
    obtain ⟨i,z,h1,h2,h3,h4,h5⟩:=get hd
    obtain ⟨c,h6,h7⟩:=hc z h5.2.2.2.1
    exact ⟨r,hK,hl,i,z,h1,h2,h3,h4,by rw [h6,hs];rfl,fun w M q hq=>⟨c,made_one h6 hq,h7 w M q⟩⟩
  unfold zerosK zerosG at h
  split at h
  · rename_i k hd
    exact one _ rfl (by simp [RO.len]) h (by rw [hd];simp) fun z hz=>by
      rw [hd] at hz
      have hz:z= .int k 0:=hz
      subst hz
      exact ⟨_,rfl,fun w M q=>by simp only [CellP,getD_rep];exact ⟨trivial,in_zero k⟩⟩
  · rename_i hd
    exact one _ rfl (by simp [RO.len]) h (by rw [hd];simp) fun z hz=>by
      rw [hd] at hz
      have hz:z= .bool false:=hz
      subst hz
      exact ⟨_,rfl,fun w M q=>by simp only [CellP,getD_rep]⟩
  · rename_i hd
    rw [ifK_iff] at h
    obtain ⟨hzs,h⟩:=h
    obtain ⟨i,z,h1,h2,h3,h4,h5⟩:=get (by rw [hd];simp)
    have h6:=h5.1
    rw [zeroStr_eq hzs] at h6
    obtain ⟨c,hzc,hc⟩:∃c,z.cells= #[c]∧c= .string (strB []):=by
      match hc:z.cells.toList,h6 with
      |[a],h6=>exact ⟨a,by simpa using congrArg List.toArray hc,(h6.1 noEnv default (fun _ _=>False)).1⟩
    refine ⟨_,h,by simp [RO.len],i,z,h1,h2,h3,h4,by rw [hzc];rfl,fun w M q hq=>⟨c,made_one hzc hq,?_⟩⟩
    simp only [CellP,getD_rep]
    exact ⟨hc,by simp⟩
  · rename_i f hd
    have hz':∀z,zKind (nthT TY e).d z→z= .slice none 0 0:=fun z hz=>by rw [hd] at hz;exact hz
    split at h
    · exact one _ rfl (by simp [RO.len]) h (by rw [hd];simp) fun z hz=>by
        rw [hz' z hz]
        exact ⟨_,rfl,fun w M q=>by simp only [CellP,getD_rep];exact ⟨Nat.zero_le _,sl_nil _ _ _⟩⟩
    · exact one _ rfl (by simp [RO.len]) h (by rw [hd];simp) fun z hz=>by
        rw [hz' z hz]
        exact ⟨_,rfl,fun w M q=>by simp only [CellP,getD_rep];exact ⟨Nat.zero_le _,sl_nil _ _ _⟩⟩
    · split at h
      · exact one _ rfl (by simp [RO.len]) h (by rw [hd];simp) fun z hz=>by
          rw [hz' z hz]
          exact ⟨_,rfl,fun w M q=>by simp only [CellP,getD_rep];exact ⟨Nat.zero_le _,sl_nil _ _ _⟩⟩
      · exact h.elim
    · split at h
      · exact one _ rfl (by simp [RO.len]) h (by rw [hd];simp) fun z hz=>by
          rw [hz' z hz]
          exact ⟨_,rfl,fun w M q=>by simp only [CellP,getD_rep];exact ⟨Nat.zero_le _,sl_nil _ _ _⟩⟩
      · exact h.elim
    · exact h.elim
  · rename_i f hd
    split at h
    · rw [ifK_iff] at h
      obtain ⟨hzp,h⟩:=h
      obtain ⟨i,z,h1,h2,h3,h4,h5⟩:=get (by rw [hd];simp)
      obtain ⟨cs,rfl⟩:=h5.2.1 (by rw [hd];rfl)
      have h6:=h5.1
      rw [zeroPair_eq hzp] at h6
      have hcs:cs= #[.int .i64 0,.int .i64 0]:=by
        match hc:cs.toList,h6 with
        |[a,b],h6=>
         obtain ⟨ha,hb,_⟩:=h6
         have ha:=(ha noEnv default (fun _ _=>False)).1
         have hb:=(hb noEnv default (fun _ _=>False)).1
         subst ha;subst hb
         simpa using congrArg List.toArray hc
      subst hcs
      refine ⟨_,h,by simp [RO.len],i,_,h1,h2,h3,h4,rfl,fun w M q hq=>⟨_,made_two rfl hq,?_⟩⟩
      simp only [CellP,getD_rep]
      split<;>exact ⟨rfl,in_zero _⟩
    · exact h.elim
  · rename_i n' f _ hd
    split at h
    · rename_i k _
      rw [ifK_iff] at h
      obtain ⟨hzp,h⟩:=h
      obtain ⟨i,z,h1,h2,h3,h4,h5⟩:=get (by rw [hd];simp)
      obtain ⟨cs,rfl⟩:=h5.2.1 (by rw [hd];rfl)
      have h6:cs.toList=_:=zeroInts_cells hzp h5.1
      refine ⟨_,h,by simp [RO.len],i,_,h1,h2,h3,h4,by simpa [RO.sz,Value.cells] using congrArg List.length h6,fun w M q hq=>⟨.int k 0,?_,?_⟩⟩
      · have hcs:cs=(List.replicate (n'+2) (Value.int k 0)).toArray:=by simpa using congrArg List.toArray h6
        subst hcs
        simp only [madeCells,Value.cells]
        have hp:q % (n'+2)<n'+2:=Nat.mod_lt _ (Nat.succ_pos _)
        simp [hq,hp]
      · simp only [CellP]
        have:(List.getD (List.replicate n (List.replicate (n'+2) (0:Int))) (q / (n'+2)) []).getD (q % (n'+2)) 0=0:=by
          simp only [List.getD,List.getElem?_replicate]
          split<;>simp [List.getElem?_replicate]
          split<;>rfl
        rw [this]
        exact ⟨rfl,in_zero k⟩
    · exact h.elim
  · rename_i fs hd
    split at h
    · rename_i hzf
      obtain ⟨i,z,h1,h2,h3,h4,h5⟩:=get (by rw [hd];simp)
      obtain ⟨cs,rfl⟩:=h5.2.1 (by rw [hd];rfl)
      have h6:=h5.1
      rw [zeroFac_eq hzf] at h6
      have hcs:cs= #[.int .i64 0,.bool false]:=by
        match hc:cs.toList,h6 with
        |[a,b],h6=>
         obtain ⟨ha,hb,_⟩:=h6
         have ha:=(ha noEnv default (fun _ _=>False)).1
         have hb:b= .bool false:=hb noEnv default (fun _ _=>False)
         subst ha;subst hb
         simpa using congrArg List.toArray hc
      subst hcs
      refine ⟨_,h,by simp [RO.len],i,_,h1,h2,h3,h4,rfl,fun w M q hq=>⟨_,made_two rfl hq,?_⟩⟩
      simp only [CellP,getD_rep]
      split
      · exact ⟨rfl,in_zero _⟩
      · rfl
    · split at h
      · rename_i hzf
        obtain ⟨i,z,h1,h2,h3,h4,h5⟩:=get (by rw [hd];simp)
        obtain ⟨cs,rfl⟩:=h5.2.1 (by rw [hd];rfl)
        have h6:=h5.1
        rw [zeroPrn_eq hzf] at h6
        have hcs:cs= #[.int .i64 0,.int .i64 0,.slice none 0 0,.slice none 0 0]:=by
          match hc:cs.toList,h6 with
          |[a,b,c,d],h6=>
           obtain ⟨ha,hb,hc',hd',_⟩:=h6
           have ha:=(ha noEnv default (fun _ _=>False)).1
           have hb:=(hb noEnv default (fun _ _=>False)).1
           have hc':c= .slice none 0 0:=hc' noEnv default (fun _ _=>False)
           have hd':d= .slice none 0 0:=hd' noEnv default (fun _ _=>False)
           subst ha;subst hb;subst hc';subst hd'
           simpa using congrArg List.toArray hc
        subst hcs
        refine ⟨_,h,by simp [RO.len],i,_,h1,h2,h3,h4,rfl,fun w M q hq=>⟨_,made_four rfl hq,?_⟩⟩
        simp only [CellP,getD_rep]
        split
        · exact ⟨rfl,in_zero _⟩
        · split
          · exact ⟨rfl,in_zero _⟩
          · split
            · exact ⟨Nat.zero_le _,sl_nil _ _ _⟩
            · exact ⟨Nat.zero_le _,sl_nil _ _ _⟩
      · split at h
        · rename_i hzf
          obtain ⟨i,z,h1,h2,h3,h4,h5⟩:=get (by rw [hd];simp)
          obtain ⟨cs,rfl⟩:=h5.2.1 (by rw [hd];rfl)
          have h6:=h5.1
          rw [zeroRul_eq hzf] at h6
          have hcs:cs= #[.string (strB []),.string (strB [])]:=by
            match hc:cs.toList,h6 with
            |[a,b],h6=>
             obtain ⟨ha,hb,_⟩:=h6
             have ha:=(ha noEnv default (fun _ _=>False)).1
             have hb:=(hb noEnv default (fun _ _=>False)).1
             subst ha;subst hb
             simpa using congrArg List.toArray hc
          subst hcs
          refine ⟨_,h,by simp [RO.len],i,_,h1,h2,h3,h4,rfl,fun w M q hq=>⟨_,made_two rfl hq,?_⟩⟩
          simp only [CellP,getD_rep]
          split<;>exact ⟨rfl,by simp⟩
        · rw [ifK_iff] at h
          obtain ⟨hzp,h⟩:=h
          obtain ⟨i,z,h1,h2,h3,h4,h5⟩:=get (by rw [hd];simp)
          obtain ⟨cs,rfl⟩:=h5.2.1 (by rw [hd];rfl)
          have h6:=h5.1
          rw [zeroPair_eq hzp] at h6
          have hcs:cs= #[.int .i64 0,.int .i64 0]:=by
            match hc:cs.toList,h6 with
            |[a,b],h6=>
             obtain ⟨ha,hb,_⟩:=h6
             have ha:=(ha noEnv default (fun _ _=>False)).1
             have hb:=(hb noEnv default (fun _ _=>False)).1
             subst ha;subst hb
             simpa using congrArg List.toArray hc
          subst hcs
          refine ⟨_,h,by simp [RO.len],i,_,h1,h2,h3,h4,rfl,fun w M q hq=>⟨_,made_two rfl hq,?_⟩⟩
          simp only [CellP,getD_rep]
          split<;>exact ⟨rfl,in_zero _⟩
  · exact h.elim
theorem rowSz {r:RO} (hr:rowsQ r=true) (q:Nat):(r.row q).sz=1:=by cases r<;>first|rfl|(cases hr;done)
theorem zeros_rows {e n:Nat} {K:RO→Prop} (h:zerosK TY e n K):zerosK TY e n fun r=>K r∧(rowsQ r=true→(∀q,(r.row q).len=0)∧gridQ r=false∧∃f,(nthT TY e).d= .slice f):=by
  unfold zerosK zerosG at*
  split at h
  · exact ⟨h,fun h=>by cases h⟩
  · exact ⟨h,fun h=>by cases h⟩
  · rw [ifK_iff] at h ⊢
    exact ⟨h.1,h.2,fun h=>by cases h⟩
  · rename_i f hd
    split at h
    · exact ⟨h,fun _=>⟨fun q=>by simp only [RO.row,getD_rep];rfl,rfl,f,hd⟩⟩
    · exact ⟨h,fun _=>⟨fun q=>by simp only [RO.row,getD_rep];rfl,rfl,f,hd⟩⟩
    · split at h
      · exact ⟨h,fun _=>⟨fun q=>by simp only [RO.row,getD_rep];rfl,rfl,f,hd⟩⟩
      · exact h.elim
    · split at h
      · exact ⟨h,fun h=>by cases h⟩
      · exact h.elim
    · exact h.elim
  · split at h
    · rw [ifK_iff] at h ⊢
      exact ⟨h.1,h.2,fun h=>by cases h⟩
    · exact h.elim
  · split at h
    · rw [ifK_iff] at h ⊢
      exact ⟨h.1,h.2,fun h=>by cases h⟩
    · exact h.elim
  · split at h
    · rename_i hz
      simp only [hz]
      exact ⟨h,fun h=>by cases h⟩
    · rename_i hz
      simp only [hz]
      split at h
      · rename_i hz2
        exact ⟨h,fun h=>by cases h⟩
      · rename_i hz2
        try simp only [hz2]
        split at h
        · rename_i hz3
          try simp only [hz3]
          exact ⟨h,fun h=>by cases h⟩
        · rename_i hz3
          try simp only [hz3]
          rw [ifK_iff] at h ⊢
          exact ⟨h.1,h.2,fun h=>by cases h⟩
  · exact h.elim
theorem make_sound (hty:TyOk P TY) {F:Spec} {t:Nat} {l c:Operand} {T:List AV} {K:AV→Option Blk→Prop} (h:qK TY F d (.makeSlice t l c) T S0 K):
    ∃v B,K v B∧QS P d (.makeSlice t l c) T S0 v B:=by
  simp only [qK,eval_iff] at h
  split at h
  · rename_i e hd
    obtain ⟨kl,ln,hl,h⟩:=bound_iff h
    obtain ⟨kc,cn,hc,⟨h0,h1⟩,h⟩:=bound_iff h
    obtain ⟨h2,_,h⟩:=capP_of h (by omega)
    have hz:zeroB (nthT TY e).zero=true:=by
      unfold zerosK zerosG at h
      revert h
      repeat' split
      all_goals (intro h;first|exact h.elim|(simp only [ifK_iff] at h;first|exact h.2.1|exact h.2.2.1))
    obtain ⟨r,⟨hK,hrows⟩,hlen,i,z,hi,hz1,hsz,hby,hzs,hcell⟩:=zeros_sound hty hz (zeros_rows h)
    rw [ifK_iff,ifK_iff,ifK_iff] at hK
    obtain ⟨hby1,_,hok,hK⟩:=hK
    rw [Nat.ble_eq] at hby1
    obtain ⟨e',hd',hu,hes,hrow⟩:=okSl_row hty hok
    rw [hd] at hd';cases hd'
    have hK2:∃B,K (.vec d) (some B)∧(B= .vec 0 r []∨(B= .deep r none∧rowsQ r=true)∨∃k l,r= .rows k l∧B= .vec 0 (.nrows k l) []):=by
      unfold mkSl at hK
      split at hK
      · exact ⟨_,hK,.inl rfl⟩
      · rename_i hq
        rcases hK with hK|hK|hK
        · exact ⟨_,hK,.inl rfl⟩
        · exact ⟨_,hK,.inr (.inl ⟨rfl,hq⟩)⟩
        · split at hK
          · exact ⟨_,hK,.inr (.inr ⟨_,_,rfl,rfl⟩)⟩
          · exact hK.elim
    obtain ⟨B,hK,hBB⟩:=hK2
    refine ⟨_,_,hK,fun w0 M0 ρ M w S' ev oo ho hcm st he hdn=>?_,fun _ hb=>by rcases hBB with rfl|⟨rfl,_⟩|⟨_,_,_,rfl⟩<;>cases hb⟩
    have hel:=he l (by simp [Op.operands])
    have hec:=he c (by simp [Op.operands])
    rw [hl] at hel;rw [hc] at hec
    have hb:(i.bytes:Int)*cn≤281474976710656:=by rw [hby,Int.mul_comm];omega
    have hcn0:0≤cn:=by omega
    have hcn:cn≤140737488355328:=by
      have h3:cn*1≤cn*((nthT TY e).bytes:Int):=Int.mul_le_mul_of_nonneg_left (by omega) hcn0
      omega
    have hrun:=run_make (P:=P) w t e i z hu hi hz1 kl kc ln cn h0 h1 hb (by omega)
    have hsz':i.size=r.sz:=by rw [hsz,hes]
    have hw:(w.alloc (.cells (madeCells z.cells (cn.toNat*i.size)) e)).heap=w.heap.push (.cells (madeCells z.cells (cn.toNat*i.size)) e (0,0)):=rfl
    have hle:r.cells≤cn.toNat*i.size:=by rw [hsz'];simp only [RO.cells,hlen];exact Nat.mul_le_mul_right _ (by omega)
    have hmade:∀q,q<r.cells→(madeCells z.cells (cn.toNat*i.size))[q]? =(madeCells z.cells r.cells)[q]? :=fun q hq=>by
      simp [madeCells,hq,Nat.lt_of_lt_of_le hq hle]
    have hpush:∃ρ' M',St M0 ρ' M' ((d,B)::S') (w.alloc (.cells (madeCells z.cells (cn.toNat*i.size)) e))∧(ρ' d).bind Own.sli=some ⟨some w.heap.size,r.len,cn.toNat,r.sz⟩∧Keep w M (w.alloc (.cells (madeCells z.cells (cn.toNat*i.size)) e)) M'∧∀k o,ρ k=some o→ρ' k=some o:=by
      have hnil0:rowsQ r=true→(∀q,(r.row q).len=0∧gridQ r=false)∧∀(q:Nat) (c:Value),(madeCells z.cells r.cells)[q]? =some c→c=nilSl.val:=by
        intro hrq
        obtain ⟨h1,hg,f,hdf⟩:=hrows hrq
        refine ⟨fun q=>⟨h1 q,hg⟩,fun q c hc=>?_⟩
        obtain ⟨i',u,hi',_,_,_,_,hzero⟩:=(hty.at (t:=e) (.inr (by rw [hdf];simp))).row
        rw [hi] at hi';cases hi'
        obtain ⟨z',hz',hzk⟩:=hzero fun he=>by rw [he] at hz;cases hz
        rw [hz1] at hz';cases hz'
        have hzk:=hzk.2.2.2.1
        rw [hdf] at hzk
        have hzk:z= .slice none 0 0:=hzk
        subst hzk
        have hq:q<r.cells:=by
          rcases Nat.lt_or_ge q r.cells with h|h
          · exact h
          · rw [Array.getElem?_eq_none (by simp [size_madeCells];exact h)] at hc;cases hc
        have hr1:r.sz=1:=rowsQ_sz hrq
        have:=made_one (z:=.slice none 0 0) (c:=.slice none 0 0) rfl hq
        rw [hc] at this
        exact Option.some.inj this
      rcases hBB with rfl|⟨rfl,hrq⟩|⟨kk,ll,rfl,rfl⟩
      · obtain ⟨ρ',M',g1,g2,g3,g4⟩:=st.push (own:=.sl ⟨some w.heap.size,r.len,cn.toNat,r.sz⟩) (B:=.vec 0 r []) (hdn (by simp)).1 (hdn (by simp)).2 hw (by first|exact IoS.refl _|exact ⟨⟨rfl,rfl⟩,rfl,Nat.le_succ _⟩) (fun _ h=>(Option.some.inj h).symm)
          (fun ρ' M' hρ hM hk hext=>⟨⟨_,hρ,rfl,rfl,by simp only [LB];omega,Nat.zero_le _,by
            refine ⟨by simp only;omega,madeCells z.cells (cn.toNat*i.size),e,by rw [hw];simp,by simp only [size_madeCells,hsz'],fun off=>?_,fun q hq=>?_⟩
            · rw [hM off];simp
            · obtain ⟨c,g5,g6⟩:=hcell _ M' q hq
              exact ⟨c,by rw [hmade q hq];exact g5,g6⟩⟩,.inl rfl⟩)
        exact ⟨ρ',M',g1,of_sl g2,g3,g4⟩
      · have hr1:r.sz=1:=rowsQ_sz hrq
        have hnil:=hnil0 hrq
        have hgetN:∀q,(List.replicate r.len nilRow).getD q nilRow=nilRow:=fun q=>by simp only [List.getD,List.getElem?_replicate];split<;>rfl
        have hgq:gridQ r=false:=(hnil.1 0).2
        obtain ⟨ρ',M',g1,g2,g3,g4⟩:=st.push (own:=.dp ⟨some w.heap.size,r.len,cn.toNat,r.sz⟩ (List.replicate r.len nilRow) (gridQ r)) (B:=.deep r none) (hdn (by simp)).1 (hdn (by simp)).2 hw (by first|exact IoS.refl _|exact ⟨⟨rfl,rfl⟩,rfl,Nat.le_succ _⟩)
          (fun b h=>by
            rcases h with h|⟨q,h⟩
            · exact (Option.some.inj h).symm
            · rw [hgetN] at h;exact absurd h nilRow_no)
          (fun ρ' M' hρ hM hk hext=>⟨_,_,hρ,{
            rq:=hrq,len:=rfl,osz:=hr1,lb:=by simp only [LB];omega,rlen:=by simp
            outer:=by
              refine ⟨by simp only;omega,madeCells z.cells (cn.toNat*i.size),e,by rw [hw];simp,by simp only [size_madeCells,hsz',hr1,Nat.mul_one],fun off=>hM off,fun q hq=>?_⟩
              obtain ⟨c,g5,g6⟩:=hcell (w.alloc (.cells (madeCells z.cells (cn.toNat*i.size)) e)) M' q (by simp [RO.cells,hr1,hq])
              refine ⟨c,by rw [hmade q (by simp [RO.cells,hr1,hq])];exact g5,.inr ?_⟩
              rw [hgetN]
              exact hnil.2 q c g5
            row:=fun q hq _=>by
              rw [hgetN]
              have:=(hnil.1 q).1
              refine (rowH_plain (.inl hgq)).2 ⟨rfl,?_⟩
              refine ⟨by rw [this];rfl,by rw [rowSz hrq];rfl,by rw [this];exact Nat.zero_le _,Nat.zero_le _,this,rfl⟩
            hol:=fun i h=>by cases h
            out:=fun q b h=>by rw [hgetN] at h;exact absurd h nilRow_no
            apart:=fun q q' b h=>by rw [hgetN] at h;exact absurd h nilRow_no }⟩)
        exact ⟨ρ',M',g1,of_dp g2,g3,g4⟩
      · have hrl:(RO.nrows kk ll).len=(RO.rows kk ll).len:=rfl
        obtain ⟨ρ',M',g1,g2,g3,g4⟩:=st.push (own:=.sl ⟨some w.heap.size,(RO.rows kk ll).len,cn.toNat,(RO.rows kk ll).sz⟩) (B:=.vec 0 (.nrows kk ll) []) (hdn (by simp)).1 (hdn (by simp)).2 hw (by first|exact IoS.refl _|exact ⟨⟨rfl,rfl⟩,rfl,Nat.le_succ _⟩) (fun _ h=>(Option.some.inj h).symm)
          (fun ρ' M' hρ hM hk hext=>⟨⟨_,hρ,rfl,rfl,by simp only [LB,hrl];omega,Nat.zero_le _,by
            refine ⟨by simp only;omega,madeCells z.cells (cn.toNat*i.size),e,by rw [hw];simp,by simp only [size_madeCells,hsz'],fun off=>?_,fun q hq=>?_⟩
            · rw [hM off];simp
            · obtain ⟨c,g5,g6⟩:=hcell _ M' q hq
              refine ⟨c,by rw [hmade q hq];exact g5,g6,fun _=>(hnil0 rfl).2 q c g5⟩⟩,.inl rfl⟩)
        exact ⟨ρ',M',g1,of_sl g2,g3,g4⟩
    obtain ⟨ρ',M',g1,g2,g3,g4⟩:=hpush
    refine .val (v:=.slice (some ⟨w.heap.size,0,none⟩) ln.toNat cn.toNat) (w':=w.alloc (.cells (madeCells z.cells (cn.toNat*i.size)) e)) ?_ ⟨ρ',M',g1,⟨_,g2,by simp [Sl.val,hlen]⟩,g3,g4⟩
    have hel':ev l= .int kl ln:=hel.1
    have hec':ev c= .int kc cn:=hec.1
    simp [execOp,ho,hel',hec',hrun]
  · exact h.elim
end
end Go.AM
end
