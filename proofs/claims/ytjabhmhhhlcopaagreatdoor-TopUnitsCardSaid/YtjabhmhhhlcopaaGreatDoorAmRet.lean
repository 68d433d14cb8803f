import Derived.Test.YtjabhmhhhlcopaaGreatDoorAmDraw
import Derived.Scope
section
namespace Go.AM
open Go
section
variable {P:Program} {TY:List TyE} {w0 w:World} {M0:Base w0} {ρ:Env} {M:Msk} {S S0:Store} {d:Nat}
theorem repG_old {w':World} {M':Msk}:∀{l:List AV} {vs:List Value},newL l=0→RepL (RepRc w w' M') l vs→RepL (RepG ρ w' M') l vs
  |[],[],_,_=>trivial
  |a::l,v::vs,hn,h=>by
   have ha:newA a=0:=by
     simp only [newL] at hn
     cases a<;>first|rfl|(simp [newA] at hn)
   exact ⟨rep_old ha (Keep.refl _ _) h.1,repG_old (by rw [newL_cons0 ha] at hn;exact hn) h.2⟩
  |[],_::_,_,h=>h.elim
  |_::_,[],_,h=>h.elim
theorem rep_noNew {a:AV} {v:Value} {w':World} {M':Msk} (hn:noNew a=true) (h:RepR w w' M' a v):RepT ρ w' M' a v:=by
  cases a with
  |tup l=>
   obtain ⟨cs,rfl,hcs⟩:=h
   have hn:newL l=0:=beq_iff'.1 hn
   exact ⟨cs,rfl,repG_old hn hcs⟩
  |new r=>cases hn
  |_=>simp only [RepR] at h;exact RepT.keep (Keep.refl _ _) (fun k o ho=>by cases ho) h
theorem qret_sound {ret:AV} {K:AV→Option Blk→Prop} (h:qretK d ret K):
    ∃v B,K v B∧∀(w0:World) (M0:Base w0) (ρ:Env) (M:Msk) (S:Store) (w w':World) (M2:Msk) (u:Value),St M0 ρ M S w→Stp (fun _ _=>False) w w'→
     (∀b off,b<w.heap.size→(M2 b off↔M b off))→(∀b off,M2 b off→b<w'.heap.size)→RepR w w' M2 ret u→(B≠none→findS S d=none∧loc d=true)→Out w0 M0 ρ M S w d B v u w':=by
  cases ret with
  |new r=>
   refine ⟨.vec d,some (.vec 0 r []),h,fun w0 M0 ρ M S w w' M2 u st hs hold hlt hret hd=>?_⟩
   obtain ⟨st',hk⟩:=st.same hs hold hlt
   obtain ⟨o,rfl,hV,hob⟩:=hret
   obtain ⟨hd,hloc⟩:=hd (by simp)
   have st2:=st'.take (d:=d) hd hV (fun b hb k hk=>absurd (blk_lt st hk) (by have:=hob b hb;omega)) (fun b hb=>Nat.le_trans st.stp.1 (hob b hb)) hloc
   refine ⟨_,M2,st2,⟨o,by simp [Own.sli],rfl⟩,hk,fun k o' ho'=>?_⟩
   have hkd:k≠d:=fun e=>by
     subst e
     have:=st.dom k
     rw [hd,ho'] at this;cases this
   simp [hkd,ho']
  |_=>
   simp only [qretK] at h
   rw [ifK_iff] at h
   obtain ⟨hn,h⟩:=h
   have h:=force_iff.1 h
   refine ⟨_,none,h,fun w0 M0 ρ M S w w' M2 u st hs hold hlt hret hd=>?_⟩
   obtain ⟨st',hk⟩:=st.same hs hold hlt
   exact ⟨ρ,M2,st',rep_noNew hn hret,hk,fun _ _ h=>h⟩
theorem repL_ops {T:List AV} {e:Operand→Value}:∀{xs:List Operand},(∀x∈xs,RepT ρ w M (evalF T x) (e x))→RepL (RepT ρ w M) (xs.map (evalF T)) (xs.map e)
  |[],_=>trivial
  |x::xs,h=>⟨h x (by simp),repL_ops fun y hy=>h y (List.mem_cons_of_mem _ hy)⟩
theorem qcall_sound {F:Spec} (hF:SpecOk P F) {c:Call} {f:FuncId} {T:List AV} {K:AV→Option Blk→Prop} (hc:c.callee= .value (.func f)) (h:qK TY F d (.call c) T S0 K):
    ∃v B,K v B∧QS P d (.call c) T S0 v B:=by
  simp only [qK,hc,evals_iff] at h
  obtain ⟨as',ks,⟨as2,ret,hf,hargs,h⟩,hks,hrep⟩:=lendK_sound h
  have hq:(safe ret=true∨ks=[])∧qretK d ret K:=by
    cases hs:safe ret<;>rw [hs] at h
    · cases ks with
      |nil=>exact ⟨.inr rfl,h⟩
      |cons=>exact h.elim
    · exact ⟨.inl rfl,by cases ks<;>exact h⟩
  obtain ⟨v,B,hK,hout⟩:=qret_sound hq.2
  refine ⟨v,B,hK,fun w0 M0 ρ M w S' e oo ho hcmp st he hd=>?_,fun hq'=>by simp [quietOp,hc] at hq'⟩
  have hx:=he (.func f) (by simp [Op.operands,Call.operands,hc])
  obtain ⟨cs,hx,hcs⟩:=hx
  have hcs0:cs= #[]:=by
    obtain ⟨l⟩:=cs
    cases l with
    |nil=>rfl
    |cons=>exact hcs.elim
  have hrun:=run_call (hF.q f as2 ret hf).1 ho hc (e:=e) (cs:=[]) (by rw [hx,hcs0]) w
  rw [List.append_nil] at hrun
  have hv:RepL (RepT ρ w M) (c.args.toList.map (evalF T)) (c.args.toList.map e):=repL_ops fun x hx=>he x (by simp [Op.operands,Call.operands,hc];exact .inr (Array.mem_toList_iff.1 hx))
  have hv':=args_none hargs (hrep ρ w M (fun k B hB hs=>by
    obtain ⟨o,ho⟩:=Option.isSome_iff_exists.1 hs
    exact st.blk k B (st.find hcmp hB ho)) ks _ (fun k hk=>hk) hv)
  refine .inr (.inr ⟨f,_,w,hrun,?_⟩)
  refine ((hF.q f as2 ret hf).2 (dropMs M ρ ks) w _ (M0.hw w st.stp) (fun b off hm=>st.mlt b off hm.1) hv').mono fun e' w' ⟨u,he',hs,M'',hold,hlt,hret⟩=>⟨u,he',?_⟩
  rcases hq.1 with hsafe|rfl
  · let M2:Msk:=fun b off=>(b<w.heap.size∧M b off)∨(w.heap.size≤b∧M'' b off)
    have h2old:∀b off,b<w.heap.size→(M2 b off↔M b off):=fun b off hb=>⟨fun hm=>hm.elim (fun h=>h.2) (fun h=>absurd h.1 (by omega)),fun hm=>.inl ⟨hb,hm⟩⟩
    have h2new:∀b off,w.heap.size≤b→(M2 b off↔M'' b off):=fun b off hb=>⟨fun hm=>hm.elim (fun h=>absurd h.1 (by omega)) (fun h=>h.2),fun hm=>.inr ⟨hb,hm⟩⟩
    exact hout w0 M0 ρ M S' w w' M2 u st hs h2old (fun b off hm=>by
      rcases hm with hm|hm
      · exact Nat.lt_of_lt_of_le hm.1 hs.1
      · exact hlt b off hm.2) (safe_rep h2new hsafe hret) hd
  · exact hout w0 M0 ρ M S' w w' M'' u st hs (fun b off hb=>(hold b off hb).trans ⟨fun h=>h.1,fun h=>⟨h,fun k hk=>by cases hk⟩⟩) hlt hret hd
theorem qany_sound (hty:TyOk P TY) {F:Spec} (hF:SpecOk P F) {o:Op} {T:List AV} {K:AV→Option Blk→Prop} (h:qK TY F d o T S0 K):∃v B,K v B∧QS P d o T S0 v B:=by
  cases hq:quietOp o with
  |true=>exact q_sound hty hq h
  |false=>
   cases o<;>try (first|(cases hq;done)|exact h.elim)
   case slice t x lo hi mx=>
     cases mx with
     |none=>exact slice_sound hty h
     |some _=>exact slice3_sound hty h
   case buildSlice t n ps=>exact buildQ_sound hty h
   case call c=>
     cases hc:c.callee with
     |value x=>
      cases x with
      |func f=>exact qcall_sound hF hc h
      |_=>simp only [qK,hc] at h
     |builtin b=>
      simp only [quietOp,hc] at hq
      cases b<;>first|(cases hq;done)|(simp only [qK,hc] at h)
     |invoke=>simp only [qK,hc] at h
def OpRun (P:Program) (ops:Array Oper) (T':List AV) (S':Store) (o:Oper) (j:Nat) (B:Option Blk) (q:Nat):Prop:=
  ∃r Tg Tj Sj v,GuardIs ops Tg o.guard r∧(r=true→QS P (o.dst.getD 999) o.op Tj Sj v B)∧(r=false→v= .tup []∧B=none)∧
   (∀d,o.dst=some d→d<T'.length→AEq v (nth T' d))∧(B≠none→∃d,o.dst=some d∧loc d=true)∧
   (∀t∈o.looksAt ops,(∀i,j≤i→i<q→dstAt ops i≠some t)→AEq (nth T' t) (nth Tg t)∧AEq (nth T' t) (nth Tj t))∧
   (∀k C,findS Sj k=some C→findS S' k=some C)
theorem seg_run (hty:TyOk P TY) {F:Spec} (hF:SpecOk P F) {ops:Array Oper} (hdist:∀i j d,dstAt ops i=some d→dstAt ops j=some d→i=j) {K:List AV→Store→Prop}:
    ∀(rest:List Oper) (gs:List Bool) (i:Nat) {T:List AV} {S:Store},ops.toList.drop i=rest→drawK TY F ops.toList gs rest T S K→
     ∃(n:Nat) (T':List AV) (S':Store) (Bs:Nat→Option Blk),n≤rest.length∧(n=rest.length∨gs[n]? =some true)∧drawK TY F ops.toList (gs.drop n) (rest.drop n) T' S' K∧T'.length=T.length∧
      (∀t,(∀j,i≤j→j<i+n→dstAt ops j≠some t)→AEq (nth T t) (nth T' t))∧
      (∀j,i≤j→j<i+n→∃o,ops[j]? =some o∧OpRun P ops T' S' o j (Bs j) (i+n))∧
      (∀j d b,i≤j→j<i+n→dstAt ops j=some d→Bs j=some b→findS S' d=some b)∧
      (∀k,(∀j,i≤j→j<i+n→dstAt ops j=some k→Bs j=none)→findS S' k=findS S k)∧
      (∀k C,findS S k=some C→findS S' k=some C)∧(∀j d,i≤j→j<i+n→dstAt ops j=some d→Bs j≠none→findS S d=none)∧(∀j,j<n→gs[j]? =some false)
  |[],gs,i,T,S,_,h=>⟨0,T,S,fun _=>none,Nat.le_refl _,.inl rfl,by simpa [drawK_nil] using h,rfl,fun _ _=>AEq.refl _,fun j h1 h2=>by omega,fun j d b h1 h2=>by omega,fun _ _=>rfl,fun _ _ h=>h,fun j d h1 h2=>by omega,fun j h=>by omega⟩
  |o::rest,[],i,T,S,_,h=>h.elim
  |o::rest,true::gs,i,T,S,_,h=>⟨0,T,S,fun _=>none,Nat.zero_le _,.inr rfl,h,rfl,fun _ _=>AEq.refl _,fun j h1 h2=>by omega,fun j d b h1 h2=>by omega,fun _ _=>rfl,fun _ _ h=>h,fun j d h1 h2=>by omega,fun j h=>by omega⟩
  |o::rest,false::gs,i,T,S,hr,h=>by
   have hi:ops[i]? =some o:=by
     have:=congrArg (·.head?) hr
     simp [List.head?_drop] at this
     exact this
   have hdi:dstAt ops i=o.dst:=by simp [dstAt,hi]
   have hr':ops.toList.drop (i+1)=rest:=by
     have:=congrArg List.tail hr
     simpa [List.tail_drop] using this
   simp only [drawK_cons] at h
   obtain ⟨r,T1,hg,hl1,heq,h1⟩:=guard_iff h
   have step:∃v B T2 S2,drawK TY F ops.toList gs rest T2 S2 K∧T2.length=T.length∧(r=true→QS P (o.dst.getD 999) o.op T1 S v B)∧(r=false→v= .tup []∧B=none)∧
       (∀t,o.dst≠some t→nth T2 t=nth T1 t)∧(∀t,o.dst=some t→t<T.length→nth T2 t=v)∧S2=addS (o.dst.getD 999) B S∧(B≠none→∃d,o.dst=some d∧findS S d=none∧loc d=true):=by
     cases r with
     |true=>
      rw [if_pos rfl] at h1
      cases hd:o.dst with
      |none=>
       rw [hd] at h1
       obtain ⟨v,B,h2,h3⟩:=qany_sound hty hF h1
       cases B with
       |some b=>exact h2.elim
       |none=>exact ⟨v,none,T1,S,h2,hl1,fun _=>h3,fun e=>(by cases e),fun _ _=>rfl,fun _ e=>(by cases e),rfl,fun e=>absurd rfl e⟩
      |some d=>
       rw [hd] at h1
       obtain ⟨v,B,h2,h3⟩:=qany_sound hty hF h1
       have hset:∀t,some d≠some t→nth (T1.set d v) t=nth T1 t:=fun t ht=>by
         rw [nth_set,if_neg (fun e=>ht (by rw [e.1]))]
       have hset':∀t,some d=some t→t<T.length→nth (T1.set d v) t=v:=fun t ht hlt=>by
         obtain rfl:=Option.some.inj ht
         have hlt':d<T1.length:=by rw [hl1];exact hlt
         rw [nth_set,if_pos ⟨rfl,hlt'⟩]
       cases B with
       |none=>
        simp only [put_iff] at h2
        exact ⟨v,none,T1.set d v,S,h2,by rw [List.length_set,hl1],fun _=>h3,fun e=>(by cases e),hset,hset',rfl,fun e=>absurd rfl e⟩
       |some b=>
        simp only [freshK] at h2
        split at h2
        · rename_i hf
          rw [ifK_iff,put_iff] at h2
          obtain ⟨hloc,h2⟩:=h2
          exact ⟨v,some b,T1.set d v,_,h2,by rw [List.length_set,hl1],fun _=>h3,fun e=>(by cases e),hset,hset',rfl,fun _=>⟨d,rfl,hf,hloc⟩⟩
        · exact h2.elim
     |false=>
      rw [if_neg (by simp)] at h1
      cases hd:o.dst with
      |none=>
       rw [hd] at h1
       exact ⟨.tup [],none,T1,S,h1,hl1,fun e=>(by cases e),fun _=>⟨rfl,rfl⟩,fun _ _=>rfl,fun _ e=>(by cases e),rfl,fun e=>absurd rfl e⟩
      |some d=>
       rw [hd] at h1
       simp only [dstK,put_iff] at h1
       refine ⟨.tup [],none,T1.set d (.tup []),S,h1,by rw [List.length_set,hl1],fun e=>(by cases e),fun _=>⟨rfl,rfl⟩,fun t ht=>?_,fun t ht hlt=>?_,rfl,fun e=>absurd rfl e⟩
       · rw [nth_set,if_neg (fun e=>ht (by rw [e.1]))]
       · obtain rfl:=Option.some.inj ht
         have hlt':d<T1.length:=by rw [hl1];exact hlt
         rw [nth_set,if_pos ⟨rfl,hlt'⟩]
   obtain ⟨v,B,T2,S2,h2,hl2,hq,hany,hT2,hT2',rfl,hB⟩:=step
   have hfr:∀k C,findS S k=some C→findS (addS (o.dst.getD 999) B S) k=some C:=fun k C hk=>by
     cases B with
     |none=>exact hk
     |some b=>
      obtain ⟨d,hd,hf,_⟩:=hB (by simp)
      simp only [addS,find_cons,hd,Option.getD_some]
      rw [if_neg (fun e=>by subst e;rw [hf] at hk;cases hk)]
      exact hk
   obtain ⟨n,T',S',Bs,g1,g2,g3,g4,g5,g6,g7,g8,g9,g10,g11⟩:=seg_run hty hF hdist rest gs (i+1) hr' h2
   have hT':∀t,(∀j,i≤j→j<i+(n+1)→dstAt ops j≠some t)→AEq (nth T t) (nth T' t)∧AEq (nth T1 t) (nth T' t):=fun t ht=>by
     have e1:=hT2 t (by rw [←hdi];exact ht i (Nat.le_refl _) (by omega))
     have e2:=g5 t fun j hj1 hj2=>ht j (by omega) (by omega)
     rw [e1] at e2
     exact ⟨(heq t).trans e2,e2⟩
   obtain ⟨Bf,hBi,hBn⟩:∃Bf:Nat→Option Blk,Bf i=B∧∀j,j≠i→Bf j=Bs j:=⟨fun j=>if j=i then B else Bs j,by simp,fun j h=>by simp [h]⟩
   refine ⟨n+1,T',S',Bf,by simp;omega,?_,by simpa using g3,g4.trans hl2,fun t ht=>(hT' t ht).1,fun j hj1 hj2=>?_,fun j d b hj1 hj2 hd hb=>?_,fun k hk=>?_,fun k C hk=>g9 k C (hfr k C hk),fun j d hj1 hj2 hd hb=>?_,fun j hj=>by
     rcases j with _|j
     · rfl
     · simpa using g11 j (by omega)⟩
   · rcases g2 with g2|g2
     · exact .inl (by simp [g2])
     · exact .inr (by simpa using g2)
   · by_cases hji:j=i
     · subst hji
       refine ⟨o,hi,r,T,T1,S,v,hg,fun hr=>?_,fun hr=>?_,fun d hd hlt=>?_,fun hb=>?_,fun t _ ht=>?_,fun k C hk=>g9 k C (hfr k C hk)⟩
       · rw [hBi];exact hq hr
       · rw [hBi];exact hany hr
       · have e1:=hT2' d hd (by rw [g4,hl2] at hlt;exact hlt)
         rw [←e1]
         refine g5 d fun j' hj1' hj2' he=>?_
         have:=hdist j' j d he (by rw [hdi,hd])
         omega
       · rw [hBi] at hb
         obtain ⟨d,hd,_,hloc⟩:=hB hb;exact ⟨d,hd,hloc⟩
       · have:=hT' t fun j' hj1' hj2'=>ht j' hj1' hj2'
         exact ⟨this.1.symm,this.2.symm⟩
     · obtain ⟨o',ho',hrun⟩:=g6 j (by omega) (by omega)
       exact ⟨o',ho',by rw [hBn j hji,show i+(n+1)=i+1+n from by omega];exact hrun⟩
   · by_cases hji:j=i
     · subst hji
       rw [hBi] at hb
       subst hb
       rw [hdi] at hd
       have:findS (addS (o.dst.getD 999) (some b) S) d=some b:=by simp [addS,find_cons,hd]
       exact g9 d b this
     · rw [hBn j hji] at hb
       exact g7 j d b (by omega) (by omega) hd hb
   · have e1:=g8 k fun j hj1 hj2 hd=>by
       have:=hk j (by omega) (by omega) hd
       rwa [hBn j (by omega)] at this
     rw [e1]
     cases hBB:B with
     |none=>rfl
     |some b=>
      obtain ⟨d,hd,_⟩:=hB (by rw [hBB];simp)
      simp only [addS,find_cons,hd,Option.getD_some]
      rw [if_neg]
      intro e
      subst e
      have:=hk i (Nat.le_refl _) (by omega) (by rw [hdi,hd])
      rw [hBi,hBB] at this
      cases this
   · by_cases hji:j=i
     · subst hji
       rw [hBi] at hb
       obtain ⟨d',hd',hf,_⟩:=hB hb
       rw [hdi,hd'] at hd
       cases hd
       exact hf
     · rw [hBn j hji] at hb
       have e1:=g10 j d (by omega) (by omega) hd hb
       cases hf:findS S d with
       |none=>rfl
       |some C=>rw [hfr d C hf] at e1;cases e1
def On (l:Array Bool) (i:Nat):Prop:=l[i]? =some true
theorem bindB_eq (e:Edge):Region.binds .any e=bindB e:=by
  unfold Region.binds bindB
  cases e.ground<;>rfl
theorem mem_ready {ops:Array Oper} {l:Array Bool} (hl:l.size=ops.size) {i:Nat}:
    i∈Region.ready .any ops l↔∃o,ops[i]? =some o∧¬On l i∧∀e∈o.after,bindB e=true→On l e.on:=by
  unfold Region.ready On
  simp only [List.mem_filter,List.mem_range,Bool.and_eq_true,Bool.not_eq_true',bindB_eq]
  constructor
  · rintro ⟨h1,h2,h3⟩
    have hi:i<l.size:=by omega
    refine ⟨ops[i],by simp [h1],fun hh=>?_,fun e he hb=>?_⟩
    · simp [Array.getD,hi] at h2
      simp [hi] at hh
      rw [hh] at h2;cases h2
    · simp only [Array.getElem?_eq_getElem h1,Option.map_some,Option.getD_some,Array.all_eq_true_iff_forall_mem] at h3
      have:=h3 e he
      simp only [hb,Bool.not_true,Bool.false_or] at this
      rw [Array.getD_eq_getD_getElem?] at this
      cases hh:l[e.on]? with
      |none=>rw [hh] at this;cases this
      |some b=>rw [hh] at this;simp at this;rw [this]
  · rintro ⟨o,h1,h2,h3⟩
    have hi:i<ops.size:=by
      rcases Nat.lt_or_ge i ops.size with h|h
      · exact h
      · rw [Array.getElem?_eq_none h] at h1;cases h1
    have hi':i<l.size:=by omega
    refine ⟨hi,?_,?_⟩
    · simp [Array.getD,hi']
      cases hh:l[i] with
      |false=>rfl
      |true=>exact absurd (by simp [hi',hh]) h2
    · rw [h1]
      simp only [Option.map_some,Option.getD_some,Array.all_eq_true_iff_forall_mem]
      intro e he
      cases hb:bindB e with
      |false=>rfl
      |true=>
       have:=h3 e he hb
       simp [Array.getD_eq_getD_getElem?,this]
theorem count_set:∀(l:List Bool) (i:Nat),l[i]? =some false→(l.set i true).count false+1=l.count false
  |[],i,h=>by simp at h
  |a::l,0,h=>by simp at h;subst h;simp
  |a::l,i+1,h=>by
   have:=count_set l i (by simpa using h)
   simp only [List.set_cons_succ,List.count_cons]
   omega
def unl (l:Array Bool):Nat:=l.toList.count false
theorem unl_set {l:Array Bool} {i:Nat} (hi:i<l.size) (h:¬On l i):unl (l.setIfInBounds i true)+1=unl l:=by
  unfold unl
  rw [Array.toList_setIfInBounds]
  refine count_set _ _ ?_
  rw [Array.getElem?_toList]
  have h:¬l[i]? =some true:=h
  rw [Array.getElem?_eq_getElem hi] at h ⊢
  cases hh:l[i] with
  |false=>rfl
  |true=>rw [hh] at h;exact absurd rfl h
theorem unl_zero {l:Array Bool} (h:unl l=0) {i:Nat} (hi:i<l.size):On l i:=by
  unfold unl at h
  rw [List.count_eq_zero] at h
  unfold On
  rw [Array.getElem?_eq_getElem hi]
  cases hh:l[i] with
  |true=>rfl
  |false=>exact absurd (by rw [Array.mem_toList_iff,←hh];exact Array.getElem_mem hi) h
theorem on_set {l:Array Bool} {i j:Nat} (hi:i<l.size):On (l.setIfInBounds i true) j↔j=i∨On l j:=by
  unfold On
  by_cases h:i=j
  · subst h;simp [hi]
  · rw [Array.getElem?_setIfInBounds_ne h]
    exact ⟨.inr,fun h'=>h'.resolve_left (Ne.symm h)⟩
structure Edges (ops:Array Oper) (g:List Bool) (C:Nat→List Nat):Prop where
  back:∀i o,ops[i]? =some o→∀e∈o.after,bindB e=true→e.on<i
  clos:∀i o,ops[i]? =some o→∀j∈C i,∃e∈o.after,bindB e=true∧(e.on=j∨j∈C e.on)
  looks:∀i o,ops[i]? =some o→∀t∈o.looksAt ops,∀j,dstAt ops j=some t→(j<i∧j∈C i)∨(g.getD j false=true∧i<j)
  lone:∀i,i<ops.size→g.getD i false=true→∀j,j<ops.size→(j<i∧j∈C i)∨j=i∨(i<j∧i∈C j)∨(j<i∧floatAt ops j=true)
  dist:∀i j d,dstAt ops i=some d→dstAt ops j=some d→i=j
theorem dst_lt {ops:Array Oper} {j:Nat} {d:Nat} (h:dstAt ops j=some d):j<ops.size:=by
  unfold dstAt at h
  rcases Nat.lt_or_ge j ops.size with h'|h'
  · exact h'
  · rw [Array.getElem?_eq_none h'] at h;cases h
theorem edges_of {ops:Array Oper} {g:List Bool} (h:drawOK ops g=true):Edges ops g (fun i=>(closAll ops.toList []).getD i []):=by
  have key:∀i o,ops[i]? =some o→drawAt ops g (closAll ops.toList []) i=true:=fun i o ho=>by
    have hi:i<ops.size:=by
      rcases Nat.lt_or_ge i ops.size with h|h
      · exact h
      · rw [Array.getElem?_eq_none h] at ho;cases ho
    exact List.all_eq_true.1 h i (List.mem_range.2 hi)
  have part:∀i o,ops[i]? =some o→_:=fun i o ho=>by
    have:=key i o ho
    simp only [drawAt,ho,Bool.and_eq_true] at this
    exact this
  refine ⟨fun i o ho e he hb=>?_,fun i o ho j hj=>?_,fun i o ho t ht j hj=>?_,fun i hi hg j hj=>?_,fun i j d hi hj=>?_⟩
  · have:=List.all_eq_true.1 (part i o ho).1.1.1.1 e (Array.mem_toList_iff.2 he)
    simpa [hb] using this
  · have:=List.all_eq_true.1 (part i o ho).1.1.1.2 j hj
    obtain ⟨e,he,h1⟩:=List.any_eq_true.1 this
    simp only [Bool.and_eq_true,Bool.or_eq_true,beq_iff_eq,List.contains_iff_mem] at h1
    exact ⟨e,Array.mem_toList_iff.1 he,h1.1,h1.2⟩
  · have:=List.all_eq_true.1 (part i o ho).1.1.2 t ht
    have:=List.all_eq_true.1 this j (List.mem_range.2 (dst_lt hj))
    simpa [hj] using this
  · have:=(part i ops[i] (Array.getElem?_eq_getElem hi)).1.2
    simp only [hg,Bool.not_true,Bool.false_or] at this
    have:=List.all_eq_true.1 this j (List.mem_range.2 hj)
    simp only [Bool.or_eq_true,Bool.and_eq_true,decide_eq_true_eq,beq_iff_eq,List.contains_iff_mem] at this
    rcases this with ((h|h)|h)|h
    · exact .inl h
    · exact .inr (.inl h)
    · exact .inr (.inr (.inl h))
    · exact .inr (.inr (.inr h))
  · have hi':=dst_lt hi
    have:=(part i ops[i] (Array.getElem?_eq_getElem hi')).2
    have:=List.all_eq_true.1 this j (List.mem_range.2 (dst_lt hj))
    simp only [Bool.or_eq_true,beq_iff_eq,Bool.not_eq_true'] at this
    rcases this with (h|h)|h
    · exact h
    · rw [hi] at h;cases h
    · rw [hi,hj] at h;simp at h
def ClosedL (C:Nat→List Nat) (l:Array Bool):Prop:=∀i,On l i→∀j∈C i,On l j
theorem ready_clos {ops:Array Oper} {g:List Bool} {C:Nat→List Nat} (E:Edges ops g C) {l:Array Bool} (hcl:ClosedL C l) {i:Nat} {o:Oper} (ho:ops[i]? =some o) (h:∀e∈o.after,bindB e=true→On l e.on):∀j∈C i,On l j:=fun j hj=>by
  obtain ⟨e,he,hb,h1⟩:=E.clos i o ho j hj
  rcases h1 with rfl|h1
  · exact h e he hb
  · exact hcl _ (h e he hb) j h1
theorem closed_set {ops:Array Oper} {g:List Bool} {C:Nat→List Nat} (E:Edges ops g C) {l:Array Bool} (hcl:ClosedL C l) {i:Nat} {o:Oper} (hi:i<l.size) (ho:ops[i]? =some o) (h:∀e∈o.after,bindB e=true→On l e.on):ClosedL C (l.setIfInBounds i true):=fun k hk j hj=>by
  rw [on_set hi] at hk ⊢
  rcases hk with rfl|hk
  · exact .inr (ready_clos E hcl ho h j hj)
  · exact .inr (hcl k hk j hj)
theorem St.congr {S':Store} (h:∀k,findS S' k=findS S k) (st:St M0 ρ M S w):St M0 ρ M S' w:=
  ⟨fun k=>by rw [h];exact st.dom k,fun k B hB=>st.blk k B (by rw [←h];exact hB),st.inj,st.mlt,st.stp,st.sub,st.old,st.fresh,st.pin⟩
theorem Runs.mono' {s:Sem Next} {R R':Value→World→Prop} (h:Runs P s w R) (hn:∀v w',R v w'→R' v w'):Runs P s w R':=by
  rcases h with ⟨v,w',h1,h2⟩|⟨w',h1,h2⟩|⟨f,args,w',h1,h2⟩
  · exact .inl ⟨v,w',h1,hn _ _ h2⟩
  · exact .inr (.inl ⟨w',h1,hn _ _ h2⟩)
  · exact .inr (.inr ⟨f,args,w',h1,h2.mono fun e w'' ⟨v,he,hv⟩=>⟨v,he,hn _ _ hv⟩⟩)
theorem float_run {o:Oper} {e:Operand→Value} {R:Value→World→Prop} (hf:floatO o=true) (h:Runs P (execOp e o) w R):∃u,(∀w',(execOp e o).run P w'= .ok (.value u) w')∧R u w:=by
  have key:∀{u:Value},(∀w',(execOp e o).run P w'= .ok (.value u) w')→∃u,(∀w',(execOp e o).run P w'= .ok (.value u) w')∧R u w:=fun {u} hu=>by
    refine ⟨u,hu,?_⟩
    rcases h with ⟨v,w',h1,h2⟩|⟨w',h1,h2⟩|⟨f,args,w',h1,h2⟩
    · rw [hu w] at h1;cases h1;exact h2
    · rw [hu w] at h1;cases h1
    · rw [hu w] at h1;cases h1
  unfold floatO at hf
  rw [Bool.and_eq_true] at hf
  obtain ⟨_,hf⟩:=hf
  split at hf
  · rename_i x ho
    exact key (u:=e x) fun w'=>by simp [execOp,ho]
  · rename_i x ho
    exact key (u:=e x) fun w'=>by simp [execOp,ho]
  · rename_i c x y ho
    cases hc:e c with
    |bool b=>exact key (u:=if b then e x else e y) fun w'=>by simp [execOp,ho,hc,asBool]
    |_=>
     exfalso
     rcases h with ⟨v,w',h1,h2⟩|⟨w',h1,h2⟩|⟨f,args,w',h1,h2⟩<;>simp [execOp,ho,hc,asBool] at h1<;>cases h1
  · rename_i x i ho
    cases hc:e x with
    |tuple vs=>
     cases hv:vs[i]? with
     |some u=>exact key (u:=u) fun w'=>by simp [execOp,ho,hc,Instr.extract,hv]
     |none=>
      exfalso
      rcases h with ⟨v,w',h1,h2⟩|⟨w',h1,h2⟩|⟨f,args,w',h1,h2⟩<;>simp [execOp,ho,hc,Instr.extract,hv] at h1<;>cases h1
    |_=>
     exfalso
     rcases h with ⟨v,w',h1,h2⟩|⟨w',h1,h2⟩|⟨f,args,w',h1,h2⟩<;>simp [execOp,ho,hc,Instr.extract] at h1<;>cases h1
  · cases hf
theorem seg_any {ops:Array Oper} {g:List Bool} {C:Nat→List Nat} (E:Edges ops g C) {R:Exit→Act→World→Prop} (hRp:∀c a w,¬R (.panic c) a w) {p n:Nat} {T':List AV} {S':Store} {Bs:Nat→Option Blk}
    (hp:p+n≤ops.size) (hend:p+n=ops.size∨g.getD (p+n) false=true) (hseg:∀j,p≤j→j<p+n→g.getD j false=false) (hrun:∀j,p≤j→j<p+n→∃o,ops[j]? =some o∧OpRun P ops T' S' o j (Bs j) (p+n))
    (hB:∀j d b,p≤j→j<p+n→dstAt ops j=some d→Bs j=some b→findS S' d=some b)
    (next:∀(ρ:Env) (M:Msk) (a:Act) (w:World) (l:Array Bool) (fuel:Nat),l.size=ops.size→(∀i,i<ops.size→(On l i↔i<p+n))→ClosedL C l→unl l≤fuel→St M0 ρ M S' w→Tm ρ w M T' a→wpAny P .any ops R fuel l a w):
    ∀(fuel:Nat) (l:Array Bool) (ρ:Env) (M:Msk) (a:Act) (w:World) (SL:Store),l.size=ops.size→(∀i,i<p→On l i)→(∀i,p+n≤i→¬On l i)→ClosedL C l→unl l≤fuel→
     St M0 ρ M SL w→a.defers=[]→a.tmps.size=T'.length→(∀t,(∀j,p≤j→j<p+n→¬On l j→dstAt ops j≠some t)→RepT ρ w M (nth T' t) (a.tmps.getD t undef))→
     (∀k,(∀j,p≤j→j<p+n→¬On l j→dstAt ops j=some k→Bs j=none)→findS SL k=findS S' k)→
     (∀j k,p≤j→j<p+n→¬On l j→dstAt ops j=some k→Bs j≠none→findS SL k=none)→wpAny P .any ops R fuel l a w:=by
  intro fuel
  induction fuel with
  |zero=>
   intro l ρ M a w SL hl h1 h2 hcl hu st hdf hsz htm hS1 hS2
   have hall:∀i,i<ops.size→On l i:=fun i hi=>unl_zero (by omega) (by omega)
   refine next ρ M a w l 0 hl (fun i hi=>⟨fun _=>?_,fun _=>hall i hi⟩) hcl (by omega) (st.congr fun k=>(hS1 k fun j hj1 hj2 hn _=>absurd (hall j (by omega)) hn).symm) ⟨hdf,hsz,fun t=>htm t fun j hj1 hj2 hn=>absurd (hall j (by omega)) hn⟩
   rcases Nat.lt_or_ge i (p+n) with h|h
   · exact h
   · exact absurd (hall i hi) (h2 i h)
  |succ fuel ih=>
   intro l ρ M a w SL hl h1 h2 hcl hu st hdf hsz htm hS1 hS2
   by_cases hall:∀i,i<p+n→On l i
   · refine next ρ M a w l (fuel+1) hl (fun i hi=>⟨fun h=>?_,fun h=>hall i h⟩) hcl hu (st.congr fun k=>(hS1 k fun j hj1 hj2 hn _=>absurd (hall j hj2) hn).symm) ⟨hdf,hsz,fun t=>htm t fun j hj1 hj2 hn=>absurd (hall j hj2) hn⟩
     rcases Nat.lt_or_ge i (p+n) with h'|h'
     · exact h'
     · exact absurd h (h2 i h')
   ·
     have hmin:∃i,i<p+n∧¬On l i∧∀j,j<i→On l j:=by
       have:∃i,i<p+n∧¬On l i:=by
         obtain ⟨i,hi⟩:=Classical.not_forall.1 hall
         exact ⟨i,Classical.not_imp.1 hi⟩
       obtain ⟨i,hi,hno⟩:=this
       induction i using Nat.strongRecOn with
       |ind i ihi=>
        by_cases hj:∃j,j<i∧¬On l j
        · obtain ⟨j,hj1,hj2⟩:=hj
          exact ihi j hj1 (by omega) hj2
        · exact ⟨i,hi,hno,fun j hji=>Classical.byContradiction fun hn=>hj ⟨j,hji,hn⟩⟩
     obtain ⟨i0,hi0,hno0,hbefore⟩:=hmin
     have hi0s:i0<ops.size:=by omega
     have hready0:i0∈Region.ready .any ops l:=(mem_ready hl).2 ⟨ops[i0],Array.getElem?_eq_getElem hi0s,hno0,fun e he hb=>hbefore _ (E.back i0 _ (Array.getElem?_eq_getElem hi0s) e he hb)⟩
     have core:∀(i:Nat) (o:Oper),ops[i]? =some o→¬On l i→(∀e∈o.after,bindB e=true→On l e.on)→p≤i→i<p+n→
         ∃r,Region.wanted o (yielded ops a.tmps)=r∧(r=true→Runs P (execOp a.eval o) w (fun u w'=>wpAny P .any ops R fuel (l.setIfInBounds i true) (a.put o.dst u) w'))∧
          (r=false→wpAny P .any ops R fuel (l.setIfInBounds i true) (a.put o.dst undef) w):=by
       intro i o ho hno hpre hip hin
       have his:i<ops.size:=by omega
       have hCi:=ready_clos E hcl ho hpre
       obtain ⟨o',ho',hor⟩:=hrun i hip hin
       rw [ho] at ho';cases ho'
       obtain ⟨r,Tg,Tj,Sj,v,hg,hq,hany,hv,hBd,hlook,hSj⟩:=hor
       have hil:i<l.size:=by omega
       have hdi:dstAt ops i=o.dst:=by simp [dstAt,ho]
       have hreads:∀t∈o.looksAt ops,RepT ρ w M (nth T' t) (a.tmps.getD t undef)∧∀j,i≤j→j<p+n→dstAt ops j≠some t:=fun t ht=>by
         refine ⟨htm t fun j hj1 hj2 hn hd=>?_,fun j hij hj2 hd=>?_⟩
         · rcases E.looks i o ho t ht j hd with h|h
           · exact hn (hCi j h.2)
           · rw [hseg j hj1 hj2] at h;cases h.1
         · rcases E.looks i o ho t ht j hd with h|h
           · omega
           · rw [hseg j (by omega) hj2] at h;cases h.1
       have hwant:Region.wanted o (yielded ops a.tmps)=r:=by
         have hgT:∀j want d,o.guard=some (j,want)→(ops[j]?).bind (·.dst)=some d→d∈o.looksAt ops:=fun j want d hgd hd=>by
           unfold Oper.looksAt
           rw [hgd]
           simp [hd]
         unfold Region.wanted
         cases hgd:o.guard with
         |none=>
          unfold GuardIs at hg
          rw [hgd] at hg
          exact hg.symm
         |some jw=>
          obtain ⟨j,want⟩:=jw
          unfold GuardIs at hg
          rw [hgd] at hg
          obtain ⟨d,h3,h4⟩:=hg
          have hm:=hgT j want d hgd h3
          obtain ⟨h5,h6⟩:=hreads d hm
          have h7:=(hlook d hm h6).1.rep h5
          rcases h4 with ⟨e,h4,rfl⟩|⟨h4,rfl⟩
          case inr=>rw [h4] at h7;exact wanted_undef h3 h7
          rw [h4] at h7
          have h7:a.tmps.getD d undef= .bool e.val:=h7
          have hlt:d<a.tmps.size:=by
            rcases Nat.lt_or_ge d a.tmps.size with h'|h'
            · exact h'
            · rw [Array.getD_eq_getD_getElem?,Array.getElem?_eq_none h'] at h7
              cases h7
          have h8:a.tmps[d]? =some (.bool e.val):=by
            rw [Array.getElem?_eq_getElem hlt]
            simp [Array.getD,hlt] at h7
            rw [h7]
          simp [yielded,h3,h8]
       have hu':unl (l.setIfInBounds i true)≤fuel:=by have:=unl_set hil hno;omega
       have hset:∀j,¬On (l.setIfInBounds i true) j→¬On l j∧j≠i:=fun j hj=>⟨fun h=>hj ((on_set hil).2 (.inr h)),fun h=>hj ((on_set hil).2 (.inl h))⟩
       have hset':∀j,¬On l j→j≠i→¬On (l.setIfInBounds i true) j:=fun j hj hne h=>((on_set hil).1 h).elim hne hj
       have fin:∀(ρ':Env) (M':Msk) (w':World) (u:Value),St M0 ρ' M' (addS (o.dst.getD 999) (Bs i) SL) w'→RepT ρ' w' M' v u→Keep w M w' M'→(∀k x,ρ k=some x→ρ' k=some x)→
           wpAny P .any ops R fuel (l.setIfInBounds i true) (a.put o.dst u) w':=by
         intro ρ' M' w' u st' hu' hk hρ
         refine ih (l.setIfInBounds i true) ρ' M' (a.put o.dst u) w' _ (by simp [hl]) (fun j hj=>(on_set hil).2 (.inr (h1 j hj))) (fun j hj hon=>?_) (closed_set E hcl hil ho hpre) (by omega) st' (by cases hd:o.dst<;>simp [Act.put,hdf])
           (by cases hd:o.dst<;>simp [Act.put,hsz]) (fun t ht=>?_) (fun k hk=>?_) (fun j k hj1 hj2 hn hd hb=>?_)
         · rcases (on_set hil).1 hon with h3|h3
           · omega
           · exact h2 j hj h3
         · by_cases hti:o.dst=some t
           · rw [hti]
             by_cases hlt:t<a.tmps.size
             · have e1:(a.put (some t) u).tmps.getD t undef=u:=by simp [Act.put,hlt]
               rw [e1]
               exact (hv t hti (by rw [←hsz];exact hlt)).rep hu'
             · rw [nth_ge T' t (by omega)];trivial
           · have e1:(a.put o.dst u).tmps.getD t undef=a.tmps.getD t undef:=by
               cases hd:o.dst with
               |none=>rfl
               |some d=>
                have hne:d≠t:=fun e=>hti (by rw [hd,e])
                simp [Act.put,Array.getD_eq_getD_getElem?,Array.getElem?_setIfInBounds_ne hne]
             rw [e1]
             refine RepT.keep hk hρ (htm t fun j hj1 hj2 hn hd=>?_)
             by_cases hji:j=i
             · subst hji;exact hti (by rw [←hdi];exact hd)
             · exact ht j hj1 hj2 (hset' j hn hji) hd
         · by_cases hki:o.dst=some k∧Bs i≠none
           · obtain ⟨hki,hb⟩:=hki
             cases hbb:Bs i with
             |none=>exact absurd hbb hb
             |some b=>
              rw [hB i k b hip hin (by rw [hdi,hki]) hbb]
              simp [addS,find_cons,hki]
           · have e1:findS (addS (o.dst.getD 999) (Bs i) SL) k=findS SL k:=by
               cases hbb:Bs i with
               |none=>rfl
               |some b=>
                obtain ⟨d,hd,_⟩:=hBd (by rw [hbb];simp)
                simp only [addS,find_cons,hd,Option.getD_some]
                rw [if_neg (fun e=>hki ⟨by rw [hd,e],by rw [hbb];simp⟩)]
             rw [e1]
             refine hS1 k fun j hj1 hj2 hn hd=>?_
             by_cases hji:j=i
             · subst hji
               exact Classical.byContradiction fun hb=>hki ⟨by rw [←hdi];exact hd,hb⟩
             · exact hk j hj1 hj2 (hset' j hn hji) hd
         · obtain ⟨hn1,hn2⟩:=hset j hn
           have e1:=hS2 j k hj1 hj2 hn1 hd hb
           cases hbb:Bs i with
           |none=>exact e1
           |some b=>
            obtain ⟨d,hd',_⟩:=hBd (by rw [hbb];simp)
            simp only [addS,find_cons,hd',Option.getD_some]
            rw [if_neg (fun e=>hn2 (E.dist j i k hd (by rw [hdi,hd',e])))]
            exact e1
       refine ⟨r,hwant,fun hr=>?_,fun hr=>?_⟩
       · refine (((hq hr).1 w0 M0 ρ M w SL a.eval o rfl (fun k D D' hD hD'=>?_) st (fun x hx=>?_) (fun hb=>?_)).mono' fun u w' ⟨ρ',M',g1,g2,g3,g4⟩=>fin ρ' M' w' u g1 g2 g3 g4)
         · have e1:=hSj k D hD
           by_cases hk:∀j,p≤j→j<p+n→¬On l j→dstAt ops j=some k→Bs j=none
           · rw [hS1 k hk,e1] at hD'
             exact Option.some.inj hD'
           · exfalso
             refine hk fun j hj1 hj2 hn hd=>Classical.byContradiction fun hb=>?_
             rw [hS2 j k hj1 hj2 hn hd hb] at hD'
             cases hD'
         · cases x with
           |tmp t=>
            have hm:t∈o.looksAt ops:=by
              unfold Oper.looksAt
              exact List.mem_append.2 (.inl (List.mem_filterMap.2 ⟨.tmp t,Array.mem_toList_iff.2 hx,rfl⟩))
            obtain ⟨h5,h6⟩:=hreads t hm
            have:=(hlook t hm h6).2.rep h5
            have e1:a.eval (.tmp t)=a.tmps.getD t undef:=by simp [Act.eval,Array.getD_eq_getD_getElem?]
            rw [e1]
            exact this
           |const v=>exact const_rep _ _ _ _
           |global g=>trivial
           |func f=>exact ⟨#[],rfl,trivial⟩
         · obtain ⟨d,hd,hloc⟩:=hBd hb
           rw [hd]
           exact ⟨hS2 i d hip hin hno (by rw [hdi,hd]) hb,hloc⟩
       · obtain ⟨rfl,hBn⟩:=hany hr
         refine fin ρ M w undef ?_ ⟨#[],rfl,trivial⟩ (Keep.refl _ _) (fun _ _ h=>h)
         rw [hBn]
         exact st
     by_cases hfl:floatAt ops i0=true
     ·
       simp only [floatAt,Bool.and_eq_true,Array.getElem?_eq_getElem hi0s] at hfl
       obtain ⟨⟨hf1,hf2⟩,hf3⟩:=hfl
       have hip0:p≤i0:=Nat.le_of_not_lt fun h=>hno0 (h1 i0 h)
       obtain ⟨r,hw,hyes,_⟩:=core i0 _ (Array.getElem?_eq_getElem hi0s) hno0 (fun e he hb=>hbefore _ (E.back i0 _ (Array.getElem?_eq_getElem hi0s) e he hb)) hip0 hi0
       have hg:ops[i0].guard=none:=by
         unfold floatO at hf1
         cases hgg:ops[i0].guard with
         |none=>rfl
         |some _=>rw [hgg] at hf1;cases hf1
       have hw1:Region.wanted ops[i0] (yielded ops a.tmps)=true:=by simp [Region.wanted,hg]
       obtain ⟨u,hrun1,hnext⟩:=float_run hf1 (hyes (hw.symm.trans hw1))
       exact wpAny_first (v:=u) (Array.getElem?_eq_getElem hi0s) (fun j o cs b hj=>Region.noSelect_spec hf2 j o cs b hj) (fun c a w hc=>absurd hc (hRp _ _ _)) fuel l a w
         (fun j oj hj hji hun hn=>Region.free_spec (Array.getElem?_eq_getElem hi0s) hf3 j oj hj hji (by
           have hjs:j<ops.size:=(Array.getElem?_eq_some_iff.1 hj).1
           have hge:i0≤j:=Nat.le_of_not_lt fun hlt=>by
             have hon:=hbefore j hlt
             unfold On at hon
             rw [Array.getD_eq_getD_getElem?,hon] at hun
             cases hun
           rw [Array.getD_eq_getD_getElem?,List.getElem?_toArray,List.getElem?_append_right (by simpa using hge),List.getElem?_replicate]
           simp only [List.length_replicate]
           rw [if_pos (by omega)];rfl) hn) hready0 (.inl ⟨hw1,hrun1⟩) hnext
     refine ⟨fun hnil=>(by rw [hnil] at hready0;cases hready0),fun i hi=>?_⟩
     obtain ⟨o,ho,hno,hpre⟩:=(mem_ready hl).1 hi
     have his:i<ops.size:=by
       rcases Nat.lt_or_ge i ops.size with h|h
       · exact h
       · rw [Array.getElem?_eq_none h] at ho;cases ho
     have hCi:=ready_clos E hcl ho hpre
     have hip:p≤i:=Nat.le_of_not_lt fun h=>hno (h1 i h)
     have hin:i<p+n:=by
       rcases Nat.lt_or_ge i (p+n) with h|h
       · exact h
       · exfalso
         rcases hend with hend|hend
         · omega
         · rcases E.lone (p+n) (by omega) hend i his with h3|h3|h3|h3
           · omega
           · subst h3
             rcases E.lone (p+n) (by omega) hend i0 hi0s with h4|h4|h4|h4
             · exact hno0 (hCi _ h4.2)
             · omega
             · omega
             · exact hfl h4.2
           · exact h2 (p+n) (Nat.le_refl _) (hCi _ h3.2)
           · omega
     obtain ⟨r,hw,hyes,hnot⟩:=core i o ho hno hpre hip hin
     unfold wpOp
     rw [ho]
     show (if Region.wanted o (yielded ops a.tmps)=true then _ else _)
     rw [hw]
     cases r with
     |true=>rw [if_pos rfl];exact .inl ((hyes rfl).wp fun u w' h=>h)
     |false=>rw [if_neg (by simp)];exact hnot rfl
theorem any_sound (hty:TyOk P TY) {F:Spec} (hF:SpecOk P F) {ops:Array Oper} {g:List Bool} {C:Nat→List Nat} (E:Edges ops g C) {R:Exit→Act→World→Prop} (hRp:∀c a w,¬R (.panic c) a w) {K:List AV→Store→Prop} {len:Nat}
    (hR:∀a w,End w0 M0 len K a w→R .normal a w):∀(m p:Nat) (ρ:Env) (M:Msk) (a:Act) (w:World) (T:List AV) (S:Store) (l:Array Bool) (fuel:Nat),ops.size - p≤m→p≤ops.size→l.size=ops.size→(∀i,i<ops.size→(On l i↔i<p))→ClosedL C l→unl l≤fuel→
      drawK TY F ops.toList (g.drop p) (ops.toList.drop p) T S K→St M0 ρ M S w→Tm ρ w M T a→T.length=len→wpAny P .any ops R fuel l a w:=by
  intro m
  induction m with
  |zero=>
   intro p ρ M a w T S l fuel hm hp hl hon hcl hu h st tm hlen
   have hps:p=ops.size:=by omega
   have hnil:Region.ready .any ops l=[]:=by
     rw [List.eq_nil_iff_forall_not_mem]
     intro i hi
     obtain ⟨o,ho,hno,_⟩:=(mem_ready hl).1 hi
     have his:i<ops.size:=by
       rcases Nat.lt_or_ge i ops.size with h|h
       · exact h
       · rw [Array.getElem?_eq_none h] at ho;cases ho
     exact hno ((hon i his).2 (by omega))
   have hd:ops.toList.drop p=[]:=List.drop_of_length_le (by simp [hps])
   rw [hd] at h
   have h:K T S:=by cases hg:g.drop p<;>rw [hg] at h<;>exact h
   have hq:=hR a w ⟨ρ,M,T,S,h,st,tm,hlen⟩
   cases fuel with
   |zero=>exact ⟨hnil,hq⟩
   |succ fuel=>exact ⟨fun _=>hq,fun i hi=>(by rw [hnil] at hi;cases hi)⟩
  |succ m ih=>
   intro p ρ M a w T S l fuel hm hp hl hon hcl hu h st tm hlen
   by_cases hps:p=ops.size
   · exact ih p ρ M a w T S l fuel (by omega) hp hl hon hcl hu h st tm hlen
   have hps:p<ops.size:=by omega
   have hnp:¬On l p:=fun hh=>absurd ((hon p hps).1 hh) (Nat.lt_irrefl _)
   obtain ⟨n,T',S',Bs,g1,g2,g3,g4,g5,g6,g7,g8,g9,g10,g11⟩:=seg_run hty hF E.dist (ops.toList.drop p) (g.drop p) p rfl h
   have hlenrest:(ops.toList.drop p).length=ops.size - p:=by simp
   have hend:p+n=ops.size∨g[p+n]? =some true:=by
     rcases g2 with g2|g2
     · exact .inl (by omega)
     · rw [List.getElem?_drop] at g2
       exact .inr g2
   rw [List.drop_drop,List.drop_drop] at g3
   by_cases hn:n=0
   · subst hn
     have hg:g[p]? =some true:=by
       rcases hend with hend|hend
       · omega
       · exact hend
     have hgl:p<g.length:=by
       rcases Nat.lt_or_ge p g.length with h'|h'
       · exact h'
       · rw [List.getElem?_eq_none h'] at hg;cases hg
     have hgp:g[p]=true:=by rw [List.getElem?_eq_getElem hgl] at hg;exact Option.some.inj hg
     have ho:ops[p]? =some ops[p]:=Array.getElem?_eq_getElem hps
     have e1:g.drop p=true::g.drop (p+1):=by rw [List.drop_eq_getElem_cons hgl,hgp]
     have e2:ops.toList.drop p=ops[p]::ops.toList.drop (p+1):=by rw [List.drop_eq_getElem_cons (by simpa using hps),Array.getElem_toList]
     rw [e1,e2] at h
     simp only [drawK_cons,dN_iff] at h
     cases fuel with
     |zero=>exact absurd (unl_zero (i:=p) (Nat.le_zero.1 hu) (by omega)) hnp
     |succ fuel=>
      have hready:p∈Region.ready .any ops l:=(mem_ready hl).2 ⟨_,ho,hnp,fun e he hb=>by
        have:=E.back p _ ho e he hb
        exact (hon e.on (by omega)).2 this⟩
      refine ⟨fun hnil=>(by rw [hnil] at hready;cases hready),fun i hi=>?_⟩
      obtain ⟨o,hoi,hno,hpre⟩:=(mem_ready hl).1 hi
      have his:i<ops.size:=by
        rcases Nat.lt_or_ge i ops.size with h|h
        · exact h
        · rw [Array.getElem?_eq_none h] at hoi;cases hoi
      have hip:i=p:=by
        rcases E.lone p hps (by simp [List.getD,hg]) i his with h3|h3|h3|h3
        · exact absurd ((hon i his).2 h3.1) hno
        · exact h3
        · exact absurd (ready_clos E hcl hoi hpre p h3.2) hnp
        · exact absurd ((hon i his).2 h3.1) hno
      subst hip
      refine oper_sound (K:=fun T S=>drawK TY F ops.toList (g.drop (i+1)) (ops.toList.drop (i+1)) T S K) hty hF ho h st tm fun a w ⟨ρ',M',T',S',h1,h2,h3,h4⟩=>?_
      have hil:i<l.size:=by omega
      refine ih (i+1) ρ' M' a w T' S' _ fuel (by omega) (by omega) (by simp [hl]) (fun j hj=>?_) (closed_set E hcl hil hoi hpre) (by have:=unl_set hil hno;omega) h1 h2 h3 (h4.trans hlen)
      rw [on_set hil,hon j hj]
      omega
   · have hsn:p+n≤ops.size:=by omega
     refine seg_any E hRp hsn (hend.imp id fun hh=>by simp [List.getD,hh]) (fun j hj1 hj2=>by
       have:=g11 (j - p) (by omega)
       rw [List.getElem?_drop,show p+(j - p)=j by omega] at this
       simp [List.getD,this]) g6 g7 (fun ρ' M' a' w' l' fuel' hl' hon' hcl' hu' st' tm'=>ih (p+n) ρ' M' a' w' T' S' l' fuel' (by omega) hsn hl' hon' hcl' hu' g3 st' tm' (g4.trans hlen))
       fuel l ρ M a w S hl (fun i hi=>(hon i (by omega)).2 hi) (fun i hi hh=>?_) hcl hu st tm.defers (by rw [g4];exact tm.size) (fun t ht=>(g5 t fun j hj1 hj2=>ht j hj1 hj2 fun hh=>?_).rep (tm.tmp t)) (fun k hk=>(g8 k fun j hj1 hj2 hd=>hk j hj1 hj2 (fun hh=>?_) hd).symm) (fun j k hj1 hj2 _ hd hb=>g10 j k hj1 hj2 hd hb)
     · rcases Nat.lt_or_ge i ops.size with h'|h'
       · have:=(hon i h').1 hh;omega
       · unfold On at hh;rw [Array.getElem?_eq_none (by omega)] at hh;cases hh
     · have:=(hon j (by omega)).1 hh;omega
     · have:=(hon j (by omega)).1 hh;omega
theorem kills_sound {a:Act}:∀{ks:List Nat} {T:List AV} {S:Store} {ρ:Env} {M:Msk} {K:List AV→Store→Prop},killsK ks T S K→St M0 ρ M S w→Tm ρ w M T a→
    ∃T' S' ρ' M',K T' S'∧St M0 ρ' M' S' w∧Tm ρ' w M' T' a∧T'.length=T.length
  |[],T,S,ρ,M,K,h,st,tm=>⟨T,S,ρ,M,h,st,tm,rfl⟩
  |k::ks,T,S,ρ,M,K,h,st,tm=>by
   simp only [killsK] at h
   split at h
   · exact kills_sound h st tm
   · obtain ⟨T1,S1,h1,h2,h3,h4,_,_⟩:=kill_sound h st tm
     obtain ⟨T',S',ρ',M',h5,h6,h7,h8⟩:=kills_sound h1 h2 h3
     exact ⟨T',S',ρ',M',h5,h6,h7,h8.trans h4⟩
theorem draw_sound (hty:TyOk P TY) {F:Spec} (hF:SpecOk P F) (hm:P.follows .mixedOrders=true) {ops:Array Oper} {g:List Bool} {T:List AV} {K:List AV→Store→Prop} {R:Exit→Act→World→Prop} {a:Act} {id:Nat}
    (hok:drawOK ops g=true) (h:killsK (makes g ops.toList) T S fun T S=>drawK TY F ops.toList g ops.toList T S K) (st:St M0 ρ M S w) (tm:Tm ρ w M T a)
    (hR:∀a w,End w0 M0 T.length K a w→R .normal a w):(Code.region id ops true).wp P R a w:=by
  obtain ⟨T1,S1,ρ1,M1,h1,st1,tm1,hl1⟩:=kills_sound h st tm
  let R':Exit→Act→World→Prop:=fun e a w=>e= .normal∧R .normal a w
  have main:(Code.region id ops true).wp P R' a w:=by
    refine wp_region_any hm ?_
    have hs:Stp (fun _ _=>False) w { w with drawn:=w.drawn+1 }:=Stp.heap _ rfl ⟨⟨rfl,rfl⟩,rfl,Nat.le_succ _⟩
    obtain ⟨st2,hk⟩:=st1.same (M':=M1) hs (fun _ _ _=>Iff.rfl) (fun b off hmm=>st1.mlt b off hmm)
    have E:=edges_of hok
    have hnone:∀i,¬On (Array.replicate ops.size false) i:=fun i hi=>by
      unfold On at hi
      rw [Array.getElem?_replicate] at hi
      split at hi<;>cases hi
    exact any_sound hty hF E (R:=R') (fun c a w hc=>by cases hc.1) (fun a w hE=>⟨rfl,hR a w hE⟩) ops.size 0 ρ1 M1 a _ T1 S1 _ ops.size (by omega) (Nat.zero_le _) (by simp) (fun i _=>⟨fun hi=>absurd hi (hnone i),fun hi=>by omega⟩) (fun i hi=>absurd hi (hnone i)) (by simp [unl]) (by simpa using h1) st2
      ⟨tm1.defers,tm1.size,fun i=>RepT.keep hk (fun _ _ h=>h) (tm1.tmp i)⟩ hl1
  intro b k cs
  obtain ⟨e,a',w',⟨rfl,h1⟩,h2⟩:=main b k cs
  exact ⟨_,a',w',h1,h2⟩
end
end Go.AM
end
section
namespace Go.AM
open Go
section
variable {P:Program} {TY:List TyE} {w0 w:World} {M0:Base w0} {ρ:Env} {M:Msk} {S S0:Store} {d:Nat}
theorem pure_sound (hty:TyOk P TY) {F:Spec} {o:Oper} {T:List AV} {K:AV→Option Blk→Prop} (hp:pureO o=true) (h:qK TY F d o.op T S0 K):
    ∃v,K v none∧∀(ρ:Env) (w:World) (M:Msk) (e:Operand→Value),St M0 ρ M S0 w→(∀x∈o.op.operands,RepT ρ w M (evalF T x) (e x))→∃u,(∀w',(execOp e o).run P w'= .ok (.value u) w')∧RepT ρ w M v u:=by
  unfold pureO at hp
  rw [Bool.and_eq_true] at hp
  obtain ⟨_,hp⟩:=hp
  split at hp
  · rename_i x ho
    rw [ho] at h
    simp only [qK,eval_iff] at h
    exact ⟨_,h,fun ρ w M e _ he=>⟨e x,fun w'=>by simp [execOp,ho],he x (by rw [ho];simp [Op.operands])⟩⟩
  · rename_i x ho
    rw [ho] at h
    simp only [qK,eval_iff] at h
    exact ⟨_,h,fun ρ w M e _ he=>⟨e x,fun w'=>by simp [execOp,ho],he x (by rw [ho];simp [Op.operands])⟩⟩
  · rename_i t x lo hi ho
    rw [ho] at h
    simp only [qK,eval_iff] at h
    split at h
    · rename_i r hx
      rw [ifK_iff,len_iff] at h
      obtain ⟨hok,h⟩:=h
      obtain ⟨l,h,hl⟩:=lo_iff h
      obtain ⟨m,h,hm⟩:=hi_iff h
      obtain ⟨⟨⟨h0,h1⟩,h2⟩,h⟩:=h
      obtain ⟨r',hK,g1,g2,g3⟩:=cut_cells h (by omega) (by omega)
      obtain ⟨e',hd',hu,hes,hrow⟩:=okSl_row hty hok
      refine ⟨_,hK,fun ρ w M e _ he=>?_⟩
      have hxv:=he x (by rw [ho];simp [Op.operands])
      rw [hx] at hxv
      obtain ⟨h5,a,cap,hv,hcap,h6⟩:=hxv
      refine ⟨.slice (if cap=l.toNat then a else a.map (·.add (l.toNat*r.sz))) (m.toNat - l.toNat) (cap - l.toNat),fun w'=>?_,?_⟩
      · have hub:(underlying t).run P w'= .ok (.slice e') w':=by simp [underlying,hu]
        have hb:=run_bounds (P:=P) (ρ:=ρ) (w:=w') (M:=M) (T:=T) (e:=e) (l:=l) (h:=m) hcap hl hm (fun y hy=>by
          have hyv:=he y (by rw [ho];rcases hy with rfl|rfl<;>simp [Op.operands])
          rcases hy with hy|hy
          · rcases hl with ⟨hl,_⟩|⟨z,k,hl,hz⟩
            · rw [hl] at hy;cases hy
            · rw [hl] at hy;cases hy;rw [hz] at hyv ⊢;exact hyv
          · rcases hm with ⟨hm,_⟩|⟨z,k,hm,hz⟩
            · rw [hm] at hy;cases hy
            · rw [hm] at hy;cases hy;rw [hz] at hyv ⊢;exact hyv) h0 h1 h2
        simp [execOp,ho,hv,Instr.sliceAt,hub,Instr.slice,hb,hrow.size,hes]
      · refine ⟨by rw [g1];simp only [LB] at h5 ⊢;omega,_,_,by rw [g1],by rw [g1];omega,?_⟩
        rcases Nat.eq_zero_or_pos r'.cells with h7|h7
        · exact .inl h7
        · have hlen:0<r'.len:=by
            rcases Nat.eq_zero_or_pos r'.len with h8|h8
            · simp [RO.cells,h8] at h7
            · exact h8
          rw [g1] at hlen
          rcases h6 with h6|⟨b,off,rfl,h6⟩
          · have:=r.sz_pos
            have:0<r.cells:=Nat.mul_pos (by omega) this
            omega
          · refine .inr ⟨b,off+l.toNat*r.sz,?_,fun q hq=>?_⟩
            · rw [if_neg (by omega)];simp [addr_add]
            · have hlt:l.toNat*r.sz+q<r.cells:=by
                have h8:r'.cells=(m.toNat - l.toNat)*r.sz:=by simp [RO.cells,g1,g2]
                have h9:l.toNat*r.sz+(m.toNat - l.toNat)*r.sz=m.toNat*r.sz:=by rw [←Nat.add_mul];congr 1;omega
                have h10:m.toNat*r.sz≤r.len*r.sz:=Nat.mul_le_mul_right _ (by omega)
                simp only [RO.cells] at h8 hq ⊢
                omega
              obtain ⟨c,h8,h9,h10⟩:=h6 _ hlt
              rw [←Nat.add_assoc] at h8 h9
              exact ⟨c,h8,h9,g3 w M q c hq h10⟩
    · exact h.elim
  · rename_i t x f ho
    rw [ho] at h
    simp only [qK,eval_iff] at h
    split at h
    · rename_i k off fs hx hd
      split at h
      · rename_i lb hfk
        split at h
        · rename_i o' u' ho'
          split at h
          · rename_i hz
            obtain ⟨F',hu,hfs⟩:=struct_row hty hd
            have hg:=fieldOff_get ho'
            rw [hfs,List.getElem?_map] at hg
            cases hF:F'.toList[f]? with
            |none=>rw [hF] at hg;cases hg
            |some g=>
             rw [hF] at hg;cases hg
             rw [Array.getElem?_toList] at hF
             have hrow:=hty.at (t:=g.type) (.inl (fun e=>by rw [e] at hz;cases hz))
             refine ⟨_,h,fun ρ w M e st he=>?_⟩
             have h1:=he x (by rw [ho];simp [Op.operands])
             rw [hx] at h1
             have h1:(ρ k).bind (Own.ref · off)=some (e x):=h1
             obtain ⟨b,h3,_⟩:=st.blk k _ hfk
             have h2:=ref_bx h3 h1
             refine ⟨.pointer (some ⟨b,off+g.offset,none⟩),fun w'=>?_,of_bx _ h3⟩
             have hub:(underlying t).run P w'= .ok (.struct F') w':=by simp [underlying,hu]
             have hsz:=hrow.size w'
             have hne:(nthT TY g.type).sz≠0:=fun e=>by rw [e] at hz;cases hz
             simp [execOp,ho,h2,Instr.fieldAt,hub,hF,Instr.sureAddr,fieldPlace,hsz,hne,addr_add]
          · exact h.elim
        · exact h.elim
      · exact h.elim
    · rename_i k i fs hx hd
      split at h
      · rename_i o' u' ho'
        split at h
        · rename_i hz
          obtain ⟨F',hu,hfs⟩:=struct_row hty hd
          have hg:=fieldOff_get ho'
          rw [hfs,List.getElem?_map] at hg
          cases hF:F'.toList[f]? with
          |none=>rw [hF] at hg;cases hg
          |some g=>
           rw [hF] at hg;cases hg
           rw [Array.getElem?_toList] at hF
           have hrow:=hty.at (t:=g.type) (.inl (fun e=>by rw [e] at hz;cases hz))
           refine ⟨_,h,fun ρ w M e st he=>?_⟩
           have h1:=he x (by rw [ho];simp [Op.operands])
           rw [hx] at h1
           obtain ⟨o2,b,g1,g2,g3,g4,g5⟩:=h1
           refine ⟨.pointer (some ⟨b,i.toNat*o2.sz+g.offset,none⟩),fun w'=>?_,o2,b,g1,g2,g3,g4,rfl⟩
           have hub:(underlying t).run P w'= .ok (.struct F') w':=by simp [underlying,hu]
           have hsz:=hrow.size w'
           have hne:(nthT TY g.type).sz≠0:=fun e=>by rw [e] at hz;cases hz
           simp [execOp,ho,g5,Instr.fieldAt,hub,hF,Instr.sureAddr,fieldPlace,hsz,hne,addr_add]
        · exact h.elim
      · exact h.elim
    · rename_i l i fs hx hd
      split at h
      · rename_i o' u' ho'
        split at h
        · rename_i hz
          obtain ⟨F',hu,hfs⟩:=struct_row hty hd
          have hg:=fieldOff_get ho'
          rw [hfs,List.getElem?_map] at hg
          cases hF:F'.toList[f]? with
          |none=>rw [hF] at hg;cases hg
          |some g=>
           rw [hF] at hg;cases hg
           rw [Array.getElem?_toList] at hF
           have hrow:=hty.at (t:=g.type) (.inl (fun e=>by rw [e] at hz;cases hz))
           obtain ⟨v,hK,hv⟩:=facP_ok h
           refine ⟨_,hK,fun ρ w M e st he=>?_⟩
           have h1:=he x (by rw [ho];simp [Op.operands])
           rw [hx] at h1
           obtain ⟨b,off,cap,g1,g2,g3,g4⟩:=h1
           refine ⟨.pointer (some ⟨b,off+i.toNat*2+g.offset,none⟩),fun w'=>?_,hv ρ w M b off cap g1 g2 g3⟩
           have hub:(underlying t).run P w'= .ok (.struct F') w':=by simp [underlying,hu]
           have hsz:=hrow.size w'
           have hne:(nthT TY g.type).sz≠0:=fun e=>by rw [e] at hz;cases hz
           have g4:e x= .pointer (some ⟨b,off+i.toNat*2,none⟩):=g4
           simp [execOp,ho,g4,Instr.fieldAt,hub,hF,Instr.sureAddr,fieldPlace,hsz,hne,addr_add]
        · exact h.elim
      · exact h.elim
    · exact h.elim
  · rename_i x ho
    rw [ho] at h
    simp only [qK,eval_iff] at h
    split at h
    · rename_i k off hx
      refine ⟨_,h,fun ρ w M e _ he=>?_⟩
      have:=he x (by rw [ho];simp [Op.operands])
      rw [hx] at this
      have h1:(ρ k).bind (Own.ref · off)=some (e x):=this
      obtain ⟨b,⟨_,h2⟩|⟨_,h2⟩⟩:=ref_some h1
      · exact ⟨e x,fun w'=>by simp [execOp,ho,h2],h1⟩
      · exact ⟨e x,fun w'=>by simp [execOp,ho,h2],h1⟩
    · rename_i f l hx
      refine ⟨_,h,fun ρ w M e _ he=>?_⟩
      have:=he x (by rw [ho];simp [Op.operands])
      rw [hx] at this
      obtain ⟨cs,h1,h2⟩:=this
      exact ⟨e x,fun w'=>by simp [execOp,ho,h1],cs,h1,h2⟩
    · rename_i k i hx
      refine ⟨_,h,fun ρ w M e _ he=>?_⟩
      have:=he x (by rw [ho];simp [Op.operands])
      rw [hx] at this
      obtain ⟨o,b,h1,h2,h3,h4,h5⟩:=this
      exact ⟨e x,fun w'=>by simp [execOp,ho,h5],o,b,h1,h2,h3,h4,h5⟩
    · rename_i r i hx
      refine ⟨_,h,fun ρ w M e _ he=>?_⟩
      have:=he x (by rw [ho];simp [Op.operands])
      rw [hx] at this
      obtain ⟨b,off,cap,h1,h2,h3,h4⟩:=this
      exact ⟨e x,fun w'=>by simp [execOp,ho,h4],b,off,cap,h1,h2,h3,h4⟩
    · exact h.elim
  · cases hp
theorem ready_get {ops:Array Oper} {l:Array Bool} {i:Nat} (h:i∈Region.ready .any ops l):∃o,ops[i]? =some o∧ops.toList.getD i default=o∧l.getD i true=false:=by
  obtain ⟨h0,o,ho,_⟩:=Go.mem_ready.1 h
  exact ⟨o,ho,by simp [List.getD,ho],h0⟩
theorem getD_on {l:Array Bool} {i:Nat} (h:l.getD i true=false):i<l.size∧¬On l i:=by
  rw [Array.getD_eq_getD_getElem?] at h
  unfold On
  cases hh:l[i]? with
  |none=>rw [hh] at h;cases h
  |some b=>
   rw [hh] at h
   have h:b=false:=h
   subst h
   refine ⟨?_,by simp⟩
   rcases Nat.lt_or_ge i l.size with h'|h'
   · exact h'
   · rw [Array.getElem?_eq_none h'] at hh;cases hh
theorem stK_get:∀{st:List (List AV × Store)} {n:Nat} {K:List AV→Store→Prop},stK st n K→∃T S,st[n]? =some (T,S)∧K T S
  |[],_,_,h=>h.elim
  |(T,S)::_,0,_,h=>⟨T,S,rfl,h⟩
  |_::l,n+1,_,h=>by
   obtain ⟨T,S,h1,h2⟩:=stK_get (st:=l) h
   exact ⟨T,S,by simpa using h1,h2⟩
theorem dagK_get {F:Spec} {ops:List Oper} {sts:List (List AV × Store)} {K:List AV→Store→Prop}:∀{N:List (Nat × List (Nat × Nat))} {k n:Nat},dagK TY F ops sts K N k→n<N.length→
    stK sts (k+n) fun T S=>match (dagAt N n).2 with|[]=>K T S|nx=>dagE TY F ops sts T S nx
  |[],_,_,_,hn=>absurd hn (Nat.not_lt_zero _)
  |_::_,k,0,h,_=>h.1
  |_::N,k,n+1,h,hn=>by
   have:=dagK_get (N:=N) (n:=n) h.2 (by simpa using hn)
   rw [show k+1+n=k+(n+1) by omega] at this
   exact this
theorem dagE_get {F:Spec} {ops:List Oper} {sts:List (List AV × Store)} {T:List AV} {S:Store}:∀{l:List (Nat × Nat)} {e:Nat × Nat},dagE TY F ops sts T S l→e∈l→
    (match ops.getD e.1 default with
    |o=>guardK ops o.guard T
     (fun T=>dN o.dst fun d=>opK TY F d o.op T S fun v T S=>dstK o.dst T v fun T=>stEq sts e.2 T S)
     (fun T=>dstK o.dst T (.tup []) fun T=>stEq sts e.2 T S))
  |_::_,_,h,hm=>by
   rcases List.mem_cons.1 hm with rfl|hm
   · exact h.1
   · exact dagE_get h.2 hm
theorem dag_sound (hty:TyOk P TY) {F:Spec} (hF:SpecOk P F) {ops:Array Oper} {N:List (Nat × List (Nat × Nat))} {sts:List (List AV × Store)} {l0:Array Bool} (hok:dagOK ops N l0=true) {R:Exit→Act→World→Prop} {K:List AV→Store→Prop} {len:Nat}
    (hR:∀a w,End w0 M0 len K a w→R .normal a w) (h:dagK TY F ops.toList sts K N 0):∀(fuel n:Nat) (ρ:Env) (M:Msk) (a:Act) (w:World) (T:List AV) (S:Store),n<N.length→unl (maskL ops.size (dagAt N n).1)≤fuel→sts[n]? =some (T,S)→
      St M0 ρ M S w→Tm ρ w M T a→T.length=len→wpAny P .any ops R fuel (maskL ops.size (dagAt N n).1) a w:=by
  simp only [dagOK,Bool.and_eq_true] at hok
  have hall:=List.all_eq_true.1 hok.2
  have hsz:∀m,(maskL ops.size m).size=ops.size:=fun m=>by simp [maskL]
  have node:∀n,n<N.length→(∀i∈Region.ready .any ops (maskL ops.size (dagAt N n).1),∃e∈(dagAt N n).2,e.1=i)∧∀e∈(dagAt N n).2,e.1∈Region.ready .any ops (maskL ops.size (dagAt N n).1)∧e.2<N.length∧maskL ops.size (dagAt N e.2).1=(maskL ops.size (dagAt N n).1).setIfInBounds e.1 true:=fun n hn=>by
    have h1:=hall n (List.mem_range.2 hn)
    simp only [Bool.and_eq_true] at h1
    refine ⟨fun i hi=>?_,fun e he=>?_⟩
    · obtain ⟨e,he,h2⟩:=List.any_eq_true.1 (List.all_eq_true.1 h1.1 i hi)
      exact ⟨e,he,beq_iff_eq.1 h2⟩
    · have h2:=List.all_eq_true.1 h1.2 e he
      simp only [Bool.and_eq_true] at h2
      exact ⟨List.contains_iff_mem.1 h2.1.1,of_decide_eq_true h2.1.2,beq_iff_eq.1 h2.2⟩
  have leaf:∀n T S,n<N.length→sts[n]? =some (T,S)→(dagAt N n).2=[]→K T S:=fun n T S hn hs he=>by
    obtain ⟨T',S',h1,h2⟩:=stK_get (dagK_get h hn)
    rw [Nat.zero_add,hs] at h1;cases h1
    rw [he] at h2;exact h2
  intro fuel
  induction fuel with
  |zero=>
   intro n ρ M a w T S hn hu hs st tm hlen
   have hnil:Region.ready .any ops (maskL ops.size (dagAt N n).1)=[]:=by
     rw [List.eq_nil_iff_forall_not_mem]
     intro i hi
     obtain ⟨o,ho,hno,_⟩:=(mem_ready (hsz _)).1 hi
     have his:i<ops.size:=by
       rcases Nat.lt_or_ge i ops.size with h|h
       · exact h
       · rw [Array.getElem?_eq_none h] at ho;cases ho
     exact hno (unl_zero (by omega) (by rw [hsz];exact his))
   have hnx:(dagAt N n).2=[]:=by
     rw [List.eq_nil_iff_forall_not_mem]
     intro e he
     have:=((node n hn).2 e he).1
     rw [hnil] at this;cases this
   exact ⟨hnil,hR a w ⟨ρ,M,T,S,leaf n T S hn hs hnx,st,tm,hlen⟩⟩
  |succ fuel ih=>
   intro n ρ M a w T S hn hu hs st tm hlen
   refine ⟨fun hnil=>?_,fun i hi=>?_⟩
   · have hnx:(dagAt N n).2=[]:=by
       rw [List.eq_nil_iff_forall_not_mem]
       intro e he
       have:=((node n hn).2 e he).1
       rw [hnil] at this;cases this
     exact hR a w ⟨ρ,M,T,S,leaf n T S hn hs hnx,st,tm,hlen⟩
   · obtain ⟨e,he,rfl⟩:=(node n hn).1 i hi
     obtain ⟨hr,hm,hmask⟩:=(node n hn).2 e he
     obtain ⟨o,ho,hd,h0⟩:=ready_get hr
     obtain ⟨hil,hno⟩:=getD_on h0
     obtain ⟨T',S',h1,h2⟩:=stK_get (dagK_get h hn)
     rw [Nat.zero_add,hs] at h1;cases h1
     have h2:dagE TY F ops.toList sts T S (dagAt N n).2:=by
       cases hnx:(dagAt N n).2 with
       |nil=>rw [hnx] at he;cases he
       |cons x l=>rw [hnx] at h2;exact h2
     have h3:=dagE_get h2 he
     simp only [hd,dN_iff] at h3
     refine oper_sound (K:=fun T S=>stEq sts e.2 T S) hty hF ho h3 st tm fun a w ⟨ρ',M',T',S',q1,q2,q3,q4⟩=>?_
     obtain ⟨T2,S2,q5,q6,q7⟩:=stK_get q1
     subst q6;subst q7
     rw [←hmask]
     exact ih e.2 ρ' M' a w T' S' hm (by rw [hmask];have:=unl_set hil hno;omega) q5 q2 q3 (q4.trans hlen)
theorem sch_sound (hty:TyOk P TY) {F:Spec} (hF:SpecOk P F) {ops:Array Oper} (hsel:Region.noSelect ops=true) {R:Exit→Act→World→Prop} (hRp:∀c a w,¬R (.panic c) a w) {K:List AV→Store→Prop} {len:Nat}
    (hR:∀a w,End w0 M0 len K a w→R .normal a w):∀(t:Sch) (c:Bool) (l:Array Bool) (fuel:Nat) (ρ:Env) (M:Msk) (a:Act) (w:World) (T:List AV) (S:Store),schOK ops t l c=true→l.size=ops.size→unl l≤fuel→
      schK TY F ops.toList t T S K→St M0 ρ M S w→Tm ρ w M T a→T.length=len→
      (c=false→wpAny P .any ops R fuel l a w)∧∀i∈t.heads,i∈Region.ready .any ops l→∀f,fuel=f+1→wpOp P ops R i (wpAny P .any ops R f (l.setIfInBounds i true)) a w
  |.done,c,l,fuel,ρ,M,a,w,T,S,hok,hl,hu,h,st,tm,hlen=>by
   simp only [schOK,Bool.and_eq_true,List.isEmpty_iff] at hok
   refine ⟨fun _=>?_,fun i hi=>by cases hi⟩
   have hq:=hR a w ⟨ρ,M,T,S,h,st,tm,hlen⟩
   cases fuel with
   |zero=>exact ⟨hok.2,hq⟩
   |succ fuel=>exact ⟨fun _=>hq,fun i hi=>by rw [hok.2] at hi;cases hi⟩
  |.no,c,l,fuel,ρ,M,a,w,T,S,hok,hl,hu,h,st,tm,hlen=>by
   have hok:c=true:=hok
   exact ⟨fun hc=>(by rw [hc] at hok;cases hok),fun i hi=>(by cases hi)⟩
  |.txt,c,l,fuel,ρ,M,a,w,T,S,hok,hl,hu,h,st,tm,hlen=>by cases hok
  |.dag N,c,l,fuel,ρ,M,a,w,T,S,hok,hl,hu,h,st,tm,hlen=>by
   simp only [schOK,Bool.and_eq_true] at hok
   have hd:=hok.2
   simp only [dagOK,Bool.and_eq_true] at hd
   have h0:maskL ops.size (dagAt N 0).1=l:=beq_iff_eq.1 hd.1.2
   obtain ⟨sts,he,h⟩:=h
   obtain ⟨T',S',q1,q2,q3⟩:=stK_get he
   subst q2;subst q3
   refine ⟨fun _=>?_,fun i hi=>by cases hi⟩
   rw [←h0]
   exact dag_sound hty hF hok.2 hR h fuel 0 ρ M a w T S (of_decide_eq_true hd.1.1) (by rw [h0];exact hu) q1 st tm hlen
  |.fst i s,c,l,fuel,ρ,M,a,w,T,S,hok,hl,hu,h,st,tm,hlen=>by
   simp only [schOK,Bool.and_eq_true] at hok
   obtain ⟨⟨⟨⟨_,hp⟩,hr⟩,hfree⟩,hs⟩:=hok
   refine ⟨fun _=>?_,fun i hi=>by cases hi⟩
   have hr:i∈Region.ready .any ops l:=List.contains_iff_mem.1 hr
   obtain ⟨o,ho,hd,h0⟩:=ready_get hr
   obtain ⟨hil,hno⟩:=getD_on h0
   rw [ho] at hp
   have hp:pureO o=true:=hp
   have hg:o.guard=none:=by
     unfold pureO at hp
     cases hgg:o.guard with
     |none=>rfl
     |some _=>rw [hgg] at hp;cases hp
   simp only [schK,hd,guardK,hg,dN_iff] at h
   obtain ⟨v,hK,hv⟩:=pure_sound hty hp h
   obtain ⟨u,hrun,hrep⟩:=hv ρ w M a.eval st (fun x _=>eval_rep tm x)
   obtain ⟨T2,h2,h3,h4⟩:=tm.put hrep hK
   have hus:=unl_set hil hno
   cases fuel with
   |zero=>omega
   |succ f=>
    refine wpAny_first (v:=u) ho (fun j o cs b hj=>Region.noSelect_spec hsel j o cs b hj) (fun c a w hc=>absurd hc (hRp _ _ _)) f l a w (fun j oj hj hji hun hn=>Region.free_spec ho hfree j oj hj hji hun hn) hr (.inl ⟨by simp [Region.wanted,hg],hrun⟩) ?_
    exact (sch_sound hty hF hsel hRp hR s false _ f ρ M _ w T2 S hs (by simp [hl]) (by omega) h2 st h4 (h3.trans hlen)).1 rfl
  |.br i s r,c,l,fuel,ρ,M,a,w,T,S,hok,hl,hu,h,st,tm,hlen=>by
   simp only [schOK,Bool.and_eq_true,Bool.or_eq_true] at hok
   obtain ⟨⟨⟨hcov,hr⟩,hs⟩,hrest⟩:=hok
   have hr:i∈Region.ready .any ops l:=List.contains_iff_mem.1 hr
   obtain ⟨o,ho,hd,h0⟩:=ready_get hr
   obtain ⟨hil,hno⟩:=getD_on h0
   have hus:=unl_set hil hno
   simp only [schK,hd,dN_iff] at h
   obtain ⟨hi,hrK⟩:=h
   have hbr:∀j∈Sch.heads (.br i s r),j∈Region.ready .any ops l→∀f,fuel=f+1→wpOp P ops R j (wpAny P .any ops R f (l.setIfInBounds j true)) a w:=by
     intro j hj hjr f hf
     rcases List.mem_cons.1 hj with rfl|hj
     · refine oper_sound (K:=fun T S=>schK TY F ops.toList s T S K) hty hF ho hi st tm fun a w ⟨ρ',M',T',S',h1,h2,h3,h4⟩=>?_
       exact (sch_sound hty hF hsel hRp hR s false _ f ρ' M' a w T' S' hs (by simp [hl]) (by omega) h1 h2 h3 (h4.trans hlen)).1 rfl
     · exact (sch_sound hty hF hsel hRp hR r true l fuel ρ M a w T S hrest hl hu hrK st tm hlen).2 j hj hjr f hf
   refine ⟨fun hc=>?_,hbr⟩
   rcases hcov with hcov|⟨hne,hcov⟩
   · rw [hc] at hcov;cases hcov
   · cases fuel with
     |zero=>omega
     |succ f=>
      refine ⟨fun hnil=>(by rw [hnil] at hr;cases hr),fun j hj=>hbr j ?_ hj f rfl⟩
      exact List.contains_iff_mem.1 (List.all_eq_true.1 hcov j hj)
theorem txt_sound (hty:TyOk P TY) {F:Spec} {ops:Array Oper} {K:List AV→Store→Prop} {len:Nat} {Q:Act→Prop}:∀{l:List Oper} {T:List AV} {a:Act},(∀o∈l,o.guard.isNone=true∧(quietOp o.op&& !makesOp o.op)=true)→txtK TY F l T S K→St M0 ρ M S w→Tm ρ w M T a→T.length=len→
    (∀a,End w0 M0 len K a w→Q a)→wpStill P ops w Q l a
  |[],T,a,_,h,st,tm,hlen,hQ=>hQ a ⟨ρ,M,T,S,h,st,tm,hlen⟩
  |o::l,T,a,ho,h,st,tm,hlen,hQ=>by
   obtain ⟨hg,hq⟩:=ho o (List.mem_cons_self ..)
   rw [txtK_cons,dN_iff] at h
   obtain ⟨v,B,hB,_,hr⟩:=q_sound hty (by rw [Bool.and_eq_true] at hq;exact hq.1) h
   cases B with
   |some _=>exact hB.elim
   |none=>
    obtain ⟨u,hrun,hrep⟩:=hr hq rfl w0 M0 ρ w M S a.eval o rfl (Cmp.refl S) st (fun x _=>eval_rep tm x)
    obtain ⟨T2,h2,h3,h4⟩:=tm.put hrep hB
    have hg:o.guard=none:=by cases hgg:o.guard with|none=>rfl|some _=>rw [hgg] at hg;cases hg
    unfold wpStill
    rw [if_pos (by simp [Region.wanted,hg])]
    unfold Oper.still
    rw [hrun,Oper.stillUpon_value]
    exact txt_sound hty (fun o ho'=>ho o (List.mem_cons_of_mem _ ho')) h2 st h4 (h3.trans hlen) hQ
theorem schAll_sound (hty:TyOk P TY) {F:Spec} (hF:SpecOk P F) (hm:P.follows .mixedOrders=true) {ops:Array Oper} {t:Sch} {T:List AV} {K:List AV→Store→Prop} {R:Exit→Act→World→Prop} {a:Act} {id:Nat}
    (hok:schAll ops t=true) (h:schK TY F ops.toList t T S K) (st:St M0 ρ M S w) (tm:Tm ρ w M T a)
    (hR:∀a w,End w0 M0 T.length K a w→R .normal a w):(Code.region id ops true).wp P R a w:=by
  have hs:Stp (fun _ _=>False) w { w with drawn:=w.drawn+1 }:=Stp.heap _ rfl ⟨⟨rfl,rfl⟩,rfl,Nat.le_succ _⟩
  obtain ⟨st2,hk⟩:=st.same (M':=M) hs (fun _ _ _=>Iff.rfl) (fun b off hmm=>st.mlt b off hmm)
  simp only [schAll,Bool.or_eq_true,Bool.and_eq_true] at hok
  rcases hok with ⟨ht,hok⟩|hok
  · have ht:t= .txt:=by cases t<;>first|rfl|cases ht
    subst ht
    simp only [txtOK,Bool.and_eq_true] at hok
    exact wp_region_still hm hok.1 (txt_sound hty (fun o ho=>by
      have:=List.all_eq_true.1 hok.2 o ho
      simp only [Bool.and_eq_true,Bool.not_eq_true'] at this
      exact ⟨this.1.1,by simp only [this.1.2,this.2,Bool.not_false,Bool.and_self]⟩) h st2 ⟨tm.defers,tm.size,fun i=>RepT.keep hk (fun _ _ h=>h) (tm.tmp i)⟩ rfl fun a hE=>hR _ _ hE)
  let R':Exit→Act→World→Prop:=fun e a w=>e= .normal∧R .normal a w
  have main:(Code.region id ops true).wp P R' a w:=wp_region_any hm
    ((sch_sound hty hF hok.1 (R:=R') (fun c a w hc=>by cases hc.1) (K:=K) (len:=T.length) (fun a w hE=>⟨rfl,hR a w hE⟩) t false _ ops.size ρ M a _ T S hok.2 (by simp) (by simp [unl]) h st2
      ⟨tm.defers,tm.size,fun i=>RepT.keep hk (fun _ _ h=>h) (tm.tmp i)⟩ rfl).1 rfl)
  intro b k cs
  obtain ⟨e,a',w',⟨rfl,h1⟩,h2⟩:=main b k cs
  exact ⟨_,a',w',h1,h2⟩
end
end Go.AM
end
section
namespace Go.AM
open Go
section
variable {P:Program} {TY:List TyE} {w0 w:World} {M0:Base w0} {ρ:Env} {M:Msk} {S S':Store}
theorem forget_iff {W:List Nat}:∀{T:List AV} {i:Nat} {K:List AV→Prop},forgetK W i T K→∃T',K T'∧T'.length=T.length∧∀j,nth T' j=nth T j∨nth T' j= .any
  |[],_,_,h=>⟨[],h,rfl,fun _=>.inl rfl⟩
  |a::T,i,K,h=>by
   obtain ⟨T',h1,h2,h3⟩:=forget_iff (T:=T) h
   cases hm:memN i W with
   |true=>
    rw [hm] at h1
    exact ⟨_,h1,by simp [h2],fun j=>by cases j with|zero=>exact .inr rfl|succ j=>exact h3 j⟩
   |false=>
    rw [hm] at h1
    exact ⟨_,h1,by simp [h2],fun j=>by cases j with|zero=>exact .inl rfl|succ j=>exact h3 j⟩
theorem upd_iff:∀{U:List (Nat × AV)} {T:List AV} {K:List AV→Prop},updK U T K→∃T',K T'∧T'.length=T.length∧∀j,nth T' j=nth T j∨∃v,(j,v)∈U∧nth T' j=v
  |[],T,K,h=>⟨T,h,rfl,fun _=>.inl rfl⟩
  |(i,v)::U,T,K,h=>by
   simp only [updK,put_iff] at h
   obtain ⟨T',h1,h2,h3⟩:=upd_iff h
   refine ⟨T',h1,by rw [h2];simp,fun j=>?_⟩
   rcases h3 j with h4|⟨u,h4,h5⟩
   · rw [h4,nth_set]
     split
     · rename_i hj;obtain ⟨rfl,_⟩:=hj;exact .inr ⟨v,by simp,rfl⟩
     · exact .inl rfl
   · exact .inr ⟨u,List.mem_cons_of_mem _ h4,h5⟩
theorem leU_mem {T:List AV}:∀{U:List (Nat × AV)},leU S S' T U→∀{i:Nat} {v:AV},(i,v)∈U→leT S S' (nth T i) v
  |[],_,_,_,h=>by cases h
  |(j,u)::U,h,i,v,hm=>by
   rcases List.mem_cons.1 hm with he|hm
   · cases he;exact h.1
   · exact leU_mem h.2 hm
theorem updS_iff:∀{V:Store} {S:Store} {K:Store→Prop},updS V S K→∃S',K S'∧∀K',updS V S K'→K' S'
  |[],S,K,h=>⟨S,h,fun _ h=>h⟩
  |(k,b)::V,S,K,h=>by
   simp only [updS] at h
   cases hf:findS S k with
   |none=>
    rw [hf] at h
    obtain ⟨S',h1,h2⟩:=updS_iff h
    exact ⟨S',h1,fun K' h'=>h2 K' (by simpa only [updS,hf] using h')⟩
   |some B=>
    rw [hf] at h
    have det:∀{S:Store} {K:Store→Prop},setS S k b K→∃S',K S'∧∀K',setS S k b K'→K' S':=by
      intro S
      induction S with
      |nil=>exact fun h=>⟨[],h,fun _ h=>h⟩
      |cons e S ih=>
       intro K h
       simp only [setS] at h
       cases hb:Nat.beq e.1 k with
       |true=>rw [hb] at h;exact ⟨_,h,fun K' h'=>by simpa only [setS,hb] using h'⟩
       |false=>
        rw [hb] at h
        obtain ⟨S',h1,h2⟩:=ih h
        exact ⟨_,h1,fun K' h'=>h2 (fun S'=>K' ((e.1,e.2)::S')) (by simpa only [setS,hb] using h')⟩
    obtain ⟨S1,h1,h2⟩:=det h
    obtain ⟨S',h3,h4⟩:=updS_iff h1
    exact ⟨S',h3,fun K' h'=>h4 K' (h2 _ (by simpa only [updS,hf] using h'))⟩
theorem det_upd {U:List (Nat × AV)}:∀{T:List AV} {K:List AV→Prop},updK U T K→∃T',K T'∧∀K',updK U T K'→K' T':=by
  induction U with
  |nil=>exact fun h=>⟨_,h,fun _ h=>h⟩
  |cons e U ih=>
   intro T K h
   simp only [updK,put_iff] at h
   obtain ⟨T',h1,h2⟩:=ih h
   exact ⟨T',h1,fun K' h'=>h2 K' (by simpa only [updK,put_iff] using h')⟩
theorem head_of {T T0 T1:List AV} {U:List (Nat × AV)} {a:Act} (st:St M0 ρ M S w) (tm:Tm ρ w M T a) (hl:T0.length=T.length) (hl1:T1.length=T0.length) (hf:∀j,nth T0 j=nth T j∨nth T0 j= .any)
    (hu:∀j,nth T1 j=nth T0 j∨∃v,(j,v)∈U∧nth T1 j=v) (hn:namesT S' T0=true) (hU:leU S S' T U) (hS:leS S S' S'):
    St M0 (entE S S' ρ) (entM S' ρ M) S' w∧Tm (entE S S' ρ) w (entM S' ρ M) T1 a:=by
  refine ⟨ent_st st hS,tm.defers,by rw [tm.size,←hl,←hl1],fun i=>?_⟩
  rcases hu i with h1|⟨v,h1,h2⟩
  · rw [h1]
    have h0:RepT ρ w M (nth T0 i) (a.tmps.getD i undef):=by
      rcases hf i with h2|h2
      · rw [h2];exact tm.tmp i
      · rw [h2];trivial
    exact namesT_keep (fun k hk hρ=>by rw [st.dom k] at hρ;exact hρ) i hn h0
  · rw [h2];exact entT st (leU_mem hU h1) (tm.tmp i)
def exitOf:EX→Exit
  |.normal=>.normal|.exit i=>.exit i|.ret=>.ret
theorem wp_loop_ix {P:Program} {Q:Exit→Act→World→Prop} {a:Act} {w:World} {c:Code} {X:Type} (I:X→Act→World→Prop) (μ:X→Nat) (x0:X) (h₀:I x0 a w)
    (round:∀x a w,I x a w→c.wp P (Exit.then (fun a' w'=>∃x',I x' a' w'∧μ x'<μ x) Q) a w):(Code.loop c).wp P Q a w:=by
  intro b k cs
  have key:∀n x a w,μ x=n→I x a w→
      ∃e a' w',Q e a' w'∧Arrives P (lone (b.at a (.code c:: .inLoop c::k)) cs w) b k cs e a' w':=by
    intro n
    induction n using Nat.strongRecOn with
    |_ n ih=>
     intro x a w hn hI
     obtain ⟨e,a₁,w₁,hq,harr⟩:=round x a w hI b (.inLoop c::k) cs
     cases e with
     |normal=>
      obtain ⟨x',hI₁,hlt⟩:=hq
      obtain ⟨e₂,a₂,w₂,hq₂,harr₂⟩:=ih (μ x') (hn▸hlt) x' a₁ w₁ rfl hI₁
      exact ⟨e₂,a₂,w₂,hq₂,.of_steps (Steps.trans harr (.one step_inLoop)) harr₂⟩
     |exit id=>exact ⟨_,a₁,w₁,hq,.pass (x:=.inLoop c) rfl (fun _ _=>.inl (by simp)) harr⟩
     |goto l=>exact ⟨_,a₁,w₁,hq,.pass (x:=.inLoop c) rfl (fun _ _=>.inl (by simp)) harr⟩
     |ret=>exact ⟨_,a₁,w₁,hq,.pass (x:=.inLoop c) rfl (fun _ _=>.inl (by simp)) harr⟩
     |panic ch=>exact ⟨_,a₁,w₁,hq,.pass (x:=.inLoop c) rfl (fun _ _=>.inl (by simp)) harr⟩
     |outgrown=>exact ⟨_,a₁,w₁,hq,.pass (x:=.inLoop c) rfl (fun _ _=>.inl (by simp)) harr⟩
  obtain ⟨e,a',w',hq,harr⟩:=key _ x0 a w rfl h₀
  exact ⟨e,a',w',hq,.of_steps (.one step_loop) harr⟩
def LoopWp (P:Program) (Q:Exit→Act→World→Prop) (c:Code) (a:Act) (w:World):Prop:=∀(b:Frame) (k:List Item) (cs:List Frame),∃e a' w',Q e a' w'∧Arrives P (lone (b.at a (.code c:: .inLoop c::k)) cs w) b k cs e a' w'
theorem LoopWp.wp {P:Program} {Q:Exit→Act→World→Prop} {a:Act} {w:World} {c:Code} (h:LoopWp P Q c a w):(Code.loop c).wp P Q a w:=by
  intro b k cs
  obtain ⟨e,a',w',hq,harr⟩:=h b k cs
  exact ⟨e,a',w',hq,.of_steps (.one step_loop) harr⟩
theorem LoopWp.once {P:Program} {Q:Exit→Act→World→Prop} {a:Act} {w:World} {c:Code} (h:c.wp P (Exit.then (LoopWp P Q c) Q) a w):LoopWp P Q c a w:=by
  intro b k cs
  obtain ⟨e,a₁,w₁,hq,harr⟩:=h b (.inLoop c::k) cs
  cases e with
  |normal=>
   obtain ⟨e₂,a₂,w₂,hq₂,harr₂⟩:=hq b k cs
   exact ⟨e₂,a₂,w₂,hq₂,.of_steps (Steps.trans harr (.one step_inLoop)) harr₂⟩
  |exit id=>exact ⟨_,a₁,w₁,hq,.pass (x:=.inLoop c) rfl (fun _ _=>.inl (by simp)) harr⟩
  |goto l=>exact ⟨_,a₁,w₁,hq,.pass (x:=.inLoop c) rfl (fun _ _=>.inl (by simp)) harr⟩
  |ret=>exact ⟨_,a₁,w₁,hq,.pass (x:=.inLoop c) rfl (fun _ _=>.inl (by simp)) harr⟩
  |panic ch=>exact ⟨_,a₁,w₁,hq,.pass (x:=.inLoop c) rfl (fun _ _=>.inl (by simp)) harr⟩
  |outgrown=>exact ⟨_,a₁,w₁,hq,.pass (x:=.inLoop c) rfl (fun _ _=>.inl (by simp)) harr⟩
theorem loopWp_ix {P:Program} {Q:Exit→Act→World→Prop} {c:Code} {X:Type} (I:X→Act→World→Prop) (μ:X→Nat) (round:∀x a w,I x a w→c.wp P (Exit.then (fun a' w'=>∃x',I x' a' w'∧μ x'<μ x) Q) a w):∀(n:Nat) (x:X) (a:Act) (w:World),μ x=n→I x a w→LoopWp P Q c a w:=by
  intro n
  induction n using Nat.strongRecOn with
  |_ n ih=>
   intro x a w hn hI b k cs
   obtain ⟨e,a₁,w₁,hq,harr⟩:=round x a w hI b (.inLoop c::k) cs
   cases e with
   |normal=>
    obtain ⟨x',hI₁,hlt⟩:=hq
    obtain ⟨e₂,a₂,w₂,hq₂,harr₂⟩:=ih (μ x') (hn▸hlt) x' a₁ w₁ rfl hI₁ b k cs
    exact ⟨e₂,a₂,w₂,hq₂,.of_steps (Steps.trans harr (.one step_inLoop)) harr₂⟩
   |exit id=>exact ⟨_,a₁,w₁,hq,.pass (x:=.inLoop c) rfl (fun _ _=>.inl (by simp)) harr⟩
   |goto l=>exact ⟨_,a₁,w₁,hq,.pass (x:=.inLoop c) rfl (fun _ _=>.inl (by simp)) harr⟩
   |ret=>exact ⟨_,a₁,w₁,hq,.pass (x:=.inLoop c) rfl (fun _ _=>.inl (by simp)) harr⟩
   |panic ch=>exact ⟨_,a₁,w₁,hq,.pass (x:=.inLoop c) rfl (fun _ _=>.inl (by simp)) harr⟩
   |outgrown=>exact ⟨_,a₁,w₁,hq,.pass (x:=.inLoop c) rfl (fun _ _=>.inl (by simp)) harr⟩
theorem dels_iff:∀{W:List Nat} {S:Store} {K:Store→Prop},delsS W S K→∃S',K S'
  |[],S,K,h=>⟨S,h⟩
  |w::W,S,K,h=>by
   simp only [delsS] at h
   split at h
   · obtain ⟨S1,h1,_⟩:=del_store h
     exact dels_iff h1
   · exact dels_iff h
theorem exK_sound (hty:TyOk P TY) {F:Spec} (hF:SpecOk P F) (hm:P.follows .mixedOrders=true):∀(c:Code) {T:List AV} {S:Store} {ρ:Env} {M:Msk} {w:World} {a:Act} {Q:EX→List AV→Store→Prop} {R:Exit→Act→World→Prop},
    exK TY F c T S Q→St M0 ρ M S w→Tm ρ w M T a→(∀e a w,End w0 M0 T.length (Q e) a w→R (exitOf e) a w)→c.wp P R a w
  |.skip,T,S,ρ,M,w,a,Q,R,h,st,tm,hR=>wp_skip (hR .normal a w ⟨ρ,M,T,S,h,st,tm,rfl⟩)
  |.ret,T,S,ρ,M,w,a,Q,R,h,st,tm,hR=>wp_ret (hR .ret a w ⟨ρ,M,T,S,h,st,tm,rfl⟩)
  |.exit id,T,S,ρ,M,w,a,Q,R,h,st,tm,hR=>wp_exit (hR (.exit id) a w ⟨ρ,M,T,S,h,st,tm,rfl⟩)
  |.region id ops false,T,S,ρ,M,w,a,Q,R,h,st,tm,hR=>wp_region (by
     have:=opsK_sound (Q:=R) hty hF (ops:=ops) ops.toList 0 rfl h st tm (fun a w hE=>hR .normal a w hE)
     rw [List.range_eq_range',←Array.length_toList];exact this)
  |.region id ops true,T,S,ρ,M,w,a,Q,R,h,st,tm,hR=>by
   rcases h with ⟨g,hok,h⟩|⟨t,hok,h⟩
   · exact draw_sound hty hF hm hok h st tm (fun a w hE=>hR .normal a w hE)
   · exact schAll_sound hty hF hm hok h st tm (fun a w hE=>hR .normal a w hE)
  |.seq x y,T,S,ρ,M,w,a,Q,R,h,st,tm,hR=>wp_seq (exK_sound hty hF hm x h st tm fun e a w hE=>by
     obtain ⟨ρ',M',T',S',h1,h2,h3,h4⟩:=hE
     cases e with
     |normal=>exact exK_sound hty hF hm y h1 h2 h3 fun e a w hE=>hR e a w (by rw [h4] at hE;exact hE)
     |exit i=>exact hR (.exit i) a w ⟨ρ',M',T',S',h1,h2,h3,h4⟩
     |ret=>exact hR .ret a w ⟨ρ',M',T',S',h1,h2,h3,h4⟩)
  |.cond c x y,T,S,ρ,M,w,a,Q,R,h,st,tm,hR=>by
   simp only [exK,eval_iff] at h
   have hv:=eval_rep tm c
   split at h
   · rename_i e he
     rw [he] at hv
     have hv:a.eval c= .bool e.val:=hv
     have h1:=split_val h
     refine wp_cond hv ?_
     cases hb:e.val with
     |true=>rw [hb] at h1;exact exK_sound hty hF hm x h1 st tm hR
     |false=>rw [hb] at h1;exact exK_sound hty hF hm y h1 st tm hR
   · rename_i t n he
     rw [he] at hv
     obtain ⟨b,hv,hn⟩:=hv
     have hv:a.eval c= .bool b:=hv
     refine wp_cond hv ?_
     cases t<;>cases b
     · exact exK_sound hty hF hm y (h.2 (hn rfl)) st tm hR
     · exact exK_sound hty hF hm x h.1 st tm hR
     · exact exK_sound hty hF hm y h.2 st tm hR
     · exact exK_sound hty hF hm x (h.1 (hn rfl)) st tm hR
   · exact h.elim
  |.block id x,T,S,ρ,M,w,a,Q,R,h,st,tm,hR=>wp_block (exK_sound hty hF hm x h st tm fun e a w hE=>by
     obtain ⟨ρ',M',T',S',h1,h2,h3,h4⟩:=hE
     cases e with
     |normal=>exact hR .normal a w ⟨ρ',M',T',S',h1,h2,h3,h4⟩
     |ret=>exact hR .ret a w ⟨ρ',M',T',S',h1,h2,h3,h4⟩
     |exit j=>
      simp only [exitOf,Exit.inBlock]
      cases hb:Nat.beq j id with
      |true=>
       rw [if_pos (beq_iff'.1 hb)]
       simp only [hb] at h1
       exact hR .normal a w ⟨ρ',M',T',S',h1,h2,h3,h4⟩
      |false=>
       rw [if_neg (beq_false hb)]
       simp only [hb] at h1
       exact hR (.exit j) a w ⟨ρ',M',T',S',h1,h2,h3,h4⟩)
  |.scope x,T,S,ρ,M,w,a,Q,R,h,st,tm,hR=>wp_scope_straight (exK_sound hty hF hm x h st tm fun e a w hE=>by
     have:=hR e a w hE
     cases e<;>exact this)
  |.loop x,T00,SI0,ρ0,M00,w00,a00,Q,R,h00,st00,tm00,hR0=>by
   have base:∀{T:List AV} {SI:Store} {ρ:Env} {M:Msk} {w:World} {a:Act} {W:List Nat},loopK (exK TY F x) (writes x []) W T SI Q→St M0 ρ M SI w→Tm ρ w M T a→(∀e a w,End w0 M0 T.length (Q e) a w→R (exitOf e) a w)→LoopWp P R x a w:=by
     intro T SI ρ M w a W h st tm hR
     unfold loopK at h
     obtain ⟨S,h⟩:=dels_iff h
     obtain ⟨T0,h,hl0,hf0⟩:=forget_iff h
     obtain ⟨X,U,V,ok,μ,x0,⟨hok0,h0⟩,hround⟩:=h
     let I:X→Act→World→Prop:=fun x a w=>ok x∧∃ρ M T1 S1,(∀K,updK (U x) T0 K→K T1)∧(∀K,updS (V x) S K→K S1)∧T1.length=T0.length∧St M0 ρ M S1 w∧Tm ρ w M T1 a
     have enter:∀{x':X} {T2:List AV} {S2:Store} {ρ2:Env} {M2:Msk} {w:World} {a:Act},ok x'→St M0 ρ2 M2 S2 w→Tm ρ2 w M2 T2 a→T0.length=T2.length→(∀j,nth T0 j=nth T2 j∨nth T0 j= .any)→
         (updS (V x') S fun S3=>ifK (namesT S3 T0) (leU S2 S3 T2 (U x')∧leS S2 S3 S3))→(∃T1,T1.length=T0.length∧(∀K,updK (U x') T0 K→K T1)∧∀j,nth T1 j=nth T0 j∨∃v,(j,v)∈U x'∧nth T1 j=v)→I x' a w:=by
       intro x' T2 S2 ρ2 M2 w a hok st tm hl hf h ⟨T1,hl1,hT1,hu⟩
       obtain ⟨S3,h1,h2⟩:=updS_iff h
       rw [ifK_iff] at h1
       obtain ⟨g1,g2⟩:=head_of st tm hl hl1 hf hu h1.1 h1.2.1 h1.2.2
       exact ⟨hok,_,_,T1,S3,hT1,h2,hl1,g1,g2⟩
     have tab:∀x',∃T1,T1.length=T0.length∧(∀K,updK (U x') T0 K→K T1)∧∀j,nth T1 j=nth T0 j∨∃v,(j,v)∈U x'∧nth T1 j=v:=by
       intro x'
       have hex:updK (U x') T0 fun _=>True:=by
         have:∀(U:List (Nat × AV)) (T:List AV),updK U T fun _=>True:=by
           intro U
           induction U with
           |nil=>exact fun _=>trivial
           |cons e U ih=>intro T;simp only [updK,put_iff];exact ih _
         exact this _ _
       obtain ⟨T1,_,h2⟩:=det_upd hex
       obtain ⟨T1',h3,h4,h5⟩:=upd_iff (h2 (fun T=>T=T1) |> fun _=>hex)
       have hlen:=h2 (fun T=>T.length=T0.length∧∀j,nth T j=nth T0 j∨∃v,(j,v)∈U x'∧nth T j=v) (by
         have:∀(U:List (Nat × AV)) (T:List AV) (K:List AV→Prop),(∀T',T'.length=T.length→(∀j,nth T' j=nth T j∨∃v,(j,v)∈U∧nth T' j=v)→K T')→updK U T K:=by
           intro U
           induction U with
           |nil=>exact fun T K h=>h T rfl fun j=>.inl rfl
           |cons e U ih=>
            intro T K h
            simp only [updK,put_iff]
            refine ih _ _ fun T' h1 h2=>h T' (by rw [h1];simp) fun j=>?_
            rcases h2 j with h3|⟨v,h3,h4⟩
            · rw [h3,nth_set]
              split
              · rename_i hj;obtain ⟨rfl,_⟩:=hj;exact .inr ⟨e.2,by simp,rfl⟩
              · exact .inl rfl
            · exact .inr ⟨v,List.mem_cons_of_mem _ h3,h4⟩
         exact this _ _ _ fun T' h1 h2=>⟨h1,h2⟩)
       exact ⟨T1,hlen.1,h2,hlen.2⟩
     have rnd:∀x1 a w,I x1 a w→x.wp P (Exit.then (fun a' w'=>∃x',I x' a' w'∧μ x'<μ x1) R) a w:=fun x1 a w ⟨hok,ρ1,M1,T1,S1,hT1,hS1,hlen1,st1,tm1⟩=>by
       have hr:=hS1 _ (hT1 _ (hround x1 hok))
       refine exK_sound hty hF hm x hr st1 tm1 fun e a w ⟨ρ2,M2,T2,S2,h1,h2,h3,h4⟩=>?_
       cases e with
       |normal=>
        obtain ⟨T3,h5,hl3,hf3⟩:=forget_iff h1
        obtain ⟨x',⟨hok',hlt⟩,rfl,h6⟩:=h5
        exact ⟨x',enter hok' h2 h3 hl3 hf3 h6 (tab x'),hlt⟩
       |exit i=>exact hR (.exit i) a w ⟨ρ2,M2,T2,S2,h1,h2,h3,by rw [h4,hlen1,hl0]⟩
       |ret=>exact hR .ret a w ⟨ρ2,M2,T2,S2,h1,h2,h3,by rw [h4,hlen1,hl0]⟩
     exact loopWp_ix I μ rnd _ x0 _ _ rfl (enter hok0 st tm hl0 hf0 h0 (tab x0))
   obtain ⟨W,h⟩:=h00
   split at h
   · refine (LoopWp.once (exK_sound hty hF hm x h st00 tm00 fun e a w ⟨ρ2,M2,T2,S2,h1,h2,h3,h4⟩=>?_)).wp
     cases e with
     |normal=>
      obtain ⟨W,h1⟩:=h1
      exact base h1 h2 h3 fun e a w hE=>hR0 e a w (by rw [h4] at hE;exact hE)
     |exit i=>exact hR0 (.exit i) a w ⟨ρ2,M2,T2,S2,h1,h2,h3,h4⟩
     |ret=>exact hR0 .ret a w ⟨ρ2,M2,T2,S2,h1,h2,h3,h4⟩
   · exact (base h st00 tm00 hR0).wp
  |.label _,_,_,_,_,_,_,_,_,h,_,_,_=>h.elim
  |.goto _,_,_,_,_,_,_,_,_,h,_,_,_=>h.elim
end
end Go.AM
end
section
namespace Go.AM
open Go
section
variable {P:Program} {TY:List TyE} {w0 w:World} {M0:Base w0} {ρ:Env} {M:Msk} {S S':Store}
theorem cleanA_none {ρ:Env} {a:AV} {v:Value} (hc:cleanA a=true):((∀l,a≠.agg l)→(∀l,a≠.tup l)→(∀f l,a≠.fn f l)→RepT ρ w M a v→RepT noEnv w M a v)∧((∀l,a≠.agg l)→RepG ρ w M a v→RepG noEnv w M a v)∧(RepC ρ w M a v→RepC noEnv w M a v):=by
  cases a with
  |vec k=>cases hc
  |ptr k o=>cases hc
  |vptr k o=>cases hc
  |cptr k o c=>cases hc
  |vsuf k o=>cases hc
  |full r=>cases hc
  |row k i=>cases hc
  |gptr k i j=>cases hc
  |agg l=>exact ⟨fun h=>absurd rfl (h l),fun h=>absurd rfl (h l),fun hv=>hv.elim⟩
  |tup l=>cases hc
  |fn f l=>
   cases l with
   |nil=>exact ⟨fun _ _ h=>absurd rfl (h f []),fun _=>id,id⟩
   |cons x l=>cases hc
  |_=>exact ⟨fun _ _ _=>id,fun _=>id,id⟩
theorem cleanL_none {ρ:Env}:∀{l:List AV} {vs:List Value},cleanL l=true→RepL (RepC ρ w M) l vs→RepL (RepC noEnv w M) l vs
  |[],[],_,_=>trivial
  |a::l,v::vs,hn,hv=>by
   simp only [cleanL] at hn
   split at hn
   · rename_i ha;exact ⟨(cleanA_none ha).2.2 hv.1,cleanL_none hn hv.2⟩
   · cases hn
  |[],_::_,_,hv=>hv.elim
  |_::_,[],_,hv=>hv.elim
def cleanT (b:AV):Bool:=match b with|.agg m=>cleanL m|b=>cleanA b
theorem cleanG_cons {a:AV} {l:List AV} (h:cleanG (a::l)=true):cleanT a=true∧cleanG l=true:=by
  cases a<;>simp only [cleanG] at h<;>(split at h)<;>first|exact ⟨by assumption,h⟩|cases h
theorem leR_sound (hfresh:∀b k,hasB ρ k b→w0.heap.size≤b) (st:St M0 ρ M S w) {a b:AV} {v:Value} (h:leR S S' a b) (hc:cleanT b=true) (hS:∀k B,findS S' k=some B→∃l,B= .box l) (hv:RepT ρ w M a v)
    (hnew:∀k r,a= .vec k→b= .new r→(findS S' k).isSome):RepRc w0 w (entM S' ρ M) b v:=by
  have hk:=ent_keep S' ρ w M
  cases b with
  |new r'=>
   cases a<;>try exact h.elim
   · rename_i k
     simp only [leR] at h
     split at h
     · rename_i wm r hf
       obtain ⟨rfl,rfl⟩:=h
       obtain ⟨o,h1,h2⟩:=hv
       obtain ⟨⟨o',g1,g2,g3,g4,g5,g6⟩,_⟩:=st.blk k _ hf
       obtain rfl:=sli_sl g1 h1
       replace h1:=g1
       refine ⟨o,h2,⟨by rw [dn_len];exact g2,by rw [dn_sz];exact g3,by rw [dn_len];exact g4,Nat.zero_le _,?_⟩,fun b hb=>hfresh b k (by simp [hasB,h1,Own.has,hb])⟩
       cases hbl:o.blk with
       |none=>simp only [hbl] at g6 ⊢;rw [dn_len];exact g6
       |some b=>
        simp only [hbl] at g6 ⊢
        obtain ⟨g7,cs,ty,g8,g9,g10,g11⟩:=g6
        refine ⟨g7,cs,ty,g8,g9,fun off=>?_,fun q hq=>?_⟩
        · rw [←g10 off]
          refine ⟨fun hm=>hm.1,fun hm=>⟨hm,fun j hj=>?_⟩⟩
          have hbk:hasB ρ k b:=by simp [hasB,h1,Own.has,hbl]
          obtain rfl:=st.inj _ _ _ hj hbk
          obtain ⟨B,hB⟩:=Option.isSome_iff_exists.1 (hnew _ _ rfl rfl)
          obtain ⟨l,rfl⟩:=hS _ _ hB
          exact ⟨_,hB,fun wm r ov he=>by cases he⟩
        · obtain ⟨c,g12,g13⟩:=g11 q (by simpa [RO.cells,dn_len,dn_sz] using hq);exact ⟨c,g12,dn_cell (CellP.keep hk g13)⟩
     · exact h.elim
   · have hv:v= .slice none 0 0:=hv
     have h:r'.len=0:=h
     exact ⟨⟨none,0,0,r'.sz⟩,by rw [hv];rfl,⟨h.symm,rfl,by rw [h];exact Nat.zero_le _,Nat.zero_le _,h,rfl⟩,fun b hb=>by cases hb⟩
  |agg m=>
   have h:leT S S' a (.agg m):=h
   obtain ⟨cs,h1,h2⟩:=entT st h hv
   exact ⟨cs,h1,cleanL_none hc h2⟩
  |tup m=>cases hc
  |fn f m=>
   cases m with
   |cons=>cases hc
   |nil=>
    have h:leT S S' a (.fn f []):=h
    obtain ⟨cs,h1,h2⟩:=entT st h hv
    have:cs= #[]:=by
      obtain ⟨l⟩:=cs
      cases l with
      |nil=>rfl
      |cons=>exact h2.elim
    subst this
    exact h1
  |_=>
   simp only [leR] at h
   have h1:=entT st h hv
   first
     |exact (cleanA_none hc).1 (by simp) (by simp) (by simp) h1
     |trivial
theorem leRs_sound (hfresh:∀b k,hasB ρ k b→w0.heap.size≤b) (st:St M0 ρ M S w) (hS:∀k B,findS S' k=some B→∃l,B= .box l):∀{as bs:List AV} {vs:List Value},leRs S S' as bs→cleanG bs=true→RepL (RepT ρ w M) as vs→
    (∀k r,(AV.vec k,AV.new r)∈as.zip bs→(findS S' k).isSome)→RepL (RepRc w0 w (entM S' ρ M)) bs vs
  |[],[],_,_,_,h,_=>by cases ‹List Value›<;>exact h
  |a::as,b::bs,v::vs,h,hc,hv,hn=>by
   obtain ⟨h1,h2⟩:=cleanG_cons hc
   refine ⟨leR_sound hfresh st h.1 h1 hS hv.1 fun k r e1 e2=>hn k r (by subst e1;subst e2;simp),leRs_sound hfresh st hS h.2 h2 hv.2 fun k r hm=>hn k r (by simp at hm ⊢;exact .inr hm)⟩
  |[],_::_,_,h,_,_,_=>h.elim
  |_::_,[],_,h,_,_,_=>h.elim
  |_::_,_::_,[],_,_,hv,_=>hv.elim
theorem newKey_box:∀(as rs:List AV) (k:Nat) (B:Blk),(k,B)∈newKey as rs→B= .box []
  |[],_,_,_,h=>by simp [newKey] at h
  |_::_,[],_,_,h=>by
   rename_i a _
   cases a<;>simp [newKey] at h
  |a::as,r::rs,k,B,h=>by
   have go:(k,B)∈newKey as rs→B= .box []:=newKey_box as rs k B
   cases a<;>cases r<;>simp only [newKey] at h<;>first
     |exact go h
     |(split at h
       · simp at h;exact h.2
       · rcases List.mem_cons.1 h with he|he
         · cases he;rfl
         · exact go he)
theorem newKey_mem:∀(as rs:List AV) (k:Nat) (r:RO),(AV.vec k,AV.new r)∈as.zip rs→∃B,(k,B)∈newKey as rs
  |[],_,_,_,h=>by simp at h
  |_::_,[],_,_,h=>by simp at h
  |a::as,b::rs,k,r,h=>by
   simp only [List.zip_cons_cons,List.mem_cons] at h
   rcases h with h|h
   · cases h
     simp only [newKey]
     split
     · exact ⟨_,List.mem_singleton.2 rfl⟩
     · exact ⟨_,by simp;exact .inl rfl⟩
   · obtain ⟨B,hB⟩:=newKey_mem as rs k r h
     have lift:∃B,(k,B)∈newKey (a::as) (b::rs):=by
       cases a<;>cases b<;>simp only [newKey]<;>first
         |exact ⟨B,hB⟩
         |(split
           · rename_i he;rw [he] at hB;cases hB
           · exact ⟨B,List.mem_cons_of_mem _ hB⟩)
     exact lift
def resOne (tmps:Array Value):ResultVar→Sem Value
  |.tmp t=>pure (tmps.getD t undef)
  |.cell a t=>do loadVar t (←asAddr (tmps.getD a undef))
theorem resOne_cell (hty:TyOk P TY) {t ty k off:Nat} {T:List AV} {a:Act} {b:List AV} {K:AV→Prop} (hT:nth T t= .ptr k off) (hf:findS S k=some (.box b)) (h:partK TY ty b off K):
    ∃v,K v∧∀{ρ:Env} {w:World} {M:Msk},St M0 ρ M S w→Tm ρ w M T a→∃u,(resOne a.tmps (.cell t ty)).run P w= .ok u w∧RepT ρ w M v u:=by
  obtain ⟨v,hK,hlen,hv⟩:=part_iff h
  refine ⟨v,hK,fun {ρ w M} st tm=>?_⟩
  have htm:=tm.tmp t
  rw [hT] at htm
  have htm:(ρ k).bind (Own.ref · off)=some (a.tmps.getD t undef):=htm
  obtain ⟨b0,h3,cs,tyy,h4,h5,h6⟩:=st.blk k _ hf
  have h2:=ref_bx h3 htm
  have hsize:b.length=cs.size:=by rw [RepL.length h6,Array.length_toList]
  rcases hv with ⟨hag,rfl⟩|⟨hag,hs,rfl⟩
  · have hrow:=hty.at (t:=ty) (.inr (fun e=>by rw [e] at hag;cases hag))
    refine ⟨.agg ((cs.toList.drop off).take (nthT TY ty).sz).toArray,?_,⟨_,rfl,by simpa using (h6.drop off).take _⟩⟩
    have:=run_loadN (P:=P) (w:=w) (b:=b0) (off:=off) (cs:=(cs.toList.drop off).take (nthT TY ty).sz) hrow hag (by simp;omega) (fun j c hj=>by
      rw [List.getElem?_take] at hj
      split at hj
      · rw [List.getElem?_drop,Array.getElem?_toList] at hj;rw [cell_of_heap h4];exact hj
      · cases hj)
    simp only [Instr.loadAt,Instr.sureAddr] at this
    simp only [resOne,h2,asAddr]
    simpa using this
  · have hrow:=hty.at (t:=ty) (.inl (by rw [hs];decide))
    obtain ⟨c,h7,h8⟩:=h6.get off (by omega)
    refine ⟨c,?_,repT_of_repC h8⟩
    have:=run_load1 (P:=P) (w:=w) (b:=b0) (off:=off) hrow hag (c:=c) (by rw [cell_of_heap h4];simpa using h7)
    simp only [Instr.loadAt,Instr.sureAddr] at this
    simp only [resOne,h2,asAddr]
    simpa using this
theorem res_iff (hty:TyOk P TY) {T:List AV} {a:Act}:∀{l:List ResultVar} {K:List AV→Prop},resK TY T S l K→
    ∃as,K as∧∀{ρ:Env} {w:World} {M:Msk},St M0 ρ M S w→Tm ρ w M T a→∃vs,(l.mapM (resOne a.tmps)).run P w= .ok vs w∧RepL (RepT ρ w M) as vs
  |[],K,h=>⟨[],h,fun _ _=>⟨[],by simp,trivial⟩⟩
  |.tmp t::l,K,h=>by
   simp only [resK,force_iff] at h
   obtain ⟨as,h1,h2⟩:=res_iff hty h
   refine ⟨nth T t::as,h1,fun {ρ w M} st tm=>?_⟩
   obtain ⟨vs,h3,h4⟩:=h2 st tm
   exact ⟨a.tmps.getD t undef::vs,by simp [resOne,h3],tm.tmp t,h4⟩
  |.cell t ty::l,K,h=>by
   simp only [resK] at h
   split at h
   · rename_i k off hT
     split at h
     · rename_i b hf
       obtain ⟨v,h1,h2⟩:=resOne_cell (M0:=M0) (w0:=w0) (a:=a) hty hT hf h
       obtain ⟨as,h3,h4⟩:=res_iff hty h1
       refine ⟨v::as,h3,fun {ρ w M} st tm=>?_⟩
       obtain ⟨u,h5,h6⟩:=h2 st tm
       obtain ⟨vs,h7,h8⟩:=h4 st tm
       exact ⟨u::vs,by simp [h5,h7],h6,h8⟩
     · exact h.elim
   · exact h.elim
def resV (vs:List Value):Value:=match vs with|[v]=>v|vs=>.tuple vs.toArray
theorem res_run {fn:Func} {tmps:Array Value} {vs:List Value} {w:World} (h:(fn.results.toList.mapM (resOne tmps)).run P w= .ok vs w):(results fn tmps).run P w= .ok (resV vs) w:=by
  have he:fn.results=fn.results.toList.toArray:=by simp
  have e1:results fn tmps=(fn.results.mapM (resOne tmps)>>=fun vs=>pure (if h:vs.size=1 then vs[0] else .tuple vs)):=by
    unfold results
    congr 1
  rw [e1,he,List.mapM_toArray]
  match vs,h with
  |[],h=>simp [h,resV]
  |[v],h=>simp [h,resV]
  |u::v::vs,h=>simp [h,resV]
theorem nth_app:∀(l m:List AV) (i:Nat),nth (appA l m) i=if i<l.length then nth l i else nth m (i - l.length)
  |[],m,i=>by simp [appA]
  |_::_,m,0=>by simp [appA,nth]
  |a::l,m,i+1=>by
   simp only [appA,nth,nth_app l m i,List.length_cons]
   by_cases h:i<l.length
   · simp [h]
   · simp [h]
theorem nth_repl:∀(n i:Nat),nth (repl n) i= .any
  |0,_=>rfl
  |_+1,0=>rfl
  |n+1,i+1=>nth_repl n i
theorem len_repl:∀n,(repl n).length=n
  |0=>rfl|n+1=>by simp [repl,len_repl n]
theorem drop_eq:∀(n:Nat) (l:List AV),dropN n l=n - l.length
  |n,[]=>by simp [dropN]
  |0,_::_=>by simp [dropN]
  |n+1,_::l=>by simp [dropN,drop_eq n l]
theorem in_range {k:IntKind} {n:Int} (h:inK k n):rangeK k n:=by cases k<;>exact h
theorem mem_D {α:Type} {l:List α} {d:α} {p:α→Prop} (h:∀q,q<l.length→p (l.getD q d)):∀x∈l,p x:=fun x hx=>by
  obtain ⟨q,hq,rfl⟩:=List.mem_iff_getElem.1 hx
  have:=h q hq
  simpa [List.getD,hq] using this
theorem sl_all {n m:Nat} {C:Nat→Value→Prop} {v:Value} (h:SlOf w M n C m v):∀q,q<n→∃c,C q c:=fun q hq=>by
  obtain ⟨a,cap,_,_,h⟩:=h
  rcases h with h|⟨b,off,_,h⟩
  · omega
  · obtain ⟨c,_,_,h3⟩:=h q hq;exact ⟨c,h3⟩
theorem facts_ints {k:IntKind} {l:List Int} {v:Value} (h:SlI w M k l v):l.length≤LB∧∀x∈l,rangeK k x:=
  ⟨h.1,mem_D (d:=0) fun q hq=>by obtain ⟨c,h1⟩:=sl_all h.2 q hq;exact in_range h1.2⟩
theorem facts_rows {k:IntKind} {l:List (List Int)} {v:Value} (h:Sl2 w M k l v):l.length≤LB∧∀m∈l,m.length≤LB∧∀x∈m,rangeK k x:=
  ⟨h.1,mem_D (d:=[]) fun q hq=>by obtain ⟨c,h1⟩:=sl_all h.2 q hq;exact facts_ints h1⟩
theorem facts_pairs {l:List (Int × Int)} {v:Value} (h:SlP w M l v):l.length≤LB∧∀p∈l,rangeK .i64 p.1∧rangeK .i64 p.2:=by
  refine ⟨h.1,mem_D (d:=(0,0)) fun q hq=>?_⟩
  obtain ⟨c,h1⟩:=sl_all h.2 (q*2) (by omega)
  obtain ⟨c',h2⟩:=sl_all h.2 (q*2+1) (by omega)
  simp only [Nat.mul_mod_left,if_true,Nat.mul_div_cancel _ (Nat.succ_pos 1)] at h1
  simp only [show (q*2+1) % 2=1 from by omega,show (q*2+1) / 2=q from by omega,Nat.one_ne_zero,if_false] at h2
  exact ⟨in_range h1.2,in_range h2.2⟩
theorem facts_ro {r:RO} {v:Value} (h:RepRO w M r v):factsR r:=by
  cases r with
  |ints k l=>exact facts_ints (rep_ints.1 h)
  |bools l=>exact h.1
  |gb l=>trivial
  |gi l=>trivial
  |rows k l=>exact facts_rows (rep_rows.1 h)
  |brows l=>exact ⟨h.1,mem_D (d:=[]) fun q hq=>by obtain ⟨c,h1⟩:=sl_all h.2 q (by simpa [RO.cells,RO.len,RO.sz] using hq);exact h1.1⟩
  |rows3 l=>exact ⟨h.1,mem_D (d:=[]) fun q hq=>by obtain ⟨c,h1⟩:=sl_all h.2 q (by simpa [RO.cells,RO.len,RO.sz] using hq);exact facts_rows h1⟩
  |prows l=>exact ⟨h.1,mem_D (d:=[]) fun q hq=>by obtain ⟨c,h1⟩:=sl_all h.2 q (by simpa [RO.cells,RO.len,RO.sz] using hq);exact facts_pairs h1⟩
  |nrows k l=>exact ⟨h.1,mem_D (d:=[]) fun q hq=>by obtain ⟨c,h1⟩:=sl_all h.2 q (by simpa [RO.cells,RO.len,RO.sz] using hq);exact facts_ints h1.1⟩
  |pairs l=>
   refine ⟨h.1,mem_D (d:=(0,0)) fun q hq=>?_⟩
   have hl:(RO.pairs l).cells=l.length*2:=rfl
   obtain ⟨c,h1⟩:=sl_all h.2 (q*2) (by rw [hl];omega)
   obtain ⟨c',h2⟩:=sl_all h.2 (q*2+1) (by rw [hl];omega)
   simp only [CellP] at h1 h2
   rw [if_pos (by omega),show q*2 / 2=q from by omega] at h1
   rw [if_neg (by omega),show (q*2+1) / 2=q from by omega] at h2
   exact ⟨in_range h1.2,in_range h2.2⟩
  |arrs n k l=>exact h.1
  |prins l=>exact h.1
  |strs l=>exact h.1
  |ruls l=>exact h.1
  |facs l=>
   refine ⟨h.1,mem_D (d:=(0,false)) fun q hq=>?_⟩
   have hl:(RO.facs l).cells=l.length*2:=rfl
   obtain ⟨c,h1⟩:=sl_all h.2 (q*2) (by rw [hl];omega)
   simp only [CellP] at h1
   rw [if_pos (by omega),show q*2 / 2=q from by omega] at h1
   exact in_range h1.2
theorem facts_C:∀{l:List AV} {vs:List Value},RepL (RepC ρ w M) l vs→factsC l
  |[],_,_=>trivial
  |a::l,v::vs,h=>⟨by
    have h1:=h.1
    cases a<;>first|exact in_range h1.2|exact facts_ro h1|trivial,facts_C h.2⟩
  |_::_,[],h=>h.elim
theorem facts_L:∀{l:List AV} {vs:List Value},RepL (RepT ρ w M) l vs→factsL l
  |[],_,_=>trivial
  |a::l,v::vs,h=>⟨by
    have h1:=h.1
    cases a<;>first|exact in_range h1.2|exact facts_ro h1|(obtain ⟨cs,_,h2⟩:=h1;exact facts_C h2)|trivial,facts_L h.2⟩
  |_::_,[],h=>h.elim
theorem mem_some:∀{S:Store} {k:Nat} {B:Blk},(k,B)∈S→(findS S k).isSome
  |(j,b)::S,k,B,h=>by
   rw [find_cons]
   split
   · rfl
   · rcases List.mem_cons.1 h with he|he
     · cases he;contradiction
     · exact mem_some he
theorem rets_sound (hfresh:∀b k,hasB ρ k b→w0.heap.size≤b) (st:St M0 ρ M S w) {as rs:List AV} {vs:List Value} (h:retsK S as rs) (hv:RepL (RepT ρ w M) as vs):cleanG rs=true∧RepL (RepRc w0 w (entM (newKey as rs) ρ M)) rs vs:=by
  have h':cleanG rs=true∧leRs S (newKey as rs) as rs:=by
    unfold retsK at h
    split at h
    · rename_i he;rw [he];exact ifK_iff.1 h
    · rename_i x he;rw [he];exact ifK_iff.1 h
    · exact h.elim
  refine ⟨h'.1,leRs_sound hfresh st (fun k B hB=>⟨[],mem_find hB (p:=fun _ B=>B= .box []) fun e he=>newKey_box as rs e.1 e.2 he⟩) h'.2 h'.1 hv fun k r hm=>?_⟩
  obtain ⟨B,hB⟩:=newKey_mem as rs k r hm
  exact mem_some hB
theorem repR_one {w w':World} {b:AV} {v:Value} (hc:cleanG [b]=true) (h:RepRc w w' M b v):RepR w w' M b v:=by
  cases b with
  |tup l=>exact absurd (cleanG_cons hc).1 (by simp [cleanT,cleanA])
  |fn f l=>
   cases l with
   |nil=>exact ⟨#[],h,trivial⟩
   |cons=>exact absurd (cleanG_cons hc).1 (by simp [cleanT,cleanA])
  |_=>exact h
theorem end_sound (hty:TyOk P TY) {fn:Func} {a:Act} {T:List AV} {ret:AV} {M0:Msk} {h0:lwP w0} (st:St (ownBase M0 w0 h0) ρ M S w) (tm:Tm ρ w M T a)
    (h:resK TY T S fn.results.toList fun as=>match as,ret with
        |[a],r=>retsK S [a] [r]
        |as,.tup rs=>retsK S as rs
        |_,_=>False):a.defers=[]∧∃v,(results fn a.tmps).run P w= .ok v w∧∃v',Ending.returned v= .returned v'∧Stp (fun _ _=>False) w0 w∧RetH M0 w0 w ret v':=by
  obtain ⟨as,h,hrun⟩:=res_iff (M0:=ownBase M0 w0 h0) (w0:=w0) (a:=a) hty h
  obtain ⟨vs,hrun,hrep⟩:=hrun st tm
  refine ⟨tm.defers,_,res_run hrun,_,rfl,st.stp.weaken (fun b off hh=>hh.1),?_⟩
  have hold:∀S'',∀b off,b<w0.heap.size→(entM S'' ρ M b off↔M0 b off):=fun S'' b off hb=>
    ⟨fun hm=>st.sub b off hb hm.1,fun hm=>⟨st.old b off hb (fun hh=>hh) hm,fun k hk=>absurd hk (st.notFresh hb (fun hh=>hh))⟩⟩
  have hlt:∀S'',∀b off,entM S'' ρ M b off→b<w.heap.size:=fun S'' b off hm=>st.mlt b off hm.1
  match as,vs,h,hrep with
  |[x],[v],h,hrep=>
   have h:retsK S [x] [ret]:=h
   obtain ⟨g1,g2⟩:=rets_sound (fun b k hb=>(st.fresh k b hb).elim id (fun hh=>hh.elim)) st h hrep
   exact ⟨_,hold _,hlt _,repR_one g1 g2.1⟩
  |[],[],h,hrep=>
   cases ret<;>try exact h.elim
   obtain ⟨g1,g2⟩:=rets_sound (fun b k hb=>(st.fresh k b hb).elim id (fun hh=>hh.elim)) st h hrep
   exact ⟨_,hold _,hlt _,_,rfl,by simpa using g2⟩
  |x::y::as,u::v::vs,h,hrep=>
   cases ret<;>try exact h.elim
   obtain ⟨g1,g2⟩:=rets_sound (fun b k hb=>(st.fresh k b hb).elim id (fun hh=>hh.elim)) st h hrep
   exact ⟨_,hold _,hlt _,_,rfl,by simpa using g2⟩
  |[_],[],_,hrep=>exact hrep.elim
  |[_],_::_::_,_,hrep=>exact hrep.2.elim
  |[],_::_,_,hrep=>exact hrep.elim
  |_::_::_,[],_,hrep=>exact hrep.elim
  |_::_::_,[_],_,hrep=>exact hrep.2.elim
theorem endE_sound (hty:TyOk P TY) {fn:Func} {a:Act} {T:List AV} {X:Type} {out:X→AV} {ok:X→Prop} {M0:Msk} {h0:lwP w0} (st:St (ownBase M0 w0 h0) ρ M S w) (tm:Tm ρ w M T a)
    (h:resK TY T S fn.results.toList fun as=>∃x,ok x∧match as,out x with
        |[a],r=>retsK S [a] [r]
        |as,.tup rs=>retsK S as rs
        |_,_=>False):a.defers=[]∧∃v,(results fn a.tmps).run P w= .ok v w∧∃x,ok x∧∃v',Ending.returned v= .returned v'∧Stp (fun _ _=>False) w0 w∧RetH M0 w0 w (out x) v':=by
  obtain ⟨as,⟨x0,hok,h⟩,hrun⟩:=res_iff (M0:=ownBase M0 w0 h0) (w0:=w0) (a:=a) hty h
  obtain ⟨vs,hrun,hrep⟩:=hrun st tm
  refine ⟨tm.defers,_,res_run hrun,x0,hok,_,rfl,st.stp.weaken (fun b off hh=>hh.1),?_⟩
  have hold:∀S'',∀b off,b<w0.heap.size→(entM S'' ρ M b off↔M0 b off):=fun S'' b off hb=>
    ⟨fun hm=>st.sub b off hb hm.1,fun hm=>⟨st.old b off hb (fun hh=>hh) hm,fun k hk=>absurd hk (st.notFresh hb (fun hh=>hh))⟩⟩
  have hlt:∀S'',∀b off,entM S'' ρ M b off→b<w.heap.size:=fun S'' b off hm=>st.mlt b off hm.1
  generalize out x0=ret at h ⊢
  match as,vs,h,hrep with
  |[x],[v],h,hrep=>
   have h:retsK S [x] [ret]:=h
   obtain ⟨g1,g2⟩:=rets_sound (fun b k hb=>(st.fresh k b hb).elim id (fun hh=>hh.elim)) st h hrep
   exact ⟨_,hold _,hlt _,repR_one g1 g2.1⟩
  |[],[],h,hrep=>
   cases ret<;>try exact h.elim
   obtain ⟨g1,g2⟩:=rets_sound (fun b k hb=>(st.fresh k b hb).elim id (fun hh=>hh.elim)) st h hrep
   exact ⟨_,hold _,hlt _,_,rfl,by simpa using g2⟩
  |x::y::as,u::v::vs,h,hrep=>
   cases ret<;>try exact h.elim
   obtain ⟨g1,g2⟩:=rets_sound (fun b k hb=>(st.fresh k b hb).elim id (fun hh=>hh.elim)) st h hrep
   exact ⟨_,hold _,hlt _,_,rfl,by simpa using g2⟩
  |[_],[],_,hrep=>exact hrep.elim
  |[_],_::_::_,_,hrep=>exact hrep.2.elim
  |[],_::_,_,hrep=>exact hrep.elim
  |_::_::_,[],_,hrep=>exact hrep.elim
  |_::_::_,[_],_,hrep=>exact hrep.2.elim
theorem fn_of_ex (hty:TyOk P TY) {F:Spec} (hF:SpecOk P F) (hm:P.follows .mixedOrders=true) {f:FuncId} {fn:Func} (hf:P.funcs[f]? =some fn) (hname:fn.name≠ "runtime.NumGoroutine") (hb:fn.body.isSome=true)
    {args:List AV} {ret:AV} (_hlen:args.length≤fn.ntmps) (h:factsL args→fnK TY F fn args ret):Fn P f args ret:=by
  refine ⟨⟨fn,hf,hname,hb⟩,fun M w vs hlw hM hv=>?_⟩
  have h:=h (facts_L hv)
  obtain ⟨c,hc⟩:=Option.isSome_iff_exists.1 hb
  simp only [fnK,hc] at h
  refine calls_of_wp hf hc ?_
  have hvl:args.length=vs.length:=hv.length
  refine exK_sound hty hF hm c h (M0:=ownBase M w hlw) (w0:=w) (ρ:=noEnv) (M:=M)
    ⟨fun k=>rfl,fun k B hB=>(by cases hB),fun i j b hi _=>(by cases hi),hM,Stp.refl _ _,fun b off _ hm=>hm,fun b off _ _ hm=>hm,fun k b hk=>(by cases hk),fun k o _ hk=>(by cases hk)⟩
    ⟨rfl,?_,fun i=>?_⟩ fun e a w' hE=>?_
  · simp [evalF_app,len_repl,drop_eq,hvl]
  · rw [nth_app]
    split
    · rename_i hi
      obtain ⟨v,h1,h2⟩:=hv.get i hi
      have:(vs.toArray++Array.replicate (fn.ntmps - vs.toArray.size) undef).getD i undef=v:=by
        rw [Array.getD_eq_getD_getElem?,Array.getElem?_append_left (by simp;omega)]
        simp [h1]
      rw [this];exact h2
    · rw [nth_repl];trivial
  · obtain ⟨ρ',M',T,S,h1,st,tm,_⟩:=hE
    cases e with
    |exit i=>exact h1.elim
    |normal=>exact end_sound hty st tm h1
    |ret=>exact end_sound hty st tm h1
theorem fnE_of_ex (hty:TyOk P TY) {F:Spec} (hF:SpecOk P F) (hm:P.follows .mixedOrders=true) {f:FuncId} {fn:Func} (hf:P.funcs[f]? =some fn) (hname:fn.name≠ "runtime.NumGoroutine") (hb:fn.body.isSome=true)
    {args:List AV} {X:Type} {out:X→AV} {ok:X→Prop} (_hlen:args.length≤fn.ntmps) (h:factsL args→fnEK TY F fn args out ok):FnE P f args X out ok:=by
  refine ⟨⟨fn,hf,hname,hb⟩,fun M w vs hlw hM hv=>?_⟩
  have h:=h (facts_L hv)
  obtain ⟨c,hc⟩:=Option.isSome_iff_exists.1 hb
  simp only [fnEK,hc] at h
  refine calls_of_wp hf hc ?_
  have hvl:args.length=vs.length:=hv.length
  refine exK_sound hty hF hm c h (M0:=ownBase M w hlw) (w0:=w) (ρ:=noEnv) (M:=M)
    ⟨fun k=>rfl,fun k B hB=>(by cases hB),fun i j b hi _=>(by cases hi),hM,Stp.refl _ _,fun b off _ hm=>hm,fun b off _ _ hm=>hm,fun k b hk=>(by cases hk),fun k o _ hk=>(by cases hk)⟩
    ⟨rfl,?_,fun i=>?_⟩ fun e a w' hE=>?_
  · simp [evalF_app,len_repl,drop_eq,hvl]
  · rw [nth_app]
    split
    · rename_i hi
      obtain ⟨v,h1,h2⟩:=hv.get i hi
      have:(vs.toArray++Array.replicate (fn.ntmps - vs.toArray.size) undef).getD i undef=v:=by
        rw [Array.getD_eq_getD_getElem?,Array.getElem?_append_left (by simp;omega)]
        simp [h1]
      rw [this];exact h2
    · rw [nth_repl];trivial
  · obtain ⟨ρ',M',T,S,h1,st,tm,_⟩:=hE
    have finE:∀{fn:Func} {a:Act} {w':World},(a.defers=[]∧∃v,(results fn a.tmps).run P w'= .ok v w'∧∃x,ok x∧∃v',Ending.returned v= .returned v'∧Stp (fun _ _=>False) w w'∧RetH M w w' (out x) v')→
        a.defers=[]∧∃v,(results fn a.tmps).run P w'= .ok v w'∧∃x,ok x∧∃v',Ending.returned v= .returned v'∧Stp (fun _ _=>False) w w'∧RetH M w w' (out x) v':=fun h=>h
    cases e with
    |exit i=>exact h1.elim
    |normal=>exact finE (endE_sound hty st tm h1)
    |ret=>exact finE (endE_sound hty st tm h1)
theorem leG_T (st:St M0 ρ M S w):∀{l m:List AV} {vs:List Value},leG S S' l m→RepL (RepT ρ w M) l vs→RepL (RepG (entE S S' ρ) w (entM S' ρ M)) m vs
  |[],[],vs,_,h=>by cases vs<;>exact h
  |a::l,b::m,v::vs,h,hv=>by
   refine ⟨?_,leG_T st h.2 hv.2⟩
   have h1:=h.1
   cases b with
   |agg y=>exact entT st (b:=.agg y) h1 hv.1
   |any=>trivial
   |tup y=>exact absurd h1 (by simp [leA])
   |fn f y=>
    cases y with
    |cons x l=>cases a<;>exact h1.elim
    |nil=>
     cases a<;>try exact h1.elim
     rename_i g m
     cases m<;>try exact h1.elim
     have h1:g=f:=h1
     subst h1
     obtain ⟨cs,hv1,hv2⟩:=hv.1
     have hcs:cs= #[]:=by
       obtain ⟨cl⟩:=cs
       cases cl with
       |nil=>rfl
       |cons=>exact hv2.elim
     subst hcs
     exact hv1
   |int k n=>exact entT st (b:=.int k n) h1 hv.1
   |bool e=>exact entT st (b:=.bool e) h1 hv.1
   |ro r=>exact entT st (b:=.ro r) h1 hv.1
   |vec k=>exact entT st (b:=.vec k) h1 hv.1
   |ptr k o=>exact entT st (b:=.ptr k o) h1 hv.1
   |rptr r i=>exact entT st (b:=.rptr r i) h1 hv.1
   |cfn f r i=>exact entT st (b:=.cfn f r i) h1 hv.1
   |may b n=>exact entT st (b:=.may b n) h1 hv.1
   |vptr k i=>exact entT st (b:=.vptr k i) h1 hv.1
   |cptr k i j=>exact entT st (b:=.cptr k i j) h1 hv.1
   |vsuf k i=>exact entT st (b:=.vsuf k i) h1 hv.1
   |full r=>exact entT st (b:=.full r) h1 hv.1
   |row k i=>exact entT st (b:=.row k i) h1 hv.1
   |gptr k i j=>exact entT st (b:=.gptr k i j) h1 hv.1
   |str l=>exact entT st (b:=.str l) h1 hv.1
   |nils=>exact entT st (b:=.nils) h1 hv.1
   |new r=>exact entT st (b:=.new r) h1 hv.1
  |[],_::_,_,h,_=>h.elim
  |_::_,[],_,h,_=>h.elim
  |_::_,_::_,[],_,hv=>hv.elim
theorem endM_sound (hty:TyOk P TY) {fn:Func} {a:Act} {T:List AV} {ret:AV} {S2:Store} (st:St M0 ρ M S w) (tm:Tm ρ w M T a)
    (h:resK TY T S fn.results.toList fun as=>leS S S2 S2∧match as,ret with
      |[a],r=>leT S S2 a r
      |as,.tup rs=>leG S S2 as rs
      |_,_=>False):a.defers=[]∧∃v,(results fn a.tmps).run P w= .ok v w∧∃v' ρ' M',Ending.returned v= .returned v'∧St M0 ρ' M' S2 w∧RepT ρ' w M' ret v':=by
  obtain ⟨as,⟨hS,h⟩,hrun⟩:=res_iff (M0:=M0) (w0:=w0) (a:=a) hty h
  obtain ⟨vs,hrun,hrep⟩:=hrun st tm
  refine ⟨tm.defers,_,res_run hrun,_,_,_,rfl,ent_st st hS,?_⟩
  match as,vs,h,hrep with
  |[x],[v],h,hrep=>exact entT st h hrep.1
  |[],[],h,hrep=>
   cases ret<;>try exact h.elim
   exact ⟨_,rfl,by simpa using leG_T st h hrep⟩
  |x::y::as,u::v::vs,h,hrep=>
   cases ret<;>try exact h.elim
   exact ⟨_,rfl,by simpa using leG_T st h hrep⟩
  |[_],[],_,hrep=>exact hrep.elim
  |[_],_::_::_,_,hrep=>exact hrep.2.elim
  |[],_::_,_,hrep=>exact hrep.elim
  |_::_::_,[],_,hrep=>exact hrep.elim
  |_::_::_,[_],_,hrep=>exact hrep.2.elim
theorem unstk_sound:∀{R:Store} {T:List AV} {S:Store} {K:List AV→Store→Prop} {a:Act} {ρ:Env},unstkK R T S K→St M0 ρ M S w→Tm ρ w M T a→
    ∃T' S' ρ',K T' S'∧St M0 ρ' M S' w∧Tm ρ' w M T' a∧T'.length=T.length
  |[],T,S,K,a,ρ,h,st,tm=>⟨T,S,ρ,h,st,tm,rfl⟩
  |(k,b)::R,T,S,K,a,ρ,h,st,tm=>by
   have skip:unstkK R T S K→∃T' S' ρ',K T' S'∧St M0 ρ' M S' w∧Tm ρ' w M T' a∧T'.length=T.length:=fun h=>unstk_sound h st tm
   cases b with
   |jnk n z=>
    simp only [unstkK] at h
    split at h
    · rename_i n0 r hf
      obtain ⟨o,cur,g1,g2,g3⟩:=st.blk k _ hf
      obtain ⟨T',S',ρ',q1,q2,q3,q4,_⟩:=reView_sound (ow':=.sl o) (B:=.jnk n0 r.sz) (K:=fun T S=>unstkK R T ((k,.jnk n0 r.sz)::S) K) h st tm g1 (fun b hb=>.inl hb) (fun _=>rfl) (fun ρ' hρ'=>⟨o,hρ',g3⟩)
      obtain ⟨T2,S2,ρ2,h1,h2,h3,h4⟩:=unstk_sound q1 q2 q3
      exact ⟨T2,S2,ρ2,h1,h2,h3,h4.trans q4⟩
    · exact skip h
   |_=>exact skip h
theorem fnM_of_ex (hty:TyOk P TY) {F:Spec} (hF:SpecOk P F) (hm:P.follows .mixedOrders=true) {f:FuncId} {fn:Func} (hf:P.funcs[f]? =some fn) (hname:fn.name≠ "runtime.NumGoroutine") (hb:fn.body.isSome=true)
    {args:List AV} {S1:Store} {ret:AV} {S2:Store} (_hlen:args.length≤fn.ntmps) (h:factsL args→fnMK TY F fn args S1 ret S2):FnM P f args S1 ret S2:=by
  refine ⟨⟨fn,hf,hname,hb⟩,fun ρ M w vs hlw st hv=>?_⟩
  have h:=h (facts_L hv)
  obtain ⟨c,hc⟩:=Option.isSome_iff_exists.1 hb
  simp only [fnMK,hc] at h
  refine calls_of_wp hf hc ?_
  have hvl:args.length=vs.length:=hv.length
  refine exK_sound hty hF hm c h (M0:=lentBase ρ M w hlw) (w0:=w) (ρ:=ρ) (M:=M) st
    ⟨rfl,?_,fun i=>?_⟩ fun e a w' hE=>?_
  · simp [evalF_app,len_repl,drop_eq,hvl]
  · rw [nth_app]
    split
    · rename_i hi
      obtain ⟨v,h1,h2⟩:=hv.get i hi
      have:(vs.toArray++Array.replicate (fn.ntmps - vs.toArray.size) undef).getD i undef=v:=by
        rw [Array.getD_eq_getD_getElem?,Array.getElem?_append_left (by simp;omega)]
        simp [h1]
      rw [this];exact h2
    · rw [nth_repl];trivial
  · obtain ⟨ρ',M',T,S,h1,st,tm,_⟩:=hE
    cases e with
    |exit i=>exact h1.elim
    |normal=>
     obtain ⟨T',S',ρ2,g1,g2,g3,_⟩:=unstk_sound h1 st tm
     exact endM_sound hty g2 g3 g1
    |ret=>
     obtain ⟨T',S',ρ2,g1,g2,g3,_⟩:=unstk_sound h1 st tm
     exact endM_sound hty g2 g3 g1
end
end Go.AM
end
