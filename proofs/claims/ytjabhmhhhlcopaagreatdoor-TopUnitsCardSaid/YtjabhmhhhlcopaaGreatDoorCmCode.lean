import Derived.Test.YtjabhmhhhlcopaaGreatDoorCmOps3
import Derived.Laws.IdiomStrings
import Derived.Laws.BytesArg
import Derived.MapKept
import Derived.Lib.UnsafeStr
import Derived.Lib.AppendStr
import Derived.ChangeKeysEq
import Derived.Test.YtjabhmhhhlcopaaGreatDoorAmRet
import Derived.Test.YtjabhmhhhlcopaaGreatDoorAmQAll2
section
namespace Go.CM
open Go Go.AM Go.MapKept
section
variable {P:Program} {E:Ev} {ρ:Rn} {s s':HS} {w:World} {T:Tm'} {e:Operand→Value} {oo:Oper} {v:CV}
theorem fieldA_ok (hty:TyOk P E.TY) {t f:Nat} {x:Operand} (h:evFieldA E T t x f s=some (v,s')) (ho:oo.op= .fieldAddr t x f) (hd:Hd ρ s.H.get s.nx w) (he:∀x∈oo.op.operands,RpV ρ (evO T x) (e x)):Res P e oo ρ s s' w v:=by
  rw [ho] at he
  obtain ⟨p,h1,h⟩:=bo_eq h
  split at h
  · rename_i fs hdt
    obtain ⟨⟨o,u⟩,h2,h⟩:=bo_eq h
    obtain ⟨h3,h⟩:=bt_eq h
    cases h
    have hdt:(nthT E.TY t).d= .struct fs:=hdt
    obtain ⟨F,hu,hfs⟩:=struct_row hty hdt
    obtain ⟨b,c,g1,g2⟩:=asP_rep h1 (he x (by simp [Op.operands]))
    have hf:=fieldOff_get h2
    rw [hfs,List.getElem?_map] at hf
    cases hg:F.toList[f]? with
    |none=>rw [hg] at hf;cases hf
    |some fl=>
     rw [hg] at hf
     cases hf
     rw [Array.getElem?_toList] at hg
     have hub:(underlying t).run P w= .ok (.struct F) w:=by simp [underlying,hu]
     have hsv:(sizeOf fl.type).run P w= .ok (E.sz fl.type) w:=(hty.at (t:=fl.type) (.inl (one_sz h3))).size w
     have hne:E.sz fl.type≠0:=by have:=Nat.le_of_ble_eq_true h3;have h3:1≤E.sz fl.type:=this;omega
     refine res_pure hd (u:=.pointer (some ⟨b,p.2+fl.offset,none⟩)) ?_ ⟨b,c,g1,rfl⟩
     simp [execOp,ho,Instr.fieldAt,hub,hg,g2,Instr.sureAddr,fieldPlace,hsv,hne,addr_add]
  · cases h
theorem field_ok (hty:TyOk P E.TY) {t f:Nat} {x:Operand} (h:evField E T t x f s=some (v,s')) (ho:oo.op= .field t x f) (hd:Hd ρ s.H.get s.nx w) (he:∀x∈oo.op.operands,RpV ρ (evO T x) (e x)):Res P e oo ρ s s' w v:=by
  rw [ho] at he
  obtain ⟨l,h1,h⟩:=bo_eq h
  split at h
  · rename_i fs hdt
    obtain ⟨⟨o,u⟩,h2,h⟩:=bo_eq h
    obtain ⟨y,h3,rfl,rfl⟩:=okW_eq h
    have hdt:(nthT E.TY t).d= .struct fs:=hdt
    obtain ⟨F,hu,hfs⟩:=struct_row hty hdt
    obtain ⟨cs,g1,g2⟩:=asA_rep h1 (he x (by simp [Op.operands]))
    have hf:=fieldOff_get h2
    rw [hfs,List.getElem?_map] at hf
    cases hg:F.toList[f]? with
    |none=>rw [hg] at hf;cases hf
    |some fl=>
     rw [hg] at hf
     cases hf
     rw [Array.getElem?_toList] at hg
     have hub:(underlying t).run P w= .ok (.struct F) w:=by simp [underlying,hu]
     obtain ⟨uu,g3,g4⟩:=part_ok (w:=w) hty g2 h3
     refine res_pure hd (u:=uu) ?_ (ofW_rep g4)
     simp [execOp,ho,Instr.field,hub,hg,g1,asAgg,g3]
  · cases h
theorem indexA_ok (hty:TyOk P E.TY) {t:Nat} {x i:Operand} (h:evIndexA E T t x i s=some (v,s')) (ho:oo.op= .indexAddr t x i) (hd:Hd ρ s.H.get s.nx w) (he:∀x∈oo.op.operands,RpV ρ (evO T x) (e x)):Res P e oo ρ s s' w v:=by
  rw [ho] at he
  obtain ⟨n,h1,h⟩:=bo_eq h
  obtain ⟨k,g1,_⟩:=asN_rep h1 (he i (by simp [Op.operands]))
  split at h
  · rename_i el hdt
    obtain ⟨sv,h2,h⟩:=bo_eq h
    obtain ⟨h0,h⟩:=bt_eq h
    obtain ⟨h3,h⟩:=bt_eq h
    cases h
    have h3:=Nat.le_of_ble_eq_true h3
    have hdt:(nthT E.TY t).d= .slice el:=hdt
    have hu:=slice_row hty hdt
    obtain ⟨b,c,cap,g2,g3,g4,_⟩:=asS_rep h2 (he x (by simp [Op.operands]))
    have hub:(underlying t).run P w= .ok (.slice el) w:=by simp [underlying,hu]
    have hsv:(sizeOf el).run P w= .ok (E.sz el) w:=(hty.at (t:=el) (.inl (one_sz h0))).size w
    refine res_pure hd (u:=.pointer (some ⟨b,sv.off+n*E.sz el,none⟩)) ?_ ⟨b,c,g2,rfl⟩
    have:¬sv.len≤n:=by omega
    simp [execOp,ho,Instr.indexAt,g1,asIntOf,hub,g4,hsv,this,addr_add]
  · rename_i m el hdt
    obtain ⟨p,h2,h⟩:=bo_eq h
    obtain ⟨h0,h⟩:=bt_eq h
    obtain ⟨h3,h⟩:=bt_eq h
    cases h
    have h3:=Nat.le_of_ble_eq_true h3
    have hdt:(nthT E.TY t).d= .arr m el:=hdt
    have hu:=arr_row hty hdt
    obtain ⟨b,c,g2,g3⟩:=asP_rep h2 (he x (by simp [Op.operands]))
    have hub:(underlying t).run P w= .ok (.array m el) w:=by simp [underlying,hu]
    have hsv:(sizeOf el).run P w= .ok (E.sz el) w:=(hty.at (t:=el) (.inl (one_sz h0))).size w
    refine res_pure hd (u:=.pointer (some ⟨b,p.2+n*E.sz el,none⟩)) ?_ ⟨b,c,g2,rfl⟩
    have:¬m≤n:=by omega
    simp [execOp,ho,Instr.indexAt,g1,asIntOf,hub,g3,Instr.sureAddr,hsv,this,addr_add]
  · cases h
theorem index_ok (hty:TyOk P E.TY) {t:Nat} {x i:Operand} (h:evIndex E T t x i s=some (v,s')) (ho:oo.op= .index t x i) (hd:Hd ρ s.H.get s.nx w) (he:∀x∈oo.op.operands,RpV ρ (evO T x) (e x)):Res P e oo ρ s s' w v:=by
  rw [ho] at he
  obtain ⟨n,h1,h⟩:=bo_eq h
  obtain ⟨k,g1,_⟩:=asN_rep h1 (he i (by simp [Op.operands]))
  split at h
  · rename_i m el hdt
    obtain ⟨l,h2,h⟩:=bo_eq h
    obtain ⟨h0,h⟩:=bt_eq h
    obtain ⟨h3,h⟩:=bt_eq h
    obtain ⟨y,h4,rfl,rfl⟩:=okW_eq h
    have h3:=Nat.le_of_ble_eq_true h3
    have hdt:(nthT E.TY t).d= .arr m el:=hdt
    have hu:=arr_row hty hdt
    obtain ⟨cs,g2,g3⟩:=asA_rep h2 (he x (by simp [Op.operands]))
    have hub:(underlying t).run P w= .ok (.array m el) w:=by simp [underlying,hu]
    have hsv:(sizeOf el).run P w= .ok (E.sz el) w:=(hty.at (t:=el) (.inl (one_sz h0))).size w
    obtain ⟨u,g4,g5⟩:=part_ok (w:=w) hty g3 h4
    have:¬m≤n:=by omega
    exact res_pure hd (u:=u) (by simp [execOp,ho,Instr.index,g1,asIntOf,hub,g2,hsv,this,g4]) (ofW_rep g5)
  · rename_i hdt
    obtain ⟨c,h2,h⟩:=bo_eq h
    cases c<;>simp only [reduceCtorEq] at h
    rename_i l
    obtain ⟨b,h3,h⟩:=bo_eq h
    cases h
    have hdt:(nthT E.TY t).d= .str:=hdt
    obtain ⟨u,hu,hu2,hub⟩:=(hty.at (t:=t) (.inr (by rw [hdt];simp))).under
    rw [hdt] at hu2
    cases u<;>try exact hu2.elim
    obtain ⟨g2,g3⟩:=asC_rep h2 (he x (by simp [Op.operands]))
    have hb:b<256:=g3 b (List.mem_of_getElem? h3)
    have hs:(bytesV l)[n]? =some (UInt8.ofNat b):=by
      have hlt:n<l.length:=(List.getElem?_eq_some_iff.1 h3).1
      have e1:l[n]=b:=(List.getElem?_eq_some_iff.1 h3).2
      have hsz:n<(bytesV l).size:=by show n<(l.map UInt8.ofNat).toArray.size;simpa using hlt
      have this:(bytesV l)[n]? =some ((bytesV l)[n]'hsz):=by rw [getElem?_pos]
      have get:∀(a:Array UInt8) (h:n<(ByteArray.mk a).size),(ByteArray.mk a)[n]'h=a[n]'h:=fun a h=>rfl
      rw [this]
      congr 1
      have g:=get (l.map UInt8.ofNat).toArray hsz
      have q:∀(h:n<(l.map UInt8.ofNat).toArray.size),(l.map UInt8.ofNat).toArray[n]'h=UInt8.ofNat b:=fun h=>by simp [e1]
      exact Eq.trans g (q _)
    have hbn:(UInt8.ofNat b).toNat=b:=by rw [UInt8.toNat_ofNat'];omega
    refine res_pure hd (u:=.int .u8 (b:Int)) ?_ ⟨rfl,by simp [inK,IntKind.min,IntKind.max,IntKind.signed,IntKind.bits];omega⟩
    simp [execOp,ho,Instr.index,g1,asIntOf,hub,g2,hs]
    omega
  · cases h
theorem lenN_eq:∀(l:List Nat) (n:Nat),lenN l n=l.length+n
  |[],n=>by simp [lenN]
  |_::l,n=>by simp only [lenN,lenN_eq l,List.length_cons];omega
theorem lenM_eq:∀(l:List (CW × CW)) (n:Nat),lenM l n=l.length+n
  |[],n=>by simp [lenM]
  |_::l,n=>by simp only [lenM,lenM_eq l,List.length_cons];omega
theorem RpM.len:∀{l:List (CW × CW)} {m:List MapEntry},RpM ρ l m→m.length=l.length
  |[],[],_=>rfl|_::_,_::_,h=>by simp [RpM.len h.2]|[],_::_,h=>h.elim|_::_,[],h=>h.elim
theorem rowOf (hty:TyOk P E.TY) {t:Nat} (h:(nthT E.TY t).d≠.other):∃u,P.underlying t=some u∧descOK (nthT E.TY t).d u∧∀w,(underlying t).run P w= .ok u w:=(hty.at (t:=t) (.inr h)).under
theorem bytesOf_rep:∀{l:List CC} {m:List Nat} {vs:List Value},bytesOf l=some m→RpL ρ l vs→vs=m.map (fun (n:Nat)=>Value.int .u8 (n:Int))∧∀x∈m,x<256
  |[],m,vs,h,hl=>by
   cases h
   cases vs with
   |nil=>exact ⟨rfl,by simp⟩
   |cons=>exact hl.elim
  |a::l,m,[],h,hl=>hl.elim
  |a::l,m,u::vs,h,hl=>by
   cases a<;>simp only [bytesOf,reduceCtorEq] at h
   rename_i k n
   cases k<;>simp only [reduceCtorEq] at h
   obtain ⟨b,h1,h⟩:=bo_eq h
   obtain ⟨r,h2,h⟩:=bo_eq h
   cases h
   obtain ⟨g1,g2⟩:=bytesOf_rep h2 hl.2
   obtain ⟨e1,e2⟩:=hl.1
   have e3:=natI_eq h1
   subst e3
   refine ⟨by rw [e1,g1];rfl,fun x hx=>?_⟩
   rcases List.mem_cons.1 hx with rfl|hx
   · simp [inK,IntKind.min,IntKind.max,IntKind.signed,IntKind.bits] at e2;omega
   · exact g2 x hx
theorem isU8_eq {d:TyD} (h:isU8 d=true):d= .int .u8:=by
  unfold isU8 at h
  split at h
  · split at h
    · rfl
    · cases h
  · cases h
theorem conv_ok (hty:TyOk P E.TY) {a b:Nat} {x:Operand} (h:evConv E T a b x s=some (v,s')) (ho:oo.op= .convert a b x) (hd:Hd ρ s.H.get s.nx w) (he:∀x∈oo.op.operands,RpV ρ (evO T x) (e x)):Res P e oo ρ s s' w v:=by
  rw [ho] at he
  have hx:=he x (by simp [Op.operands])
  unfold evConv at h
  split at h
  · rename_i k hb
    split at h
    · rename_i k' ha
      obtain ⟨p,h1,h⟩:=bo_eq h
      cases h
      have ha:(nthT E.TY a).d= .int k':=ha
      have hb:(nthT E.TY b).d= .int k:=hb
      obtain ⟨ua,g1,g2,g3⟩:=rowOf hty (t:=a) (by rw [ha];simp)
      obtain ⟨ub,g4,g5,g6⟩:=rowOf hty (t:=b) (by rw [hb];simp)
      rw [ha] at g2;rw [hb] at g5
      cases ua<;>try exact g2.elim
      cases ub<;>try exact g5.elim
      have g5:k=_:=g5
      subst g5
      exact res_pure hd (u:=.int k (k.wrap p.2)) (by simp [execOp,ho,(asI_rep h1 hx).1,convert,g3,g6,Conv.intToInt]) (fitC_rep _ _ _)
    · cases h
  · rename_i hb
    split at h
    · rename_i el ha
      obtain ⟨h0,h⟩:=bt_eq h
      obtain ⟨c,h1,h⟩:=bo_eq h
      have ha:(nthT E.TY a).d= .slice el:=ha
      have hb:(nthT E.TY b).d= .str:=hb
      have h0:(nthT E.TY el).d= .int .u8:=isU8_eq h0
      have hua:=slice_row hty ha
      obtain ⟨ub,g4,g5,g6⟩:=rowOf hty (t:=b) (by rw [hb];simp)
      rw [hb] at g5
      cases ub<;>try exact g5.elim
      obtain ⟨ue,g7,g8,g9⟩:=rowOf hty (t:=el) (by rw [h0];simp)
      rw [h0] at g8
      cases ue<;>try exact g8.elim
      have g8:IntKind.u8=_:=g8
      subst g8
      have hc:=asC_rep h1 hx
      cases c<;>simp only [reduceCtorEq] at h
      · rename_i k off len cap
        obtain ⟨l,h2,h⟩:=bo_eq h
        obtain ⟨m,h3,h⟩:=bo_eq h
        cases h
        obtain ⟨q,h4,h5⟩:=bo_eq h2
        obtain ⟨bb,cc,cap',r1,r2,r3,_⟩:=hc
        obtain ⟨cs,ty,r4,_,_,r5⟩:=cells_at hd (cellsH_eq h4) r1
        obtain ⟨mv,r6,r7,r8⟩:=part_cells r5 r4 h5
        obtain ⟨r9,r10⟩:=bytesOf_rep h3 r6
        have hlen:m.length=len:=by rw [←r7,r9];simp
        have hrun:=run_convert_bytes_back (P:=P) w a b el ⟨bb,off,none⟩ cap' (m.map UInt8.ofNat) hua g7 g4 (fun j hj=>by
          have hj':j<m.length:=by simpa using hj
          rw [addr_add]
          refine r8 j _ ?_
          rw [r9]
          simp only [List.getElem?_map,List.getElem?_eq_getElem hj',Option.map_some,List.getElem_map]
          have:=r10 m[j] (List.getElem_mem _)
          congr 2
          rw [UInt8.toNat_ofNat'];omega)
        rw [List.length_map,hlen] at hrun
        exact res_pure hd (u:=.string (bytesV m)) (by simp [execOp,ho,r3,hrun,bytesV]) ⟨rfl,r10⟩
      · cases h
        have hc:e x= .slice none 0 0:=hc
        have hrun:=run_convert_bytes_nil (P:=P) w a el hua g7 0 0 b g4
        exact res_pure hd (u:=.string ByteArray.empty) (by simp [execOp,ho,hc,hrun]) ⟨rfl,by simp⟩
    · cases h
  · cases h
theorem map_makes {u:Value} {w':World} (hd:Hd ρ s.H.get s.nx w) (hrun:(execOp e oo).run P w= .ok (.value u) w') (hw:w'.heap=w.heap.push (.map #[] 0)) (hio:IoS w w') (hu:u= .map (some w.heap.size)):Res P e oo ρ s (s.new (.map [])) w (.c (.mp s.nx)):=by
  obtain ⟨ρ',h1,h2⟩:=Post.make (o:=.map []) 0 hd hw hio fun ρ' hx=>⟨#[],0,rfl,trivial⟩
  exact .inl ⟨u,w',hrun,ρ',h1,_,_,h2,hu⟩
theorem mapKV_eq {t:Nat} {q:Nat × Nat} (h:mapKV E t=some q):(nthT E.TY t).d= .map q.1 q.2:=by
  unfold mapKV Ev.d at h
  split at h
  · rename_i hd;cases h;exact hd
  · cases h
theorem map_row' (hty:TyOk P E.TY) {t:Nat} {q:Nat × Nat} (h:mapKV E t=some q):P.underlying t=some (.map q.1 q.2):=by
  have hd:=mapKV_eq h
  obtain ⟨u,g1,g2,_⟩:=rowOf hty (t:=t) (by rw [hd];simp)
  rw [hd] at g2
  cases u<;>try exact g2.elim
  obtain ⟨e1,e2⟩:=g2
  rw [g1,e1,e2]
theorem makeMap_ok (hty:TyOk P E.TY) {t:Nat} {r:Option Operand} (h:(bo (mapKV E t) fun _=>bo (optN T r) fun _=>some (.c (.mp s.nx),s.new (.map [])))=some (v,s')) (ho:oo.op= .makeMap t r) (hd:Hd ρ s.H.get s.nx w) (he:∀x∈oo.op.operands,RpV ρ (evO T x) (e x)):Res P e oo ρ s s' w v:=by
  rw [ho] at he
  obtain ⟨q,h1,h⟩:=bo_eq h
  obtain ⟨n,h2,h⟩:=bo_eq h
  cases h
  have hu:=map_row' hty h1
  have hub:(underlying t).run P w= .ok (.map q.1 q.2) w:=by simp [underlying,hu]
  have hr:=opt_rep (e:=e) h2 fun y hy=>he y (by simp [Op.operands,hy])
  refine map_makes hd (w':={ w with heap:=w.heap.push (.map #[] 0) }) ?_ rfl ⟨⟨rfl,rfl⟩,rfl,Nat.le_refl _⟩ rfl
  rcases hr with ⟨rfl,_⟩|⟨y,n,k,rfl,_,e1,_⟩
  · simp [execOp,ho,Instr.makeMap,newObj,Sem.run]
  · simp [execOp,ho,Instr.makeMap,newObj,Sem.run,e1,hub,asInt,asIntOf]
theorem key_ok (hty:TyOk P E.TY) {t:Nat} {x:CW} {u:Value} (hc:isCW x=true) (h:keyOK E t x=true) (hx:RpW ρ x u):∃d,P.underlying t=some d∧MapKept.IsKey d u:=by
  unfold keyOK Ev.d at h
  split at h
  · rename_i c
    split at h
    · split at h
      · rename_i k' n k hd
        obtain rfl:=kq_eq h
        obtain ⟨d,g1,g2,_⟩:=rowOf hty (t:=t) (by rw [hd];simp)
        rw [hd] at g2
        cases d<;>try exact g2.elim
        obtain ⟨rfl,_⟩:=hx
        exact ⟨_,g1,g2⟩
      · cases h
    · split at h
      · rename_i hd
        obtain ⟨d,g1,g2,_⟩:=rowOf hty (t:=t) (by rw [hd];simp)
        rw [hd] at g2
        cases d<;>try exact g2.elim
        obtain ⟨rfl,_⟩:=hx
        exact ⟨_,g1,trivial⟩
      · cases h
    · split at h
      · rename_i hd
        obtain ⟨d,g1,g2,_⟩:=rowOf hty (t:=t) (by rw [hd];simp)
        rw [hd] at g2
        cases d<;>try exact g2.elim
        have hx:u= .bool _:=hx
        subst hx
        exact ⟨_,g1,trivial⟩
      · cases h
    · cases h
  · cases hc
theorem same_now {d:TypeDesc} {x y:CW} {u u':Value} {b:Bool} (hk:MapKept.IsKey d u) (h:eqW x y=some b) (hx:RpW ρ x u) (hy:RpW ρ y u'):Instr.sameNow d u u'=some b:=by
  unfold eqW at h
  split at h
  · rename_i a
    split at h
    · rename_i c
      unfold eqC at h
      split at h
      · rename_i k n
        split at h
        · rename_i k' m
          obtain ⟨h1,h9⟩:=bt_eq h
          obtain rfl:=kq_eq h1
          obtain ⟨rfl,_⟩:=hx
          obtain ⟨rfl,_⟩:=hy
          cases d<;>try exact hk.elim
          simpa [Instr.sameNow] using h9
        · cases h
      · rename_i l
        split at h
        · rename_i m
          obtain ⟨rfl,h1⟩:=hx
          obtain ⟨rfl,h2⟩:=hy
          cases d<;>try exact hk.elim
          have:(bytesV l==bytesV m)=eqN l m:=by rw [beq_toListBytes];exact bytes_eq h1 h2
          simpa [Instr.sameNow,this] using h
        · cases h
      · rename_i p
        split at h
        · rename_i q
          have hx:u= .bool p:=hx
          have hy:u'= .bool q:=hy
          subst hx;subst hy
          cases d<;>try exact hk.elim
          simpa [Instr.sameNow] using h
        · cases h
      · cases h
    · cases h
  · rename_i l
    split at h
    · obtain ⟨cs,rfl,_⟩:=hx
      cases d<;>exact hk.elim
    · cases h
theorem find_now {d:TypeDesc} {x:CW} {u:Value} (hk:MapKept.IsKey d u) (hx:RpW ρ x u):∀{es:List (CW × CW)} {en:List MapEntry} {i:Nat} {r:Option (Nat × CW)},findM es x i=some r→RpM ρ es en→
    (r=none∧Instr.findNow d u en i=some none)∨∃j c val ent,r=some (i+j,c)∧Instr.findNow d u en i=some (some (i+j,val))∧en[j]? =some ent∧ent.val=val∧RpW ρ c val∧j<es.length
  |[],[],i,r,h,_=>by cases h;exact .inl ⟨rfl,rfl⟩
  |p::es,e'::en,i,r,h,hm=>by
   obtain ⟨b,h1,h⟩:=bo_eq h
   have h2:=same_now hk h1 hx hm.1.1
   cases b with
   |true=>
    simp only at h
    cases h
    exact .inr ⟨0,_,_,_,rfl,by simp [Instr.findNow,h2],rfl,rfl,hm.1.2,by simp⟩
   |false=>
    simp only at h
    rcases find_now hk hx h hm.2 with ⟨g1,g2⟩|⟨j,c,val,ent,g1,g2,g3,g4,g5,g6⟩
    · exact .inl ⟨g1,by simp [Instr.findNow,h2,g2]⟩
    · refine .inr ⟨j+1,c,val,ent,by rw [g1];congr 2;omega,by simp [Instr.findNow,h2,g2];omega,by simpa using g3,g4,g5,by simp;omega⟩
  |[],_::_,_,_,_,hm=>hm.elim
  |_::_,[],_,_,_,hm=>hm.elim
theorem allInt_cons {k:IntKind} {x:CC} {l:List CC} (h:allInt k (x::l)=true):∃n,x= .int k n∧allInt k l=true:=by
  cases x<;>simp only [allInt] at h<;>try (cases h;done)
  split at h
  · rename_i hk
    have:=kq_eq hk
    subst this
    exact ⟨_,rfl,h⟩
  · cases h
theorem info_of (hty:TyOk P E.TY) {e:Nat} (h:E.d e≠.other):∃i,P.info? e=some i∧i.size=E.sz e:=by
  obtain ⟨i,u,h1,_,h3,_⟩:=(hty.at (t:=e) (.inr h)).row
  exact ⟨i,h1,h3⟩
theorem arr_part (hty:TyOk P E.TY) {e off:Nat} {k:IntKind} (he:E.d e= .int k) {cs:Array Value} {v:Value} (hv:cs[off]? =some v):(part e cs off).run P w= .ok v w:=by
  have hrow:=hty.at (t:=e) (.inr (by show E.d e≠.other;rw [he];simp))
  have ha:isAggD (nthT E.TY e).d=false:=by show isAggD (E.d e)=false;rw [he];rfl
  simp [part,hrow.agg,ha,hv]
theorem int_row (hty:TyOk P E.TY) {e:Nat} {k:IntKind} (he:E.d e= .int k):P.underlying e=some (.int k):=by
  obtain ⟨d,g1,g2,_⟩:=rowOf hty (t:=e) (by show E.d e≠.other;rw [he];simp)
  rw [show (nthT E.TY e).d= .int k from he] at g2
  cases d<;>first|exact g2.elim|(have g2:k=_:=g2;subst g2;exact g1)
theorem arr_eq (hty:TyOk P E.TY) {e:Nat} {k:IntKind} (he:E.d e= .int k) (d:Nat) (xs ys:Array Value):∀{l m:List CC} {j:Nat} {b:Bool},RpL ρ l (xs.toList.drop j)→RpL ρ m (ys.toList.drop j)→allInt k l=true→eqL l m=some b→
    (Op.eqItems (d+1) e 1 xs ys (List.range' j l.length)).run P w= .ok b w
  |[],m,j,b,_,_,_,h=>by
   cases m with
   |nil=>cases h;simp [Op.eqItems]
   |cons=>cases h
  |x::l,m,j,b,h1,h2,h3,h=>by
   cases m with
   |nil=>cases h
   |cons y m=>
    obtain ⟨r,h4,h5⟩:=bo_eq h
    obtain ⟨n,rfl,h6⟩:=allInt_cons h3
    have gx:∃v,xs[j]? =some v∧RpC ρ (.int k n) v∧RpL ρ l (xs.toList.drop (j+1)):=by
      cases hd:xs.toList.drop j with
      |nil=>rw [hd] at h1;exact h1.elim
      |cons v r=>
       rw [hd] at h1
       refine ⟨v,by have:=congrArg (·[0]?) hd;simpa using this,h1.1,?_⟩
       have:xs.toList.drop (j+1)=r:=by rw [←List.drop_drop,hd];rfl
       rw [this];exact h1.2
    have gy:∃v,ys[j]? =some v∧RpC ρ y v∧RpL ρ m (ys.toList.drop (j+1)):=by
      cases hd:ys.toList.drop j with
      |nil=>rw [hd] at h2;exact h2.elim
      |cons v r=>
       rw [hd] at h2
       refine ⟨v,by have:=congrArg (·[0]?) hd;simpa using this,h2.1,?_⟩
       have:ys.toList.drop (j+1)=r:=by rw [←List.drop_drop,hd];rfl
       rw [this];exact h2.2
    obtain ⟨v,a1,⟨a2,_⟩,a3⟩:=gx
    obtain ⟨u,b1,b2,b3⟩:=gy
    subst a2
    have hy:∃n',y= .int k n'∧r=(n==n'):=by
      cases y<;>try (cases h4;done)
      obtain ⟨c1,c2⟩:=bt_eq h4
      have:=kq_eq c1
      subst this
      exact ⟨_,rfl,(Option.some.inj c2).symm⟩
    obtain ⟨n',rfl,rfl⟩:=hy
    obtain ⟨rfl,_⟩:=b2
    have p1:=arr_part (w:=w) hty he a1
    have p2:=arr_part (w:=w) hty he b1
    have p3:(Op.equalIn (d+1) e (.int k n) (.int k n')).run P w= .ok (n==n') w:=by simp [Op.equalIn,run_underlying (int_row hty he)]
    rw [List.length_cons,List.range'_succ]
    simp only [Op.eqItems,Sem.run_bind,Nat.mul_one,p1,p2,p3,Result.andThen_ok]
    cases hr:(n==n') with
    |true=>
     rw [hr] at h5
     simp only [Bool.not_true,Bool.false_eq_true,if_false]
     exact arr_eq hty he d xs ys a3 b3 h6 h5
    |false=>
     rw [hr] at h5
     obtain ⟨_,_,h7⟩:=bo_eq h5
     cases h7
     simp
theorem arrKey_eq {t:Nat} {l:List CC} (h:arrKey E t l=true):∃n e k,E.d t= .arr n e∧l.length=n∧E.sz e=1∧E.d e= .int k∧allInt k l=true:=by
  unfold arrKey at h
  split at h
  · rename_i n e hd
    split at h
    · rename_i h1
      split at h
      · rename_i h2
        split at h
        · rename_i k h3
          exact ⟨n,e,k,hd,lenC_eq h1,beq_iff'.1 h2,h3,h⟩
        · cases h
      · cases h
    · cases h
  · cases h
theorem arr_row (hty:TyOk P E.TY) {t n e:Nat} (hd:E.d t= .arr n e):P.underlying t=some (.array n e):=by
  obtain ⟨d,g1,g2,_⟩:=rowOf hty (t:=t) (by show E.d t≠.other;rw [hd];simp)
  rw [show (nthT E.TY t).d= .arr n e from hd] at g2
  cases d<;>first|exact g2.elim|(obtain ⟨rfl,rfl⟩:=g2;exact g1)
theorem arr_equal (hty:TyOk P E.TY) {t:Nat} {l m:List CC} {xs ys:Array Value} {b:Bool} (hk:arrKey E t l=true) (h1:RpL ρ l xs.toList) (h2:RpL ρ m ys.toList) (h:eqL l m=some b):(Op.equal t (.agg xs) (.agg ys)).run P w= .ok b w:=by
  obtain ⟨n,e,k,g1,g2,g3,g4,g5⟩:=arrKey_eq hk
  obtain ⟨i,i1,i2⟩:=info_of hty (e:=e) (by rw [g4];simp)
  have hc:P.cellsOf e=1:=by simp [Program.cellsOf,i1,i2,g3]
  have hall:∀d,(Op.equalIn (d+2) t (.agg xs) (.agg ys)).run P w= .ok b w:=fun d=>by
    rw [run_equalIn_array w (d+1) xs ys (arr_row hty g1) i1,hc,List.range_eq_range',←g2]
    exact arr_eq hty g4 d xs ys (by simpa using h1) (by simpa using h2) g5 h
  exact hall 9998
theorem arr_check (hty:TyOk P E.TY) {t:Nat} {l:List CC} {xs:Array Value} (hk:arrKey E t l=true) (h1:RpL ρ l xs.toList) (em:Bool):(Instr.checkKey em 10000 t (.agg xs)).run P w= .ok () w:=by
  obtain ⟨n,e,k,g1,g2,g3,g4,g5⟩:=arrKey_eq hk
  obtain ⟨i,i1,i2⟩:=info_of hty (e:=e) (by rw [g4];simp)
  have hc:P.cellsOf e=1:=by simp [Program.cellsOf,i1,i2,g3]
  have hlen:=h1.len
  have hall:∀d,(Instr.checkKey em (d+2) t (.agg xs)).run P w= .ok () w:=fun d=>by
    rw [show d+2=(d+1)+1 from rfl,Instr.checkKey]
    simp only [Sem.run_bind,run_underlying (arr_row hty g1),Result.andThen_ok]
    simp only [Std.Legacy.Range.forIn_eq_forIn_range',Std.Legacy.Range.size,Nat.sub_zero,Nat.add_one_sub_one,Nat.div_one]
    have each:∀j∈List.range' 0 n,j<xs.toList.length:=fun j hj=>by
      have:=List.mem_range'_1.1 hj
      omega
    generalize List.range' 0 n=is at each
    induction is with
    |nil=>simp
    |cons j is ih=>
     have hj:=each j (by simp)
     rw [Array.length_toList] at hj
     have p1:=arr_part (w:=w) hty g4 (Array.getElem?_eq_getElem hj)
     have p2:(Instr.checkKey em (d+1) e xs[j]).run P w= .ok () w:=by
       rw [Instr.checkKey]
       simp [run_underlying (int_row hty g4)]
     simp only [List.forIn_cons,Sem.run_bind,run_sizeOf w i1,hc,Nat.mul_one,Result.andThen_ok,p1,p2,Sem.run_pure]
     exact ih fun y hy=>each y (by simp [hy])
  exact hall 9998
theorem arr_ask (hty:TyOk P E.TY) {t:Nat} {l:List CC} {xs:Array Value} (hk:arrKey E t l=true) (h1:RpL ρ l xs.toList):∀{es:List (CW × CW)} {en:List MapEntry} {i:Nat} {r:Option (Nat × CW)},findM es (.a l) i=some r→RpM ρ es en→
    (r=none∧(Instr.findAsking t (.agg xs) en i).run P w= .ok none w)∨∃j c val ent,r=some (i+j,c)∧(Instr.findAsking t (.agg xs) en i).run P w= .ok (some (i+j,val)) w∧en[j]? =some ent∧ent.val=val∧RpW ρ c val∧j<es.length
  |[],[],i,r,h,_=>by cases h;exact .inl ⟨rfl,by simp [Instr.findAsking]⟩
  |p::es,e'::en,i,r,h,hm=>by
   obtain ⟨b,h2,h3⟩:=bo_eq h
   obtain ⟨⟨m1,m2⟩,m3⟩:=hm
   have hq:∃m ys,e'.key= .agg ys∧RpL ρ m ys.toList∧eqL l m=some b:=by
     cases hp:p.1 with
     |c=>rw [hp] at h2;cases h2
     |a m=>
      rw [hp] at h2 m1
      obtain ⟨ys,y1,y2⟩:=m1
      exact ⟨m,ys,y1,y2,h2⟩
   obtain ⟨m,ys,y1,y2,y3⟩:=hq
   have heq:=arr_equal (w:=w) hty hk h1 y2 y3
   cases b with
   |true=>
    simp only at h3
    cases h3
    exact .inr ⟨0,_,_,_,rfl,by simp [Instr.findAsking,y1,heq,Result.andThen],rfl,rfl,m2,by simp⟩
   |false=>
    simp only at h3
    rcases arr_ask hty hk h1 h3 m3 with ⟨g1,g2⟩|⟨j,c,val,ent,g1,g2,g3,g4,g5,g6⟩
    · exact .inl ⟨g1,by simp [Instr.findAsking,y1,heq,Result.andThen,g2]⟩
    · refine .inr ⟨j+1,c,val,ent,by rw [g1];congr 2;omega,by simp [Instr.findAsking,y1,heq,Result.andThen,g2];omega,by simpa using g3,g4,g5,by simp;omega⟩
  |[],_::_,_,_,_,hm=>hm.elim
  |_::_,[],_,_,_,hm=>hm.elim
theorem find_any (hty:TyOk P E.TY) {t:Nat} {x:CW} {u:Value} (hk:keyOK E t x=true) (hx:RpW ρ x u) {es:List (CW × CW)} {en:List MapEntry} {r:Option (Nat × CW)} (h:findM es x 0=some r) (hm:RpM ρ es en):
    (r=none∧(Instr.findKey t u en).run P w= .ok none w)∨∃j c val ent,r=some (j,c)∧(Instr.findKey t u en).run P w= .ok (some (j,val)) w∧en[j]? =some ent∧ent.val=val∧RpW ρ c val∧j<es.length:=by
  cases x with
  |c x=>
   obtain ⟨d,g1,g2⟩:=key_ok hty rfl hk hx
   rcases find_now g2 hx h hm with ⟨g3,g4⟩|⟨j,c,val,ent,g3,g4,g5⟩
   · exact .inl ⟨g3,run_findKey (w:=w) g1 g4⟩
   · rw [Nat.zero_add] at g3 g4
     exact .inr ⟨j,c,val,ent,g3,run_findKey (w:=w) g1 g4,g5⟩
  |a l=>
   obtain ⟨xs,rfl,h1⟩:=hx
   have hk:arrKey E t l=true:=hk
   obtain ⟨n,e,k,g1,_⟩:=arrKey_eq hk
   have hu:=arr_row hty g1
   have hfk:(Instr.findKey t (.agg xs) en).run P w=(Instr.findAsking t (.agg xs) en).run P w:=by
     cases en with
     |nil=>simp [Instr.findKey,run_underlying hu,Instr.findNow,Instr.findAsking]
     |cons a en=>simp [Instr.findKey,run_underlying hu,Instr.findNow,Instr.sameNow]
   rw [hfk]
   rcases arr_ask (w:=w) hty hk h1 h hm with g|⟨j,c,val,ent,g3,g4,g5⟩
   · exact .inl g
   · rw [Nat.zero_add] at g3 g4
     exact .inr ⟨j,c,val,ent,g3,g4,g5⟩
theorem check_any (hty:TyOk P E.TY) {t:Nat} {x:CW} {u:Value} (hk:keyOK E t x=true) (hx:RpW ρ x u) (em:Bool):(Instr.checkKey em 10000 t u).run P w= .ok () w:=by
  cases x with
  |c x=>
   obtain ⟨d,g1,g2⟩:=key_ok hty rfl hk hx
   exact run_checkKey (P:=P) (w:=w) g1 g2 em 9999
  |a l=>
   obtain ⟨xs,rfl,h1⟩:=hx
   exact arr_check hty hk h1 em
theorem zeroW_ok (hz:ZOk P E.TY E.TZ) {t:Nat} {z:CW} (h:zeroW E t=some z):∃zv,(zeroValue t).run P w= .ok zv w∧RpW ρ z zv:=by
  have key:E.z t≠[]→∃i zv,P.info? t=some i∧i.zero=some zv∧(∀ρ,RpL ρ (nthZ E.TZ t) zv.cells.toList)∧aggB (isAggD (nthT E.TY t).d) zv=true:=hz.row t
  unfold zeroW at h
  split at h
  · rename_i ha
    obtain ⟨_,h⟩:=bt_eq h
    split at h
    · cases h
    · rename_i a l hl
      cases h
      obtain ⟨i,zv,h1,h2,h3,h4⟩:=key (by rw [hl];simp)
      have ha:isAggD (nthT E.TY t).d=true:=ha
      rw [ha] at h4
      cases zv<;>simp [aggB] at h4
      rename_i cs
      have h3:=h3 ρ
      have hl':nthZ E.TZ t=a::l:=hl
      rw [hl'] at h3
      exact ⟨_,by simp [zeroValue,typeInfo,h1,h2],cs,rfl,h3⟩
  · rename_i ha
    split at h
    · rename_i x hl
      cases h
      obtain ⟨i,zv,h1,h2,h3,h4⟩:=key (by rw [hl];simp)
      have ha:isAggD (nthT E.TY t).d=false:=ha
      rw [ha] at h4
      have h3:=h3 ρ
      have hl':nthZ E.TZ t=[x]:=hl
      rw [hl'] at h3
      refine ⟨zv,by simp [zeroValue,typeInfo,h1,h2],?_⟩
      have hcells:zv.cells= #[zv]:=by cases zv<;>first|rfl|simp [aggB] at h4
      rw [hcells] at h3
      exact h3.1
    · cases h
theorem look_ok (hty:TyOk P E.TY) (hz:ZOk P E.TY E.TZ) {t:Nat} {x k:Operand} {ok:Bool} (h:evLook E T t x k ok s=some (v,s')) (ho:oo.op= .lookup t x k ok) (hd:Hd ρ s.H.get s.nx w) (he:∀x∈oo.op.operands,RpV ρ (evO T x) (e x)):Res P e oo ρ s s' w v:=by
  rw [ho] at he
  obtain ⟨q,h1,h⟩:=bo_eq h
  obtain ⟨m,h2,h⟩:=bo_eq h
  obtain ⟨kv,h3,h⟩:=bo_eq h
  obtain ⟨h4,h⟩:=bt_eq h
  obtain ⟨z,h5,h⟩:=bo_eq h
  obtain ⟨es,h6,h⟩:=bo_eq h
  obtain ⟨r,h7,h⟩:=bo_eq h
  have hu:=map_row' hty h1
  have hub:(underlying t).run P w= .ok (.map q.1 q.2) w:=by simp [underlying,hu]
  have hm:=asC_rep h2 (he x (by simp [Op.operands]))
  have hkv:=asW_rep h3 (he k (by simp [Op.operands]))
  obtain ⟨zv,g3,g4⟩:=zeroW_ok (P:=P) (w:=w) (ρ:=ρ) hz h5
  have hen:∃en:Array MapEntry,RpM ρ es en.toList∧((e x= .map none∧en= #[])∨∃b n,e x= .map (some b)∧w.heap[b]? =some (.map en n)):=by
    cases m<;>simp only [reduceCtorEq] at h6
    · rename_i j
      obtain ⟨b,c,r1,r2⟩:=hm
      obtain ⟨b',c',o,r3,r4,r5⟩:=hd.obj _ _ (mapH_eq h6)
      rw [r1] at r3;cases r3
      obtain ⟨en,n,rfl,r6⟩:=r5
      exact ⟨en,r6,.inr ⟨b,n,r2,r4⟩⟩
    · cases h6
      exact ⟨#[],trivial,.inl ⟨hm,rfl⟩⟩
  obtain ⟨en,r1,r2⟩:=hen
  have hfin:∀res:Option (Nat × Value),(Instr.findKey q.1 (e k) en.toList).run P w= .ok res w→(execOp e oo).run P w= .ok (.value (if ok then .tuple #[(match res with|some (_,v)=>v|none=>zv),.bool res.isSome] else (match res with|some (_,v)=>v|none=>zv))) w:=by
    intro res hf
    have hck:=check_any (w:=w) hty h4 hkv en.isEmpty
    have hfk:=hf
    rcases r2 with ⟨e1,rfl⟩|⟨b,n,e1,hb⟩
    · have hck':=check_any (w:=w) hty h4 hkv true
      have hfk':(Instr.findKey q.1 (e k) []).run P w= .ok res w:=hfk
      cases res<;>cases ok<;>simp [execOp,ho,Instr.lookup,hub,e1,hck',hfk',g3,Result.andThen]
    · cases res<;>cases ok<;>simp [execOp,ho,Instr.lookup,hub,e1,MapKept.run_getObj_map hb,hck,hfk,g3,Result.andThen]
  rcases find_any (w:=w) hty h4 hkv h7 r1 with ⟨rfl,g6⟩|⟨j,c,val,ent,rfl,g6,_,_,g7,_⟩
  · have hrun:=hfin none g6
    cases ok with
    |true=>simp only at h;cases h;exact res_pure hd hrun ⟨_,rfl,g4,rfl,trivial⟩
    |false=>simp only at h;cases h;exact res_pure hd hrun (ofW_rep g4)
  · have hrun:=hfin _ g6
    cases ok with
    |true=>simp only at h;cases h;exact res_pure hd hrun ⟨_,rfl,g7,rfl,trivial⟩
    |false=>simp only at h;cases h;exact res_pure hd hrun (ofW_rep g7)
theorem setM_rep {kx vx:CW}:∀{es:List (CW × CW)} {en:List MapEntry} {j:Nat} {ent:MapEntry},RpM ρ es en→j<es.length→RpW ρ kx ent.key→RpW ρ vx ent.val→RpM ρ (setM es j kx vx) (en.set j ent)
  |_::_,_::_,0,_,h,_,h1,h2=>⟨⟨h1,h2⟩,h.2⟩
  |_::_,_::_,j+1,_,h,hj,h1,h2=>⟨h.1,setM_rep (j:=j) h.2 (by simpa using hj) h1 h2⟩
  |[],[],_,_,_,hj,_,_=>by simp at hj
  |[],_::_,_,_,h,_,_,_=>h.elim
  |_::_,[],_,_,h,_,_,_=>h.elim
theorem RpM.push' {kx vx:CW} {ent:MapEntry}:∀{es:List (CW × CW)} {en:List MapEntry},RpM ρ es en→RpW ρ kx ent.key→RpW ρ vx ent.val→RpM ρ (es++[(kx,vx)]) (en++[ent])
  |[],[],_,h1,h2=>⟨⟨h1,h2⟩,trivial⟩
  |_::_,_::_,h,h1,h2=>⟨h.1,RpM.push' h.2 h1 h2⟩
  |[],_::_,h,_,_=>h.elim
  |_::_,[],h,_,_=>h.elim
theorem key_same {d:TypeDesc} {u u':Value} (hk:MapKept.IsKey d u) (h:Instr.sameNow d u u'=some true):u'=u:=by
  cases d<;>cases u<;>try exact hk.elim
  all_goals cases u'<;>simp [Instr.sameNow] at h
  · rw [h]
  · obtain ⟨rfl,rfl⟩:=h;rfl
  · rw [beq_toListBytes,beq_iff_eq,ByteArray.toList_eq,ByteArray.toList_eq] at h
    rw [WideShapes.bytes_inj h]
theorem find_key {d:TypeDesc} {u:Value} (hk:MapKept.IsKey d u):∀{en:List MapEntry} {i j:Nat} {val:Value},Instr.findNow d u en i=some (some (i+j,val))→∃ent,en[j]? =some ent∧ent.key=u
  |[],i,j,val,h=>by simp [Instr.findNow] at h
  |e'::en,i,j,val,h=>by
   simp only [Instr.findNow] at h
   split at h
   · rename_i h1
     simp only [Option.some.injEq,Prod.mk.injEq] at h
     have:j=0:=by omega
     subst this
     exact ⟨e',rfl,key_same hk h1⟩
   · cases j with
     |zero=>
      exfalso
      have aux:∀{en:List MapEntry} {i k:Nat} {val:Value},Instr.findNow d u en i=some (some (k,val))→i≤k:=by
        intro en
        induction en with
        |nil=>intro i k val h;simp [Instr.findNow] at h
        |cons a en ih=>
         intro i k val h
         simp only [Instr.findNow] at h
         split at h
         · simp only [Option.some.injEq,Prod.mk.injEq] at h;omega
         · have:=ih h;omega
         · cases h
      have:=aux h;omega
     |succ j=>
      rw [show i+(j+1)=(i+1)+j by omega] at h
      obtain ⟨ent,h2,h3⟩:=find_key hk h
      exact ⟨ent,by simpa using h2,h3⟩
   · cases h
theorem upd_ok (hty:TyOk P E.TY) {t:Nat} {x k y:Operand} (h:evUpd E T t x k y s=some (v,s')) (ho:oo.op= .mapUpdate t x k y∨oo.op= .insert t x k y) (hd:Hd ρ s.H.get s.nx w) (he:∀x∈oo.op.operands,RpV ρ (evO T x) (e x)):Res P e oo ρ s s' w v:=by
  have hmem:RpV ρ (evO T x) (e x)∧RpV ρ (evO T k) (e k)∧RpV ρ (evO T y) (e y):=by
    rcases ho with ho|ho<;>(rw [ho] at he;exact ⟨he x (by simp [Op.operands]),he k (by simp [Op.operands]),he y (by simp [Op.operands])⟩)
  have hexec:∀w',(Instr.mapUpdate t (e x) (e k) (e y)).run P w= .ok () w'→(execOp e oo).run P w= .ok .skip w':=fun w' hr=>by
    rcases ho with ho|ho<;>simp [execOp,ho,hr]
  obtain ⟨q,h1,h⟩:=bo_eq h
  obtain ⟨m,h2,h⟩:=bo_eq h
  obtain ⟨kv,h3,h⟩:=bo_eq h
  obtain ⟨vv,h4,h⟩:=bo_eq h
  obtain ⟨h5,h⟩:=bt_eq h
  have hu:=map_row' hty h1
  have hub:(underlying t).run P w= .ok (.map q.1 q.2) w:=by simp [underlying,hu]
  have hm:=asC_rep h2 hmem.1
  have hkv:=asW_rep h3 hmem.2.1
  have hvv:=asW_rep h4 hmem.2.2
  have hmp:∃j,m= .mp j:=by cases m<;>first|exact ⟨_,rfl⟩|cases h
  obtain ⟨j,rfl⟩:=hmp
  obtain ⟨es,h6,h⟩:=bo_eq h
  obtain ⟨r,h7,h⟩:=bo_eq h
  obtain ⟨b,c,r1,r2⟩:=hm
  obtain ⟨b',c',o,r3,r4,r5⟩:=hd.obj _ _ (mapH_eq h6)
  rw [r1] at r3;cases r3
  obtain ⟨en,n,rfl,r6⟩:=r5
  have hck:=check_any (w:=w) hty h5 hkv false
  have fin:∀{es':List (CW × CW)} {en':Array MapEntry} {n':Nat},(Instr.mapUpdate t (e x) (e k) (e y)).run P w= .ok () { w with heap:=w.heap.setIfInBounds b (.map en' n') }→RpM ρ es' en'.toList→Res P e oo ρ s (s.put j (.map es')) w (.t []):=fun hr hrep=>
    .inr (.inl ⟨_,hexec _ hr,ρ,Post.write hd (mapH_eq h6) r1 rfl ⟨⟨rfl,rfl⟩,rfl,Nat.le_refl _⟩ ⟨_,_,rfl,hrep⟩,undef_rep ρ⟩)
  rcases find_any (w:=w) hty h5 hkv h7 r6 with ⟨rfl,g6⟩|⟨i,cc,val,ent,rfl,g6,g7,g8,g9,g10⟩
  · have hfk:=g6
    simp only at h
    cases h
    refine fin (en':=en.push { key:=e k,val:=e y,born:=n }) (n':=n+1) ?_ (by rw [Array.toList_push];exact RpM.push' r6 hkv hvv)
    simp [Instr.mapUpdate,hub,r2,MapKept.run_getObj_map r4,hck,hfk,MapKept.run_setObj_map _ r4,Result.andThen]
  · have hfk:=g6
    simp only at h
    obtain ⟨hcw,hh⟩:=bt_eq h
    cases hh
    obtain ⟨d,g1,g2⟩:=key_ok hty hcw h5 hkv
    rcases find_now g2 hkv h7 r6 with ⟨z1,_⟩|⟨i',cc',val',ent'',z1,g6',_⟩
    · cases z1
    obtain ⟨rfl,rfl⟩:i=i'∧cc=cc':=by simpa using z1
    have hfk2:=run_findKey (P:=P) (w:=w) g1 g6'
    rw [Nat.zero_add] at hfk2 g6'
    obtain ⟨ent',e1,e2⟩:=find_key g2 (i:=0) (j:=i) (by rw [Nat.zero_add];exact g6')
    rw [g7] at e1;cases e1
    rw [Array.getElem?_toList] at g7
    have hst:=run_keyThatStays (P:=P) (w:=w) g2
    refine fin (en':=en.modify i fun e'=>{ e' with key:=e k,val:=e y }) (n':=n) ?_ ?_
    · simp [Instr.mapUpdate,hub,r2,MapKept.run_getObj_map r4,hck,hfk,g7,e2,hst,MapKept.run_setObj_map _ r4,Result.andThen]
    · have:(en.modify i fun e'=>{ e' with key:=e k,val:=e y }).toList=en.toList.set i { ent with key:=e k,val:=e y }:=by
        apply List.ext_getElem?
        intro q
        rw [Array.getElem?_toList,Array.getElem?_modify,List.getElem?_set]
        by_cases hq:i=q
        · subst hq
          have hlt:i<en.toList.length:=by rw [Array.length_toList];exact (Array.getElem?_eq_some_iff.1 g7).1
          simp [g7]
          have:=(Array.getElem?_eq_some_iff.1 g7).1
          simpa using this
        · simp [hq]
      rw [this]
      exact setM_rep r6 g10 hkv hvv
theorem goInt_in {n:Nat} (h:(n:Int)≤9223372036854775807):inK .i64 (n:Int):=by simp [inK,IntKind.min,IntKind.max,IntKind.signed,IntKind.bits];omega
theorem okI_eq {n:Nat} {s1:HS} (h:okI s1 n=some (v,s')):(n:Int)≤9223372036854775807∧v= .c (.int .i64 n)∧s1=s':=by
  obtain ⟨h1,h2⟩:=bt_eq h
  cases h2
  have:=Nat.le_of_ble_eq_true h1
  exact ⟨by omega,rfl,rfl⟩
theorem len_ok (hty:TyOk P E.TY) {t:Nat} {x:Operand} {y:CC} {c:Call} (h:evLen E t y s=some (v,s')) (ho:oo.op= .call c) (hc:c.callee= .builtin .len) (ha:c.args= #[x]) (ht:c.argTypes[0]? =some t) (hd:Hd ρ s.H.get s.nx w) (hy:RpC ρ y (e x)):Res P e oo ρ s s' w v:=by
  have fin:∀{n:Nat} {s1:HS},s1=s→okI s1 n=some (v,s')→(Builtin.len_ c.argTypes oo.type #[e x]).run P w= .ok (goInt n) w→Res P e oo ρ s s' w v:=fun {n s1} hs h hr=>by
    obtain ⟨h1,rfl,rfl⟩:=okI_eq h
    subst hs
    exact res_pure hd (u:=.int .i64 n) (by simp [execOp,ho,resolve,hc,ha,invoke,builtin,hr,goInt]) ⟨rfl,goInt_in h1⟩
  unfold evLen at h
  split at h
  · rename_i el hdt
    have hu:=slice_row hty (show (nthT E.TY t).d= .slice el from hdt)
    have hub:(underlying t).run P w= .ok (.slice el) w:=by simp [underlying,hu]
    split at h
    · obtain ⟨b,c',cap,_,_,g3,_⟩:=hy
      exact fin rfl h (by simp [Builtin.len_,ht,hub,g3])
    · have hy:e x= .slice none 0 0:=hy
      exact fin rfl h (by simp [Builtin.len_,ht,hub,hy])
    · cases h
  · rename_i hdt
    have hdt:(nthT E.TY t).d= .str:=hdt
    obtain ⟨u,g1,g2,hub⟩:=rowOf hty (t:=t) (by rw [hdt];simp)
    rw [hdt] at g2
    cases u<;>try exact g2.elim
    replace hub:=hub w
    split at h
    · rename_i l
      obtain ⟨g3,_⟩:=hy
      refine fin rfl h ?_
      have:(bytesV l).size=lenN l 0:=by rw [lenN_eq];show ((l.map UInt8.ofNat).toArray).size=_;simp
      simp [Builtin.len_,ht,hub,g3,this]
    · cases h
  · rename_i kt et hdt
    have hu:P.underlying t=some (.map kt et):=by
      have:=map_row' (E:=E) hty (t:=t) (q:=(kt,et)) (by unfold mapKV;rw [hdt])
      exact this
    have hub:(underlying t).run P w= .ok (.map kt et) w:=by simp [underlying,hu]
    split at h
    · have hy:e x= .map none:=hy
      exact fin rfl h (by simp [Builtin.len_,ht,hub,hy])
    · obtain ⟨es,h1,h⟩:=bo_eq h
      obtain ⟨b,c',r1,r2⟩:=hy
      obtain ⟨b',c'',o,r3,r4,r5⟩:=hd.obj _ _ (mapH_eq h1)
      rw [r1] at r3;cases r3
      obtain ⟨en,n,rfl,r6⟩:=r5
      refine fin rfl h ?_
      have:en.size=lenM es 0:=by rw [lenM_eq,←Array.length_toList,r6.len];rfl
      simp [Builtin.len_,ht,hub,r2,MapKept.run_getObj_map r4,this,Result.andThen]
    · cases h
  · cases h
theorem src_ok {sz:Nat} {y:CC} {q:Nat × List CC} {u:Value} (h:srcC s sz y=some q) (hd:Hd ρ s.H.get s.nx w) (hy:RpC ρ y u):
    (y= .nils∧q=(0,[])∧u= .slice none 0 0)∨∃a cap mv,u= .slice (some a) q.1 cap∧RpL ρ q.2 mv∧mv.length=q.1*sz∧∀j x,mv[j]? =some x→w.cell? (a.add j)=some x:=by
  unfold srcC at h
  split at h
  · cases h;exact .inl ⟨rfl,rfl,hy⟩
  · rename_i k off len cap
    obtain ⟨l,h1,h⟩:=bo_eq h
    cases h
    obtain ⟨p,h2,h3⟩:=bo_eq h1
    obtain ⟨b,c,cp,r1,r2,r3,_⟩:=hy
    obtain ⟨cs,ty,r4,_,_,r5⟩:=cells_at hd (cellsH_eq h2) r1
    obtain ⟨mv,r6,r7,r8⟩:=part_cells r5 r4 h3
    exact .inr ⟨⟨b,off,none⟩,cp,mv,r3,r6,r7,fun j x hj=>by rw [addr_add];exact r8 j x hj⟩
  · cases h
theorem one_cells {l:List CC} {mv:List Value} (h:RpL ρ l mv):∀v∈mv,v.oneCell'=true:=fun v hv=>oneCell_of (h.cell v hv)
theorem run_append_room2 (t ty el:TypeId) (i:TypeInfo) (ht:P.underlying t=some (.slice el)) (hi:P.info? el=some i)
    (g o sLen sCap tag:Nat) (cur:Array Value) (hg:w.heap[g]? =some (.cells cur tag (0,0)))
    (a:Addr) (m c:Nat) (news:List Value) (hl:news.length=m*i.size) (hnews:∀j u,news[j]? =some u→w.cell? (a.add j)=some u) (h1:∀u∈news,u.oneCell'=true)
    (hroom:sLen+m≤sCap) (hfit:o+sLen*i.size+news.length≤cur.size):
    (Builtin.append_ #[t,t] ty #[.slice (some ⟨g,o,none⟩) sLen sCap,.slice (some a) m c]).run P w=
      .ok (.slice (some ⟨g,o,none⟩) (sLen+m) sCap) (w.setRow g (cur.toList.take (o+sLen*i.size)++news++cur.toList.drop (o+sLen*i.size+news.length)).toArray):=by
  have hf:=run_firstCells_some (P:=P) w i.size m a m c news hl hnews
  have hst:=run_storeCells_at P g (o+sLen*i.size) tag news 0 cur w hg (by simpa using hfit) h1
  simp only [Nat.add_zero] at hst
  have hub:(underlying t).run P w= .ok (.slice el) w:=by simp [underlying,ht]
  have hadd:(⟨g,o,none⟩:Addr).add (sLen*i.size)=⟨g,o+sLen*i.size,none⟩:=by rw [addr_add]
  simp [Builtin.append_,hub,sizeOf,typeInfo,hi,Builtin.lenOf,hroom,hf,hadd,hst]
theorem grown_ob {l:List CC} {vs:List Value} {n cap:Nat} {zc:Array Value} {z:Nat} (hl:RpL ρ l vs) (hlen:vs.length=n*z) (hz:zc.size=z) (hle:n≤cap) (hz0:1≤z) (ty:TypeId):∀ρ',Ext ρ ρ'→ObH ρ' cap (.cells l (some (z,ty))) (.cells (vs.toArray++Builtin.zeroCells zc (cap - n)) ty (0,0)):=fun ρ' hx=>by
  have h1:=hl.len
  have hs:(vs.toArray++Builtin.zeroCells zc (cap - n)).size=cap*z:=by
    simp only [Array.size_append,List.size_toArray,Builtin.zeroCells,Array.size_map,Array.size_range,hlen,hz]
    rw [←Nat.add_mul];congr 1;omega
  refine ⟨_,ty,rfl,by rw [hs,←h1,hlen];exact Nat.mul_le_mul_right _ hle,⟨rfl,fun h=>absurd h (Nat.ne_of_gt hz0),fun _=>hs⟩,?_⟩
  have:((vs.toArray++Builtin.zeroCells zc (cap - n)).toList.take l.length)=vs:=by
    rw [Array.toList_append,List.take_append_of_le_length (by simp;omega),←h1]
    simp
  rw [this];exact hl.ext hx
theorem appendQ_ok (hty:TyOk P E.TY) {t t2 el:Nat} {x y:Operand} {a:CC} {c:Call} {q:Nat × List CC} {i:TypeInfo} {z:Value} {mv:List Value} (hel:elemT E t=some el) (h:appendQ E el a q s=some (v,s')) (ho:oo.op= .call c) (hc:c.callee= .builtin .append) (ha:c.args= #[x,y]) (ht:c.argTypes= #[t,t2]) (hd:Hd ρ s.H.get s.nx w) (hx:RpC ρ a (e x))
    (h0:smallN (nthT E.TY el).bytes=true) (h10:1≤E.sz el) (_hi:P.info? el=some i) (_hz1:i.zero=some z) (hsz:i.size=E.sz el) (hby:i.bytes=(nthT E.TY el).bytes) (hzs:z.cells.size=E.sz el)
    (hmv:0<q.1→RpL ρ q.2 mv∧mv.length=q.1*i.size)
    (S0:q.1=0→∀base n cap,n≤cap→(Builtin.append_ #[t,t2] oo.type #[.slice base n cap,e y]).run P w= .ok (.slice base n cap) w)
    (SN:0<q.1→(q.1:Int)≤9223372036854775807→q.1*i.bytes≤281474976710656→(Builtin.append_ #[t,t2] oo.type #[.slice none 0 0,e y]).run P w= .ok (.slice (some ⟨w.heap.size,0,none⟩) q.1 (grownCap w q.1 0 el)) (w.drew.alloc (.cells (mv.toArray++Builtin.zeroCells z.cells (grownCap w q.1 0 el - q.1)) el)))
    (SR:0<q.1→∀(g o sLen sCap tag:Nat) (cur:Array Value),w.heap[g]? =some (.cells cur tag (0,0))→sLen+q.1≤sCap→o+sLen*i.size+mv.length≤cur.size→(Builtin.append_ #[t,t2] oo.type #[.slice (some ⟨g,o,none⟩) sLen sCap,e y]).run P w= .ok (.slice (some ⟨g,o,none⟩) (sLen+q.1) sCap) (w.setRow g (cur.toList.take (o+sLen*i.size)++mv++cur.toList.drop (o+sLen*i.size+mv.length)).toArray))
    (SG:0<q.1→∀(b:Addr) (sLen sCap:Nat) (olds:List Value),olds.length=sLen*i.size→(∀j u,olds[j]? =some u→w.cell? (b.add j)=some u)→sCap<sLen+q.1→((sLen+q.1:Nat):Int)≤9223372036854775807→Builtin.nextslicecap (sLen+q.1) sCap*i.bytes≤281474976710656→
      (Builtin.append_ #[t,t2] oo.type #[.slice (some b) sLen sCap,e y]).run P w= .ok (.slice (some ⟨w.heap.size,0,none⟩) (sLen+q.1) (grownCap w (sLen+q.1) sCap el)) (w.drew.alloc (.cells (olds.toArray++mv.toArray++Builtin.zeroCells z.cells (grownCap w (sLen+q.1) sCap el - (sLen+q.1))) el))):Res P e oo ρ s s' w v:=by
  have hexec:∀u w',(Builtin.append_ #[t,t2] oo.type #[e x,e y]).run P w= .ok u w'→(execOp e oo).run P w= .ok (.value u) w':=fun u w' hr=>by
    simp [execOp,ho,resolve,hc,ha,ht,invoke,builtin,hr]
  have h00:=Nat.le_of_ble_eq_true h0
  have hempty:∀{base:Option Addr} {n cap:Nat},e x= .slice base n cap→n≤cap→q.1=0→(Builtin.append_ #[t,t2] oo.type #[e x,e y]).run P w= .ok (e x) w:=fun {base n cap} h1 h2 h3=>by
    rw [h1];exact S0 h3 _ _ _ h2
  have fits:∀{need old:Nat},old<need→smallN need=true→Builtin.nextslicecap need old*i.bytes≤281474976710656:=fun {need old} h4 h5=>by
    have h6:=Nat.le_of_ble_eq_true h5
    refine growslice_fits h4 ?_
    have:need*i.bytes≤1000000*1000000:=Nat.mul_le_mul h6 (by rw [hby];exact h00)
    omega
  have grow:∀{n old:Nat} {l:List CC} {vs:List Value},appGrow s (E.sz el) el n l=some (v,s')→RpL ρ l vs→vs.length=n*i.size→
      (Builtin.append_ #[t,t2] oo.type #[e x,e y]).run P w= .ok (.slice (some ⟨w.heap.size,0,none⟩) n (grownCap w n old el)) (w.drew.alloc (.cells (vs.toArray++Builtin.zeroCells z.cells (grownCap w n old el - n)) el))→Res P e oo ρ s s' w v:=by
    intro n old l vs h4 h5 h6 h7
    obtain ⟨_,h8⟩:=bt_eq h4
    cases h8
    obtain ⟨ρ',g1,g2⟩:=Post.make (o:=.cells l (some (E.sz el,el))) (w':=w.drew.alloc (.cells (vs.toArray++Builtin.zeroCells z.cells (grownCap w n old el - n)) el)) (grownCap w n old el) hd rfl ⟨⟨rfl,rfl⟩,rfl,Nat.le_succ _⟩ (grown_ob h5 (by rw [h6,hsz]) hzs (grownCap_ge _ _ _ _) h10 el)
    exact .inl ⟨_,_,hexec _ _ h7,ρ',g1,_,_,_,g2,grownCap_ge _ _ _ _,rfl,rfl⟩
  cases a with
  |nils=>
   have hx:e x= .slice none 0 0:=hx
   simp only [appendQ] at h
   cases hq:q.1 with
   |zero=>
    rw [hq] at h
    cases h
    exact res_pure hd (hexec _ _ (by rw [hempty hx (Nat.le_refl _) hq,hx])) rfl
   |succ n=>
    rw [hq] at h
    obtain ⟨h5,h6⟩:=hmv (by omega)
    rw [hq] at h6
    obtain ⟨h8,_⟩:=bt_eq h
    refine grow (old:=0) h h5 h6 ?_
    rw [hx]
    have hbig:=Nat.le_of_ble_eq_true h8
    have:(n+1)*i.bytes≤1000000*1000000:=Nat.mul_le_mul hbig (by rw [hby];exact h00)
    have hrun:=SN (by omega) (by omega) (by rw [hq];omega)
    rw [hq] at hrun
    exact hrun
  |sl k off len cap=>
   obtain ⟨b1,c1,cp,r1,r2,r3,r4⟩:=hx
   cases cap with
   |n c0=>
    have r4:cp=c0:=r4
    subst r4
    simp only [appendQ] at h
    cases hle:Nat.ble (len+q.1) cp with
    |true=>
     rw [hle] at h
     have hle:=Nat.le_of_ble_eq_true hle
     cases hq:q.1 with
     |zero=>
      rw [hq] at h
      cases h
      refine res_pure hd (hexec _ _ (hempty r3 r2 hq)) ?_
      exact ⟨b1,c1,cp,r1,r2,r3,rfl⟩
     |succ n=>
      rw [hq] at h hle
      obtain ⟨p,h4,h⟩:=bo_eq h
      obtain ⟨l',h5,h⟩:=bo_eq h
      cases h
      obtain ⟨g2,g3⟩:=hmv (by omega)
      rw [hq] at g3
      obtain ⟨cs,ty,g5,g6,g7,g8⟩:=cells_at hd (cellsH_eq h4) r1
      obtain ⟨g9,g10⟩:=write_cells g6 g7 g8 g2 h5
      have hrun:=SR (by omega) b1 off len cp ty cs g5 (by rw [hq];exact hle) (by rw [hsz];exact Nat.le_trans g10 g6)
      rw [hq] at hrun
      rw [hsz] at hrun
      refine .inl ⟨_,_,hexec _ _ (by rw [r3];exact hrun),ρ,Post.write hd (cellsH_eq h4) r1 (row_set g5) ⟨⟨rfl,rfl⟩,rfl,Nat.le_refl _⟩ g9,b1,c1,cp,r1,hle,rfl,rfl⟩
    |false=>
     rw [hle] at h
     have hlt:cp<len+q.1:=Nat.lt_of_not_le fun h'=>by rw [←Nat.ble_eq] at h';rw [h'] at hle;cases hle
     simp only at h
     obtain ⟨h4,h⟩:=bt_eq h
     obtain ⟨old,h5,h⟩:=bo_eq h
     obtain ⟨p,h6,h7⟩:=bo_eq h5
     obtain ⟨g2,g3⟩:=hmv (by omega)
     obtain ⟨cs,ty,g5,g6,g7,g8⟩:=cells_at hd (cellsH_eq h6) r1
     obtain ⟨ov,g9,g10,g11⟩:=part_cells g8 g5 h7
     obtain ⟨h8,_⟩:=bt_eq h
     have hbig:=Nat.le_of_ble_eq_true h8
     refine grow (old:=cp) h (g9.app g2) (by rw [List.length_append,g10,g3,Nat.add_mul,hsz]) ?_
     rw [r3]
     have hrun:=SG (by omega) ⟨b1,off,none⟩ len cp ov (by rw [g10,hsz]) (fun j u hj=>by rw [addr_add];exact g11 j u hj) hlt (by omega) (fits hlt h8)
     rw [hrun]
     congr 4
     simp
   |g=>
    have r4:cp=c1:=r4
    subst r4
    simp only [appendQ] at h
    obtain ⟨h4,h⟩:=bt_eq h
    have h4:=beq_iff'.1 h4
    subst h4
    cases hq:q.1 with
    |zero=>
     rw [hq] at h
     cases h
     refine res_pure hd (hexec _ _ (hempty r3 r2 hq)) ?_
     exact ⟨b1,cp,cp,r1,r2,r3,rfl⟩
    |succ n=>
     rw [hq] at h
     obtain ⟨h5,h⟩:=bt_eq h
     obtain ⟨p,h6,h⟩:=bo_eq h
     obtain ⟨l,g⟩:=p
     cases g with
     |none=>cases h
     |some g=>
      obtain ⟨gz,gt⟩:=g
      obtain ⟨h7,hA⟩:=bt_eq h
      obtain ⟨h7b,hB⟩:=bt_eq hA
      obtain ⟨old,h8,hC⟩:=bo_eq hB
      clear h hA hB
      have h7:gz=E.sz el:=beq_iff'.1 h7
      have h7b:gt=el:=beq_iff'.1 h7b
      subst h7b
      subst h7
      obtain ⟨g2,g3⟩:=hmv (by omega)
      rw [hq] at g3
      obtain ⟨cs,ty,g5,g6,g7,g8⟩:=cells_at hd (cellsH_eq h6) r1
      have g7b:ty=gt:=g7.1
      have g7:cs.size=cp*E.sz gt:=g7.2.2 (Nat.ne_of_gt h10)
      subst g7b
      have g6:l.length≤cs.size:=g6
      have g8:RpL ρ l (cs.toList.take l.length):=g8
      have h8:takeC l (len*E.sz ty)=some old:=h8
      obtain ⟨g9,g10⟩:=g8.take _ h8
      have hlen0:(cs.toList.take l.length).length=l.length:=by have e1:cs.toList.length=cs.size:=Array.length_toList;rw [List.length_take];omega
      rw [hlen0] at g10
      have hov:RpL ρ old (cs.toList.take (len*E.sz ty)):=by
        rw [List.take_take,Nat.min_eq_left g10] at g9;exact g9
      have hovl:(cs.toList.take (len*E.sz ty)).length=len*E.sz ty:=by have e1:cs.toList.length=cs.size:=Array.length_toList;rw [List.length_take];omega
      have hbig:=Nat.le_of_ble_eq_true h5
      by_cases hroom:len+(n+1)≤cp
      ·
        have hfit:0+len*i.size+mv.length≤cs.size:=by rw [g3,hsz,Nat.zero_add,←Nat.add_mul,g7];exact Nat.mul_le_mul_right _ hroom
        have hrun:=SR (by omega) b1 0 len cp ty cs g5 (by rw [hq];exact hroom) hfit
        rw [hq] at hrun
        rw [hsz,Nat.zero_add] at hrun
        cases hC
        have hob:∀ρ',Ext ρ ρ'→ObH ρ' cp (.cells (old++q.2) (some (E.sz ty,ty))) (.cells (cs.toList.take (len*E.sz ty)++mv++cs.toList.drop (len*E.sz ty+mv.length)).toArray ty (0,0)):=fun ρ' hx=>by
          have hA:=(hov.app g2).ext hx
          have hL:=hA.len
          have hS:(cs.toList.take (len*E.sz ty)++mv++cs.toList.drop (len*E.sz ty+mv.length)).toArray.size=cs.size:=by
            have e1:cs.toList.length=cs.size:=Array.length_toList
            rw [hsz,Nat.zero_add] at hfit
            simp only [List.size_toArray,List.length_append,List.length_drop,hovl];omega
          rw [hsz,Nat.zero_add] at hfit
          rw [List.length_append,hovl] at hL
          refine ⟨_,ty,rfl,by rw [hS];omega,⟨rfl,fun h=>absurd h (Nat.ne_of_gt h10),fun _=>by rw [hS];exact g7⟩,?_⟩
          have:((cs.toList.take (len*E.sz ty)++mv++cs.toList.drop (len*E.sz ty+mv.length)).toArray.toList.take (old++q.2).length)=cs.toList.take (len*E.sz ty)++mv:=by
            show (cs.toList.take (len*E.sz ty)++mv++cs.toList.drop (len*E.sz ty+mv.length)).take (old++q.2).length=_
            rw [List.take_append_of_le_length (by have e:=hL;simp only [List.length_append] at e ⊢;omega),List.take_of_length_le (by have e:=hL;simp only [List.length_append] at e ⊢;omega)]
          rw [this];exact hA
        obtain ⟨ρ',k1,k2⟩:=Post.rekey (w':=w.setRow b1 (cs.toList.take (len*E.sz ty)++mv++cs.toList.drop (len*E.sz ty+mv.length)).toArray) hd (cellsH_eq h6) r1 rfl (.inl rfl) (fun i hi hne=>setRow_other w b1 i _ hne) (setRow_heap w b1 cs _ ty (0,0) g5) (by rw [setRow_size];exact Nat.le_refl _) ⟨⟨rfl,rfl⟩,rfl,Nat.le_refl _⟩ hob
        exact .inl ⟨_,_,hexec _ _ (by rw [r3];exact hrun),ρ',k1,b1,cp,cp,k2,hroom,rfl,rfl⟩
      ·
        have hlt:cp<len+(n+1):=by omega
        have hrun:=SG (by omega) ⟨b1,0,none⟩ len cp (cs.toList.take (len*E.sz ty)) (by rw [hovl,hsz]) (fun j u hj=>by
          rw [addr_add,cell_of_heap g5,Nat.zero_add,←Array.getElem?_toList]
          rw [List.getElem?_take] at hj
          split at hj
          · exact hj
          · cases hj) (by rw [hq];exact hlt) (by rw [hq];have hbig:len+(n+1)≤1000000:=hbig;omega) (by rw [hq];exact fits hlt h5)
        rw [hq] at hrun
        cases hC
        have hob:=grown_ob (z:=E.sz ty) (hov.app g2) (n:=len+(n+1)) (cap:=grownCap w (len+(n+1)) cp ty) (zc:=z.cells) (by rw [List.length_append,hovl,g3,hsz,←Nat.add_mul]) hzs (grownCap_ge _ _ _ _) h10 ty
        have harr:(cs.toList.take (len*E.sz ty)).toArray++mv.toArray=(cs.toList.take (len*E.sz ty)++mv).toArray:=by simp
        rw [harr] at hrun
        obtain ⟨ρ',k1,k2⟩:=Post.rekey (w':=w.drew.alloc (.cells ((cs.toList.take (len*E.sz ty)++mv).toArray++Builtin.zeroCells z.cells (grownCap w (len+(n+1)) cp ty - (len+(n+1)))) ty)) (b':=w.heap.size) hd (cellsH_eq h6) r1 rfl (.inr (Nat.le_refl _)) (fun i hi hne=>by show (w.heap.push _)[i]? =_;rw [Array.getElem?_push_lt hi,Array.getElem?_eq_getElem hi]) (by show (w.heap.push _)[w.heap.size]? =_;simp) (by show _≤(w.heap.push _).size;simp) ⟨⟨rfl,rfl⟩,rfl,Nat.le_succ _⟩ hob
        exact .inl ⟨_,_,hexec _ _ (by rw [r3];exact hrun),ρ',k1,_,_,_,k2,grownCap_ge _ _ _ _,rfl,rfl⟩
   |u=>cases h
  |_=>cases h
theorem append_ok (hty:TyOk P E.TY) (hz:ZOk P E.TY E.TZ) {t el:Nat} {x y:Operand} {a b:CC} {c:Call} (hel:elemT E t=some el) (h:appendC E el a b s=some (v,s')) (ho:oo.op= .call c) (hc:c.callee= .builtin .append) (ha:c.args= #[x,y]) (ht:c.argTypes= #[t,t]) (hd:Hd ρ s.H.get s.nx w) (hx:RpC ρ a (e x)) (hy:RpC ρ b (e y)):Res P e oo ρ s s' w v:=by
  obtain ⟨h0,h⟩:=bt_eq h
  obtain ⟨h1,h⟩:=bt_eq h
  obtain ⟨h3,h⟩:=bt_eq h
  obtain ⟨q,h2,h⟩:=bo_eq h
  have hu:=slice_row hty (elemT_eq hel)
  obtain ⟨i,z,hi,hz1,hsz,hby,hzs,_⟩:=zero_row hz hty h3 h1
  rcases src_ok h2 hd hy with ⟨_,h4,h5⟩|⟨ad,cc,mv,h4,h5,h6,h7⟩
  · have hq:q.1=0:=by rw [h4]
    exact appendQ_ok (mv:=[]) hty hel h ho hc ha ht hd hx h0 (Nat.le_of_ble_eq_true h1) hi hz1 hsz hby hzs (fun h=>by omega) (fun _ base n cap hn=>by rw [h5];exact run_append_empty hu hi base none n cap 0 hn w) (fun h=>by omega) (fun h=>by omega) (fun h=>by omega)
  · exact appendQ_ok (mv:=mv) hty hel h ho hc ha ht hd hx h0 (Nat.le_of_ble_eq_true h1) hi hz1 hsz hby hzs (fun _=>⟨h5,by rw [hsz];exact h6⟩)
      (fun hq base n cap hn=>by rw [h4,hq];exact run_append_empty hu hi base (some ad) n cap cc hn w)
      (fun h0 g1 g2=>by rw [h4];exact run_append_nil (P:=P) w t oo.type el i z hu hi hz1 ad q.1 cc mv (by rw [hsz];exact h6) h7 h0 g1 g2)
      (fun _ g o sLen sCap tag cur g1 g2 g3=>by rw [h4];exact run_append_room2 (P:=P) (w:=w) t oo.type el i hu hi g o sLen sCap tag cur g1 ad q.1 cc mv (by rw [hsz];exact h6) h7 (one_cells h5) g2 g3)
      (fun _ b sLen sCap olds g1 g2 g3 g4 g5=>by rw [h4];exact run_append_grow (P:=P) w t oo.type el i z hu hi hz1 b sLen sCap olds g1 g2 ad q.1 cc mv (by rw [hsz];exact h6) h7 g3 g4 g5)
theorem minN_eq (a b:Nat):minN a b=min a b:=by
  unfold minN
  cases h:Nat.ble a b with
  |true=>simp only;rw [Nat.ble_eq] at h;omega
  |false=>
   have:¬a≤b:=fun h'=>by rw [←Nat.ble_eq] at h';rw [h'] at h;cases h
   simp only;omega
theorem copy_ok (hty:TyOk P E.TY) {t:Nat} {x y:Operand} {sv:SlV} {b:CC} {c:Call} (h:evCopy E t sv b s=some (v,s')) (ho:oo.op= .call c) (hc:c.callee= .builtin .copy) (ha:c.args= #[x,y]) (ht:c.argTypes= #[t,t]) (hd:Hd ρ s.H.get s.nx w) (hx:RpC ρ (.sl sv.k sv.off sv.len sv.cap) (e x)) (hy:RpC ρ b (e y)):Res P e oo ρ s s' w v:=by
  obtain ⟨el,h0,h⟩:=bo_eq h
  obtain ⟨h1,h⟩:=bt_eq h
  obtain ⟨q,h2,h⟩:=bo_eq h
  obtain ⟨p,h3,h⟩:=bo_eq h
  obtain ⟨m,h4,h⟩:=bo_eq h
  obtain ⟨l,h5,h⟩:=bo_eq h
  obtain ⟨h6,rfl,rfl⟩:=okI_eq h
  have hu:=slice_row hty (elemT_eq h0)
  have hub:∀w,(underlying t).run P w= .ok (.slice el) w:=fun w=>by simp [underlying,hu]
  have hsv:∀w,(sizeOf el).run P w= .ok (E.sz el) w:=fun w=>(hty.at (t:=el) (.inl (one_sz h1))).size w
  obtain ⟨b1,c1,cp,r1,r2,r3,r4⟩:=hx
  obtain ⟨cs,ty,g5,g6,g7,g8⟩:=cells_at hd (cellsH_eq h3) r1
  have hexec:∀u w',(Builtin.copy_ #[t,t] oo.type #[e x,e y]).run P w= .ok u w'→(execOp e oo).run P w= .ok (.value u) w':=fun u w' hr=>by
    simp [execOp,ho,resolve,hc,ha,ht,invoke,builtin,hr]
  have hmin:Nat.min q.1 sv.len=minN q.1 sv.len:=(minN_eq _ _).symm
  have hsrc:∃mv:List Value,RpL ρ m mv∧mv.length=minN q.1 sv.len*E.sz el∧(Builtin.lenOf (e y)).run P w= .ok q.1 w∧(Builtin.firstCells (E.sz el) (minN q.1 sv.len) (e y)).run P w= .ok mv.toArray w:=by
    rcases src_ok h2 hd hy with ⟨_,h7,h8⟩|⟨ad,cap,mv,h7,h8,h9,h10⟩
    · have e1:minN q.1 sv.len=0:=by rw [minN_eq,h7];simp
      rw [h7] at h4
      rw [h7] at e1
      rw [e1,Nat.zero_mul,takeC_zero] at h4
      cases h4
      refine ⟨[],trivial,by rw [h7,e1];simp,by rw [h8,h7];simp [Builtin.lenOf],?_⟩
      rw [h8];simp [Builtin.firstCells]
    · obtain ⟨h11,h12⟩:=h8.take _ h4
      have hl:(mv.take (minN q.1 sv.len*E.sz el)).length=minN q.1 sv.len*E.sz el:=by rw [List.length_take];omega
      refine ⟨_,h11,hl,by rw [h7];simp [Builtin.lenOf],?_⟩
      rw [h7]
      exact run_firstCells_some (P:=P) w (E.sz el) (minN q.1 sv.len) ad q.1 cap _ hl (fun j u hj=>h10 j u (by
        rw [List.getElem?_take] at hj
        split at hj
        · exact hj
        · cases hj))
  obtain ⟨mv,g1,g2,g3,g4⟩:=hsrc
  obtain ⟨g9,g10⟩:=write_cells g6 g7 g8 g1 h5
  have hst:=run_storeCells_at P b1 sv.off ty mv 0 cs w g5 (by simpa using Nat.le_trans g10 g6) (one_cells g1)
  simp only [Nat.add_zero] at hst
  have hrun:(Builtin.copy_ #[t,t] oo.type #[e x,e y]).run P w= .ok (goInt (minN q.1 sv.len)) (w.setRow b1 (cs.toList.take sv.off++mv++cs.toList.drop (sv.off+mv.length)).toArray):=by
    rw [r3]
    simp only [Builtin.copy_]
    simp [hub,g3,hmin,hsv,g4,hst]
  exact .inl ⟨_,_,hexec _ _ hrun,ρ,Post.write hd (cellsH_eq h3) r1 (row_set g5) ⟨⟨rfl,rfl⟩,rfl,Nat.le_refl _⟩ g9,rfl,goInt_in h6⟩
theorem clear_ok (hty:TyOk P E.TY) (hz:ZOk P E.TY E.TZ) {t:Nat} {x:Operand} {a:CC} {c:Call} (h:evClear E t a s=some (v,s')) (ho:oo.op= .call c) (hc:c.callee= .builtin .clear) (ha:c.args= #[x]) (ht:c.argTypes[0]? =some t) (hd:Hd ρ s.H.get s.nx w) (hx:RpC ρ a (e x)):Res P e oo ρ s s' w v:=by
  obtain ⟨el,h0,h⟩:=bo_eq h
  have hu:=slice_row hty (elemT_eq h0)
  have hub:∀w,(underlying t).run P w= .ok (.slice el) w:=fun w=>by simp [underlying,hu]
  have hexec:∀w',(Builtin.clear_ c.argTypes oo.type #[e x]).run P w= .ok (.tuple #[]) w'→(execOp e oo).run P w= .ok (.value (.tuple #[])) w':=fun w' hr=>by
    simp [execOp,ho,resolve,hc,ha,invoke,builtin,hr]
  cases a with
  |nils=>
   cases h
   have hx:e x= .slice none 0 0:=hx
   exact res_pure hd (hexec _ (by simp [Builtin.clear_,ht,hub,hx])) ⟨_,rfl,trivial⟩
  |sl k off len cap=>
   obtain ⟨b1,c1,cp,r1,r2,r3,r4⟩:=hx
   cases len with
   |zero=>
    cases h
    exact res_pure hd (hexec _ (by simp [Builtin.clear_,ht,hub,r3])) ⟨_,rfl,trivial⟩
   |succ n=>
    obtain ⟨h1,h⟩:=bt_eq h
    obtain ⟨h2,h⟩:=bt_eq h
    obtain ⟨p,h3,h⟩:=bo_eq h
    obtain ⟨l,h4,h⟩:=bo_eq h
    cases h
    obtain ⟨i,z,hi,hz1,hsz,hby,hzs,hzr⟩:=zero_row hz hty h2 h1
    have h10:=Nat.le_of_ble_eq_true h1
    have hzv:∀w,(zeroValue el).run P w= .ok z w:=fun w=>by simp [zeroValue,typeInfo,hi,hz1]
    have hm:=made_ok (ρ:=ρ) (hzr ρ) (by omega) (n+1)
    obtain ⟨cs,ty,g5,g6,g7,g8⟩:=cells_at hd (cellsH_eq h3) r1
    obtain ⟨g9,g10⟩:=write_cells g6 g7 g8 hm h4
    have hst:=run_storeCells_at P b1 off ty (Builtin.zeroCells z.cells (n+1)).toList 0 cs w g5 (by simpa [Builtin.zeroCells] using Nat.le_trans g10 g6) (one_cells hm)
    simp only [Nat.add_zero] at hst
    refine .inl ⟨_,_,hexec _ (by simp [Builtin.clear_,ht,hub,r3,hzv,hst];simp [Builtin.zeroCells]),ρ,Post.write hd (cellsH_eq h3) r1 (row_set g5) ⟨⟨rfl,rfl⟩,rfl,Nat.le_refl _⟩ g9,⟨_,rfl,trivial⟩⟩
  |_=>cases h
theorem sdata_ok {x:Operand} {a:CC} {c:Call} (h:evSData a s=some (v,s')) (ho:oo.op= .call c) (hc:c.callee= .builtin .unsafeSliceData) (ha:c.args= #[x]) (hd:Hd ρ s.H.get s.nx w) (hx:RpC ρ a (e x)):Res P e oo ρ s s' w v:=by
  have hexec:∀u,(Builtin.unsafeSliceData_ c.argTypes oo.type #[e x]).run P w= .ok u w→(execOp e oo).run P w= .ok (.value u) w:=fun u hr=>by
    simp [execOp,ho,resolve,hc,ha,invoke,builtin,hr]
  cases a with
  |nils=>
   cases h
   have hx:e x= .slice none 0 0:=hx
   exact res_pure hd (hexec (.pointer none) (by rw [hx];rfl)) rfl
  |sl k off len cap=>
   obtain ⟨b1,c1,cp,r1,r2,r3,r4⟩:=hx
   obtain ⟨h1,h⟩:=bt_eq h
   cases h
   have h1:=Nat.le_of_ble_eq_true h1
   exact res_pure hd (hexec (.pointer (some ⟨b1,off,none⟩)) (by rw [r3];exact Lib.run_unsafeSliceData_row w _ _ _ _ _ (by omega))) ⟨b1,c1,r1,rfl⟩
  |_=>cases h
theorem strC_rep:∀{l:List Nat},(∀x∈l,x<256)→RpL ρ (strC l) (Lib.strCells (bytesV l))
  |[],_=>trivial
  |b::l,h=>by
   have hb:=h b (by simp)
   have ih:=strC_rep (l:=l) fun x hx=>h x (List.mem_cons_of_mem _ hx)
   refine ⟨?_,by simpa [Lib.strCells,bytesV] using ih⟩
   show _=Value.int .u8 b∧_
   refine ⟨?_,by show inK .u8 (b:Int);simp [inK,IntKind.min,IntKind.max,IntKind.signed,IntKind.bits];omega⟩
   have e:(UInt8.ofNat b).toNat=b:=by simp;omega
   simp [e]
theorem appendS_ok (hty:TyOk P E.TY) (hz:ZOk P E.TY E.TZ) {t t2 el:Nat} {x y:Operand} {a:CC} {l:List Nat} {c:Call} (hel:elemT E t=some el) (h2:isStrT (E.d t2)=true) (h:appendS E el a l s=some (v,s')) (ho:oo.op= .call c) (hc:c.callee= .builtin .append) (ha:c.args= #[x,y]) (ht:c.argTypes= #[t,t2]) (hd:Hd ρ s.H.get s.nx w) (hx:RpC ρ a (e x)) (hy:RpC ρ (.str l) (e y)):Res P e oo ρ s s' w v:=by
  obtain ⟨h0,h⟩:=bt_eq h
  obtain ⟨h1,h⟩:=bt_eq h
  obtain ⟨h3,h⟩:=bt_eq h
  have h1:=beq_iff'.1 h1
  have h1b:Nat.ble 1 (E.sz el)=true:=by rw [h1];rfl
  have hu:=slice_row hty (elemT_eq hel)
  have hu2:P.underlying t2=some .string:=by
    cases hd2:E.d t2<;>rw [hd2] at h2<;>try (cases h2;done)
    obtain ⟨d,g1,g2,_⟩:=rowOf hty (t:=t2) (by show (nthT E.TY t2).d≠.other;rw [show (nthT E.TY t2).d= .str from hd2];simp)
    rw [show (nthT E.TY t2).d= .str from hd2] at g2
    cases d<;>first|exact g1|exact g2.elim
  obtain ⟨i,z,hi,hz1,hsz,hby,hzs,_⟩:=zero_row hz hty h3 h1b
  obtain ⟨hy,hl⟩:=hy
  have hlen:lenN l 0=(bytesV l).size:=by rw [lenN_eq];show _=((l.map UInt8.ofNat).toArray).size;simp
  have hmv:(Lib.strCells (bytesV l)).length=lenN l 0*i.size:=by rw [Lib.strCells_length,hlen,hsz,h1,Nat.mul_one]
  have hi1:i.size=1:=hsz.trans h1
  have hml:(Lib.strCells (bytesV l)).length=(bytesV l).size:=Lib.strCells_length _
  have harr:(bytesV l).data.map (fun b=>Value.int .u8 b.toNat)=(Lib.strCells (bytesV l)).toArray:=by
    apply Array.ext'
    simp [Lib.strCells]
  refine appendQ_ok (mv:=Lib.strCells (bytesV l)) hty hel h ho hc ha ht hd hx h0 (by omega) hi hz1 hsz hby hzs (fun _=>⟨strC_rep hl,hmv⟩) (fun hq base n cap hn=>?_) (fun hq g1 g2=>?_) (fun _ g o sLen sCap tag cur g1 g2 g3=>?_) (fun _ b sLen sCap olds g1 g2 g3 g4 g5=>?_)
  · have hs0:(bytesV l).size=0:=by have hq:lenN l 0=0:=hq;omega
    have hf:=Lib.run_firstCells_string (P:=P) w i.size (bytesV l)
    have he:Lib.strCells (bytesV l)=[]:=List.length_eq_zero_iff.1 (by omega)
    rw [hs0,he] at hf
    rw [hy]
    cases base<;>simp [Builtin.append_,run_underlying hu,run_underlying hu2,sizeOf,typeInfo,hi,Builtin.lenOf,hs0,hn,hf,storeCells]
  · have hq:0<lenN l 0:=hq
    have g1:((lenN l 0:Nat):Int)≤9223372036854775807:=g1
    have g2:lenN l 0*i.bytes≤281474976710656:=g2
    rw [hlen] at hq g1 g2
    have:=run_append_nil_string (P:=P) w t t2 oo.type el i z hu hu2 hi hz1 (bytesV l) hq g1 g2
    rw [hy,this,harr]
    show _=Result.ok (Value.slice (some ⟨w.heap.size,0,none⟩) (lenN l 0) (grownCap w (lenN l 0) 0 el)) (w.drew.alloc (.cells ((Lib.strCells (bytesV l)).toArray++Builtin.zeroCells z.cells (grownCap w (lenN l 0) 0 el - lenN l 0)) el))
    rw [hlen]
  · have g2:sLen+lenN l 0≤sCap:=g2
    have hf:=Lib.run_firstCells_string (P:=P) w i.size (bytesV l)
    have hst:=run_storeCells_at P g (o+sLen*i.size) tag (Lib.strCells (bytesV l)) 0 cur w g1 (by simpa using g3) (Lib.strCells_oneCell _)
    simp only [Nat.add_zero] at hst
    have hadd:(⟨g,o,none⟩:Addr).add (sLen*i.size)=⟨g,o+sLen*i.size,none⟩:=by rw [addr_add]
    rw [hlen] at g2
    rw [hy]
    show _=Result.ok (Value.slice (some ⟨g,o,none⟩) (sLen+lenN l 0) sCap) _
    rw [hlen]
    simp [Builtin.append_,run_underlying hu,run_underlying hu2,sizeOf,typeInfo,hi,Builtin.lenOf,g2,hf,hadd,hst]
  · have g3:sCap<sLen+lenN l 0:=g3
    have g4:((sLen+lenN l 0:Nat):Int)≤9223372036854775807:=g4
    have g5:Builtin.nextslicecap (sLen+lenN l 0) sCap*i.bytes≤281474976710656:=g5
    rw [hlen] at g3 g4 g5
    have:=Lib.run_append_grow_string (P:=P) w t t2 oo.type el i z hu hu2 hi hz1 b sLen sCap olds g1 g2 (bytesV l) g3 g4 g5
    rw [hy,this]
    show _=Result.ok (Value.slice (some ⟨w.heap.size,0,none⟩) (sLen+lenN l 0) (grownCap w (sLen+lenN l 0) sCap el)) (w.drew.alloc (.cells (olds.toArray++(Lib.strCells (bytesV l)).toArray++Builtin.zeroCells z.cells (grownCap w (sLen+lenN l 0) sCap el - (sLen+lenN l 0))) el))
    rw [hlen]
theorem freeze_other {w:World} {a:Addr} {n i:Nat} (h:i≠a.block):(w.freeze a n).heap[i]? =w.heap[i]? :=by
  unfold World.freeze
  split
  · rfl
  · show (w.heap.modify a.block _)[i]? =_
    rw [Array.getElem?_modify,if_neg (Ne.symm h)]
theorem freeze_size {w:World} {a:Addr} {n:Nat}:(w.freeze a n).heap.size=w.heap.size:=by
  unfold World.freeze
  split
  · rfl
  · show (w.heap.modify a.block _).size=_
    simp
theorem freeze_io {w:World} {a:Addr} {n:Nat}:IoS w (w.freeze a n):=by
  unfold World.freeze
  split
  · exact IoS.refl w
  · exact ⟨⟨rfl,rfl⟩,rfl,Nat.le_refl _⟩
theorem ustr_ok (hbys:BysOk P E.bys) {t t2 n:Nat} {x y:Operand} {a:CC} {c:Call} (h:evUStr E t a n s=some (v,s')) (ho:oo.op= .call c) (hc:c.callee= .builtin .unsafeString) (ha:c.args= #[x,y]) (ht:c.argTypes= #[t,t2]) (hd:Hd ρ s.H.get s.nx w) (hx:RpC ρ a (e x)) (hy:e y= .int .i64 n):Res P e oo ρ s s' w v:=by
  have hexec:∀u w',(Builtin.unsafeString_ #[t,t2] oo.type #[e x,.int .i64 n]).run P w= .ok u w'→(execOp e oo).run P w= .ok (.value u) w':=fun u w' hr=>by
    simp [execOp,ho,resolve,hc,ha,ht,invoke,builtin,hy,hr]
  cases n with
  |zero=>
   cases a<;>try (cases h;done)
   · cases h
     obtain ⟨b,c,r1,r2⟩:=hx
     exact res_pure hd (u:=.string .empty) (hexec _ _ (by rw [r2];exact Lib.run_unsafeString_none w _ _ _ _)) ⟨rfl,by simp⟩
   · cases h
     have hx:e x= .pointer none:=hx
     exact res_pure hd (u:=.string .empty) (hexec _ _ (by rw [hx];exact Lib.run_unsafeString_none w _ _ _ _)) ⟨rfl,by simp⟩
  |succ n=>
   cases a<;>try (cases h;done)
   rename_i k off
   obtain ⟨h1,h⟩:=bt_eq h
   have h1:=beq_iff'.1 h1
   subst h1
   obtain ⟨p,h2,h⟩:=bo_eq h
   obtain ⟨l,g⟩:=p
   cases g with
   |none=>cases h
   |some g=>
    obtain ⟨gz,gt⟩:=g
    obtain ⟨h3,hA⟩:=bt_eq h
    obtain ⟨h3b,hA2⟩:=bt_eq hA
    obtain ⟨m,h4,hB⟩:=bo_eq hA2
    obtain ⟨q,h5,hC⟩:=bo_eq hB
    clear h hA hA2 hB
    cases hC
    obtain ⟨b,c1,r1,r2⟩:=hx
    obtain ⟨cs,ty,g5,g6,g7,g8⟩:=cells_at hd (cellsH_eq h2) r1
    have hty:ty=gt:=g7.1
    subst hty
    obtain ⟨k1,k2⟩:=hbys _ h3
    have h4:partC l 0 (n+1)=some m:=h4
    have g6:l.length≤cs.size:=g6
    obtain ⟨mv,r6,r7,r8⟩:=part_cells g8 g5 h4
    obtain ⟨r9,r10⟩:=bytesOf_rep h5 r6
    have hlen:q.length=n+1:=by rw [←r7,r9];simp
    have hsm:=Nat.le_of_ble_eq_true h3b
    have hle:n+1≤l.length:=by
      have:=(takeC_len (show takeC (dropC l 0) (n+1)=some m from h4)).2
      rwa [dropC_zero] at this
    have hrun:=Lib.run_unsafeString_row (P:=P) w t t2 oo.type ty k1 k2 b cs.size (by simp [World.shape?,g5]) (q.map UInt8.ofNat) (by intro e;have:=congrArg List.length e;simp [hlen] at this) (by simp [hlen];omega) (by simp [hlen];omega) (fun j x hj=>by
      rw [addr_add]
      refine r8 j _ ?_
      rw [r9]
      rw [List.getElem?_map] at hj
      cases hq:q[j]? with
      |none=>rw [hq] at hj;cases hj
      |some y=>
       rw [hq] at hj
       cases hj
       have hm:=List.mem_of_getElem? hq
       have:=r10 y hm
       rw [List.getElem?_map,hq]
       simp only [Option.map_some]
       congr 2
       rw [UInt8.toNat_ofNat'];omega)
    rw [List.length_map,hlen] at hrun
    refine .inl ⟨.string (bytesV q),_,hexec _ _ (by rw [r2];exact hrun),ρ,Post.drop hd (cellsH_eq h2) r1 (fun i _ hi=>freeze_other hi) (by rw [freeze_size];exact Nat.le_refl _) freeze_io,⟨rfl,r10⟩⟩
theorem evOs_rep:∀{l:List Operand},(∀x∈l,RpV ρ (evO T x) (e x))→RpVs ρ (evOs T l) (l.map e)
  |[],_=>trivial
  |x::l,h=>⟨h x (by simp),evOs_rep fun y hy=>h y (List.mem_cons_of_mem _ hy)⟩
theorem RpVs.app:∀{l l':List CV} {m m':List Value},RpVs ρ l m→RpVs ρ l' m'→RpVs ρ (appV l l') (m++m')
  |[],_,[],_,_,h'=>h'|_::_,_,_::_,_,h,h'=>⟨h.1,RpVs.app h.2 h'⟩|[],_,_::_,_,h,_=>h.elim|_::_,_,[],_,h,_=>h.elim
theorem evCaps_rep:∀{l:List CC} {m:List Value},RpL ρ l m→RpVs ρ (evCaps l) m
  |[],[],_=>trivial|_::_,_::_,h=>⟨h.1,evCaps_rep h.2⟩|[],_::_,h=>h.elim|_::_,[],h=>h.elim
theorem enter_run {f:FuncId} {_vs:Array Value} {c:Call} {x:Operand} (hcb:Callable P f) (hc:c.callee= .value x) (ho:oo.op= .call c) {cs:Array Value} (hx:e x= .func (.func f) #[] cs):(execOp e oo).run P w= .ok (.enter f (c.args.map e++cs)) w:=by
  obtain ⟨fn,h1,h2,h3⟩:=hcb
  have h4:fn.body≠none:=fun h=>by rw [h] at h3;cases h3
  have h2':¬(fn.name= "runtime.NumGoroutine"):=h2
  simp [execOp,ho,resolve,hc,hx,Deferred.ofValue,invoke,callFunc,h1,h2',h4,program,Sem.run]
theorem call_ok (hty:TyOk P E.TY) (hz:ZOk P E.TY E.TZ) (hcal:EvOk P E) {c:Call} (h:evCall E T c s=some (v,s')) (ho:oo.op= .call c) (hd:Hd ρ s.H.get s.nx w) (he:∀x∈oo.op.operands,RpV ρ (evO T x) (e x)):Res P e oo ρ s s' w v:=by
  rw [ho] at he
  have hargs:∀x∈c.args.toList,RpV ρ (evO T x) (e x):=fun x hx=>he x (by simp only [Op.operands,Call.operands,Array.mem_append];exact .inr (Array.mem_toList_iff.1 hx))
  unfold evCall at h
  split at h
  · rename_i x hc
    have hx:RpV ρ (evO T x) (e x):=he x (by simp only [Op.operands,Call.operands,hc,Array.mem_append];exact .inl (by simp))
    have fin:∀{f:FuncId} {as:List CV} {cs:Array Value},E.call f as s=some (v,s')→e x= .func (.func f) #[] cs→RpVs ρ as (c.args.toList.map e++cs.toList)→Res P e oo ρ s s' w v:=fun {f as cs} h1 h2 h3=>by
      obtain ⟨h4,h5⟩:=hcal.cal f as s v s' h1
      refine .inr (.inr ⟨f,c.args.map e++cs,w,enter_run (_vs:= #[]) h4 hc ho h2,?_⟩)
      have:=h5 ρ w _ hd h3
      have harr:(c.args.toList.map e++cs.toList).toArray=c.args.map e++cs:=by apply Array.ext';simp
      rw [harr] at this
      exact this.mono fun e w' ⟨u,he,ρ',hp,hv⟩=>⟨u,he,ρ',hp,hv⟩
    generalize hv:evO T x=y at h hx
    cases y with
    |c a=>
     cases a with
     |fn f=>
      simp only at h
      refine fin h (cs:= #[]) hx ?_
      have:=evOs_rep (T:=T) (e:=e) hargs
      simpa using this
     |_=>cases h
    |clo f l=>
     simp only at h
     obtain ⟨cs,h1,h2⟩:=hx
     exact fin h h1 ((evOs_rep (T:=T) (e:=e) hargs).app (evCaps_rep h2))
    |_=>cases h
  · rename_i b hc
    unfold evBuiltin at h
    generalize hA:c.args.toList=A at h hargs
    generalize hB:c.argTypes.toList=B at h
    cases A with
    |nil=>cases h
    |cons x A=>
     cases A with
     |nil=>
      have ha:c.args= #[x]:=by simpa using congrArg List.toArray hA
      cases b<;>try (cases h;done)
      ·
        cases B with
        |nil=>cases h
        |cons t B=>
         have ht:c.argTypes[0]? =some t:=by rw [←Array.getElem?_toList,hB];rfl
         obtain ⟨y,h1,h⟩:=bo_eq h
         exact clear_ok hty hz h ho hc ha ht hd (asC_rep h1 (hargs x (by simp)))
      ·
        cases B with
        |nil=>cases h
        |cons t B=>
         have ht:c.argTypes[0]? =some t:=by rw [←Array.getElem?_toList,hB];rfl
         obtain ⟨y,h1,h⟩:=bo_eq h
         exact len_ok hty h ho hc ha ht hd (asC_rep h1 (hargs x (by simp)))
      ·
        obtain ⟨y,h1,h⟩:=bo_eq h
        exact sdata_ok h ho hc ha hd (asC_rep h1 (hargs x (by simp)))
     |cons y A=>
      cases A with
      |cons=>cases h
      |nil=>
       have ha:c.args= #[x,y]:=by simpa using congrArg List.toArray hA
       have two:∀{t:Nat} {tys:List Nat},B=t::tys→otherT t tys=true→c.argTypes= #[t,t]:=fun {t tys} e1 e2=>by
         subst e1
         cases tys with
         |nil=>cases e2
         |cons u l=>
          cases l with
          |nil=>have:=beq_iff'.1 e2;subst this;simpa using congrArg List.toArray hB
          |cons=>cases e2
       cases b<;>try (cases h;done)
       ·
         cases B with
         |nil=>cases h
         |cons t tys=>
          obtain ⟨el,h1,h⟩:=bo_eq h
          obtain ⟨a,h2,h⟩:=bo_eq h
          obtain ⟨b,h3,h⟩:=bo_eq h
          have hb:=asC_rep h3 (hargs y (by simp))
          have other:bt (otherT t tys) (appendC E el a b s)=some (v,s')→Res P e oo ρ s s' w v:=fun h=>by
            obtain ⟨h0,h⟩:=bt_eq h
            exact append_ok hty hz h1 h ho hc ha (two rfl h0) hd (asC_rep h2 (hargs x (by simp))) hb
          cases b with
          |str l=>
           cases tys with
           |nil=>cases h
           |cons u r=>
            cases r with
            |cons=>cases h
            |nil=>
             obtain ⟨h0,h⟩:=bt_eq h
             exact appendS_ok hty hz h1 h0 h ho hc ha (by simpa using congrArg List.toArray hB) hd (asC_rep h2 (hargs x (by simp))) hb
          |_=>exact other h
       ·
         cases B with
         |nil=>cases h
         |cons t tys=>
          obtain ⟨h0,h⟩:=bt_eq h
          obtain ⟨sv,h2,h⟩:=bo_eq h
          obtain ⟨b,h3,h⟩:=bo_eq h
          exact copy_ok hty h ho hc ha (two rfl h0) hd (asS_rep h2 (hargs x (by simp))) (asC_rep h3 (hargs y (by simp)))
       ·
         obtain ⟨p,h2,h⟩:=bo_eq h
         obtain ⟨q,h3,h⟩:=bo_eq h
         obtain ⟨h4,h⟩:=bt_eq h
         cases h
         obtain ⟨e1,i1⟩:=asI_rep h2 (hargs x (by simp))
         obtain ⟨e2,i2⟩:=asI_rep h3 (hargs y (by simp))
         obtain ⟨k,m⟩:=p
         obtain ⟨k',n⟩:=q
         have hk:k=k':=kq_eq h4
         subst hk
         by_cases hle:m≤n
         · have:Max.max m n=n:=Int.max_eq_right hle
           refine res_pure hd (u:=.int k n) ?_ ?_
           · rcases Int.lt_or_eq_of_le hle with h5|h5
             · simp [execOp,ho,resolve,hc,ha,invoke,builtin,e1,e2,Builtin.max_,Builtin.max2,h5]
             · subst h5;simp [execOp,ho,resolve,hc,ha,invoke,builtin,e1,e2,Builtin.max_,Builtin.max2]
           · show RpC ρ (.int k (match decide (m≤n) with|true=>n|false=>m)) _
             rw [decide_eq_true hle];exact ⟨rfl,i2⟩
         · refine res_pure hd (u:=.int k m) ?_ ?_
           · have h5:¬m<n:=by omega
             simp [execOp,ho,resolve,hc,ha,invoke,builtin,e1,e2,Builtin.max_,Builtin.max2,h5]
           · show RpC ρ (.int k (match decide (m≤n) with|true=>n|false=>m)) _
             rw [decide_eq_false hle];exact ⟨rfl,i1⟩
       ·
         obtain ⟨p,h2,h⟩:=bo_eq h
         obtain ⟨q,h3,h⟩:=bo_eq h
         obtain ⟨h4,h⟩:=bt_eq h
         cases h
         obtain ⟨e1,i1⟩:=asI_rep h2 (hargs x (by simp))
         obtain ⟨e2,i2⟩:=asI_rep h3 (hargs y (by simp))
         obtain ⟨k,m⟩:=p
         obtain ⟨k',n⟩:=q
         have hk:k=k':=kq_eq h4
         subst hk
         by_cases hle:m≤n
         · refine res_pure hd (u:=.int k m) ?_ ?_
           · have h5:¬n<m:=by omega
             simp [execOp,ho,resolve,hc,ha,invoke,builtin,e1,e2,Builtin.min_,Builtin.min2,h5]
           · show RpC ρ (.int k (match decide (m≤n) with|true=>m|false=>n)) _
             rw [decide_eq_true hle];exact ⟨rfl,i1⟩
         · refine res_pure hd (u:=.int k n) ?_ ?_
           · have h5:n<m:=by omega
             simp [execOp,ho,resolve,hc,ha,invoke,builtin,e1,e2,Builtin.min_,Builtin.min2,h5]
           · show RpC ρ (.int k (match decide (m≤n) with|true=>m|false=>n)) _
             rw [decide_eq_false hle];exact ⟨rfl,i2⟩
       ·
         cases B with
         |nil=>cases h
         |cons t tys=>
          cases tys with
          |nil=>cases h
          |cons u r=>
           cases r with
           |cons=>cases h
           |nil=>
            obtain ⟨⟨k,m⟩,h2,h6⟩:=bo_eq h
            obtain ⟨h3,h7⟩:=bt_eq h6
            obtain ⟨n,h4,h8⟩:=bo_eq h7
            obtain ⟨a,h5,h9⟩:=bo_eq h8
            obtain ⟨e2,i2⟩:=asI_rep h2 (hargs y (by simp))
            have hk:k= .i64:=kq_eq h3
            subst hk
            have hm:m=(n:Int):=by
              cases m with
              |ofNat m=>cases h4;rfl
              |negSucc m=>cases h4
            subst hm
            exact ustr_ok hcal.bys h9 ho hc ha (by simpa using congrArg List.toArray hB) hd (asC_rep h5 (hargs x (by simp))) e2
  · cases h
theorem op_ok (hty:TyOk P E.TY) (hz:ZOk P E.TY E.TZ) (hcal:EvOk P E) {o:Op} (h:evOp E o T s=some (v,s')) (ho:oo.op=o) (hd:Hd ρ s.H.get s.nx w) (he:∀x∈o.operands,RpV ρ (evO T x) (e x)):Res P e oo ρ s s' w v:=by
  subst ho
  generalize ho:oo.op=o at h he
  rw [←ho] at he
  cases o with
  |move x=>cases h;exact move_ok (.inl ho) hd he
  |assign x=>cases h;exact move_ok (.inr ho) hd he
  |pick c a b=>exact pick_ok h ho hd he
  |alloc t=>exact alloc_ok hz h ho hd
  |box t x=>exact box_ok h ho hd he
  |build t ps=>exact build_ok hty hz h ho hd he
  |buildSlice t n ps=>exact buildS_ok hty hz h ho hd he
  |insert t x k y=>exact upd_ok hty h (.inr ho) hd he
  |load t x=>exact load_ok hty h ho hd he
  |store t x y=>exact store_ok hty h ho hd he
  |nilCheck x=>exact nil_ok h ho hd he
  |binOp op t x y ty=>exact bin_ok hty hcal.eqs h ho hd he
  |unOp op t x=>exact un_ok h ho hd he
  |convert a b x=>exact conv_ok hty h ho hd he
  |makeFunc fn first cap=>exact fun_ok h ho hd he
  |makeMap t r=>exact makeMap_ok hty h ho hd he
  |makeSlice t l c=>exact make_ok hty hz h ho hd he
  |slice t x lo hi mx=>exact slice_ok hty h ho hd he
  |fieldAddr t x f=>exact fieldA_ok hty h ho hd he
  |field t x f=>exact field_ok hty h ho hd he
  |indexAddr t x i=>exact indexA_ok hty h ho hd he
  |index t x i=>exact index_ok hty h ho hd he
  |lookup t x k ok=>exact look_ok hty hz h ho hd he
  |mapUpdate t x k y=>exact upd_ok hty h (.inl ho) hd he
  |extract x i=>exact extract_ok h ho hd he
  |call c=>exact call_ok hty hz hcal h ho hd he
  |_=>cases h
end
end Go.CM
end
section
namespace Go.CM
open Go Go.AM
section
variable {P:Program} {E:Ev} {ρ:Rn} {w:World}
theorem gd_want {ops:Array Oper} {o:Oper} {T:Tm'} {a:Act} {g:Bool} (h:gdV ops o.guard T=some g) (hv:∀d,d∈o.looksAt ops→RpV ρ (getV T d) (a.tmps.getD d undef)):Region.wanted o (yielded ops a.tmps)=g:=by
  unfold Region.wanted
  cases hg:o.guard with
  |none=>rw [hg] at h;cases h;rfl
  |some jw=>
   obtain ⟨j,want⟩:=jw
   rw [hg] at h
   obtain ⟨d,h3,h⟩:=bo_eq h
   have h3:(ops[j]?).bind (·.dst)=some d:=h3
   have hm:d∈o.looksAt ops:=by
     unfold Oper.looksAt;rw [hg];simp [h3]
   have hr:=hv d hm
   show (yielded ops a.tmps j==some want)=g
   unfold yielded
   rw [h3]
   simp only [Option.bind_some]
   split at h
   · rename_i x hx
     split at h
     · rename_i b
       rw [hx] at hr
       have hr:a.tmps.getD d undef= .bool b:=hr
       have hq:a.tmps[d]? =some (.bool b):=by
         cases hq:a.tmps[d]? with
         |none=>rw [Array.getD_eq_getD_getElem?,hq] at hr;cases hr
         |some v=>rw [Array.getD_eq_getD_getElem?,hq] at hr;exact congrArg some hr
       rw [hq]
       cases want<;>cases b<;>(cases h;rfl)
     · cases h
   · rename_i l hl
     split at h
     · cases h
       rw [hl] at hr
       obtain ⟨cs,h4,h5⟩:=hr
       cases hq:a.tmps[d]? with
       |none=>rfl
       |some v=>
        rw [Array.getD_eq_getD_getElem?,hq] at h4
        have h4:v= .tuple cs:=h4
        subst h4;rfl
     · cases h
   · cases h
theorem operand_look {ops:Array Oper} {o:Oper} {t:Nat} (h:Operand.tmp t∈o.op.operands):t∈o.looksAt ops:=by
  unfold Oper.looksAt
  exact List.mem_append.2 (.inl (List.mem_filterMap.2 ⟨.tmp t,Array.mem_toList_iff.2 h,rfl⟩))
theorem evO_look {ops:Array Oper} {o:Oper} {T:Tm'} {a:Act} (hv:∀d,d∈o.looksAt ops→RpV ρ (getV T d) (a.tmps.getD d undef)):∀x∈o.op.operands,RpV ρ (evO T x) (a.eval x):=fun x hx=>by
  cases x with
  |tmp t=>exact hv t (operand_look hx)
  |const v=>exact constV_rep ρ v
  |global g=>trivial
  |func f=>exact rfl
theorem evOps_ok (hty:TyOk P E.TY) (hz:ZOk P E.TY E.TZ) (hcal:EvOk P E) {ops:Array Oper} {Q:Exit→Act→World→Prop}:∀(rest:List Oper) (i:Nat) {T T':Tm'} {s s':HS} {ρ:Rn} {w:World} {a:Act},
    ops.toList.drop i=rest→evOps E ops rest T s=some (T',s')→Hd ρ s.H.get s.nx w→TmH ρ T a→(∀ρ' a' w',Post ρ ρ' s s' w w'→TmH ρ' T' a'→Q .normal a' w')→wpOps P ops Q (List.range' i rest.length) a w
  |[],i,T,T',s,s',ρ,w,a,_,h,hd,tm,hQ=>by cases h;exact hQ ρ a w (Post.refl hd) tm
  |o::rest,i,T,T',s,s',ρ,w,a,hr,h,hd,tm,hQ=>by
   have hi:ops[i]? =some o:=by
     have:=congrArg (·.head?) hr
     simp [List.head?_drop] at this
     exact this
   have hr':ops.toList.drop (i+1)=rest:=by
     have:=congrArg List.tail hr
     simpa [List.tail_drop] using this
   rw [List.length_cons,List.range'_succ,wpOps_cons]
   obtain ⟨g,hg,h⟩:=bo_eq h
   have hw:=gd_want (a:=a) hg (fun d _=>tm.tmp d)
   simp only [wpOp,hi]
   cases g with
   |true=>
    rw [if_pos hw]
    obtain ⟨p,h1,h⟩:=bo_eq h
    obtain ⟨T1,h2,h⟩:=bo_eq h
    refine .inl ((op_ok (e:=a.eval) (oo:=o) hty hz hcal h1 rfl hd (fun x _=>evO_rep tm x)).wp fun u w' ⟨ρ',hp,hv⟩=>?_)
    exact evOps_ok hty hz hcal rest (i+1) hr' h hp.hd ((tm.ext hp.ext).put h2 hv) fun ρ'' a' w'' hp' tm'=>hQ ρ'' a' w'' (hp.trans hp') tm'
   |false=>
    rw [if_neg (by rw [hw];simp)]
    obtain ⟨T1,h2,h⟩:=bo_eq h
    exact evOps_ok hty hz hcal rest (i+1) hr' h hd (tm.put h2 (undef_rep ρ)) hQ
end
section
variable {σ σ':Rn} (he:Ext σ σ')
include he
theorem RpC.back {a:CC} {v0 v:Value} (h0:RpC σ a v0) (h:RpC σ' a v):RpC σ a v:=by
  cases a with
  |ptr k off=>
   obtain ⟨b,c,h1,_⟩:=h0
   obtain ⟨b',c',h2,h3⟩:=h
   rw [he _ _ h1] at h2;cases h2
   exact ⟨b,c,h1,h3⟩
  |sl k off len cap=>
   obtain ⟨b,c,x,h1,_⟩:=h0
   obtain ⟨b',c',x',h2,h3⟩:=h
   rw [he _ _ h1] at h2;cases h2
   exact ⟨b,c,x',h1,h3⟩
  |mp k=>
   obtain ⟨b,c,h1,_⟩:=h0
   obtain ⟨b',c',h2,h3⟩:=h
   rw [he _ _ h1] at h2;cases h2
   exact ⟨b,c,h1,h3⟩
  |_=>exact h
theorem RpL.back:∀{l:List CC} {m0 m:List Value},RpL σ l m0→RpL σ' l m→RpL σ l m
  |[],_,[],_,_=>trivial
  |_::_,_::_,_::_,h0,h=>⟨h0.1.back he h.1,RpL.back h0.2 h.2⟩
  |[],_,_::_,_,h=>h.elim
  |_::_,[],_,h0,_=>h0.elim
  |_::_,_::_,[],_,h=>h.elim
theorem RpW.back {a:CW} {v0 v:Value} (h0:RpW σ a v0) (h:RpW σ' a v):RpW σ a v:=by
  cases a with
  |c x=>exact RpC.back he h0 h
  |a l=>
   obtain ⟨cs0,_,h0⟩:=h0
   obtain ⟨cs,h1,h2⟩:=h
   exact ⟨cs,h1,h0.back he h2⟩
theorem RpM.back:∀{l:List (CW × CW)} {m0 m:List MapEntry},RpM σ l m0→RpM σ' l m→RpM σ l m
  |[],_,[],_,_=>trivial
  |_::_,_::_,_::_,h0,h=>⟨⟨h0.1.1.back he h.1.1,h0.1.2.back he h.1.2⟩,RpM.back h0.2 h.2⟩
  |[],_,_::_,_,h=>h.elim
  |_::_,[],_,h0,_=>h0.elim
  |_::_,_::_,[],_,h=>h.elim
theorem ObH.back {c:Nat} {o:CO} {x0 x:Obj} (h0:ObH σ c o x0) (h:ObH σ' c o x):ObH σ c o x:=by
  cases o with
  |cells l g=>
   obtain ⟨_,_,_,_,_,h0⟩:=h0
   obtain ⟨cs,ty,h1,h2,h3,h4⟩:=h
   exact ⟨cs,ty,h1,h2,h3,h0.back he h4⟩
  |map es=>
   obtain ⟨_,_,_,h0⟩:=h0
   obtain ⟨en,n,h1,h2⟩:=h
   exact ⟨en,n,h1,h0.back he h2⟩
end
end Go.CM
end
section
namespace Go.CM
open Go Go.AM
def Unord (Bf:Nat→Nat→Prop) (i j:Nat):Prop:=j≠i∧¬Bf i j∧¬Bf j i
def Hid (n:Nat) (Bf:Nat→Nat→Prop) (touch:Nat→Nat→Prop) (i k:Nat):Prop:=∃j,j<n∧Unord Bf i j∧touch j k
structure Ords (A:Array Oper) (Bf:Nat→Nat→Prop):Prop where
  lt:∀i j,Bf i j→j<i
  clos:∀i j,Bf i j→∃o,A[i]? =some o∧∃e∈o.after,bindB e=true∧(e.on=j∨Bf e.on j)
  back:∀i o,A[i]? =some o→∀e∈o.after,bindB e=true→e.on<i
  looks:∀i o,A[i]? =some o→∀t∈o.looksAt A,∀j,dstAt A j=some t→j=i∨Bf i j∨Bf j i
  dist:∀i j d,dstAt A i=some d→dstAt A j=some d→i=j
structure Plan (E:Ev) (A:Array Oper) (Bf:Nat→Nat→Prop) (T:Nat→Tm') (H:Nat→Nat→Option CO) (lo:Nat→Nat) (wr:Nat→List Nat) (touch:Nat→Nat→Prop):Prop where
  step:∀i o,A[i]? =some o→∃g,gdV A o.guard (T i)=some g∧
    (g=true→∃v s1 s2,evOp E o.op (T i) s1=some (v,s2)∧dstV o.dst (T i) v=some (T (i+1))∧s1.nx=lo i∧s1.wb=lo i∧s2.nx=lo (i+1)∧s2.wr=wr i∧
      (∀k,Hid A.size Bf touch i k→s1.H.get k=none)∧(∀k,¬Hid A.size Bf touch i k→s1.H.get k=H i k)∧(∀k,touch i k→H (i+1) k=s2.H.get k))∧
    (g=false→dstV o.dst (T i) (.t [])=some (T (i+1))∧lo (i+1)=lo i∧(∀k,¬touch i k))
  rest:∀i k,i<A.size→¬touch i k→H (i+1) k=H i k
  mono:∀i,i<A.size→lo i≤lo (i+1)
  new:∀i k,i<A.size→lo i≤k→k<lo (i+1)→touch i k
  wrT:∀i k,i<A.size→k∈wr i→touch i k
  apart:∀i k,i<A.size→touch i k→¬Hid A.size Bf touch i k
def cutR (ρ:Rn) (n:Nat):Rn:=fun k=>if k<n then ρ k else none
theorem cutR_lt {ρ:Rn} {n k:Nat} (h:k<n):cutR ρ n k=ρ k:=if_pos h
theorem cutR_ge {ρ:Rn} {n k:Nat} (h:n≤k):cutR ρ n k=none:=if_neg (by omega)
theorem cutR_some {ρ:Rn} {n k:Nat} {x:Nat × Nat} (h:cutR ρ n k=some x):k<n∧ρ k=some x:=by
  unfold cutR at h
  split at h
  · exact ⟨‹_›,h⟩
  · cases h
theorem cutR_ext {ρ ρ':Rn} {n m:Nat} (h:Ext ρ ρ') (hn:n≤m):Ext (cutR ρ n) (cutR ρ' m):=fun k x hk=>by
  obtain ⟨h1,h2⟩:=cutR_some hk
  rw [cutR_lt (by omega)];exact h k x h2
theorem cutR_le (ρ:Rn) (n:Nat):Ext (cutR ρ n) ρ:=fun _k _x hk=>(cutR_some hk).2
section
variable {P:Program} {E:Ev} {A:Array Oper} {Bf:Nat→Nat→Prop} {T:Nat→Tm'} {H:Nat→Nat→Option CO} {lo:Nat→Nat} {wr:Nat→List Nat} {touch:Nat→Nat→Prop}
theorem Plan.slot (p:Plan E A Bf T H lo wr touch) {i t:Nat} (hi:i<A.size) (h:dstAt A i≠some t):getV (T (i+1)) t=getV (T i) t∧(T (i+1)).n=(T i).n:=by
  obtain ⟨g,_,h1,h2⟩:=p.step i _ (Array.getElem?_eq_getElem hi)
  have key:∀v,dstV A[i].dst (T i) v=some (T (i+1))→getV (T (i+1)) t=getV (T i) t∧(T (i+1)).n=(T i).n:=fun v hv=>by
    have hd:dstAt A i=A[i].dst:=by simp [dstAt,Array.getElem?_eq_getElem hi]
    rw [hd] at h
    cases hdd:A[i].dst with
    |none=>
     rw [hdd] at hv
     have hv:some (T i)=some (T (i+1)):=hv
     rw [←Option.some.inj hv];exact ⟨rfl,rfl⟩
    |some d=>
     rw [hdd] at hv h
     have hv:putV (T i) d v=some (T (i+1)):=hv
     refine ⟨?_,?_⟩
     · rw [getV_put hv,if_neg fun e=>h (by rw [e])]
     · obtain ⟨_,h3⟩:=bt_eq hv
       have h3:=Option.some.inj h3
       rw [←h3]
  cases g with
  |true=>obtain ⟨v,s1,s2,_,h3,_⟩:=h1 rfl;exact key v h3
  |false=>exact key _ (h2 rfl).1
theorem Plan.size (p:Plan E A Bf T H lo wr touch):∀{i:Nat},i≤A.size→(T i).n=(T 0).n
  |0,_=>rfl
  |i+1,h=>by
   have hi:i<A.size:=h
   obtain ⟨t,ht⟩:∃t,dstAt A i≠some t:=by
     cases hd:dstAt A i with
     |none=>exact ⟨0,by simp⟩
     |some d=>exact ⟨d+1,by simp⟩
   rw [(p.slot hi ht).2,Plan.size p (Nat.le_of_lt hi)]
theorem Plan.slots (p:Plan E A Bf T H lo wr touch) {t m:Nat}:∀{i:Nat},m≤i→i≤A.size→(∀j,m≤j→j<i→dstAt A j≠some t)→getV (T i) t=getV (T m) t
  |0,h,_,_=>by have:m=0:=by omega
               subst this;rfl
  |i+1,h,hi,hn=>by
   by_cases e:m=i+1
   · subst e;rfl
   · rw [(p.slot (by omega) (hn i (by omega) (by omega))).1]
     exact Plan.slots p (by omega) (by omega) fun j h1 h2=>hn j h1 (by omega)
theorem Plan.keys (p:Plan E A Bf T H lo wr touch) {k m:Nat}:∀{i:Nat},m≤i→i≤A.size→(∀j,m≤j→j<i→¬touch j k)→H i k=H m k
  |0,h,_,_=>by have:m=0:=by omega
               subst this;rfl
  |i+1,h,hi,hn=>by
   by_cases e:m=i+1
   · subst e;rfl
   · rw [p.rest i k (by omega) (hn i (by omega) (by omega))]
     exact Plan.keys p (by omega) (by omega) fun j h1 h2=>hn j h1 (by omega)
theorem Plan.lo_le (p:Plan E A Bf T H lo wr touch) {m:Nat}:∀{i:Nat},m≤i→i≤A.size→lo m≤lo i
  |0,h,_=>by have:m=0:=by omega
             subst this;exact Nat.le_refl _
  |i+1,h,hi=>by
   by_cases e:m=i+1
   · subst e;exact Nat.le_refl _
   · exact Nat.le_trans (Plan.lo_le p (by omega) (by omega)) (p.mono i (by omega))
structure Inv (A:Array Oper) (T:Nat→Tm') (H:Nat→Nat→Option CO) (lo:Nat→Nat) (wr:Nat→List Nat) (touch:Nat→Nat→Prop) (ρ0:Rn) (w0:World) (D:Nat→Prop) (ρ:Rn) (m:Nat→Nat) (a:Act) (w:World):Prop where
  lev:∀k,(m k=0∧∀j,D j→¬touch j k)∨∃j,m k=j+1∧D j∧touch j k∧∀j',D j'→touch j' k→j'≤j
  base:∀k,k<lo 0→ρ k=ρ0 k
  dom:∀k,ρ k≠none→k<lo 0∨∃j,D j∧lo j≤k∧k<lo (j+1)
  obj:∀k o,H (m k) k=some o→∃b c x,cutR ρ (lo (m k)) k=some (b,c)∧w.heap[b]? =some x∧ObH (cutR ρ (lo (m k))) c o x
  inj:∀k k' o o' b c c',H (m k) k=some o→H (m k') k'=some o'→ρ k=some (b,c)→ρ k'=some (b,c')→k=k'
  frame:∀b,b<w0.heap.size→(∀k o c,H 0 k=some o→ρ0 k≠some (b,c))→w.heap[b]? =w0.heap[b]?
  fresh:∀k o b c,H (m k) k=some o→ρ k=some (b,c)→w0.heap.size≤b∨∃k0 o0 c0,H 0 k0=some o0∧ρ0 k0=some (b,c0)
  size:w0.heap.size≤w.heap.size
  io:IoS w0 w
  keep:∀i,D i→∀k,touch i k→k<lo i→k∉wr i→H (i+1) k=H i k
  lwb:lwP w0∧∀k o b c,H 0 k=some o→ρ0 k=some (b,c)→b≠0
  defers:a.defers=[]
  tsize:a.tmps.size=(T 0).n
  tmp:∀t,(∃j,D j∧dstAt A j=some t∧RpV (cutR ρ (lo (j+1))) (getV (T (j+1)) t) (a.tmps.getD t undef))∨((∀j,D j→dstAt A j≠some t)∧RpV (cutR ρ (lo 0)) (getV (T 0) t) (a.tmps.getD t undef))
section
variable {ρ0 ρ:Rn} {w0 w:World} {D:Nat→Prop} {m:Nat→Nat} {a:Act} {i:Nat} {o:Oper}
theorem before_of (hno:¬D i) (hclos:∀i,D i→∀j,Bf i j→D j) {j:Nat} (hj:D j) (h:¬Unord Bf i j):Bf i j:=by
  have hne:j≠i:=fun e=>hno (e▸hj)
  exact Classical.byContradiction fun h1=>h ⟨hne,h1,fun h2=>hno (hclos j hj i h2)⟩
theorem Inv.seen (p:Plan E A Bf T H lo wr touch) (od:Ords A Bf) (I:Inv A T H lo wr touch ρ0 w0 D ρ m a w) (hD:∀i,D i→i<A.size) (hclos:∀i,D i→∀j,Bf i j→D j) (hi:i<A.size) (hno:¬D i) (hpre:∀j,Bf i j→D j) {k:Nat} (hk:¬Hid A.size Bf touch i k):
    m k≤i∧H i k=H (m k) k:=by
  have hu:∀j,j<A.size→touch j k→¬Unord Bf i j:=fun j h1 h2 h3=>hk ⟨j,h1,h3,h2⟩
  have hlow:∀j,j<i→touch j k→D j:=fun j hj ht=>by
    have:=hu j (by omega) ht
    refine hpre j (Classical.byContradiction fun h1=>this ⟨by omega,h1,fun h2=>?_⟩)
    have:=od.lt j i h2;omega
  rcases I.lev k with ⟨h1,h2⟩|⟨j,h1,h2,h3,h4⟩
  · refine ⟨by omega,?_⟩
    rw [h1]
    exact p.keys (Nat.zero_le _) (by omega) fun j _ hj ht=>h2 j (hlow j hj ht) ht
  · have hb:=before_of (Bf:=Bf) hno hclos h2 (hu j (hD j h2) h3)
    have hlt:=od.lt i j hb
    refine ⟨by omega,?_⟩
    rw [h1]
    exact p.keys (by omega) (by omega) fun j' hj1 hj2 ht=>by
      have:=h4 j' (hlow j' hj2 ht) ht
      omega
theorem Inv.slotR (p:Plan E A Bf T H lo wr touch) (od:Ords A Bf) (I:Inv A T H lo wr touch ρ0 w0 D ρ m a w) (_hD:∀i,D i→i<A.size) (hclos:∀i,D i→∀j,Bf i j→D j) (ho:A[i]? =some o) (hi:i<A.size) (hno:¬D i) (hpre:∀j,Bf i j→D j) {t:Nat} (ht:t∈o.looksAt A):
    RpV (cutR ρ (lo i)) (getV (T i) t) (a.tmps.getD t undef):=by
  have hord:∀j,dstAt A j=some t→¬Unord Bf i j:=fun j hj hu=>by
    rcases od.looks i o ho t ht j hj with h|h|h
    · exact hu.1 h
    · exact hu.2.1 h
    · exact hu.2.2 h
  rcases I.tmp t with ⟨j,h1,h2,h3⟩|⟨h1,h2⟩
  · have hlt:=od.lt i j (before_of hno hclos h1 (hord j h2))
    rw [p.slots (t:=t) (m:=j+1) (by omega) (by omega) fun j' hj1 hj2 hd=>by have:=od.dist j' j t hd h2;omega]
    exact h3.ext (cutR_ext (Ext.refl _) (p.lo_le (by omega) (by omega)))
  · rw [p.slots (t:=t) (m:=0) (Nat.zero_le _) (by omega) fun j' _ hj2 hd=>by
      refine h1 j' (hpre j' (Classical.byContradiction fun hb=>hord j' hd ⟨by omega,hb,fun h2=>?_⟩)) hd
      have:=od.lt j' i h2;omega]
    exact h2.ext (cutR_ext (Ext.refl _) (p.lo_le (Nat.zero_le _) (by omega)))
theorem Inv.lw {A:Array Oper} {T:Nat→Tm'} {H:Nat→Nat→Option CO} {lo:Nat→Nat} {wr:Nat→List Nat} {touch:Nat→Nat→Prop} (I:Inv A T H lo wr touch ρ0 w0 D ρ m a w):lwP w:=
  lw_heap I.lwb.1 (I.frame 0 (lw_pos I.lwb.1) fun k o c hk hr=>I.lwb.2 k o 0 c hk hr rfl)
theorem Inv.nz {A:Array Oper} {T:Nat→Tm'} {H:Nat→Nat→Option CO} {lo:Nat→Nat} {wr:Nat→List Nat} {touch:Nat→Nat→Prop} (I:Inv A T H lo wr touch ρ0 w0 D ρ m a w) {k:Nat} {o:CO} {b c:Nat} (hk:H (m k) k=some o) (hb:ρ k=some (b,c)):b≠0:=by
  rcases I.fresh k o b c hk hb with h|⟨k0,o0,c0,h1,h2⟩
  · have:=lw_pos I.lwb.1;omega
  · exact I.lwb.2 k0 o0 b c0 h1 h2
theorem Inv.hd (p:Plan E A Bf T H lo wr touch) (od:Ords A Bf) (I:Inv A T H lo wr touch ρ0 w0 D ρ m a w) (hD:∀i,D i→i<A.size) (hclos:∀i,D i→∀j,Bf i j→D j) (hi:i<A.size) (hno:¬D i) (hpre:∀j,Bf i j→D j) {h:Nat→Option CO}
    (h1:∀k,Hid A.size Bf touch i k→h k=none) (h2:∀k,¬Hid A.size Bf touch i k→h k=H i k):Hd (cutR ρ (lo i)) h (lo i) w:=by
  have see:∀{k o},h k=some o→m k≤i∧H (m k) k=some o:=fun {k o} hk=>by
    have hn:¬Hid A.size Bf touch i k:=fun hh=>by rw [h1 k hh] at hk;cases hk
    obtain ⟨h3,h4⟩:=I.seen p od hD hclos hi hno hpre hn
    exact ⟨h3,by rw [←h4,←h2 k hn];exact hk⟩
  refine ⟨fun k o hk=>?_,fun k k' o o' b c c' hk hk' hb hb'=>?_,fun k hk=>cutR_ge hk,I.lw,fun k o b c hk hb=>I.nz (see hk).2 (cutR_some hb).2⟩
  · obtain ⟨h3,h4⟩:=see hk
    obtain ⟨b,c,x,h5,h6,h7⟩:=I.obj k o h4
    have he:Ext (cutR ρ (lo (m k))) (cutR ρ (lo i)):=cutR_ext (Ext.refl _) (p.lo_le h3 (by omega))
    exact ⟨b,c,x,he _ _ h5,h6,h7.ext he⟩
  · exact I.inj k k' o o' b c c' (see hk).2 (see hk').2 (cutR_some hb).2 (cutR_some hb').2
theorem Inv.skip (p:Plan E A Bf T H lo wr touch) (_od:Ords A Bf) (I:Inv A T H lo wr touch ρ0 w0 D ρ m a w) (ho:A[i]? =some o) (hi:i<A.size) (hno:¬D i) (hd:dstV o.dst (T i) (.t [])=some (T (i+1))) (ht:∀k,¬touch i k) {D':Nat→Prop} (hD':∀j,D' j↔j=i∨D j):
    Inv A T H lo wr touch ρ0 w0 D' ρ m (a.put o.dst undef) w:=by
  have hdi:dstAt A i=o.dst:=by simp [dstAt,ho]
  refine ⟨fun k=>?_,I.base,fun k hk=>?_,I.obj,I.inj,I.frame,I.fresh,I.size,I.io,fun j hj k htk=>?_,I.lwb,?_,?_,fun t=>?_⟩
  · rcases I.lev k with ⟨h1,h2⟩|⟨j,h1,h2,h3,h4⟩
    · exact .inl ⟨h1,fun j hj=>by
        rcases (hD' j).1 hj with rfl|hj
        · exact ht k
        · exact h2 j hj⟩
    · exact .inr ⟨j,h1,(hD' j).2 (.inr h2),h3,fun j' hj' htj=>by
        rcases (hD' j').1 hj' with rfl|hj'
        · exact absurd htj (ht k)
        · exact h4 j' hj' htj⟩
  · rcases I.dom k hk with h|⟨j,h1,h2⟩
    · exact .inl h
    · exact .inr ⟨j,(hD' j).2 (.inr h1),h2⟩
  · rcases (hD' j).1 hj with rfl|hj
    · exact absurd htk (ht k)
    · exact I.keep j hj k htk
  · cases hdd:o.dst<;>simp [Act.put,I.defers]
  · cases hdd:o.dst<;>simp [Act.put,I.tsize]
  · by_cases hti:o.dst=some t
    · refine .inl ⟨i,(hD' i).2 (.inl rfl),by rw [hdi];exact hti,?_⟩
      rw [hti] at hd ⊢
      have hd:putV (T i) t (.t [])=some (T (i+1)):=hd
      rw [getV_put hd,if_pos rfl]
      obtain ⟨h1,_⟩:=bt_eq hd
      have hlt:t<a.tmps.size:=by rw [I.tsize,←p.size (Nat.le_of_lt hi)];exact Nat.le_of_ble_eq_true h1
      have:(a.put (some t) undef).tmps.getD t undef=undef:=by simp [Act.put,hlt]
      rw [this];exact undef_rep _
    · have e1:(a.put o.dst undef).tmps.getD t undef=a.tmps.getD t undef:=by
        cases hdd:o.dst with
        |none=>rfl
        |some d=>
         have hne:d≠t:=fun e=>hti (by rw [hdd,e])
         simp [Act.put,Array.getD_eq_getD_getElem?,Array.getElem?_setIfInBounds_ne hne]
      rw [e1]
      rcases I.tmp t with ⟨j,h1,h2⟩|⟨h1,h2⟩
      · exact .inl ⟨j,(hD' j).2 (.inr h1),h2⟩
      · exact .inr ⟨fun j hj=>by
          rcases (hD' j).1 hj with rfl|hj
          · rw [hdi];exact hti
          · exact h1 j hj,h2⟩
theorem Inv.next (p:Plan E A Bf T H lo wr touch) (od:Ords A Bf) (I:Inv A T H lo wr touch ρ0 w0 D ρ m a w) (hD:∀i,D i→i<A.size) (hclos:∀i,D i→∀j,Bf i j→D j) (ho:A[i]? =some o) (hi:i<A.size) (hno:¬D i) (hpre:∀j,Bf i j→D j)
    {v:CV} {u:Value} {s1 s2:HS} {ρ':Rn} {w':World} (hd:dstV o.dst (T i) v=some (T (i+1))) (e1:s1.nx=lo i) (e2:s1.wb=lo i) (e3:s2.nx=lo (i+1)) (e4:s2.wr=wr i)
    (h1:∀k,Hid A.size Bf touch i k→s1.H.get k=none) (h2:∀k,¬Hid A.size Bf touch i k→s1.H.get k=H i k) (h3:∀k,touch i k→H (i+1) k=s2.H.get k)
    (po:Post (cutR ρ (lo i)) ρ' s1 s2 w w') (hv:RpV ρ' v u) {D':Nat→Prop} (hD':∀j,D' j↔j=i∨D j):
    ∃ρ2 m2,Inv A T H lo wr touch ρ0 w0 D' ρ2 m2 (a.put o.dst u) w':=by
  classical
  have hdi:dstAt A i=o.dst:=by simp [dstAt,ho]
  have hd1:=I.hd p od hD hclos hi hno hpre h1 h2
  let ρ2:Rn:=fun k=>if lo i≤k∧k<lo (i+1) then ρ' k else ρ k
  let m2:Nat→Nat:=fun k=>if touch i k then i+1 else m k
  have hρin:∀{k},lo i≤k→k<lo (i+1)→ρ2 k=ρ' k:=fun {k} g1 g2=>if_pos ⟨g1,g2⟩
  have hρout:∀{k},(k<lo i∨lo (i+1)≤k)→ρ2 k=ρ k:=fun {k} g=>if_neg (by omega)
  have hmono:=p.mono i hi
  have hlo0:lo 0≤lo i:=p.lo_le (Nat.zero_le _) (by omega)
  have hcut:∀k,k<lo (i+1)→ρ' k=ρ2 k:=fun k hk=>by
    by_cases hk2:k<lo i
    · rw [hρout (.inl hk2),po.same k (by rw [e1];exact hk2),cutR_lt hk2]
    · rw [hρin (by omega) hk]
  have hcutE:ρ'=cutR ρ2 (lo (i+1)):=funext fun k=>by
    by_cases hk:k<lo (i+1)
    · rw [cutR_lt hk];exact hcut k hk
    · rw [cutR_ge (by omega)];exact po.hd.new k (by rw [e3];omega)
  have hext:Ext ρ ρ2:=fun k x hk=>by
    rw [←hk]
    refine hρout ?_
    rcases I.dom k (by rw [hk];simp) with g|⟨j,g1,g2,g3⟩
    · exact .inl (by omega)
    · have hne:j≠i:=fun e=>hno (e▸g1)
      have hjn:=hD j g1
      rcases Nat.lt_or_ge j i with g|g
      · have:=p.lo_le (m:=j+1) (i:=i) (by omega) (by omega);exact .inl (by omega)
      · have:=p.lo_le (m:=i+1) (i:=j) (by omega) (by omega);exact .inr (by omega)
  have hext':Ext (cutR ρ (lo i)) ρ':=po.ext
  have hmT:∀{k},touch i k→m2 k=i+1:=fun {k} g=>if_pos g
  have hmN:∀{k},¬touch i k→m2 k=m k:=fun {k} g=>if_neg g
  have see:∀{k},¬Hid A.size Bf touch i k→m k≤i∧H i k=H (m k) k:=fun {k} hk=>I.seen p od hD hclos hi hno hpre hk
  have hidden:∀{k o},Hid A.size Bf touch i k→H (m2 k) k=some o→¬touch i k∧m2 k=m k∧H (m k) k=some o∧ρ2 k=ρ k:=fun {k o} hk hko=>by
    have hnt:¬touch i k:=fun g=>p.apart i k hi g hk
    refine ⟨hnt,hmN hnt,by rw [hmN hnt] at hko;exact hko,hρout ?_⟩
    rcases Nat.lt_or_ge k (lo i) with g|g
    · exact .inl g
    · rcases Nat.lt_or_ge k (lo (i+1)) with g'|g'
      · exact absurd (p.new i k hi g g') hnt
      · exact .inr g'
  have left_:∀{k o},¬touch i k→¬Hid A.size Bf touch i k→H (m k) k=some o→s1.H.get k=some o∧s2.H.get k=some o∧k<lo i:=fun {k o} hnt hk hko=>by
    obtain ⟨g1,g2⟩:=see hk
    have g3:s1.H.get k=some o:=by rw [h2 k hk,g2];exact hko
    have g4:k<lo i:=hd1.lt g3
    exact ⟨g3,by rw [po.keep k (by rw [e2];exact g4) (by rw [e1];exact g4) (by rw [e4];exact fun g=>hnt (p.wrT i k hi g))];exact g3,g4⟩
  have seen2:∀{k o},¬Hid A.size Bf touch i k→H (m2 k) k=some o→s2.H.get k=some o∧k<lo (i+1)∧ρ2 k=ρ' k:=fun {k o} hk hko=>by
    have g:s2.H.get k=some o:=by
      by_cases ht:touch i k
      · rw [hmT ht,h3 k ht] at hko;exact hko
      · rw [hmN ht] at hko;exact (left_ ht hk hko).2.1
    have g2:k<lo (i+1):=by rw [←e3];exact po.hd.lt g
    exact ⟨g,g2,(hcut k g2).symm⟩
  have back:∀{k o},s1.H.get k=some o→¬Hid A.size Bf touch i k∧H (m k) k=some o:=fun {k o} hk=>by
    have hn:¬Hid A.size Bf touch i k:=fun hh=>by rw [h1 k hh] at hk;cases hk
    exact ⟨hn,by rw [←(see hn).2,←h2 k hn];exact hk⟩
  refine ⟨ρ2,m2,⟨fun k=>?_,fun k hk=>?_,fun k hk=>?_,fun k y hk=>?_,fun k k' y y' b c c' hk hk' hb hb'=>?_,fun b hb hn=>?_,fun k y b c hk hb=>?_,Nat.le_trans I.size po.size,I.io.trans po.io,fun j hj k htk hlt hnw=>?_,I.lwb,?_,?_,fun t=>?_⟩⟩
  · by_cases ht:touch i k
    · refine .inr ⟨i,hmT ht,(hD' i).2 (.inl rfl),ht,fun j' hj' htj=>?_⟩
      rcases (hD' j').1 hj' with rfl|hj'
      · exact Nat.le_refl _
      · have:¬Unord Bf i j':=fun hu=>p.apart i k hi ht ⟨j',hD j' hj',hu,htj⟩
        exact Nat.le_of_lt (od.lt i j' (before_of hno hclos hj' this))
    · rw [hmN ht]
      rcases I.lev k with ⟨g1,g2⟩|⟨j,g1,g2,g3,g4⟩
      · exact .inl ⟨g1,fun j hj=>by
          rcases (hD' j).1 hj with rfl|hj
          · exact ht
          · exact g2 j hj⟩
      · exact .inr ⟨j,g1,(hD' j).2 (.inr g2),g3,fun j' hj' htj=>by
          rcases (hD' j').1 hj' with rfl|hj'
          · exact absurd htj ht
          · exact g4 j' hj' htj⟩
  · rw [hρout (.inl (by omega))];exact I.base k hk
  · by_cases hk2:lo i≤k∧k<lo (i+1)
    · exact .inr ⟨i,(hD' i).2 (.inl rfl),hk2⟩
    · rw [hρout (by omega)] at hk
      rcases I.dom k hk with g|⟨j,g1,g2⟩
      · exact .inl g
      · exact .inr ⟨j,(hD' j).2 (.inr g1),g2⟩
  · by_cases ht:touch i k
    · rw [hmT ht] at hk ⊢
      rw [h3 k ht] at hk
      obtain ⟨b,c,x,g1,g2,g3⟩:=po.hd.obj k y hk
      rw [hcutE] at g1 g3
      exact ⟨b,c,x,g1,g2,g3⟩
    · rw [hmN ht] at hk ⊢
      obtain ⟨b,c,x,g1,g2,g3⟩:=I.obj k y hk
      have hx:Ext (cutR ρ (lo (m k))) (cutR ρ2 (lo (m k))):=cutR_ext hext (Nat.le_refl _)
      by_cases hh:Hid A.size Bf touch i k
      · refine ⟨b,c,x,hx _ _ g1,?_,g3.ext hx⟩
        rw [po.frame b (Array.getElem?_eq_some_iff.1 g2).1 fun k1 o1 c1 hk1 hb1=>?_]
        · exact g2
        · obtain ⟨g4,g5⟩:=back hk1
          have:=I.inj k1 k _ _ b c1 c g5 hk (cutR_some hb1).2 (cutR_some g1).2
          subst this
          exact g4 hh
      · obtain ⟨g4,g5,g6⟩:=left_ ht hh hk
        obtain ⟨b',c',x',g7,g8,g9⟩:=po.hd.obj k y g5
        obtain ⟨g10,g11⟩:=see hh
        have g12:Ext (cutR ρ (lo (m k))) ρ':=(cutR_ext (Ext.refl _) (p.lo_le g10 (by omega))).trans hext'
        rw [g12 _ _ g1] at g7;cases g7
        exact ⟨b,c,x',hx _ _ g1,g8,(g3.back g12 g9).ext hx⟩
  · by_cases hh:Hid A.size Bf touch i k<;>by_cases hh':Hid A.size Bf touch i k'
    · obtain ⟨_,_,g1,g2⟩:=hidden hh hk
      obtain ⟨_,_,g3,g4⟩:=hidden hh' hk'
      exact I.inj k k' _ _ b c c' g1 g3 (by rw [←g2];exact hb) (by rw [←g4];exact hb')
    · exfalso
      obtain ⟨_,_,g1,g2⟩:=hidden hh hk
      obtain ⟨g3,_,g4⟩:=seen2 hh' hk'
      rw [g2] at hb;rw [g4] at hb'
      rcases po.fresh k' y' b c' g3 hb' with g5|⟨k0,o0,c0,g5,g6⟩
      · obtain ⟨b1,c1,x1,g7,g8,_⟩:=I.obj k y g1
        rw [(cutR_some g7).2] at hb;cases hb
        have:=(Array.getElem?_eq_some_iff.1 g8).1
        omega
      · obtain ⟨g7,g8⟩:=back g5
        have:=I.inj k0 k _ _ b c0 c g8 g1 (cutR_some g6).2 hb
        subst this
        exact g7 hh
    · exfalso
      obtain ⟨_,_,g1,g2⟩:=hidden hh' hk'
      obtain ⟨g3,_,g4⟩:=seen2 hh hk
      rw [g2] at hb';rw [g4] at hb
      rcases po.fresh k y b c g3 hb with g5|⟨k0,o0,c0,g5,g6⟩
      · obtain ⟨b1,c1,x1,g7,g8,_⟩:=I.obj k' y' g1
        rw [(cutR_some g7).2] at hb';cases hb'
        have:=(Array.getElem?_eq_some_iff.1 g8).1
        omega
      · obtain ⟨g7,g8⟩:=back g5
        have:=I.inj k0 k' _ _ b c0 c' g8 g1 (cutR_some g6).2 hb'
        subst this
        exact g7 hh'
    · obtain ⟨g1,_,g2⟩:=seen2 hh hk
      obtain ⟨g3,_,g4⟩:=seen2 hh' hk'
      exact po.hd.inj k k' _ _ b c c' g1 g3 (by rw [←g2];exact hb) (by rw [←g4];exact hb')
  · rw [po.frame b (Nat.lt_of_lt_of_le hb I.size) fun k o c hk hkb=>?_]
    · exact I.frame b hb hn
    · obtain ⟨_,g1⟩:=back hk
      rcases I.fresh k o b c g1 (cutR_some hkb).2 with g|⟨k0,o0,c0,g3,g4⟩
      · omega
      · exact hn k0 o0 c0 g3 g4
  · by_cases hh:Hid A.size Bf touch i k
    · obtain ⟨_,_,g1,g2⟩:=hidden hh hk
      exact I.fresh k y b c g1 (by rw [←g2];exact hb)
    · obtain ⟨g1,_,g2⟩:=seen2 hh hk
      rcases po.fresh k y b c g1 (by rw [←g2];exact hb) with g|⟨k0,o0,c0,g3,g4⟩
      · exact .inl (Nat.le_trans I.size g)
      · exact I.fresh k0 o0 b c0 (back g3).2 (cutR_some g4).2
  · rcases (hD' j).1 hj with rfl|hj
    · have hh:¬Hid A.size Bf touch j k:=p.apart j k hi htk
      rw [h3 k htk,po.keep k (by rw [e2];exact hlt) (by rw [e1];exact hlt) (by rw [e4];exact hnw),h2 k hh]
    · exact I.keep j hj k htk hlt hnw
  · cases hdd:o.dst<;>simp [Act.put,I.defers]
  · cases hdd:o.dst<;>simp [Act.put,I.tsize]
  · by_cases hti:o.dst=some t
    · refine .inl ⟨i,(hD' i).2 (.inl rfl),by rw [hdi];exact hti,?_⟩
      rw [hti] at hd ⊢
      have hd:putV (T i) t v=some (T (i+1)):=hd
      rw [getV_put hd,if_pos rfl]
      obtain ⟨g1,_⟩:=bt_eq hd
      have hlt:t<a.tmps.size:=by rw [I.tsize,←p.size (Nat.le_of_lt hi)];exact Nat.le_of_ble_eq_true g1
      have:(a.put (some t) u).tmps.getD t undef=u:=by simp [Act.put,hlt]
      rw [this,←hcutE];exact hv
    · have g:(a.put o.dst u).tmps.getD t undef=a.tmps.getD t undef:=by
        cases hdd:o.dst with
        |none=>rfl
        |some d=>
         have hne:d≠t:=fun e=>hti (by rw [hdd,e])
         simp [Act.put,Array.getD_eq_getD_getElem?,Array.getElem?_setIfInBounds_ne hne]
      rw [g]
      rcases I.tmp t with ⟨j,g1,g2,g3⟩|⟨g1,g2⟩
      · exact .inl ⟨j,(hD' j).2 (.inr g1),g2,g3.ext (cutR_ext hext (Nat.le_refl _))⟩
      · exact .inr ⟨fun j hj=>by
          rcases (hD' j).1 hj with rfl|hj
          · rw [hdi];exact hti
          · exact g1 j hj,g2.ext (cutR_ext hext (Nat.le_refl _))⟩
end
end
end Go.CM
end
section
namespace Go.CM
open Go Go.AM
section
variable {P:Program} {E:Ev} {A:Array Oper} {Bf:Nat→Nat→Prop} {T:Nat→Tm'} {H:Nat→Nat→Option CO} {lo:Nat→Nat} {wr:Nat→List Nat} {touch:Nat→Nat→Prop}
theorem on_lt {l:Array Bool} {i:Nat} (h:On l i):i<l.size:=by
  rcases Nat.lt_or_ge i l.size with h'|h'
  · exact h'
  · unfold On at h;rw [Array.getElem?_eq_none h'] at h;cases h
theorem plan_any (hty:TyOk P E.TY) (hz:ZOk P E.TY E.TZ) (hcal:EvOk P E) (p:Plan E A Bf T H lo wr touch) (od:Ords A Bf) {R:Exit→Act→World→Prop} {ρ0:Rn} {w0:World}
    (hR:∀ρ m a w,Inv A T H lo wr touch ρ0 w0 (fun i=>i<A.size) ρ m a w→R .normal a w):∀(fuel:Nat) (l:Array Bool) (ρ:Rn) (m:Nat→Nat) (a:Act) (w:World),l.size=A.size→(∀i,On l i→∀j,Bf i j→On l j)→unl l≤fuel→
      Inv A T H lo wr touch ρ0 w0 (On l) ρ m a w→wpAny P .any A R fuel l a w:=by
  have done_:∀(l:Array Bool) (ρ:Rn) (m:Nat→Nat) (a:Act) (w:World),l.size=A.size→(∀i,i<A.size→On l i)→Inv A T H lo wr touch ρ0 w0 (On l) ρ m a w→R .normal a w:=fun l ρ m a w hl hall I=>by
    have:On l=fun i=>i<A.size:=funext fun i=>propext ⟨fun h=>by rw [←hl];exact on_lt h,hall i⟩
    rw [this] at I
    exact hR ρ m a w I
  intro fuel
  induction fuel with
  |zero=>
   intro l ρ m a w hl hcl hu I
   have hall:∀i,i<A.size→On l i:=fun i hi=>unl_zero (by omega) (by omega)
   refine ⟨?_,done_ l ρ m a w hl hall I⟩
   rw [List.eq_nil_iff_forall_not_mem]
   intro i hi
   obtain ⟨o,ho,hno,_⟩:=(AM.mem_ready hl).1 hi
   exact hno (hall i (Array.getElem?_eq_some_iff.1 ho).1)
  |succ fuel ih=>
   intro l ρ m a w hl hcl hu I
   refine ⟨fun hnil=>done_ l ρ m a w hl (fun i hi=>?_) I,fun i hi=>?_⟩
   · induction i using Nat.strongRecOn with
     |ind i ihi=>
      refine Classical.byContradiction fun hno=>?_
      have:i∈Region.ready .any A l:=(AM.mem_ready hl).2 ⟨A[i],Array.getElem?_eq_getElem hi,hno,fun e he hb=>by
        have:=od.back i _ (Array.getElem?_eq_getElem hi) e he hb
        exact ihi e.on this (by omega)⟩
      rw [hnil] at this;cases this
   · obtain ⟨o,ho,hno,hpre0⟩:=(AM.mem_ready hl).1 hi
     have his:i<A.size:=(Array.getElem?_eq_some_iff.1 ho).1
     have hil:i<l.size:=by omega
     have hpre:∀j,Bf i j→On l j:=fun j hj=>by
       obtain ⟨o',ho',e,he,hb,h⟩:=od.clos i j hj
       rw [ho] at ho';cases ho'
       rcases h with rfl|h
       · exact hpre0 e he hb
       · exact hcl _ (hpre0 e he hb) j h
     have hD:∀i,On l i→i<A.size:=fun i h=>by rw [←hl];exact on_lt h
     have hD':∀j,On (l.setIfInBounds i true) j↔j=i∨On l j:=fun j=>on_set hil
     have hcl':∀k,On (l.setIfInBounds i true) k→∀j,Bf k j→On (l.setIfInBounds i true) j:=fun k hk j hj=>by
       rw [hD'] at hk ⊢
       rcases hk with rfl|hk
       · exact .inr (hpre j hj)
       · exact .inr (hcl k hk j hj)
     have hu':unl (l.setIfInBounds i true)≤fuel:=by have:=unl_set hil hno;omega
     obtain ⟨g,hg,h1,h2⟩:=p.step i o ho
     have hslot:∀t,t∈o.looksAt A→RpV (cutR ρ (lo i)) (getV (T i) t) (a.tmps.getD t undef):=fun t ht=>I.slotR p od hD hcl ho his hno hpre ht
     have hw:=gd_want (a:=a) hg hslot
     simp only [wpOp,ho]
     cases g with
     |true=>
      rw [if_pos hw]
      obtain ⟨v,s1,s2,hev,hd,e1,e2,e3,e4,g1,g2,g3⟩:=h1 rfl
      have hd1:Hd (cutR ρ (lo i)) s1.H.get s1.nx w:=by rw [e1];exact I.hd p od hD hcl his hno hpre g1 g2
      refine .inl ((op_ok (e:=a.eval) (oo:=o) hty hz hcal hev rfl hd1 (evO_look hslot)).wp fun u w' ⟨ρ',po,hv⟩=>?_)
      obtain ⟨ρ2,m2,I2⟩:=I.next p od hD hcl ho his hno hpre hd e1 e2 e3 e4 g1 g2 g3 po hv hD'
      exact ih _ ρ2 m2 _ _ (by simp [hl]) hcl' hu' I2
     |false=>
      rw [if_neg (by rw [hw];simp)]
      obtain ⟨hd,_,ht⟩:=h2 rfl
      exact ih _ ρ m _ _ (by simp [hl]) hcl' hu' (I.skip p od ho his hno hd ht hD')
theorem plan_ok (hty:TyOk P E.TY) (hz:ZOk P E.TY E.TZ) (hcal:EvOk P E) (hm:P.follows .mixedOrders=true) (p:Plan E A Bf T H lo wr touch) (od:Ords A Bf) {R:Exit→Act→World→Prop} {ρ:Rn} {w:World} {a:Act} {s s':HS} {T0 T1:Tm'} {id:Nat}
    (h0:H 0=s.H.get) (hl0:lo 0=s.nx) (hn:H A.size=s'.H.get) (hln:lo A.size=s'.nx) (hwb:s'.wb=s.wb) (hsub:∀k,k∈s.wr→k∈s'.wr) (hwr:∀i k,i<A.size→k∈wr i→k<s.wb→k∈s'.wr) (hT:T 0=T0) (hT':T A.size=T1)
    (hd:Hd ρ s.H.get s.nx w) (tm:TmH ρ T0 a) (hR:∀ρ' a' w',Post ρ ρ' s s' w w'→TmH ρ' T1 a'→R .normal a' w'):(Code.region id A true).wp P R a w:=by
  refine wp_region_any hm ?_
  have hcut:cutR ρ (lo 0)=ρ:=funext fun k=>by
    by_cases hk:k<lo 0
    · exact cutR_lt hk
    · rw [cutR_ge (by omega),hd.new k (by omega)]
  have hnone:∀i,¬On (Array.replicate A.size false) i:=fun i hi=>by
    unfold On at hi
    rw [Array.getElem?_replicate] at hi
    split at hi<;>cases hi
  refine plan_any hty hz hcal p od (ρ0:=ρ) (w0:=w) (fun ρ' m a' w' I=>?_) A.size _ ρ (fun _=>0) a _ (by simp) (fun i hi=>absurd hi (hnone i)) (by simp [unl]) ?_
  · have hall:∀k,H A.size k=H (m k) k:=fun k=>by
      rcases I.lev k with ⟨h1,h2⟩|⟨j,h1,h2,h3,h4⟩
      · rw [h1];exact p.keys (Nat.zero_le _) (Nat.le_refl _) fun j _ hj ht=>h2 j hj ht
      · rw [h1];exact p.keys (by omega) (Nat.le_refl _) fun j' hj1 hj2 ht=>by have:=h4 j' hj2 ht;omega
    have hlev:∀k,m k≤A.size:=fun k=>by
      rcases I.lev k with ⟨h1,_⟩|⟨j,h1,h2,_⟩<;>omega
    have hex:Ext ρ ρ':=fun k x hk=>by
      have:k<lo 0:=Nat.lt_of_not_le fun h=>by rw [hd.new k (by omega)] at hk;cases hk
      rw [I.base k this];exact hk
    have hnew:∀k,s'.nx≤k→ρ' k=none:=fun k hk=>Classical.byContradiction fun hne=>by
      rcases I.dom k hne with h|⟨j,h1,_,h2⟩
      · have:=p.lo_le (m:=0) (Nat.zero_le A.size) (Nat.le_refl _);omega
      · have:=p.lo_le (m:=j+1) (i:=A.size) h1 (Nat.le_refl _);omega
    have hk:∀{k o},s'.H.get k=some o→H (m k) k=some o:=fun {k o} h=>by rw [←hall,hn];exact h
    refine hR ρ' a' w' ⟨hex,⟨fun k o ho=>?_,fun k k' o o' b c c' ho ho' hb hb'=>I.inj k k' o o' b c c' (hk ho) (hk ho') hb hb',hnew,I.lw,fun k o b c ho hb=>I.nz (hk ho) hb⟩,fun b hb hno=>I.frame b hb fun k o c ho=>hno k o c (by rw [←h0];exact ho),fun k o b c ho hb=>?_,I.size,I.io,?_,fun k hlt=>I.base k (by omega),hwb,hsub,fun k h1 h2 h3=>?_⟩ ⟨I.defers,?_,fun t=>?_⟩
    · obtain ⟨b,c,x,h1,h2,h3⟩:=I.obj k o (hk ho)
      exact ⟨b,c,x,cutR_le _ _ _ _ h1,h2,h3.ext (cutR_le _ _)⟩
    · rcases I.fresh k o b c (hk ho) hb with h|⟨k0,o0,c0,h1,h2⟩
      · exact .inl h
      · exact .inr ⟨k0,o0,c0,by rw [←h0];exact h1,h2⟩
    · rw [←hl0,←hln];exact p.lo_le (Nat.zero_le _) (Nat.le_refl _)
    · have key:∀i,i≤A.size→H i k=H 0 k:=by
        intro i
        induction i with
        |zero=>exact fun _=>rfl
        |succ i ih=>
         intro hi
         rw [←ih (by omega)]
         by_cases ht:touch i k
         · have:=p.lo_le (m:=0) (i:=i) (Nat.zero_le _) (by omega)
           exact I.keep i hi k ht (by omega) fun hw=>h3 (hwr i k hi hw h1)
         · exact p.rest i k hi ht
      rw [←hn,←h0];exact key A.size (Nat.le_refl _)
    · rw [I.tsize,←hT',p.size (Nat.le_refl _)]
    · rw [←hT']
      rcases I.tmp t with ⟨j,h1,h2,h3⟩|⟨h1,h2⟩
      · rw [p.slots (t:=t) (m:=j+1) h1 (Nat.le_refl _) fun j' hj1 hj2 hdd=>by have:=od.dist j' j t hdd h2;omega]
        exact h3.ext (cutR_le _ _)
      · rw [p.slots (t:=t) (m:=0) (Nat.zero_le _) (Nat.le_refl _) fun j' _ hj2 hdd=>h1 j' hj2 hdd]
        exact h2.ext (cutR_le _ _)
  · refine ⟨fun k=>.inl ⟨rfl,fun j hj=>absurd hj (hnone j)⟩,fun _ _=>rfl,fun k hk=>.inl (Nat.lt_of_not_le fun h=>hk (hd.new k (by omega))),fun k o ho=>?_,fun k k' o o' b c c' ho ho' hb hb'=>?_,fun b _ _=>rfl,fun k o b c ho hb=>.inr ⟨k,o,c,ho,hb⟩,Nat.le_refl _,⟨⟨rfl,rfl⟩,rfl,Nat.le_succ _⟩,fun i hi=>absurd hi (hnone i),⟨hd.lw,fun k o b c hk hb=>hd.nz k o b c (by rw [←h0];exact hk) hb⟩,tm.defers,?_,fun t=>.inr ⟨fun j hj=>absurd hj (hnone j),?_⟩⟩
    · show ∃b c x,cutR ρ (lo 0) k=some (b,c)∧w.heap[b]? =some x∧ObH (cutR ρ (lo 0)) c o x
      rw [hcut]
      have ho:H 0 k=some o:=ho
      rw [h0] at ho
      exact hd.obj k o ho
    · have ho:H 0 k=some o:=ho
      have ho':H 0 k'=some o':=ho'
      rw [h0] at ho ho'
      exact hd.inj k k' o o' b c c' ho ho' hb hb'
    · rw [hT];exact tm.size
    · rw [hcut,hT];exact tm.tmp t
end
theorem bitB_eq (m j:Nat):bitB m j=m.testBit j:=by
  unfold bitB Nat.testBit
  have h1:Nat.land (Nat.shiftRight m j) 1=1 &&& m >>> j:=Nat.and_comm _ _
  rw [h1]
  have h2:1 &&& m >>> j=(m >>> j) % 2:=by rw [Nat.and_comm,Nat.and_one_is_mod]
  rw [h2]
  rcases Nat.mod_two_eq_zero_or_one (m >>> j) with h|h<;>rw [h]<;>rfl
theorem bit_orE {C:List Nat} {j:Nat}:∀{l:List Edge} {acc:Nat},bitB (orE C l acc) j=true↔bitB acc j=true∨∃e∈l,bindB e=true∧(e.on=j∨bitB (C.getD e.on 0) j=true)
  |[],acc=>by simp [orE]
  |e::l,acc=>by
   simp only [orE]
   cases hb:bindB e with
   |true=>
    simp only [bit_orE (l:=l)]
    have:bitB (Nat.lor (Nat.lor acc (Nat.shiftLeft 1 e.on)) (C.getD e.on 0)) j=true↔bitB acc j=true∨e.on=j∨bitB (C.getD e.on 0) j=true:=by
      simp only [bitB_eq]
      have e1:Nat.lor (Nat.lor acc (Nat.shiftLeft 1 e.on)) (C.getD e.on 0)=(acc ||| 1 <<< e.on) ||| C.getD e.on 0:=rfl
      rw [e1,Nat.testBit_or,Nat.testBit_or,Nat.one_shiftLeft,Nat.testBit_two_pow]
      simp only [Bool.or_eq_true,decide_eq_true_eq,or_assoc]
    rw [this]
    constructor
    · rintro ((h|h)|⟨e',h1,h2⟩)
      · exact .inl h
      · exact .inr ⟨e,by simp,hb,h⟩
      · exact .inr ⟨e',List.mem_cons_of_mem _ h1,h2⟩
    · rintro (h|⟨e',h1,h2,h3⟩)
      · exact .inl (.inl h)
      · rcases List.mem_cons.1 h1 with rfl|h1
        · exact .inl (.inr h3)
        · exact .inr ⟨e',h1,h2,h3⟩
   |false=>
    simp only [bit_orE (l:=l)]
    constructor
    · rintro (h|⟨e',h1,h2⟩)
      · exact .inl h
      · exact .inr ⟨e',List.mem_cons_of_mem _ h1,h2⟩
    · rintro (h|⟨e',h1,h2,h3⟩)
      · exact .inl h
      · rcases List.mem_cons.1 h1 with rfl|h1
        · rw [hb] at h2;cases h2
        · exact .inr ⟨e',h1,h2,h3⟩
theorem masks_low {i:Nat}:∀{l:List Oper} {C:List Nat},i<C.length→(masks l C).getD i 0=C.getD i 0
  |[],C,_=>rfl
  |o::l,C,h=>by
   rw [masks,masks_low (by simp;omega)]
   simp [List.getD_eq_getElem?_getD,List.getElem?_append_left h]
theorem masks_bit {i j:Nat}:∀{l:List Oper} {C:List Nat},bitB ((masks l C).getD i 0) j=true→C.length≤i→∃o,l[i - C.length]? =some o∧∃e∈o.after.toList,bindB e=true∧(e.on=j∨bitB ((masks l C).getD e.on 0) j=true)
  |[],C,h,hi=>by
   have:(masks [] C).getD i 0=0:=by simp [masks,List.getD_eq_getElem?_getD,List.getElem?_eq_none hi]
   rw [this,bitB_eq] at h;simp at h
  |o::l,C,h,hi=>by
   by_cases he:i=C.length
   · subst he
     refine ⟨o,by simp,?_⟩
     have e1:(masks (o::l) C).getD C.length 0=orE C o.after.toList 0:=by
       rw [masks,masks_low (by simp)];simp [List.getD_eq_getElem?_getD]
     rw [e1,bit_orE] at h
     rcases h with h|⟨e,h1,h2,h3⟩
     · rw [bitB_eq] at h;simp at h
     · refine ⟨e,h1,h2,h3.imp id fun h3=>?_⟩
       rcases Nat.lt_or_ge e.on C.length with h4|h4
       · rw [masks_low h4];exact h3
       · have:C.getD e.on 0=0:=by simp [List.getD_eq_getElem?_getD,List.getElem?_eq_none h4]
         rw [this,bitB_eq] at h3;simp at h3
   · rw [masks] at h
     obtain ⟨o',h1,h2⟩:=masks_bit h (by simp;omega)
     refine ⟨o',?_,h2⟩
     rw [show i - C.length=(i - (C++[orE C o.after.toList 0]).length)+1 by simp;omega]
     simpa using h1
theorem backE_iff {i:Nat}:∀{l:List Edge},backE i l=true→∀e∈l,bindB e=true→e.on<i
  |[],_,e,h,_=>by cases h
  |e0::l,h,e,he,hb=>by
   simp only [backE] at h
   rcases List.mem_cons.1 he with rfl|he
   · rw [hb] at h
     simp only [] at h
     split at h
     · rename_i h1;exact Nat.le_of_ble_eq_true h1
     · cases h
   · refine backE_iff ?_ e he hb
     split at h
     · split at h
       · exact h
       · cases h
     · exact h
theorem ordB_iff {C:List Nat} {i j:Nat}:ordB C i j=true↔j=i∨bitB (C.getD i 0) j=true∨bitB (C.getD j 0) i=true:=by
  unfold ordB
  cases h:Nat.beq j i with
  |true=>simp [beq_iff'.1 h]
  |false=>
   have hne:j≠i:=beq_false h
   cases h2:bitB (C.getD i 0) j<;>simp [hne]
theorem lookT_iff {C:List Nat} {i t:Nat}:∀{D:List (Nat × Nat)},lookT C i t D=true→∀j,(t,j)∈D→ordB C i j=true
  |[],_,j,h=>by cases h
  |p::D,h,j,hj=>by
   simp only [lookT] at h
   rcases List.mem_cons.1 hj with rfl|hj
   · rw [beq_iff'.2 rfl] at h
     simp only [] at h
     split at h
     · assumption
     · cases h
   · refine lookT_iff ?_ j hj
     split at h
     · exact h
     · split at h
       · exact h
       · cases h
theorem lookL_iff {C:List Nat} {i:Nat} {D:List (Nat × Nat)}:∀{l:List Nat},lookL C i D l=true→∀t∈l,lookT C i t D=true
  |[],_,t,h=>by cases h
  |a::l,h,t,ht=>by
   simp only [lookL] at h
   split at h
   · rcases List.mem_cons.1 ht with rfl|ht
     · assumption
     · exact lookL_iff h t ht
   · cases h
theorem noDst_iff {d:Nat}:∀{l:List (Nat × Nat)},noDst d l=true→∀p∈l,p.1≠d
  |[],_,p,h=>by cases h
  |q::l,h,p,hp=>by
   simp only [noDst] at h
   split at h
   · cases h
   · rcases List.mem_cons.1 hp with rfl|hp
     · exact beq_false (by assumption)
     · exact noDst_iff h p hp
theorem difDst_iff {d i j:Nat}:∀{l:List (Nat × Nat)},difDst l=true→(d,i)∈l→(d,j)∈l→i=j
  |[],_,h,_=>by cases h
  |q::l,h,h1,h2=>by
   simp only [difDst] at h
   split at h
   · rename_i hn
     have hn:=noDst_iff hn
     rcases List.mem_cons.1 h1 with g1|g1
     · subst g1
       rcases List.mem_cons.1 h2 with g2|g2
       · cases g2;rfl
       · exact absurd rfl (hn (d,j) g2)
     · rcases List.mem_cons.1 h2 with g2|g2
       · subst g2;exact absurd rfl (hn (d,i) g1)
       · exact difDst_iff h g1 g2
   · cases h
theorem dstsL_mem {d:Nat}:∀{l:List Oper} {i j:Nat} {o:Oper},l[j]? =some o→o.dst=some d→(d,i+j)∈dstsL l i
  |[],i,j,o,h,_=>by simp at h
  |o'::l,i,0,o,h,hd=>by
   simp at h;subst h
   simp only [dstsL,hd]
   exact List.mem_cons_self
  |o'::l,i,j+1,o,h,hd=>by
   have:=dstsL_mem (i:=i+1) (l:=l) (by simpa using h) hd
   rw [show i+1+j=i+(j+1) by omega] at this
   simp only [dstsL]
   split
   · exact List.mem_cons_of_mem _ this
   · exact this
theorem edgesL_iff {A:Array Oper} {C:List Nat} {D:List (Nat × Nat)}:∀{l:List Oper} {i:Nat},edgesL A C D l i=true→∀j o,l[j]? =some o→backE (i+j) o.after.toList=true∧lookL C (i+j) D (o.looksAt A)=true
  |[],i,_,j,o,h=>by simp at h
  |o'::l,i,h,j,o,ho=>by
   simp only [edgesL] at h
   split at h
   · cases h
   · split at h
     · cases h
     · cases j with
       |zero=>simp at ho;subst ho;exact ⟨by assumption,by assumption⟩
       |succ j=>
        have:=edgesL_iff h j o (by simpa using ho)
        rw [show i+1+j=i+(j+1) by omega] at this
        exact this
def BfM (A:Array Oper) (i j:Nat):Prop:=bitB ((masks A.toList []).getD i 0) j=true
theorem ords_of {A:Array Oper} (h:edgesB A=true):Ords A (BfM A):=by
  unfold edgesB at h
  split at h
  · cases h
  rename_i hdif
  have key:=edgesL_iff h
  have mem:∀{i d},dstAt A i=some d→(d,i)∈dstsL A.toList 0:=fun {i d} hi=>by
    obtain ⟨o,ho,hd⟩:=Option.bind_eq_some_iff.1 hi
    have:=dstsL_mem (i:=0) (l:=A.toList) (j:=i) (o:=o) (by rw [Array.getElem?_toList];exact ho) hd
    rw [Nat.zero_add] at this;exact this
  have back:∀i o,A[i]? =some o→∀e∈o.after,bindB e=true→e.on<i:=fun i o ho e he hb=>by
    have:=(key i o (by rw [Array.getElem?_toList];exact ho)).1
    rw [Nat.zero_add] at this
    exact backE_iff this e (Array.mem_toList_iff.2 he) hb
  have clos:∀i j,BfM A i j→∃o,A[i]? =some o∧∃e∈o.after,bindB e=true∧(e.on=j∨BfM A e.on j):=fun i j hb=>by
    obtain ⟨o,h1,e,h2,h3⟩:=masks_bit hb (Nat.zero_le _)
    exact ⟨o,by rw [←Array.getElem?_toList];simpa using h1,e,Array.mem_toList_iff.1 h2,h3⟩
  refine ⟨fun i=>?_,clos,back,fun i o ho t ht j hj=>?_,fun i j d hi hj=>difDst_iff (by simpa using hdif) (mem hi) (mem hj)⟩
  · induction i using Nat.strongRecOn with
    |ind i ih=>
     intro j hb
     obtain ⟨o,ho,e,he,hbe,h1⟩:=clos i j hb
     have h2:=back i o ho e he hbe
     rcases h1 with rfl|h1
     · exact h2
     · exact Nat.lt_trans (ih e.on h2 j h1) h2
  · have:=(key i o (by rw [Array.getElem?_toList];exact ho)).2
    rw [Nat.zero_add] at this
    exact ordB_iff.1 (lookT_iff (lookL_iff this t ht) j (mem hj))
end Go.CM
end
section
namespace Go.CM
open Go Go.AM
theorem hide_get {k:Nat}:∀{l:List Nat} {H:Tr CO},(hideH l H).get k=if k∈l then none else H.get k
  |[],H=>by simp [hideH]
  |j::l,H=>by
   simp only [hideH,hide_get (l:=l),Tr.get_put,List.mem_cons]
   by_cases h1:k∈l
   · simp [h1]
   · by_cases h2:k=j<;>simp [h1,h2]
theorem copy_get {G:Tr CO} {k:Nat}:∀{l:List Nat} {H:Tr CO},(copyH G l H).get k=if k∈l then G.get k else H.get k
  |[],H=>by simp [copyH]
  |j::l,H=>by
   simp only [copyH,copy_get (l:=l),Tr.get_put,List.mem_cons]
   by_cases h1:k∈l
   · simp [h1]
   · by_cases h2:k=j
     · subst h2;simp [h1]
     · simp [h1,h2]
theorem mem_range {k:Nat}:∀{n lo:Nat},k∈rangeN lo n↔lo≤k∧k<lo+n
  |0,lo=>by simp [rangeN]
  |n+1,lo=>by simp only [rangeN,List.mem_cons,mem_range (n:=n)];omega
theorem mem_keys {h:Hint} {k:Nat}:k∈h.keys↔k∈h.ws∨(h.lo≤k∧k<h.hi):=by
  unfold Hint.keys
  rw [List.mem_append,mem_range]
  constructor
  · rintro (h|h)
    · exact .inl h
    · exact .inr (by omega)
  · rintro (h|h)
    · exact .inl h
    · exact .inr (by omega)
theorem idle_iff {h:Hint}:h.idle=true↔h.ws=[]∧h.hi≤h.lo:=by
  unfold Hint.idle
  cases hw:h.ws with
  |nil=>simp
  |cons=>simp
theorem idle_keys {h:Hint} (hi:h.idle=true) (k:Nat):k∉h.keys:=by
  obtain ⟨h1,h2⟩:=idle_iff.1 hi
  rw [mem_keys,h1]
  rintro (h|h)
  · cases h
  · omega
theorem dis_iff {m:List Nat}:∀{l:List Nat},disL l m=true→∀k∈l,k∉m
  |[],_,k,h=>by cases h
  |a::l,h,k,hk=>by
   simp only [disL] at h
   split at h
   · cases h
   · rename_i hm
     rcases List.mem_cons.1 hk with rfl|hk
     · intro h2;rw [memB_iff.2 h2] at hm;cases hm
     · exact dis_iff h k hk
theorem all_iff {m:List Nat}:∀{l:List Nat},allMem l m=true→∀k∈l,k∈m
  |[],_,k,h=>by cases h
  |a::l,h,k,hk=>by
   simp only [allMem] at h
   split at h
   · rename_i hm
     rcases List.mem_cons.1 hk with rfl|hk
     · exact memB_iff.1 hm
     · exact all_iff h k hk
   · cases h
theorem mem_others {C:List Nat} {i:Nat} {x:Hint}:∀{hs:List Hint} {j0:Nat},x∈others C i hs j0↔∃j,hs[j]? =some x∧x.idle=false∧ordB C i (j0+j)=false
  |[],j0=>by simp [others]
  |h::hs,j0=>by
   have ih:=mem_others (C:=C) (i:=i) (x:=x) (hs:=hs) (j0:=j0+1)
   have rest:(∃j,hs[j]? =some x∧x.idle=false∧ordB C i (j0+1+j)=false)↔∃j,(h::hs)[j+1]? =some x∧x.idle=false∧ordB C i (j0+(j+1))=false:=by
     constructor<;>rintro ⟨j,h1,h2,h3⟩<;>refine ⟨j,by simpa using h1,h2,?_⟩
     · rw [show j0+(j+1)=j0+1+j by omega];exact h3
     · rw [show j0+1+j=j0+(j+1) by omega];exact h3
   have split_:(∃j,(h::hs)[j]? =some x∧x.idle=false∧ordB C i (j0+j)=false)↔(h=x∧x.idle=false∧ordB C i j0=false)∨∃j,(h::hs)[j+1]? =some x∧x.idle=false∧ordB C i (j0+(j+1))=false:=by
     constructor
     · rintro ⟨j,h1,h2,h3⟩
       cases j with
       |zero=>exact .inl ⟨by simpa using h1,h2,h3⟩
       |succ j=>exact .inr ⟨j,h1,h2,h3⟩
     · rintro (⟨h1,h2,h3⟩|⟨j,h1⟩)
       · exact ⟨0,by simp [h1],h2,h3⟩
       · exact ⟨j+1,h1⟩
   rw [split_,←rest,←ih]
   simp only [others]
   cases hidle:h.idle with
   |true=>
    simp only []
    refine ⟨.inr,?_⟩
    rintro (⟨rfl,h2,_⟩|h)
    · rw [hidle] at h2;cases h2
    · exact h
   |false=>
    cases ho:ordB C i j0 with
    |true=>
     simp only []
     refine ⟨.inr,?_⟩
     rintro (⟨_,_,h3⟩|h)
     · cases h3
     · exact h
    |false=>
     simp only [List.mem_cons]
     constructor
     · rintro (rfl|h)
       · exact .inl ⟨rfl,hidle,trivial⟩
       · exact .inr h
     · rintro (⟨rfl,_⟩|h)
       · exact .inl rfl
       · exact .inr h
theorem mem_keysH {k:Nat}:∀{l:List Hint},k∈keysH l↔∃h∈l,k∈h.keys
  |[]=>by simp [keysH]
  |h::l=>by
   have:keysH (h::l)=h.keys++keysH l∨keysH (h::l)=h.ws++(rangeN h.lo (h.hi - h.lo)++keysH l):=by
     first|exact .inl rfl|exact .inr rfl
   have e:k∈keysH (h::l)↔k∈h.keys∨k∈keysH l:=by
     unfold Hint.keys
     rcases this with e|e<;>rw [e]<;>simp [Hint.keys,or_assoc]
   rw [e,mem_keysH (l:=l)]
   simp
theorem allIdle_iff:∀{l:List Hint},allIdle l=true→∀h∈l,h.idle=true
  |[],_,h,hm=>by cases hm
  |a::l,h,x,hx=>by
   simp only [allIdle] at h
   split at h
   · rcases List.mem_cons.1 hx with rfl|hx
     · assumption
     · exact allIdle_iff h x hx
   · cases h
theorem clearN_iff {C:List Nat} {hs:List Hint}:∀{n:Nat},clearN C hs n=true→∀i,i<n→others C i hs 0=[]
  |0,_,i,h=>by omega
  |n+1,h,i,hi=>by
   simp only [clearN] at h
   split at h
   · rename_i hn
     by_cases e:i=n
     · subst e;exact hn
     · exact clearN_iff h i (by omega)
   · cases h
theorem not_ord {A:Array Oper} {i j:Nat}:ordB (masks A.toList []) i j=false↔Unord (BfM A) i j:=by
  have:=ordB_iff (C:=masks A.toList []) (i:=i) (j:=j)
  constructor
  · intro h
    refine ⟨fun e=>?_,fun e=>?_,fun e=>?_⟩<;>(rw [this.2 (by first|exact .inl e|exact .inr (.inl e)|exact .inr (.inr e))] at h;cases h)
  · intro h
    cases hb:ordB (masks A.toList []) i j with
    |false=>rfl
    |true=>rcases this.1 hb with e|e|e<;>first|exact absurd e h.1|exact absurd e h.2.1|exact absurd e h.2.2
section
variable {P:Program} {E:Ev} {A:Array Oper}
def StepP (E:Ev) (A:Array Oper) (j:Nat) (T:Tm') (s:HS) (T1:Tm') (s1:HS) (h:Hint):Prop:=
  ∃o g,A[j]? =some o∧gdV A o.guard T=some g∧
   (g=true→∃v p,evOp E o.op T ⟨s.H,s.nx,s.nx,[]⟩=some (v,p)∧s.nx≤p.nx∧dstV o.dst T v=some T1∧h=⟨p.wr,s.nx,p.nx⟩∧s1=stepH s p h)∧
   (g=false→dstV o.dst T (.t [])=some T1∧h=⟨[],s.nx,s.nx⟩∧s1=s)
def StepD (E:Ev) (A:Array Oper) (hs:List Hint) (j:Nat) (T:Tm') (s:HS) (T1:Tm') (s1:HS) (wr:List Nat):Prop:=
  ∃o h g,A[j]? =some o∧hs[j]? =some h∧h.lo=s.nx∧h.lo≤h.hi∧disL h.keys (keysH (others (masks A.toList []) j hs 0))=true∧gdV A o.guard T=some g∧
   (g=true→∃v p,evOp E o.op T ⟨hideH (keysH (others (masks A.toList []) j hs 0)) s.H,s.nx,s.nx,[]⟩=some (v,p)∧h.hi=p.nx∧allMem p.wr h.ws=true∧dstV o.dst T v=some T1∧s1=⟨copyH p.H h.keys s.H,p.nx,s.wb,wrotes s.wb p.wr s.wr⟩∧wr=p.wr)∧
   (g=false→h.idle=true∧dstV o.dst T (.t [])=some T1∧s1=s∧wr=[])
theorem drop_head {rest:List Oper} {o:Oper} {i:Nat} (hr:A.toList.drop i=o::rest):A[i]? =some o∧A.toList.drop (i+1)=rest∧i<A.size:=by
  have hi:A[i]? =some o:=by
    have:=congrArg (·.head?) hr
    simp [List.head?_drop] at this
    exact this
  refine ⟨hi,?_,(Array.getElem?_eq_some_iff.1 hi).1⟩
  have:=congrArg List.tail hr
  simpa [List.tail_drop] using this
theorem drop_nil {i:Nat} (hr:A.toList.drop i=[]) (hi:i≤A.size):i=A.size:=by
  have:=congrArg List.length hr
  simp at this;omega
theorem plain_steps:∀(rest:List Oper) (i:Nat) {acc:List Hint} {T T':Tm'} {s s':HS} {hs:List Hint},A.toList.drop i=rest→i≤A.size→acc.length=i→evPlain E A rest acc T s=some (T',s',hs)→
    ∃(Tf:Nat→Tm') (sf:Nat→HS),Tf i=T∧sf i=s∧Tf A.size=T'∧sf A.size=s'∧hs.length=A.size∧(∀j,j<i→hs[j]? =acc.reverse[j]?)∧∀j,i≤j→j<A.size→∃h,hs[j]? =some h∧StepP E A j (Tf j) (sf j) (Tf (j+1)) (sf (j+1)) h
  |[],i,acc,T,T',s,s',hs,hr,hi,hacc,h=>by
   cases h
   have:=drop_nil hr hi
   subst this
   exact ⟨fun _=>T,fun _=>s,rfl,rfl,rfl,rfl,by simp [hacc],fun _ _=>rfl,fun j h1 h2=>by omega⟩
  |o::rest,i,acc,T,T',s,s',hs,hr,hi,hacc,h=>by
   obtain ⟨ho,hr',hlt⟩:=drop_head hr
   obtain ⟨g,hg,h⟩:=bo_eq h
   have key:∀{T1:Tm'} {s1:HS} {x:Hint},evPlain E A rest (x::acc) T1 s1=some (T',s',hs)→StepP E A i T s T1 s1 x→∃(Tf:Nat→Tm') (sf:Nat→HS),Tf i=T∧sf i=s∧Tf A.size=T'∧sf A.size=s'∧hs.length=A.size∧(∀j,j<i→hs[j]? =acc.reverse[j]?)∧
       ∀j,i≤j→j<A.size→∃h,hs[j]? =some h∧StepP E A j (Tf j) (sf j) (Tf (j+1)) (sf (j+1)) h:=fun {T1 s1 x} h hst=>by
     obtain ⟨Tf,sf,g1,g2,g3,g4,g5,g6,g7⟩:=plain_steps rest (i+1) hr' hlt (by simp [hacc]) h
     have hx:hs[i]? =some x:=by
       rw [g6 i (Nat.lt_succ_self i)]
       simp [hacc]
     refine ⟨fun j=>if j≤i then T else Tf j,fun j=>if j≤i then s else sf j,by simp,by simp,by simp [show ¬A.size≤i by omega,g3],by simp [show ¬A.size≤i by omega,g4],g5,fun j hj=>?_,fun j h1 h2=>?_⟩
     · rw [g6 j (by omega)]
       simp [List.getElem?_append_left,hacc,hj]
     · by_cases e:j=i
       · subst e
         refine ⟨x,hx,?_⟩
         have e1:¬j+1≤j:=by omega
         simp only [Nat.le_refl,if_true,e1,if_false,g1,g2]
         exact hst
       · obtain ⟨y,h3,h4⟩:=g7 j (by omega) h2
         refine ⟨y,h3,?_⟩
         have e1:¬j≤i:=by omega
         have e2:¬j+1≤i:=by omega
         simp only [e1,e2,if_false]
         exact h4
   cases g with
   |true=>
    obtain ⟨p,h1,h⟩:=bo_eq h
    obtain ⟨h2,h⟩:=bt_eq h
    obtain ⟨T1,h3,h⟩:=bo_eq h
    exact key h ⟨o,true,ho,hg,fun _=>⟨p.1,p.2,h1,Nat.le_of_ble_eq_true h2,h3,rfl,rfl⟩,fun e=>by cases e⟩
   |false=>
    obtain ⟨T1,h3,h⟩:=bo_eq h
    exact key h ⟨o,false,ho,hg,fun e=>(by cases e),fun _=>⟨h3,rfl,rfl⟩⟩
theorem draw_steps {hs:List Hint}:∀(rest:List Oper) (i:Nat) {T T':Tm'} {s s':HS},A.toList.drop i=rest→i≤A.size→evDraw E A (masks A.toList []) hs rest i T s=some (T',s')→
    ∃(Tf:Nat→Tm') (sf:Nat→HS) (wf:Nat→List Nat),Tf i=T∧sf i=s∧Tf A.size=T'∧sf A.size=s'∧∀j,i≤j→j<A.size→StepD E A hs j (Tf j) (sf j) (Tf (j+1)) (sf (j+1)) (wf j)
  |[],i,T,T',s,s',hr,hi,h=>by
   cases h
   have:=drop_nil hr hi
   subst this
   exact ⟨fun _=>T,fun _=>s,fun _=>[],rfl,rfl,rfl,rfl,fun j h1 h2=>by omega⟩
  |o::rest,i,T,T',s,s',hr,hi,h=>by
   obtain ⟨ho,hr',hlt⟩:=drop_head hr
   obtain ⟨x,hx,h⟩:=bo_eq h
   obtain ⟨hlo,h⟩:=bt_eq h
   obtain ⟨hle,h⟩:=bt_eq h
   obtain ⟨hdis,h⟩:=bt_eq h
   obtain ⟨g,hg,h⟩:=bo_eq h
   have key:∀{T1:Tm'} {s1:HS} {wr:List Nat},evDraw E A (masks A.toList []) hs rest (i+1) T1 s1=some (T',s')→StepD E A hs i T s T1 s1 wr→∃(Tf:Nat→Tm') (sf:Nat→HS) (wf:Nat→List Nat),Tf i=T∧sf i=s∧Tf A.size=T'∧sf A.size=s'∧
       ∀j,i≤j→j<A.size→StepD E A hs j (Tf j) (sf j) (Tf (j+1)) (sf (j+1)) (wf j):=fun {T1 s1 wr} h hst=>by
     obtain ⟨Tf,sf,wf,g1,g2,g3,g4,g5⟩:=draw_steps rest (i+1) hr' hlt h
     refine ⟨fun j=>if j≤i then T else Tf j,fun j=>if j≤i then s else sf j,fun j=>if j≤i then wr else wf j,by simp,by simp,by simp [show ¬A.size≤i by omega,g3],by simp [show ¬A.size≤i by omega,g4],fun j h1 h2=>?_⟩
     by_cases e:j=i
     · subst e
       have e1:¬j+1≤j:=by omega
       simp only [Nat.le_refl,if_true,e1,if_false,g1,g2]
       exact hst
     · have e1:¬j≤i:=by omega
       have e2:¬j+1≤i:=by omega
       simp only [e1,e2,if_false]
       exact g5 j (by omega) h2
   cases g with
   |true=>
    obtain ⟨p,h1,h⟩:=bo_eq h
    obtain ⟨h2,h⟩:=bt_eq h
    obtain ⟨h4,h⟩:=bt_eq h
    obtain ⟨T1,h3,h⟩:=bo_eq h
    exact key h ⟨o,x,true,ho,hx,beq_iff'.1 hlo,Nat.le_of_ble_eq_true hle,hdis,hg,fun _=>⟨p.1,p.2,h1,beq_iff'.1 h2,h4,h3,rfl,rfl⟩,fun e=>by cases e⟩
   |false=>
    obtain ⟨h4,h⟩:=bt_eq h
    obtain ⟨T1,h3,h⟩:=bo_eq h
    exact key h ⟨o,x,false,ho,hx,beq_iff'.1 hlo,Nat.le_of_ble_eq_true hle,hdis,hg,fun e=>(by cases e),fun _=>⟨h4,h3,rfl,rfl⟩⟩
theorem wr_run {n:Nat} {sf:Nat→HS} {wf:Nat→List Nat} (h:∀j,j<n→(sf (j+1)).wb=(sf j).wb∧(∀k,k∈(sf j).wr→k∈(sf (j+1)).wr)∧∀k,k∈wf j→k<(sf j).wb→k∈(sf (j+1)).wr):
    (sf n).wb=(sf 0).wb∧(∀k,k∈(sf 0).wr→k∈(sf n).wr)∧∀i k,i<n→k∈wf i→k<(sf 0).wb→k∈(sf n).wr:=by
  have h1:∀i,i≤n→(sf i).wb=(sf 0).wb:=by
    intro i
    induction i with
    |zero=>exact fun _=>rfl
    |succ i ih=>intro hi;rw [(h i hi).1,ih (by omega)]
  have h2:∀d i,i+d≤n→∀k,k∈(sf i).wr→k∈(sf (i+d)).wr:=by
    intro d
    induction d with
    |zero=>exact fun _ _ _ hk=>hk
    |succ d ih=>intro i hi k hk;exact (h (i+d) (by omega)).2.1 k (ih i (by omega) k hk)
  refine ⟨h1 n (Nat.le_refl _),fun k hk=>?_,fun i k hi hk hlt=>?_⟩
  · have:=h2 n 0 (by omega) k hk
    rw [Nat.zero_add] at this;exact this
  · have:=h2 (n - (i+1)) (i+1) (by omega) k ((h i hi).2.2 k hk (by rw [h1 i (by omega)];exact hlt))
    rw [show i+1+(n - (i+1))=n by omega] at this;exact this
theorem plain_plan {hs:List Hint} {Tf:Nat→Tm'} {sf:Nat→HS} (_hlen:hs.length=A.size) (hcl:clearB (masks A.toList []) hs A.size=true) (hst:∀j,j<A.size→∃h,hs[j]? =some h∧StepP E A j (Tf j) (sf j) (Tf (j+1)) (sf (j+1)) h):
    Plan E A (BfM A) Tf (fun i=>(sf i).H.get) (fun i=>(sf i).nx) (fun i=>match hs[i]? with|some h=>h.ws|none=>[]) (fun i _=>∃h,hs[i]? =some h∧h.idle=false):=by
  have nohid:∀i k,i<A.size→¬Hid A.size (BfM A) (fun i _=>∃h,hs[i]? =some h∧h.idle=false) i k:=fun i k hi ⟨j,hj,hu,h,h1,h2⟩=>by
    unfold clearB at hcl
    split at hcl
    · rename_i ha
      rw [allIdle_iff ha h (List.mem_of_getElem? h1)] at h2;cases h2
    · have h3:=clearN_iff hcl i hi
      have:h∈others (masks A.toList []) i hs 0:=mem_others.2 ⟨j,h1,h2,by rw [Nat.zero_add];exact not_ord.2 hu⟩
      rw [h3] at this;cases this
  have one:∀i,i<A.size→∃h,hs[i]? =some h∧h.lo=(sf i).nx∧h.hi=(sf (i+1)).nx∧h.lo≤h.hi∧(h.idle=true→sf (i+1)=sf i):=fun i hi=>by
    obtain ⟨h,h1,o,g,h2,h3,h4,h5⟩:=hst i hi
    refine ⟨h,h1,?_⟩
    cases g with
    |true=>
     obtain ⟨v,p,g1,g2,g3,g4,g5⟩:=h4 rfl
     subst g4
     cases hid:Hint.idle ⟨p.wr,(sf i).nx,p.nx⟩ with
     |true=>
      have:=idle_iff.1 hid
      have e:sf (i+1)=sf i:=by rw [g5];unfold stepH;rw [hid]
      exact ⟨rfl,by rw [e];exact Nat.le_antisymm this.2 g2,g2,fun _=>e⟩
     |false=>
      exact ⟨rfl,by rw [g5];unfold stepH;rw [hid],g2,fun e=>by cases e⟩
    |false=>
     obtain ⟨g1,g2,g3⟩:=h5 rfl
     subst g2
     exact ⟨rfl,by rw [g3],Nat.le_refl _,fun _=>g3⟩
  refine ⟨fun i o ho=>?_,fun i k hi hn=>?_,fun i hi=>?_,fun i k hi h1 h2=>?_,fun i k hi hk=>?_,fun i k hi _=>nohid i k hi⟩
  · have hi:i<A.size:=(Array.getElem?_eq_some_iff.1 ho).1
    obtain ⟨h,h1,o',g,h2,h3,h4,h5⟩:=hst i hi
    rw [ho] at h2;cases h2
    refine ⟨g,h3,fun hg=>?_,fun hg=>?_⟩
    · obtain ⟨v,p,g1,g2,g3,g4,g5⟩:=h4 hg
      obtain ⟨x,hx1,hx2,hx3,hx4,hx5⟩:=one i hi
      rw [h1] at hx1;cases hx1
      refine ⟨v,_,p,g1,g3,rfl,rfl,?_,?_,fun k hk=>absurd hk (nohid i k hi),fun k _=>rfl,fun k ⟨y,hy1,hy2⟩=>?_⟩
      · rw [←hx3,g4]
      · simp only [h1];rw [g4]
      · rw [h1] at hy1;cases hy1
        show (sf (i+1)).H.get k=p.H.get k
        rw [g5];unfold stepH;rw [hy2]
    · obtain ⟨g1,g2,g3⟩:=h5 hg
      refine ⟨g1,by rw [g3],fun k ⟨y,hy1,hy2⟩=>?_⟩
      rw [h1] at hy1;cases hy1
      rw [g2] at hy2
      have:Hint.idle ⟨[],(sf i).nx,(sf i).nx⟩=true:=idle_iff.2 ⟨rfl,Nat.le_refl _⟩
      rw [this] at hy2;cases hy2
  · obtain ⟨h,h1,h2,h3,h4,h5⟩:=one i hi
    have:h.idle=true:=by
      cases hid:h.idle with
      |true=>rfl
      |false=>exact absurd ⟨h,h1,hid⟩ hn
    show (sf (i+1)).H.get k=(sf i).H.get k
    rw [h5 this]
  · obtain ⟨h,h1,h2,h3,h4,h5⟩:=one i hi
    show (sf i).nx≤(sf (i+1)).nx
    rw [←h2,←h3];exact h4
  · obtain ⟨h,h3,h4,h5,h6,h7⟩:=one i hi
    refine ⟨h,h3,?_⟩
    cases hid:h.idle with
    |false=>rfl
    |true=>
     have:=(idle_iff.1 hid).2
     have h1:(sf i).nx≤k:=h1
     have h2:k<(sf (i+1)).nx:=h2
     omega
  · obtain ⟨h,h3,_⟩:=one i hi
    simp only [h3] at hk
    refine ⟨h,h3,?_⟩
    cases hid:h.idle with
    |false=>rfl
    |true=>rw [(idle_iff.1 hid).1] at hk;cases hk
theorem draw_plan {hs:List Hint} {Tf:Nat→Tm'} {sf:Nat→HS} {wf:Nat→List Nat} (hlen:hs.length=A.size) (hst:∀j,j<A.size→StepD E A hs j (Tf j) (sf j) (Tf (j+1)) (sf (j+1)) (wf j)):
    Plan E A (BfM A) Tf (fun i=>(sf i).H.get) (fun i=>(sf i).nx) wf (fun i k=>∃h,hs[i]? =some h∧k∈h.keys):=by
  have hid:∀i k,Hid A.size (BfM A) (fun i k=>∃h,hs[i]? =some h∧k∈h.keys) i k↔k∈keysH (others (masks A.toList []) i hs 0):=fun i k=>by
    rw [mem_keysH]
    constructor
    · rintro ⟨j,hj,hu,h,h1,h2⟩
      refine ⟨h,mem_others.2 ⟨j,h1,?_,by rw [Nat.zero_add];exact not_ord.2 hu⟩,h2⟩
      cases hi:h.idle with
      |false=>rfl
      |true=>exact absurd h2 (idle_keys hi k)
    · rintro ⟨h,h1,h2⟩
      obtain ⟨j,h3,_,h4⟩:=mem_others.1 h1
      rw [Nat.zero_add] at h4
      exact ⟨j,by rw [←hlen];exact (List.getElem?_eq_some_iff.1 h3).1,not_ord.1 h4,h,h3,h2⟩
  have one:∀i,i<A.size→∃h,hs[i]? =some h∧h.lo=(sf i).nx∧h.hi=(sf (i+1)).nx∧h.lo≤h.hi∧disL h.keys (keysH (others (masks A.toList []) i hs 0))=true∧(∀k,k∉h.keys→(sf (i+1)).H.get k=(sf i).H.get k)∧(∀k,k∈wf i→k∈h.ws):=fun i hi=>by
    obtain ⟨o,h,g,h1,h2,h3,h4,h5,h6,h7,h8⟩:=hst i hi
    refine ⟨h,h2,h3,?_⟩
    cases g with
    |true=>
     obtain ⟨v,p,g1,g2,g3,g4,g5,g6⟩:=h7 rfl
     refine ⟨by rw [g5];exact g2,h4,h5,fun k hk=>?_,fun k hk=>all_iff g3 k (by rw [←g6];exact hk)⟩
     rw [g5]
     show (copyH p.H h.keys (sf i).H).get k=_
     rw [copy_get,if_neg hk]
    |false=>
     obtain ⟨g1,g2,g3,g4⟩:=h8 rfl
     have:=(idle_iff.1 g1).2
     exact ⟨by rw [g3];omega,h4,h5,fun k _=>by rw [g3],fun k hk=>by rw [g4] at hk;cases hk⟩
  refine ⟨fun i o ho=>?_,fun i k hi hn=>?_,fun i hi=>?_,fun i k hi h1 h2=>?_,fun i k hi hk=>?_,fun i k hi ⟨h,h1,h2⟩ hh=>?_⟩
  · have hi:i<A.size:=(Array.getElem?_eq_some_iff.1 ho).1
    obtain ⟨o',h,g,h1,h2,h3,h4,h5,h6,h7,h8⟩:=hst i hi
    rw [ho] at h1;cases h1
    refine ⟨g,h6,fun hg=>?_,fun hg=>?_⟩
    · obtain ⟨v,p,g1,g2,g3,g4,g5,g6⟩:=h7 hg
      refine ⟨v,_,p,g1,g4,rfl,rfl,by rw [g5],g6.symm,fun k hk=>?_,fun k hk=>?_,fun k ⟨y,hy1,hy2⟩=>?_⟩
      · show (hideH _ (sf i).H).get k=none
        rw [hide_get,if_pos ((hid i k).1 hk)]
      · show (hideH _ (sf i).H).get k=(sf i).H.get k
        rw [hide_get,if_neg fun e=>hk ((hid i k).2 e)]
      · rw [h2] at hy1;cases hy1
        show (sf (i+1)).H.get k=p.H.get k
        rw [g5]
        show (copyH p.H h.keys (sf i).H).get k=_
        rw [copy_get,if_pos hy2]
    · obtain ⟨g1,g2,g3,g4⟩:=h8 hg
      refine ⟨g2,by rw [g3],fun k ⟨y,hy1,hy2⟩=>?_⟩
      rw [h2] at hy1;cases hy1
      exact idle_keys g1 k hy2
  · obtain ⟨h,h1,h2,h3,h4,h5,h6,_⟩:=one i hi
    exact h6 k fun e=>hn ⟨h,h1,e⟩
  · obtain ⟨h,h1,h2,h3,h4,_⟩:=one i hi
    show (sf i).nx≤(sf (i+1)).nx
    rw [←h2,←h3];exact h4
  · obtain ⟨h,h3,h4,h5,h6,_⟩:=one i hi
    have h1:(sf i).nx≤k:=h1
    have h2:k<(sf (i+1)).nx:=h2
    exact ⟨h,h3,mem_keys.2 (.inr (by omega))⟩
  · obtain ⟨h,h3,_,_,_,_,_,h4⟩:=one i hi
    exact ⟨h,h3,mem_keys.2 (.inl (h4 k hk))⟩
  · obtain ⟨h',h3,_,_,_,h4,_⟩:=one i hi
    rw [h1] at h3;cases h3
    exact dis_iff h4 k h2 ((hid i k).1 hh)
theorem any_ok (hty:TyOk P E.TY) (hz:ZOk P E.TY E.TZ) (hcal:EvOk P E) (hm:P.follows .mixedOrders=true) {T T':Tm'} {s s':HS} (h:evAny E A T s=some (T',s')) {R:Exit→Act→World→Prop} {ρ:Rn} {w:World} {a:Act} {id:Nat}
    (hd:Hd ρ s.H.get s.nx w) (tm:TmH ρ T a) (hR:∀ρ' a' w',Post ρ ρ' s s' w w'→TmH ρ' T' a'→R .normal a' w'):(Code.region id A true).wp P R a w:=by
  obtain ⟨he,h⟩:=bt_eq h
  obtain ⟨⟨T2,s2,hs⟩,h1,h⟩:=bo_eq h
  have od:=ords_of he
  obtain ⟨Tf,sf,g1,g2,g3,g4,g5,_,g7⟩:=plain_steps (E:=E) (A:=A) A.toList 0 rfl (Nat.zero_le _) rfl h1
  split at h
  · rename_i hcl
    have hcl:clearB (masks A.toList []) hs A.size=true:=hcl
    cases h
    have p:=plain_plan g5 hcl fun j hj=>g7 j (Nat.zero_le _) hj
    obtain ⟨e1,e2,e3⟩:=wr_run (n:=A.size) (sf:=sf) (wf:=fun i=>match hs[i]? with|some h=>h.ws|none=>[]) fun j hj=>by
      obtain ⟨x,h1,o,g,h2,h3,h4,h5⟩:=g7 j (Nat.zero_le _) hj
      simp only [h1]
      cases g with
      |true=>
       obtain ⟨v,q,f1,f2,f3,f4,f5⟩:=h4 rfl
       rw [f5]
       unfold stepH
       cases hid:x.idle with
       |true=>exact ⟨rfl,fun _ hk=>hk,fun k hk=>by rw [(idle_iff.1 hid).1] at hk;cases hk⟩
       |false=>exact ⟨rfl,fun k hk=>mem_wrotes.2 (.inl hk),fun k hk hlt=>mem_wrotes.2 (.inr ⟨by rw [f4] at hk;exact hk,hlt⟩)⟩
      |false=>
       obtain ⟨f1,f2,f3⟩:=h5 rfl
       rw [f3]
       exact ⟨rfl,fun _ hk=>hk,fun k hk=>by rw [f2] at hk;cases hk⟩
    rw [g2,g4] at e1 e2 e3
    exact plan_ok hty hz hcal hm p od (s:=s) (by rw [g2]) (by simp only [g2]) (by rw [g4]) (by simp only [g4]) e1 e2 (fun i k hi hk hlt=>e3 i k hi hk hlt) g1 g3 hd tm hR
  · obtain ⟨Tg,sg,wf,f1,f2,f3,f4,f5⟩:=draw_steps A.toList 0 rfl (Nat.zero_le _) h
    have p:=draw_plan g5 fun j hj=>f5 j (Nat.zero_le _) hj
    obtain ⟨e1,e2,e3⟩:=wr_run (n:=A.size) (sf:=sg) (wf:=wf) fun j hj=>by
      obtain ⟨o,x,g,h1,h2,h3,h4,h5,h6,h7,h8⟩:=f5 j (Nat.zero_le _) hj
      cases g with
      |true=>
       obtain ⟨v,q,q1,q2,q3,q4,q5,q6⟩:=h7 rfl
       rw [q5,q6]
       exact ⟨rfl,fun k hk=>mem_wrotes.2 (.inl hk),fun k hk hlt=>mem_wrotes.2 (.inr ⟨hk,hlt⟩)⟩
      |false=>
       obtain ⟨q1,q2,q3,q4⟩:=h8 rfl
       rw [q3,q4]
       exact ⟨rfl,fun _ hk=>hk,fun k hk=>by cases hk⟩
    rw [f2,f4] at e1 e2 e3
    exact plan_ok hty hz hcal hm p od (s:=s) (s':=s') (by rw [f2]) (by simp only [f2]) (by rw [f4]) (by simp only [f4]) e1 e2 e3 f1 f3 hd tm hR
end
end Go.CM
end
section
namespace Go.CM
open Go Go.AM
section
end
end Go.CM
end
section
namespace Go.CM
open Go Go.AM
section
variable {P:Program} {E:Ev}
theorem region_ok (hty:TyOk P E.TY) (hz:ZOk P E.TY E.TZ) (hcal:EvOk P E) (hm:P.follows .mixedOrders=true) {A:Array Oper} {d:Bool} {T T':Tm'} {s s':HS} (h:evRegion E A d T s=some (T',s')) {R:Exit→Act→World→Prop} {ρ:Rn} {w:World} {a:Act} {id:Nat}
    (hd:Hd ρ s.H.get s.nx w) (tm:TmH ρ T a) (hR:∀ρ' a' w',Post ρ ρ' s s' w w'→TmH ρ' T' a'→R .normal a' w'):(Code.region id A d).wp P R a w:=by
  cases d with
  |true=>exact any_ok hty hz hcal hm h hd tm hR
  |false=>exact wp_region (by
     have:=evOps_ok (Q:=R) hty hz hcal (ops:=A) A.toList 0 rfl h hd tm hR
     rw [List.range_eq_range',←Array.length_toList];exact this)
theorem evC_ok (hty:TyOk P E.TY) (hz:ZOk P E.TY E.TZ) (hcal:EvOk P E) (hm:P.follows .mixedOrders=true) (n:Nat):∀(c:Code) {T:Tm'} {s:HS} {r:Out} {ρ:Rn} {w:World} {a:Act} {R:Exit→Act→World→Prop},
    evCR c E n T s=some r→Hd ρ s.H.get s.nx w→TmH ρ T a→(∀ρ' a' w',Post ρ ρ' s r.s w w'→TmH ρ' r.T a'→R (exitOf r.e) a' w')→c.wp P R a w
  |.skip,T,s,r,ρ,w,a,R,h,hd,tm,hR=>by
   have h:some ⟨.normal,T,s⟩=some r:=h
   cases h
   exact wp_skip (hR ρ a w (Post.refl hd) tm)
  |.ret,T,s,r,ρ,w,a,R,h,hd,tm,hR=>by
   have h:some ⟨.ret,T,s⟩=some r:=h
   cases h
   exact wp_ret (hR ρ a w (Post.refl hd) tm)
  |.exit id,T,s,r,ρ,w,a,R,h,hd,tm,hR=>by
   have h:some ⟨.exit id,T,s⟩=some r:=h
   cases h
   exact wp_exit (hR ρ a w (Post.refl hd) tm)
  |.region id ops d,T,s,r,ρ,w,a,R,h,hd,tm,hR=>by
   have h:(bo (evRegion E ops d T s) fun p=>some ⟨.normal,p.1,p.2⟩)=some r:=h
   obtain ⟨p,h1,h⟩:=bo_eq h
   cases h
   exact region_ok hty hz hcal hm h1 hd tm hR
  |.seq x y,T,s,r,ρ,w,a,R,h,hd,tm,hR=>by
   have h:(bo (evCR x E n T s) fun r=>seqN r (evCR y E n))=some r:=h
   obtain ⟨r1,h1,h⟩:=bo_eq h
   refine wp_seq (evC_ok hty hz hcal hm n x h1 hd tm fun ρ' a' w' hp tm'=>?_)
   obtain ⟨e,T1,s1⟩:=r1
   cases e with
   |normal=>
    have h:evCR y E n T1 s1=some r:=h
    exact evC_ok hty hz hcal hm n y h hp.hd tm' fun ρ'' a'' w'' hp' tm''=>hR ρ'' a'' w'' (hp.trans hp') tm''
   |exit i=>
    have h:some ⟨.exit i,T1,s1⟩=some r:=h
    cases h
    exact hR ρ' a' w' hp tm'
   |ret=>
    have h:some ⟨.ret,T1,s1⟩=some r:=h
    cases h
    exact hR ρ' a' w' hp tm'
  |.cond c x y,T,s,r,ρ,w,a,R,h,hd,tm,hR=>by
   have h:(bo (asB (evO T c)) fun t=>Bool.rec (motive:=fun _=>Option Out) (evCR y E n T s) (evCR x E n T s) t)=some r:=h
   obtain ⟨t,h1,h⟩:=bo_eq h
   have hv:=asB_rep h1 (evO_rep tm c)
   refine wp_cond hv ?_
   cases t with
   |true=>exact evC_ok hty hz hcal hm n x h hd tm hR
   |false=>exact evC_ok hty hz hcal hm n y h hd tm hR
  |.block id x,T,s,r,ρ,w,a,R,h,hd,tm,hR=>by
   have h:(bo (evCR x E n T s) fun r=>blkN id r)=some r:=h
   obtain ⟨r1,h1,h⟩:=bo_eq h
   refine wp_block (evC_ok hty hz hcal hm n x h1 hd tm fun ρ' a' w' hp tm'=>?_)
   obtain ⟨e,T1,s1⟩:=r1
   cases e with
   |normal=>
    have h:some ⟨.normal,T1,s1⟩=some r:=h
    cases h
    exact hR ρ' a' w' hp tm'
   |ret=>
    have h:some ⟨.ret,T1,s1⟩=some r:=h
    cases h
    exact hR ρ' a' w' hp tm'
   |exit j=>
    have h:(Bool.rec (motive:=fun _=>Option Out) (some ⟨.exit j,T1,s1⟩) (some ⟨.normal,T1,s1⟩) (Nat.beq j id))=some r:=h
    simp only [exitOf,Exit.inBlock]
    cases hb:Nat.beq j id with
    |true=>
     rw [hb] at h
     have h:some ⟨.normal,T1,s1⟩=some r:=h
     cases h
     rw [if_pos (beq_iff'.1 hb)]
     exact hR ρ' a' w' hp tm'
    |false=>
     rw [hb] at h
     have h:some ⟨.exit j,T1,s1⟩=some r:=h
     cases h
     rw [if_neg (beq_false hb)]
     exact hR ρ' a' w' hp tm'
  |.scope x,T,s,r,ρ,w,a,R,h,hd,tm,hR=>wp_scope_straight (evC_ok hty hz hcal hm n x (r:=r) h hd tm fun ρ' a' w' hp tm'=>by
     have:=hR ρ' a' w' hp tm'
     cases he:r.e<;>rw [he] at this<;>exact this)
  |.loop x,T,s,r,ρ,w,a,R,h,hd,tm,hR=>by
   have h:evLoop (evCR x E n) n T s=some r:=h
   let I:Nat→Act→World→Prop:=fun k a' w'=>∃T1 s1 ρ1,evLoop (evCR x E n) k T1 s1=some r∧Post ρ ρ1 s s1 w w'∧TmH ρ1 T1 a'
   refine wp_loop_ix I id n ⟨T,s,ρ,h,Post.refl hd,tm⟩ fun k a1 w1 ⟨T1,s1,ρ1,h1,hp1,tm1⟩=>?_
   cases k with
   |zero=>cases h1
   |succ k=>
    obtain ⟨r1,h2,h1⟩:=bo_eq h1
    refine evC_ok hty hz hcal hm n x h2 hp1.hd tm1 fun ρ' a' w' hp tm'=>?_
    obtain ⟨e,T2,s2⟩:=r1
    cases e with
    |normal=>exact ⟨k,⟨T2,s2,ρ',h1,hp1.trans hp,tm'⟩,Nat.lt_succ_self k⟩
    |exit i=>
     have h1:some ⟨.exit i,T2,s2⟩=some r:=h1
     cases h1
     exact hR ρ' a' w' (hp1.trans hp) tm'
    |ret=>
     have h1:some ⟨.ret,T2,s2⟩=some r:=h1
     cases h1
     exact hR ρ' a' w' (hp1.trans hp) tm'
  |.label _,_,_,_,_,_,_,_,h,_,_,_=>by cases h
  |.goto _,_,_,_,_,_,_,_,h,_,_,_=>by cases h
theorem RpVs.get {ρ:Rn}:∀{l:List CV} {m:List Value} {i:Nat} {a:CV},RpVs ρ l m→l[i]? =some a→∃v,m[i]? =some v∧RpV ρ a v
  |[],_,_,_,_,h=>by simp at h
  |a::l,v::m,0,_,hv,h=>by simp at h;subst h;exact ⟨v,rfl,hv.1⟩
  |a::l,v::m,i+1,x,hv,h=>by simpa using RpVs.get hv.2 (by simpa using h)
  |_::_,[],_,_,hv,_=>hv.elim
theorem RpVs.len {ρ:Rn}:∀{l:List CV} {m:List Value},RpVs ρ l m→m.length=l.length
  |[],[],_=>rfl|_::_,_::_,h=>by simp [RpVs.len h.2]|[],_::_,h=>h.elim|_::_,[],h=>h.elim
theorem args_get {k:Nat}:∀{l:List CV} {i:Nat} {t:Tr CV},(argsT l i t).get k=if i≤k∧k<i+l.length then l[k - i]? else t.get k
  |[],i,t=>by simp [argsT];omega
  |a::l,i,t=>by
   rw [argsT,args_get (l:=l),Tr.get_put]
   simp only [List.length_cons]
   by_cases h1:i+1≤k∧k<i+1+l.length
   · rw [if_pos h1,if_pos (by omega),show k - i=(k - (i+1))+1 by omega];simp
   · rw [if_neg h1]
     by_cases h2:k=i
     · subst h2;rw [if_pos rfl,if_pos (by omega)];simp
     · rw [if_neg h2,if_neg (by omega)]
theorem undef_get {k:Nat}:∀{n i:Nat} {t:Tr CV},(undefT n i t).get k=if i≤k∧k<i+n then some (.t []) else t.get k
  |0,i,t=>by simp [undefT];omega
  |n+1,i,t=>by
   rw [undefT,undef_get (n:=n),Tr.get_put]
   by_cases h1:i+1≤k∧k<i+1+n
   · rw [if_pos h1,if_pos (by omega)]
   · rw [if_neg h1]
     by_cases h2:k=i
     · subst h2;rw [if_pos rfl,if_pos (by omega)]
     · rw [if_neg h2,if_neg (by omega)]
theorem entry_ok {ρ:Rn} {args:List CV} {vs:List Value} {n:Nat} (hv:RpVs ρ args vs) (hn:args.length≤n):TmH ρ (entryT args n) { tmps:=vs.toArray++Array.replicate (n - vs.toArray.size) undef,defers:=[] }:=by
  have hl:=hv.len
  refine ⟨rfl,?_,fun i=>?_⟩
  · show (vs.toArray++Array.replicate (n - vs.toArray.size) undef).size=n
    simp;omega
  · show RpV ρ (match (undefT (n - args.length) args.length (argsT args 0 .lf)).get i with|some v=>v|none=>.non) ((vs.toArray++Array.replicate (n - vs.toArray.size) undef).getD i undef)
    rw [undef_get]
    by_cases h1:args.length≤i∧i<args.length+(n - args.length)
    · rw [if_pos h1]
      have:(vs.toArray++Array.replicate (n - vs.toArray.size) undef).getD i undef=undef:=by
        rw [Array.getD_eq_getD_getElem?,Array.getElem?_append_right (by simp;omega),Array.getElem?_replicate]
        split<;>rfl
      rw [this];exact undef_rep ρ
    · rw [if_neg h1,args_get]
      by_cases h2:i<args.length
      · rw [if_pos (by omega),Nat.sub_zero,List.getElem?_eq_getElem h2]
        obtain ⟨v,h3,h4⟩:=hv.get (List.getElem?_eq_getElem h2)
        have:(vs.toArray++Array.replicate (n - vs.toArray.size) undef).getD i undef=v:=by
          rw [Array.getD_eq_getD_getElem?,Array.getElem?_append_left (by simp;omega)]
          simp [h3]
        rw [this];exact h4
      · rw [if_neg (by omega)];trivial
theorem res_ok (hty:TyOk P E.TY) {ρ:Rn} {s:HS} {w:World} {T:Tm'} {a:Act} (hd:Hd ρ s.H.get s.nx w) (tm:TmH ρ T a):∀{l:List ResultVar} {ws:List CW},resV E T s l=some ws→∃vs,(l.mapM (resOne a.tmps)).run P w= .ok vs w∧RpWs ρ ws vs
  |[],ws,h=>by cases h;exact ⟨[],by simp,trivial⟩
  |.tmp t::l,ws,h=>by
   obtain ⟨x,h1,h⟩:=bo_eq h
   obtain ⟨m,h2,h⟩:=bo_eq h
   cases h
   obtain ⟨vs,h3,h4⟩:=res_ok hty hd tm h2
   exact ⟨a.tmps.getD t undef::vs,by simp [resOne,h3],asW_rep h1 (tm.tmp t),h4⟩
  |.cell t ty::l,ws,h=>by
   obtain ⟨p,h1,h⟩:=bo_eq h
   obtain ⟨q,h2,h⟩:=bo_eq h
   obtain ⟨x,h3,h⟩:=bo_eq h
   obtain ⟨m,h4,h⟩:=bo_eq h
   cases h
   obtain ⟨vs,h5,h6⟩:=res_ok hty hd tm h4
   obtain ⟨b,c,h7,h8⟩:=asP_rep h1 (tm.tmp t)
   obtain ⟨cs,tyy,h9,_,_,h10⟩:=cells_at hd (cellsH_eq h2) h7
   obtain ⟨u,h11,h12⟩:=read_ok hty h10 h9 h3
   have hrun:(resOne a.tmps (.cell t ty)).run P w= .ok u w:=by
     simp only [Instr.loadAt,Instr.sureAddr] at h11
     simp only [resOne,h8,asAddr]
     simpa using h11
   exact ⟨u::vs,by simp [hrun,h5],h12,h6⟩
theorem ret_ok {ρ:Rn}:∀{ws:List CW} {vs:List Value},RpWs ρ ws vs→RpV ρ (retV ws) (AM.resV vs)
  |[],[],_=>⟨#[],rfl,trivial⟩
  |[x],[v],h=>ofW_rep h.1
  |x::y::l,v::u::m,h=>⟨(v::u::m).toArray,rfl,by simpa using h⟩
  |[],_::_,h=>h.elim
  |_::_,[],h=>h.elim
  |[_],_::_::_,h=>h.2.elim
  |_::_::_,[_],h=>h.2.elim
theorem evF_ok {TY:List TyE} {TZ:Zs} {K:Kn} (hty:TyOk P TY) (hz:ZOk P TY TZ) (hk:CalOk P K.know) (he:EqOk P K.eqs) (hby:BysOk P K.bys) (hm:P.follows .mixedOrders=true) (hnames:∀(f:FuncId) (fn:Func),P.funcs[f]? =some fn→fn.name≠ "runtime.NumGoroutine") (n:Nat):∀d,CalOk P (evF P TY TZ K n d)
  |0=>fun f args s v s' h=>by cases h
  |d+1=>fun f args s v s' h=>by
   unfold evF at h
   split at h
   · rename_i r hr
     cases h
     exact hk f args s v s' hr
   obtain ⟨fn,h1,h⟩:=bo_eq h
   obtain ⟨c,h2,h⟩:=bo_eq h
   obtain ⟨h3,h⟩:=bt_eq h
   obtain ⟨r,h4,h⟩:=bo_eq h
   refine ⟨⟨fn,h1,hnames f fn h1,by rw [h2];rfl⟩,fun ρ w vs hd hv=>calls_of_wp h1 h2 ?_⟩
   have ih:=evF_ok hty hz hk he hby hm hnames n d
   refine evC_ok (E:=⟨TY,TZ,evF P TY TZ K n d,K.eqs,K.bys⟩) hty hz ⟨ih,he,hby⟩ hm n c h4 hd (entry_ok hv (Nat.le_of_ble_eq_true h3)) fun ρ' a' w' hp tm'=>?_
   have fin:(bo (resV ⟨TY,TZ,evF P TY TZ K n d,K.eqs,K.bys⟩ r.T r.s fn.results.toList) fun l=>some (retV l,r.s))=some (v,s')→a'.defers=[]∧∃v0,(results fn a'.tmps).run P w'= .ok v0 w'∧∃u,Ending.returned v0= .returned u∧∃ρ',Post ρ ρ' s s' w w'∧RpV ρ' v u:=fun h=>by
     obtain ⟨l,h5,h⟩:=bo_eq h
     cases h
     obtain ⟨us,h6,h7⟩:=res_ok (E:=⟨TY,TZ,evF P TY TZ K n d,K.eqs,K.bys⟩) hty hp.hd tm' h5
     exact ⟨tm'.defers,_,res_run h6,_,rfl,ρ',hp,ret_ok h7⟩
   obtain ⟨e,T1,s1⟩:=r
   cases e with
   |exit i=>cases h
   |normal=>exact fin h
   |ret=>exact fin h
def okTrue (x:Option (CV × HS)):Bool:=match x with|some p=>(match p.1 with|.c y=>(match y with|.bool b=>b|_=>false)|_=>false)|none=>false
def namesB (P:Program):Bool:=P.funcs.all fun fn=>decide (fn.name≠ "runtime.NumGoroutine")
theorem names_of (h:namesB P=true):∀(f:FuncId) (fn:Func),P.funcs[f]? =some fn→fn.name≠ "runtime.NumGoroutine":=fun f fn hf=>by
  obtain ⟨h1,h2⟩:=Array.getElem?_eq_some_iff.1 hf
  have:=Array.all_eq_true.1 h f h1
  rw [h2] at this
  exact of_decide_eq_true this
theorem fn_true {TY:List TyE} {TZ:Zs} {K:Kn} (hty:TyOk P TY) (hz:ZOk P TY TZ) (hk:CalOk P K.know) (he:EqOk P K.eqs) (hby:BysOk P K.bys) (hm:P.follows .mixedOrders=true) (hnames:∀(f:FuncId) (fn:Func),P.funcs[f]? =some fn→fn.name≠ "runtime.NumGoroutine") {n d:Nat} {f:FuncId}
    (h:okTrue (evF P TY TZ K n d f [] ⟨.lf,0,0,[]⟩)=true):AM.Fn P f [] (.bool (.lit true)):=by
  cases hv:evF P TY TZ K n d f [] ⟨.lf,0,0,[]⟩ with
  |none=>rw [hv] at h;cases h
  |some p=>
   obtain ⟨v,s'⟩:=p
   rw [hv] at h
   have hvt:v= .c (.bool true):=by
     simp only [okTrue] at h
     split at h
     · rename_i y
       split at h
       · rw [h]
       · cases h
     · cases h
   subst hvt
   obtain ⟨hc,hcal⟩:=evF_ok hty hz hk he hby hm hnames n d f [] _ _ _ hv
   refine ⟨hc,fun M w vs hlw hM hvs=>?_⟩
   have hvs0:vs=[]:=by
     cases vs with
     |nil=>rfl
     |cons=>exact hvs.elim
   subst hvs0
   refine (hcal (fun _=>none) w [] ⟨fun k o hk=>(by cases hk),fun k k' o o' b c c' hk=>(by cases hk),fun _ _=>rfl,hlw,fun k o b c hk=>(by cases hk)⟩ trivial).mono fun e w' ⟨u,he,ρ',hp,hu⟩=>?_
   have hu:u= .bool true:=hu
   subst hu
   exact ⟨_,he,⟨hp.size,fun b hb=>.inl (hp.frame b hb fun k o c hk=>(by cases hk)),hp.io⟩,M,fun _ _ _=>Iff.rfl,fun b off hm=>Nat.lt_of_lt_of_le (hM b off hm) hp.size,rfl⟩
end
end Go.CM
end
