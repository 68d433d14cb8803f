import Derived.Test.YtjabhmhhhlcopaaGreatDoorEnF
import Derived.Test.YtjabhmhhhlcopaaGreatDoorRefCgL
import Derived.Test.YtjabhmhhhlcopaaGreatDoorGreen
import Derived.Test.YtjabhmhhhlcopaaGreatDoorAwk
section
namespace Go.Proofs.YtjabhmhhhlcopaaGreatDoor
open Go Go.AM
set_option maxRecDepth 100000
set_option maxHeartbeats 4000000
abbrev entE (E:List (List Int)) (i j:Nat):Int:=(ixO E (cmpP (E.getD i []) (E.getD j [])):Int)
theorem tabE_len (E:List (List Int)):(tabE E).length=E.length:=by simp [tabE]
theorem tabE_row {E:List (List Int)} {i:Nat} (hi:i<E.length):(tabE E).getD i []=E.map fun g=>(ixO E (cmpP (E.getD i []) g):Int):=by
  simp [tabE,List.getD,hi]
theorem tabE_ent {E:List (List Int)} {i j:Nat} (hi:i<E.length) (hj:j<E.length):((tabE E).getD i []).getD j 0=entE E i j:=by
  rw [tabE_row hi];simp [entE,List.getD,hj]
theorem etab_fn (n:Nat) (G E:List (List Int)) (P L:List Int) (W:List (List Int)) (B:List Int) (R:List (List Int)) (U:List (List Int × List Int)) (S:List Int) (hG:∀f∈G,Trn n f) (h1:1≤n) (h3:n≤3) (hG0:0<G.length) (hGl:G.length≤6) (h0:EnR n G E.length E P L W B R U S):
    QF 24 [enA n G E P L R U E.length] (.tup [.ro (.rows .i64 (tabE E)),.int .i64 0]):=mkQ Tryz.func24 (by decide+kernel) rfl (Nat.le_of_ble_eq_true rfl) fun _=>by
  have hV:=h0.ok hG
  have hfew:=h0.few hG h3
  refine Or.inr (Or.inl (cm [] [(600,600),(601,601),(501,501),(502,502),(503,503),(504,504),(505,505),(506,506),(507,507),(508,508)] (erep_fn n G E P L W B R U E.length S hG h1 h3 hG0 hGl h0) ?_))
  refine And.intro (by repeat' first|refine And.intro ?_ ?_|exact True.intro|(show (_:Int)=(_:Int);omega)|omega|exact rfl|(simp only [RO.len];omega)) ?_
  refine Or.inr (Or.inl (cm [] [(1000,600),(1001,601),(501,501),(502,502),(503,503),(504,504),(505,505),(506,506),(507,507),(508,508)] (efin_fn n G E P L W B R U E.length S) ?_))
  refine And.intro (by repeat' first|refine And.intro ?_ ?_|exact True.intro|(show (_:Int)=(_:Int);omega)|omega|exact rfl|(simp only [RO.len];omega)) ?_
  refine And.intro (fun h=>absurd rfl h) (fun _=>?_)
  refine And.intro (fun h=>absurd (show 400<(E.length:Int) from h) (by omega)) (fun _=>?_)
  refine And.intro (by omega) ?_
  refine And.intro (by omega) ?_
  refine Or.inl ?_
  have hpl:P.length=E.length:=hV.pl
  have hll:L.length=E.length:=hV.ll
  have hrl:R.length=E.length:=hV.rl
  have hst:=tabE_len E
  refine Exists.intro []<|lp2 (fun (i:Nat) (_:List (List Int))=>[(40,.int .i64 i)]) (fun _ Q=>[(37,.vec 0 (.rows .i64 Q) [])]) (fun i Q=>i≤E.length∧Q.length=E.length∧∀j,j<i→Q.getD j []=(tabE E).getD j []) (fun i _=>E.length - i) 0 (List.replicate E.length []) ⟨Nat.zero_le _,by simp,fun k hk=>absurd hk (Nat.not_lt_zero _)⟩ (by repeat' first|refine And.intro ?_ ?_|exact True.intro|(show (_:Int)=(_:Int);omega)|omega|exact rfl|(simp only [RO.len];omega)) ?_
  rintro i Q ⟨hi,hQ,hQj⟩
  refine And.intro (fun h5=>?_) (fun h5=>?_)
  · have h5:(i:Int)<((List.replicate ((E.length:Nat):Int).toNat ([]:List Int)).length:Int):=h5
    rw [List.length_replicate,Int.toNat_natCast] at h5
    have hil:i<E.length:=by omega
    refine And.intro (by omega) ?_
    refine And.intro (by omega) ?_
    refine And.intro (by omega) ?_
    refine And.intro (by omega) ?_
    refine And.intro (by omega) ?_
    refine And.intro (fun _=>?_) (fun h7=>absurd rfl h7)
    refine Exists.intro []<|lp2 (fun (j:Nat) (_:List Int)=>[(58,.int .i64 j)]) (fun _ r=>[(51,.vec 0 (.ints .i64 r) []),(37,.vec 0 (.rows .i64 Q) [(i,51)])]) (fun j r=>j≤E.length∧r.length=E.length∧∀y,y<j→r.getD y 0=entE E i y) (fun j _=>E.length - j) 0 (List.replicate E.length 0) ⟨Nat.zero_le _,by simp,fun k hk=>absurd hk (Nat.not_lt_zero _)⟩ (by repeat' first|refine And.intro ?_ ?_|exact True.intro|(show (_:Int)=(_:Int);omega)|omega|exact rfl|(simp only [RO.len];omega)) ?_
    rintro j r ⟨hj,hr,hrj⟩
    refine And.intro (fun h6=>?_) (fun h6=>?_)
    · have h6:(j:Int)<((List.replicate ((E.length:Nat):Int).toNat (0:Int)).length:Int):=h6
      rw [List.length_replicate,Int.toNat_natCast] at h6
      have hjl:j<E.length:=by omega
      have hset:∀v:Int,v=entE E i j→∀y,y<j+1→(r.set j v).getD y 0=entE E i y:=fun v hv y hy=>by
        by_cases e1:y=j
        · subst e1;rw [getD_set_eq (by omega)];exact hv
        · rw [getD_set_ne (Ne.symm e1)];exact hrj y (by omega)
      refine Or.inl ?_
      refine Exists.intro [false,false,false,false,false,false,false,false,false,false,false,false,false,false,false,false,false,false] (And.intro (by decide+kernel) ?_)
      refine And.intro (by omega) ?_
      refine And.intro (by omega) ?_
      refine And.intro (fun h7=>?_) (fun h7=>?_)
      · have h7:L.getD j 0<0:=h7
        have hj0:j=0:=by
          rcases Nat.eq_zero_or_pos j with e|e
          · exact e
          · have:=(hV.pre j e hjl).2.1.1
            have:0≤L.getD j 0:=this
            omega
        have hv:(i:Int)=entE E i j:=by
          have e0:E.getD 0 []=disI n:=hV.one
          rw [hj0];show (i:Int)=(ixO E (cmpP (E.getD i []) (E.getD 0 [])):Int)
          rw [e0,cmp_one (hV.trn _ (getD_mem hil))]
          exact congrArg Nat.cast (ixO_at hV.nd hil).symm
        refine And.intro (by omega) ?_
        refine And.intro (fun _=>?_) (fun h8=>absurd rfl h8)
        refine And.intro (by omega) ?_
        refine And.intro (by omega) ?_
        refine And.intro (by omega) ?_
        exact nx (j+1,r.set j (i:Int)) ⟨by omega,by rw [List.length_set];exact hr,hset _ hv⟩ (show E.length - (j+1)<E.length - j by omega) (by repeat' first|refine And.intro ?_ ?_|exact True.intro|(show (_:Int)=(_:Int);omega)|omega|exact rfl|(simp only [RO.len];omega))
      · have h7:0≤L.getD j 0:=h7
        have hj0:0<j:=by
          rcases Nat.eq_zero_or_pos j with e|e
          · have:=hV.l0
            have:L.getD 0 0= -1:=this
            rw [e] at h7;omega
          · exact e
        obtain ⟨hP,hL,_,_⟩:=hV.pre j hj0 hjl
        have hP0:0≤P.getD j 0:=hP.1
        have hP1:P.getD j 0<(j:Int):=hP.2
        have hL1:L.getD j 0<(G.length:Int):=hL.2
        obtain ⟨hx1,hx2⟩:=hV.ent rfl hil hj0 hjl
        have hx1:ixO E (cmpP (E.getD i []) (E.getD (P.getD j 0).toNat []))<E.length:=hx1
        have hx2:entE E i j=(R.getD (ixO E (cmpP (E.getD i []) (E.getD (P.getD j 0).toNat []))) []).getD (L.getD j 0).toNat 0:=hx2
        have hrp:r.getD (P.getD j 0).toNat 0=(ixO E (cmpP (E.getD i []) (E.getD (P.getD j 0).toNat [])):Int):=hrj _ (by omega)
        have hrow:(R.getD (ixO E (cmpP (E.getD i []) (E.getD (P.getD j 0).toNat []))) []).length=G.length:=(hV.row _ hx1).1
        have hrow2:(R.getD (r.getD (P.getD j 0).toNat 0).toNat []).length=G.length:=by rw [hrp,Int.toNat_natCast];exact hrow
        have hv:(R.getD (r.getD (P.getD j 0).toNat 0).toNat []).getD (L.getD j 0).toNat 0=entE E i j:=by rw [hrp,Int.toNat_natCast,hx2]
        refine And.intro (fun h8=>absurd (show P.getD j 0<0 from h8) (by omega)) (fun _=>?_)
        refine Or.inl ?_
        refine Exists.intro [false,false,false,false,false,false,false,false,false,false,false,false,false,false,false,false,false,false,false,false,false,false,false,true] (And.intro (by decide+kernel) ?_)
        refine And.intro (by omega) ?_
        refine And.intro (fun _=>?_) (fun h8=>absurd rfl h8)
        refine And.intro (by omega) ?_
        refine And.intro (fun _=>?_) (fun h8=>absurd rfl h8)
        refine And.intro (show 0≤P.getD j 0∧P.getD j 0<(r.length:Int) by omega) ?_
        refine And.intro (show 0≤r.getD (P.getD j 0).toNat 0∧r.getD (P.getD j 0).toNat 0<(R.length:Int) by omega) ?_
        refine And.intro (show 0≤L.getD j 0∧L.getD j 0<((R.getD (r.getD (P.getD j 0).toNat 0).toNat []).length:Int) by omega) ?_
        refine And.intro (by omega) ?_
        refine And.intro (by omega) ?_
        refine And.intro (by omega) ?_
        exact nx (j+1,r.set j ((R.getD (r.getD (P.getD j 0).toNat 0).toNat []).getD (L.getD j 0).toNat 0)) ⟨by omega,by rw [List.length_set];exact hr,hset _ hv⟩ (show E.length - (j+1)<E.length - j by omega) (by repeat' first|refine And.intro ?_ ?_|exact True.intro|(show (_:Int)=(_:Int);omega)|omega|exact rfl|(simp only [RO.len];omega))
    · have h6:((List.replicate ((E.length:Nat):Int).toNat (0:Int)).length:Int)≤(j:Int):=h6
      rw [List.length_replicate,Int.toNat_natCast] at h6
      have e:r=(tabE E).getD i []:=by
        rw [tabE_row hil]
        refine ext_getD 0 (by simp;exact hr) fun y hy=>?_
        rw [hrj y (by omega)]
        simp [entE,List.getD,show y<E.length by omega]
      refine And.intro (by omega) ?_
      refine nx (i+1,Q.set i r) ⟨by omega,by rw [List.length_set];exact hQ,fun y hy=>?_⟩ (show E.length - (i+1)<E.length - i by omega) (by repeat' first|refine And.intro ?_ ?_|exact True.intro|(show (_:Int)=(_:Int);omega)|omega|exact rfl|(simp only [RO.len];omega))
      by_cases e1:y=i
      · subst e1;rw [getD_set_eq (by omega),e]
      · rw [getD_set_ne (Ne.symm e1)];exact hQj y (by omega)
  · have h5:((List.replicate ((E.length:Nat):Int).toNat ([]:List Int)).length:Int)≤(i:Int):=h5
    rw [List.length_replicate,Int.toNat_natCast] at h5
    have e:Q=tabE E:=ext_getD [] (by rw [tabE_len];exact hQ) fun y hy=>hQj y (by omega)
    subst e
    exact ⟨⟨trivial,rfl⟩,rfl,trivial⟩
end Go.Proofs.YtjabhmhhhlcopaaGreatDoor
end
section
namespace Go.Proofs.YtjabhmhhhlcopaaGreatDoor
open Go Go.AM
structure TmE (n:Nat) (E:List (List Int)):Prop where
  n1:1≤n
  n3:n≤3
  trn:∀f∈E,Trn n f
  nd:E.Nodup
  one:E.getD 0 []=disI n
  pos:0<E.length
  cl:∀f∈E,∀g∈E,cmpP f g∈E
theorem EnR.tme {n:Nat} {G E:List (List Int)} {P L:List Int} {W:List (List Int)} {B:List Int} {R:List (List Int)} {U:List (List Int × List Int)} {S:List Int} (hG:∀f∈G,Trn n f) (h1:1≤n) (h3:n≤3) (h:EnR n G E.length E P L W B R U S):TmE n E:=
  ⟨h1,h3,(h.ok hG).trn,(h.ok hG).nd,(h.ok hG).one,(h.ok hG).pos,(h.ok hG).closed rfl⟩
noncomputable def uB (E:List (List Int)) (x:Nat):Bool:=prmB (E.getD x [])
section
variable {n:Nat} {E:List (List Int)}
theorem TmE.few (h:TmE n E):E.length≤27:=trns_few h.n3 h.nd h.trn
theorem TmE.at (h:TmE n E) {x:Nat} (hx:x<E.length):Trn n (E.getD x []):=h.trn _ (getD_mem hx)
theorem TmE.pr (h:TmE n E) {x y:Nat} (hx:x<E.length) (hy:y<E.length):en (tabE E) x y<E.length∧E.getD (en (tabE E) x y) []=cmpP (E.getD x []) (E.getD y []):=by
  have e:en (tabE E) x y=ixO E (cmpP (E.getD x []) (E.getD y [])):=by
    unfold en;rw [tabE_ent hx hy];exact Int.toNat_natCast _
  rw [e]
  exact ixO_mem (h.cl _ (getD_mem hx) _ (getD_mem hy))
theorem TmE.inj (h:TmE n E) {x y:Nat} (hx:x<E.length) (hy:y<E.length) (e:E.getD x []=E.getD y []):x=y:=gnd_inj h.nd hx hy e
theorem TmE.semi (h:TmE n E):Semi (tabE E):=by
  refine ⟨⟨by rw [tabE_len];exact h.pos,by rw [tabE_len];have:=h.few;omega,fun r hr=>?_⟩,fun g hg x y hx hy=>?_⟩
  · obtain ⟨i,hi,rfl⟩:=mem_getD [] hr
    rw [tabE_len] at hi ⊢
    rw [tabE_row hi]
    refine ⟨by simp,fun x hx=>?_⟩
    obtain ⟨k,hk,rfl⟩:=List.mem_map.1 hx
    have:=(ixO_mem (h.cl _ (getD_mem (d:=[]) hi) _ hk)).1
    omega
  · rw [tabE_len] at hg hx hy
    have a1:=h.pr hx hg
    have a2:=h.pr hg hy
    have a3:=h.pr a1.1 hy
    have a4:=h.pr hx a2.1
    exact h.inj a3.1 a4.1 (by rw [a3.2,a1.2,a4.2,a2.2,trn_assoc (h.at hx) (h.at hg)])
theorem TmE.zero (h:TmE n E) {x:Nat} (hx:x<E.length):en (tabE E) 0 x=x∧en (tabE E) x 0=x:=by
  have a1:=h.pr h.pos hx
  have a2:=h.pr hx h.pos
  exact ⟨h.inj a1.1 hx (by rw [a1.2,h.one,one_cmp (h.at hx)]),h.inj a2.1 hx (by rw [a2.2,h.one,cmp_one (h.at hx)])⟩
theorem TmE.uB_iff (h:TmE n E) {x:Nat} (hx:x<E.length):uB E x=true↔Perm n (E.getD x []):=by
  have ht:=h.at hx
  have h1:=h.n1
  have h3:=h.n3
  unfold uB
  rw [prmB_true]
  exact ⟨fun hp=>⟨ht.len,ht.rng,hp.2⟩,fun hp=>⟨⟨by rw [ht.len];omega,by rw [ht.len];exact ht.rng⟩,hp.nd⟩⟩
theorem nodup_left {f g:List Int} (h:(cmpP f g).Nodup):f.Nodup:=by
  unfold cmpP at h
  exact (List.pairwise_map.1 h).imp fun {a b} hab e=>hab (by rw [e])
theorem TmE.left (h:TmE n E) {x y:Nat} (hx:x<E.length) (hy:y<E.length) (hu:uB E (en (tabE E) x y)=true):uB E x=true:=by
  have a:=h.pr hx hy
  rw [h.uB_iff a.1,a.2] at hu
  rw [h.uB_iff hx]
  exact ⟨(h.at hx).len,(h.at hx).rng,nodup_left hu.nd⟩
theorem TmE.mul (h:TmE n E) {x y:Nat} (hx:x<E.length) (hy:y<E.length) (ux:uB E x=true) (uy:uB E y=true):uB E (en (tabE E) x y)=true:=by
  have a:=h.pr hx hy
  rw [h.uB_iff a.1,a.2]
  exact ((h.uB_iff hx).1 ux).cmp ((h.uB_iff hy).1 uy)
theorem TmE.u0 (h:TmE n E):uB E 0=true:=by rw [h.uB_iff h.pos,h.one];exact perm_dis n
theorem TmE.linv (h:TmE n E) {x:Nat} (hx:x<E.length) (ux:uB E x=true):∃y,y<E.length∧en (tabE E) y x=0:=by
  have hp:=(h.uB_iff hx).1 ux
  obtain ⟨y,hy,_,e⟩:=onto (n:=E.length) (f:=fun _=>true) (fun z=>en (tabE E) z x) (fun z hz _=>⟨(h.pr hz hx).1,rfl⟩) (fun z w hz hw _ _ e=>by
    have a:=h.pr hz hx
    have b:=h.pr hw hx
    have e:en (tabE E) z x=en (tabE E) w x:=e
    have e2:cmpP (E.getD z []) (E.getD x [])=cmpP (E.getD w []) (E.getD x []):=by rw [←a.2,←b.2,e]
    refine h.inj hz hw (ext_getD 0 (by rw [(h.at hz).len,(h.at hw).len]) fun i hi=>?_)
    have hi:i<n:=by rw [(h.at hz).len] at hi;exact hi
    have e3:=congrArg (fun l=>l.getD i 0) e2
    have e3:(cmpP (E.getD z []) (E.getD x [])).getD i 0=(cmpP (E.getD w []) (E.getD x [])).getD i 0:=e3
    rw [cmpP_get (by rw [(h.at hz).len];exact hi),cmpP_get (by rw [(h.at hw).len];exact hi)] at e3
    have r1:=(h.at hz).at hi
    have r2:=(h.at hw).at hi
    have:=nodup_inj hp.nd (by rw [hp.len];omega) (by rw [hp.len];omega) e3
    omega) h.pos rfl
  exact ⟨y,hy,e⟩
theorem TmE.inv (h:TmE n E) {x:Nat} (hx:x<E.length) (ux:uB E x=true):∃y,y<E.length∧uB E y=true∧en (tabE E) y x=0∧en (tabE E) x y=0:=by
  obtain ⟨y,hy,e⟩:=h.linv hx ux
  have uy:uB E y=true:=h.left hy hx (by rw [e];exact h.u0)
  obtain ⟨z,hz,e2⟩:=h.linv hy uy
  have hs:=h.semi
  have hzx:z=x:=by
    have e3:=assoc3 hs.assoc (x:=z) (y:=y) (z:=x) (by rw [tabE_len];exact hz) (by rw [tabE_len];exact hy) (by rw [tabE_len];exact hx)
    rw [e2,e,(h.zero hx).1,(h.zero hz).2] at e3
    exact e3.symm
  exact ⟨y,hy,uy,e,by rw [←hzx];exact e2⟩
theorem TmE.hcl (h:TmE n E) {x:Nat} (hx:x<E.length):((classH (tabE E)).getD x 0=(classH (tabE E)).getD 0 0)↔uB E x=true:=by
  have hs:=h.semi
  have hl:=tabE_len E
  have hx':x<(tabE E).length:=by omega
  have h0':0<(tabE E).length:=hs.pos
  have hR:(classR (tabE E)).getD x 0=(classR (tabE E)).getD 0 0↔(inRB (tabE E) x 0=true∧inRB (tabE E) 0 x=true):=clsL_iff (preR hs) hx' h0'
  have hL:(classL (tabE E)).getD x 0=(classL (tabE E)).getD 0 0↔(inLB (tabE E) x 0=true∧inLB (tabE E) 0 x=true):=clsL_iff (preL hs) hx' h0'
  have hz:∀i,i<(tabE E).length→((classR (tabE E)).zip (classL (tabE E))).getD i (0,0)=((classR (tabE E)).getD i 0,(classL (tabE E)).getD i 0):=fun i hi=>by
    have h1:=classR_len (tabE E)
    have h2:=classL_len (tabE E)
    rw [getD_eq (by rw [List.length_zip];omega),List.getElem_zip,getD_eq (by omega),getD_eq (by omega)]
  have hzl:((classR (tabE E)).zip (classL (tabE E))).length=(tabE E).length:=by rw [List.length_zip,classR_len,classL_len];omega
  unfold classH
  rw [canon_eq_iff (d:=(0,0)) (by omega) (by omega),hz x hx',hz 0 h0',Prod.mk.injEq,hR,hL,inRB_iff hs.toSh hx',inRB_iff hs.toSh h0',inLB_iff hs.toSh hx',inLB_iff hs.toSh h0',hl]
  constructor
  · rintro ⟨⟨h1,_⟩,_⟩
    rcases h1 with h1|⟨s,hs',h1⟩
    · rw [←h1];exact h.u0
    · exact h.left hx hs' (by rw [h1];exact h.u0)
  · intro ux
    obtain ⟨y,hy,_,e1,e2⟩:=h.inv hx ux
    exact ⟨⟨.inr ⟨y,hy,e2⟩,.inr ⟨x,hx,(h.zero hx).1⟩⟩,.inr ⟨y,hy,e1⟩,.inr ⟨x,hx,(h.zero hx).2⟩⟩
theorem TmE.ucl (h:TmE n E):ClL (tabE E) (ascV E.length (uB E)) where
  pos:=List.length_pos_iff_exists_mem.2 ⟨_,ascV_mem.2 ⟨0,h.pos,h.u0,rfl⟩⟩
  asc:=ascV_asc _ _
  ins:=fun x hx=>by rw [tabE_len];exact ascV_in hx
  cl:=fun x y hx hy h1 h2=>by
    rw [tabE_len] at hx hy
    rw [ascV_set hx] at h1
    rw [ascV_set hy] at h2
    rw [ascV_set (h.pr hx hy).1]
    exact h.mul hx hy h1 h2
theorem TmE.ugrp (h:TmE n E):Grp (subT (tabE E) (ascV E.length (uB E))):=by
  have hcl:=h.ucl
  have hl:=tabE_len E
  have hel:∀{i},i<(ascV E.length (uB E)).length→eL (ascV E.length (uB E)) i<E.length∧uB E (eL (ascV E.length (uB E)) i)=true:=fun {i} hi=>by
    have:=hcl.el hi
    have h1:eL (ascV E.length (uB E)) i<E.length:=hl▸this.1
    exact ⟨h1,(ascV_set (f:=uB E) h1).symm.trans this.2.2⟩
  refine ⟨sub_semi h.semi hcl (by rw [hl];exact ascV_len _ _),?_⟩
  have pe:=pL_in (l:=ascV E.length (uB E)) (x:=0) (by rw [ascV_set h.pos];exact h.u0)
  refine ⟨pL (ascV E.length (uB E)) 0,by rw [subT_len];exact pe.2.1,fun x hx=>?_,fun x hx=>?_⟩
  · rw [subT_len] at hx
    have ex:=hel hx
    have z:=h.zero ex.1
    rw [(sub_en hcl pe.2.1 hx).1,(sub_en hcl hx pe.2.1).1,pe.2.2,z.1,z.2,pL_el hcl hx]
    exact ⟨rfl,rfl⟩
  · rw [subT_len] at hx
    have ex:=hel hx
    obtain ⟨y,hy,my,h3,h4⟩:=h.inv ex.1 ex.2
    have py:=pL_in (l:=ascV E.length (uB E)) (x:=y) (by rw [ascV_set hy];exact my)
    refine ⟨pL (ascV E.length (uB E)) y,by rw [subT_len];exact py.2.1,?_,?_⟩
    · rw [(sub_en hcl hx py.2.1).1,py.2.2,h4]
    · rw [(sub_en hcl py.2.1 hx).1,py.2.2,h3]
theorem TmE.oid (h:TmE n E) (h0:0<(ascV E.length fun x=>!uB E x).length):IdL (tabE E) (ascV E.length fun x=>!uB E x):=by
  refine ⟨h0,ascV_asc _ _,fun x hx=>by rw [tabE_len];exact ascV_in hx,fun x s hx hs hxf=>?_⟩
  rw [tabE_len] at hx hs
  rw [ascV_set hx] at hxf
  have hxf:uB E x=false:=by simpa using hxf
  have a:=h.pr hx hs
  have b:=h.pr hs hx
  rw [ascV_set a.1,ascV_set b.1]
  refine ⟨?_,?_⟩
  · cases hu:uB E (en (tabE E) x s) with
    |false=>rfl
    |true=>rw [h.left hx hs hu] at hxf;cases hxf
  · cases hu:uB E (en (tabE E) s x) with
    |false=>rfl
    |true=>
     exfalso
     have us:=h.left hs hx hu
     obtain ⟨y,hy,uy,e1,_⟩:=h.inv hs us
     have hm:=h.mul hy b.1 uy hu
     rw [←assoc3 h.semi.assoc (by rw [tabE_len];exact hy) (by rw [tabE_len];exact hs) (by rw [tabE_len];exact hx),e1,(h.zero hx).1] at hm
     rw [hm] at hxf;cases hxf
end
end Go.Proofs.YtjabhmhhhlcopaaGreatDoor
end
section
namespace Go.Proofs.YtjabhmhhhlcopaaGreatDoor
open Go Go.AM
set_option maxRecDepth 100000
set_option maxHeartbeats 2000000
theorem areEl_k (t:List (List Int)) (l:List Int) (hl:inT t l) (hll:l.length≤140737488355328):fnK TY SP Tryz.f59 [.ro (.rows .i64 t),.ro (.ints .i64 l)] (.bool (.lit true)):=by
  refine Exists.intro []<|lp (X:=Nat) (fun k=>[(9,.int .i64 k)]) (fun _=>[]) (fun k=>k≤l.length) (fun k=>l.length - k) 0 (Nat.zero_le _) (by repeat' first|refine And.intro ?_ ?_|exact True.intro|(show (_:Int)=(_:Int);omega)|omega|exact rfl|(simp only [RO.len];omega)) ?_
  intro k hk
  refine And.intro (fun h1=>?_) (fun h1=>?_)
  · have hkl:k<l.length:=by omega
    have hr:=hl _ (getD_mem (d:=0) hkl)
    have h2:0≤l.getD k 0∧l.getD k 0<(t.length:Int):=hr
    refine And.intro (by omega) ?_
    refine And.intro (fun h3=>?_) (fun _=>?_)
    · have h3:l.getD k 0<0:=h3
      omega
    refine And.intro (fun h3=>?_) (fun _=>?_)
    · have h3:(t.length:Int)≤l.getD k 0:=h3
      omega
    refine And.intro (by omega) ?_
    exact nx (k+1) (show k+1≤l.length by omega) (show l.length - (k+1)<l.length - k by omega) (by repeat' first|refine And.intro ?_ ?_|exact True.intro|(show (_:Int)=(_:Int);omega)|omega|exact rfl|(simp only [RO.len];omega))
  · exact ⟨rfl,trivial⟩
theorem areEl_fn (t:List (List Int)) (l:List Int) (hl:inT t l):QF 59 [.ro (.rows .i64 t),.ro (.ints .i64 l)] (.bool (.lit true)):=mkQ Tryz.func59 (by decide+kernel) rfl (Nat.le_of_ble_eq_true rfl) fun hf=>areEl_k t l hl hf.2.1.1
theorem sub_fn (t:List (List Int)) (h:Semi t) (l:List Int) (hl:ClL t l) (hln:l.length≤t.length):QF 13 [.ro (.rows .i64 t),.ro (.ints .i64 l)] (.tup [.ro (.rows .i64 (subT t l)),.int .i64 0]):=mkQ Tryz.func13 (by decide+kernel) rfl (Nat.le_of_ble_eq_true rfl) fun _=>by
  have hmost:=h.most
  have hpos:=hl.pos
  refine Or.inl (cq (valid_fn t) (And.intro rfl trivial) ?_)
  refine And.intro (fun h1=>absurd (valid_zero.2 h) h1) (fun _=>?_)
  refine And.intro (fun h1=>?_) (fun _=>?_)
  · have h1:(l.length:Int)=0:=h1
    omega
  refine Or.inl (cq (areEl_fn t l hl.ins) (And.intro rfl (And.intro rfl trivial)) ?_)
  refine And.intro (by omega) ?_
  refine And.intro (by omega) ?_
  refine Exists.intro []<|lp2 (fun (k:Nat) (_:List Int)=>[(35,.int .i64 k)]) (fun _ P=>[(32,.vec 0 (.ints .i64 P) [])]) (fun k P=>k≤t.length∧P.length=t.length∧∀y,y<k→P.getD y 0= -1) (fun k _=>t.length - k) 0 (List.replicate t.length 0) ⟨Nat.zero_le _,by simp,by omega⟩ (by repeat' first|refine And.intro ?_ ?_|exact True.intro|(show (_:Int)=(_:Int);omega)|omega|exact rfl|(simp;omega)) ?_
  rintro k P ⟨hk,hP,hPy⟩
  refine And.intro (fun h1=>?_) (fun h1=>?_)
  · have h1:(k:Int)<((List.replicate ((t.length:Nat):Int).toNat (0:Int)).length:Int):=h1
    rw [List.length_replicate,Int.toNat_natCast] at h1
    have hkl:k<t.length:=by omega
    refine And.intro (by omega) ?_
    refine And.intro (by omega) ?_
    refine And.intro (by omega) ?_
    refine nx (k+1,P.set k (-1)) ⟨by omega,by rw [List.length_set];exact hP,fun y hy=>?_⟩ (show t.length - (k+1)<t.length - k by omega) (by repeat' first|refine And.intro ?_ ?_|exact True.intro|(show (_:Int)=(_:Int);omega)|omega|exact rfl|(simp only [RO.len];omega))
    by_cases e:y=k
    · subst e;rw [getD_set_eq (by omega)]
    · rw [getD_set_ne (Ne.symm e)];exact hPy y (by omega)
  · have h1:((List.replicate ((t.length:Nat):Int).toNat (0:Int)).length:Int)≤(k:Int):=h1
    rw [List.length_replicate,Int.toNat_natCast] at h1
    refine Exists.intro []<|lp2 (fun (k:Nat) (_:List Int)=>[(44,.int .i64 k)]) (fun _ P=>[(32,.vec 0 (.ints .i64 P) [])]) (fun k P=>k≤l.length∧P.length=t.length∧∀y,y<t.length→P.getD y 0=posTo l k y) (fun k _=>l.length - k) 0 P ⟨Nat.zero_le _,hP,fun y hy=>hPy y (by omega)⟩ (by repeat' first|refine And.intro ?_ ?_|exact True.intro|(show (_:Int)=(_:Int);omega)|omega|exact rfl|(simp only [RO.len];omega)) ?_
    rintro k P ⟨hk,hP,hPy⟩
    refine And.intro (fun h2=>?_) (fun h2=>?_)
    · have h2:(k:Int)<(l.length:Int):=h2
      have hkl:k<l.length:=by omega
      have hr:0≤l.getD k 0∧l.getD k 0<(t.length:Int):=hl.ins _ (getD_mem (d:=0) hkl)
      have nxt:∀y,y<t.length→(P.set (l.getD k 0).toNat (k:Int)).getD y 0=posTo l (k+1) y:=fun y hy=>by
        simp only [posTo]
        by_cases e:y=(l.getD k 0).toNat
        · rw [if_pos (by omega),e,getD_set_eq (by omega)]
        · rw [if_neg (by omega),getD_set_ne (Ne.symm e),hPy y hy]
      refine And.intro (by omega) ?_
      refine And.intro (fun h3=>?_) (fun h3=>?_)
      · have h3:(0:Int)<(k:Int):=h3
        refine And.intro (by omega) ?_
        refine And.intro (by omega) ?_
        refine And.intro (fun h4=>?_) (fun _=>?_)
        · exfalso
          have h4:l.getD k 0≤l.getD ((k:Int) - 1).toNat 0:=h4
          have ha:=hl.asc (k - 1) (by omega)
          rw [show ((k:Int) - 1).toNat=k - 1 by omega] at h4
          rw [show k - 1+1=k by omega] at ha
          omega
        refine And.intro (by simp only [Int.toNat_natCast];omega) ?_
        refine And.intro (by simp only [Int.toNat_natCast];omega) ?_
        refine And.intro (by omega) ?_
        exact nx (k+1,P.set (l.getD k 0).toNat (k:Int)) ⟨by omega,by rw [List.length_set];exact hP,nxt⟩ (show l.length - (k+1)<l.length - k by omega) (by repeat' first|refine And.intro ?_ ?_|exact True.intro|(show (_:Int)=(_:Int);omega)|omega|exact rfl|(simp only [RO.len];omega))
      · refine And.intro (by simp only [Int.toNat_natCast];omega) ?_
        refine And.intro (by simp only [Int.toNat_natCast];omega) ?_
        refine And.intro (by omega) ?_
        exact nx (k+1,P.set (l.getD k 0).toNat (k:Int)) ⟨by omega,by rw [List.length_set];exact hP,nxt⟩ (show l.length - (k+1)<l.length - k by omega) (by repeat' first|refine And.intro ?_ ?_|exact True.intro|(show (_:Int)=(_:Int);omega)|omega|exact rfl|(simp only [RO.len];omega))
    · have h2:(l.length:Int)≤(k:Int):=h2
      have hkl:k=l.length:=by omega
      have hst:=subT_len t l
      refine And.intro (by omega) ?_
      refine And.intro (by omega) ?_
      refine Or.inl ?_
      refine Exists.intro []<|lp2 (fun (i:Nat) (_:List (List Int))=>[(70,.int .i64 i)]) (fun _ Q=>[(67,.vec 0 (.rows .i64 Q) [])]) (fun i Q=>i≤l.length∧Q.length=l.length∧∀j,j<i→Q.getD j []=(subT t l).getD j []) (fun i _=>l.length - i) 0 (List.replicate l.length []) ⟨Nat.zero_le _,by simp,fun k hk=>absurd hk (Nat.not_lt_zero _)⟩ (by repeat' first|refine And.intro ?_ ?_|exact True.intro|(show (_:Int)=(_:Int);omega)|omega|exact rfl|(simp only [RO.len];omega)) ?_
      rintro i Q ⟨hi,hQ,hQj⟩
      refine And.intro (fun h5=>?_) (fun h5=>?_)
      · have h5:(i:Int)<(l.length:Int):=h5
        have hil:i<l.length:=by omega
        have ei:=hl.el hil
        have hrow:=subT_row (t:=t) hil
        refine And.intro (by omega) ?_
        refine And.intro (by omega) ?_
        refine And.intro (by omega) ?_
        refine And.intro (by omega) ?_
        refine And.intro (by omega) ?_
        refine Exists.intro []<|lp2 (fun (j:Nat) (_:List Int)=>[(83,.int .i64 j)]) (fun _ r=>[(79,.vec 0 (.ints .i64 r) []),(67,.vec 0 (.rows .i64 Q) [(i,79)])]) (fun j r=>j≤l.length∧r.length=l.length∧∀y,y<j→r.getD y 0=subV t l i y) (fun j _=>l.length - j) 0 (List.replicate l.length 0) ⟨Nat.zero_le _,by simp,fun k hk=>absurd hk (Nat.not_lt_zero _)⟩ (by repeat' first|refine And.intro ?_ ?_|exact True.intro|(show (_:Int)=(_:Int);omega)|omega|exact rfl|(simp only [RO.len];omega)) ?_
        rintro j r ⟨hj,hr,hrj⟩
        refine And.intro (fun h6=>?_) (fun h6=>?_)
        · have h6:(j:Int)<(l.length:Int):=h6
          have hjl:j<l.length:=by omega
          have ej:=hl.el hjl
          have he:=h.toSh.ent ei.1 ej.1
          have hrw:=h.toSh.len ei.1
          have hv:P.getD ((t.getD (eL l i) []).getD (eL l j) 0).toNat 0=subV t l i j:=by
            rw [he.1,Int.toNat_natCast,hPy _ he.2,hkl];rfl
          have hp:=pL_in (sub_in hl hil hjl)
          have hvp:0≤subV t l i j:=by show 0≤posTo l l.length _;omega
          have hset:(r.set j (P.getD ((t.getD (eL l i) []).getD (eL l j) 0).toNat 0)).getD j 0=subV t l i j:=by rw [getD_set_eq (by omega),hv]
          refine And.intro (by omega) ?_
          refine Or.inl ?_
          refine Exists.intro [false,false,false,false,false,false,false,false,false,false,false,false,false,false,false,false,true] (And.intro (by decide+kernel) ?_)
          refine And.intro (by omega) ?_
          refine And.intro (fun _=>?_) (fun h7=>absurd rfl h7)
          refine And.intro (by simp only [Int.toNat_natCast];omega) ?_
          refine And.intro (show 0≤l.getD j 0∧l.getD j 0<((t.getD (eL l i) []).length:Int) by omega) ?_
          refine And.intro (show 0≤(t.getD (eL l i) []).getD (eL l j) 0∧(t.getD (eL l i) []).getD (eL l j) 0<(P.length:Int) by omega) ?_
          refine And.intro (by omega) ?_
          refine And.intro (by omega) ?_
          refine And.intro (by omega) ?_
          refine And.intro (fun _=>?_) (fun h7=>absurd rfl h7)
          refine And.intro (by simp;omega) ?_
          refine And.intro (fun h7=>?_) (fun _=>?_)
          · exfalso
            have h7:(r.set j (P.getD ((t.getD (eL l i) []).getD (eL l j) 0).toNat 0)).getD j 0<0:=h7
            rw [hset] at h7;omega
          refine And.intro (by omega) ?_
          refine nx (j+1,r.set j (P.getD ((t.getD (eL l i) []).getD (eL l j) 0).toNat 0)) ⟨by omega,by rw [List.length_set];exact hr,fun y hy=>?_⟩ (show l.length - (j+1)<l.length - j by omega) (by repeat' first|refine And.intro ?_ ?_|exact True.intro|(show (_:Int)=(_:Int);omega)|omega|exact rfl|(simp only [RO.len];omega))
          by_cases e1:y=j
          · subst e1;exact hset
          · rw [getD_set_ne (Ne.symm e1)];exact hrj y (by omega)
        · have h6:(l.length:Int)≤(j:Int):=h6
          have e:r=(subT t l).getD i []:=by
            rw [hrow]
            refine ext_getD 0 (by simp;exact hr) fun y hy=>?_
            rw [hrj y (by omega),map_range_getD _ _ _ _ (by omega)]
          refine And.intro (by omega) ?_
          refine nx (i+1,Q.set i r) ⟨by omega,by rw [List.length_set];exact hQ,fun y hy=>?_⟩ (show l.length - (i+1)<l.length - i by omega) (by repeat' first|refine And.intro ?_ ?_|exact True.intro|(show (_:Int)=(_:Int);omega)|omega|exact rfl|(simp only [RO.len];omega))
          by_cases e1:y=i
          · subst e1;rw [getD_set_eq (by omega),e]
          · rw [getD_set_ne (Ne.symm e1)];exact hQj y (by omega)
      · have h5:(l.length:Int)≤(i:Int):=h5
        have e:Q=subT t l:=ext_getD [] (by rw [subT_len];exact hQ) fun y hy=>hQj y (by omega)
        subst e
        exact ⟨⟨trivial,rfl⟩,rfl,trivial⟩
end Go.Proofs.YtjabhmhhhlcopaaGreatDoor
end
section
namespace Go.Proofs.YtjabhmhhhlcopaaGreatDoor
open Go Go.AM
set_option maxRecDepth 100000
theorem marked_k (n:Nat) (l:List Int) (hn:n≤400) (hl:∀x∈l,0≤x∧x<(n:Int)) (hll:l.length≤140737488355328):fnK TY SP Tryz.f61 [.int .i64 n,.ro (.ints .i64 l)] (.new (.bools (setB n (setI l)))):=by
  refine And.intro (by omega) ?_
  refine And.intro (by omega) ?_
  refine Exists.intro []<|lp2 (fun (i:Nat) (_:List Bool)=>[(12,.int .i64 i)]) (fun _ r=>[(9,.vec 0 (.bools r) [])]) (fun i r=>i≤l.length∧r.length=n∧∀x,x<n→(r.getD x false=true↔(x:Int)∈l.take i)) (fun i _=>l.length - i) 0 (List.replicate n false) ⟨Nat.zero_le _,by simp,fun x hx=>by rw [rep_false];simp⟩ (by repeat' first|refine And.intro ?_ ?_|exact True.intro|(show (_:Int)=(_:Int);omega)|omega|exact rfl|(simp only [RO.len];omega)) ?_
  rintro i r ⟨hi,hr,hs⟩
  refine And.intro (fun h1=>?_) (fun h1=>?_)
  · have hil:i<l.length:=by omega
    have hm:=hl _ (getD_mem (d:=0) hil)
    refine And.intro (by omega) ?_
    refine And.intro (show 0≤l.getD i 0∧l.getD i 0<(r.length:Int) by omega) ?_
    refine And.intro (show (0:Int)≤l.getD i 0 by omega) ?_
    refine And.intro (by omega) ?_
    have hnx:=set_iff hr hs (i:=(l.getD i 0).toNat) (by omega)
    refine nx (i+1,r.set (l.getD i 0).toNat true) ⟨by omega,hnx.1,fun x hx=>?_⟩ (show l.length - (i+1)<l.length - i by omega) (by repeat' first|refine And.intro ?_ ?_|exact True.intro|(show (_:Int)=(_:Int);omega)|omega|exact rfl|(simp only [RO.len];omega))
    rw [hnx.2 x hx,take_snoc (d:=0) hil,List.mem_append,List.mem_singleton]
    exact or_congr Iff.rfl ⟨fun h=>by omega,fun h=>by omega⟩
  · refine And.intro ?_ trivial
    refine And.intro rfl ?_
    exact congrArg RO.bools (setB_ofP hr fun x hx=>by rw [hs x hx,List.take_of_length_le (by omega),setI_iff])
theorem marked_fn (n:Nat) (l:List Int) (hn:n≤400) (hl:∀x∈l,0≤x∧x<(n:Int)):QF 61 [.int .i64 n,.ro (.ints .i64 l)] (.new (.bools (setB n (setI l)))):=mkQ Tryz.func61 (by decide+kernel) rfl (Nat.le_of_ble_eq_true rfl) fun hf=>marked_k n l hn hl hf.2.1.1
theorem isIdeal_k (t:List (List Int)) (h:Sh t) (l:List Int) (hll:l.length≤140737488355328):fnK TY SP Tryz.f60 [.ro (.rows .i64 t),.ro (.ints .i64 l)] (.bool (.v (idB t l))):=by
  have hmost:=h.most
  refine Exists.intro []<|lp (X:=Nat) (fun i=>[(13,.int .i64 i)]) (fun _=>[]) (fun i=>AscTo t l i) (fun i=>l.length - i) 0 .start (by repeat' first|refine And.intro ?_ ?_|exact True.intro|(show (_:Int)=(_:Int);omega)|omega|exact rfl|(simp only [RO.len];omega)) ?_
  intro i H
  have hi:=H.le
  refine And.intro (fun h1=>?_) (fun h1=>?_)
  · have hil:i<l.length:=by omega
    have no:¬(0≤l.getD i 0∧l.getD i 0<(t.length:Int))→false=idB t l:=fun hn=>(idB_false.2 fun hh=>hn (hh.2.2.1 _ (getD_mem hil))).symm
    refine And.intro (by omega) ?_
    refine And.intro (fun h2=>?_) (fun h2=>?_)
    · have h2:l.getD i 0<0:=h2
      exact And.intro (no (by omega)) trivial
    · have h2:0≤l.getD i 0:=h2
      refine And.intro (fun h3=>?_) (fun h3=>?_)
      · have h3:(t.length:Int)≤l.getD i 0:=h3
        exact And.intro (no (by omega)) trivial
      · have h3:l.getD i 0<(t.length:Int):=h3
        refine And.intro (fun h4=>?_) (fun h4=>?_)
        · refine And.intro (by omega) ?_
          refine And.intro (by omega) ?_
          have e1:((i:Int) - 1).toNat=i - 1:=by omega
          refine And.intro (fun h5=>?_) (fun h5=>?_)
          · have h5:l.getD i 0≤l.getD ((i:Int) - 1).toNat 0:=h5
            rw [e1] at h5
            refine And.intro ?_ trivial
            refine (idB_false.2 fun hh=>?_).symm
            have:=hh.2.1 (i - 1) (by omega)
            rw [show i - 1+1=i by omega] at this
            omega
          · have h5:l.getD ((i:Int) - 1).toNat 0<l.getD i 0:=h5
            rw [e1] at h5
            refine And.intro (by omega) ?_
            exact nx (i+1) (H.next hil h2 h3 fun _=>h5) (show l.length - (i+1)<l.length - i by omega) (by repeat' first|refine And.intro ?_ ?_|exact True.intro|(show (_:Int)=(_:Int);omega)|omega|exact rfl|(simp only [RO.len];omega))
        · refine And.intro (by omega) ?_
          exact nx (i+1) (H.next hil h2 h3 fun _=>by omega) (show l.length - (i+1)<l.length - i by omega) (by repeat' first|refine And.intro ?_ ?_|exact True.intro|(show (_:Int)=(_:Int);omega)|omega|exact rfl|(simp only [RO.len];omega))
  · obtain ⟨hasc,hin⟩:=H.done (by omega)
    refine Or.inl (cq (marked_fn t.length l (by omega) hin) (And.intro rfl (And.intro rfl trivial)) ?_)
    have hsl:=setB_len t.length (setI l)
    refine Exists.intro []<|lp (X:=Nat) (fun i=>[(46,.int .i64 i)]) (fun _=>[(43,.vec 0 (.bools (setB t.length (setI l))) [])]) (fun i=>i≤l.length∧∀j,j<i→∀s,s<t.length→setI l (en t (l.getD j 0).toNat s)=true∧setI l (en t s (l.getD j 0).toNat)=true) (fun i=>l.length - i) 0 ⟨Nat.zero_le _,fun j hj=>absurd hj (Nat.not_lt_zero _)⟩ (by repeat' first|refine And.intro ?_ ?_|exact True.intro|(show (_:Int)=(_:Int);omega)|omega|exact rfl|(simp only [RO.len];omega)) ?_
    rintro i ⟨hi2,hs⟩
    refine And.intro (fun h2=>?_) (fun h2=>?_)
    · have hil:i<l.length:=by omega
      have hx:=hin _ (getD_mem (d:=0) hil)
      have hxn:(l.getD i 0).toNat<t.length:=by omega
      have hmem:setI l (l.getD i 0).toNat=true:=setI_iff.2 (by rw [Int.toNat_of_nonneg hx.1];exact getD_mem hil)
      refine And.intro (by omega) ?_
      refine Exists.intro []<|lp (X:=Nat) (fun s=>[(52,.int .i64 s)]) (fun _=>[(43,.vec 0 (.bools (setB t.length (setI l))) [])]) (fun s=>s≤t.length∧∀s',s'<s→setI l (en t (l.getD i 0).toNat s')=true∧setI l (en t s' (l.getD i 0).toNat)=true) (fun s=>t.length - s) 0 ⟨Nat.zero_le _,fun j hj=>absurd hj (Nat.not_lt_zero _)⟩ (by repeat' first|refine And.intro ?_ ?_|exact True.intro|(show (_:Int)=(_:Int);omega)|omega|exact rfl|(simp only [RO.len];omega)) ?_
      rintro s ⟨hsn,hss⟩
      refine And.intro (fun h3=>?_) (fun h3=>?_)
      · have hsl2:s<t.length:=by omega
        have r1:=h.len hxn
        have r2:=h.len hsl2
        have e1:=h.ent hxn hsl2
        have e2:=h.ent hsl2 hxn
        refine And.intro (show 0≤l.getD i 0∧l.getD i 0<(t.length:Int) by omega) ?_
        refine And.intro (show 0≤(s:Int)∧(s:Int)<((t.getD (l.getD i 0).toNat []).length:Int) by omega) ?_
        refine And.intro (show 0≤(t.getD (l.getD i 0).toNat []).getD s 0∧(t.getD (l.getD i 0).toNat []).getD s 0<((setB t.length (setI l)).length:Int) by omega) ?_
        refine And.intro (fun h4=>?_) (fun h4=>?_)
        · have h4:(!(setB t.length (setI l)).getD (en t (l.getD i 0).toNat s) false)=true:=h4
          rw [setB_get e1.2] at h4
          refine And.intro ?_ trivial
          refine (idB_false.2 fun hh=>?_).symm
          have:=(hh.2.2.2 _ s hxn hsl2 hmem).1
          rw [this] at h4;cases h4
        · have h4:(!(setB t.length (setI l)).getD (en t (l.getD i 0).toNat s) false)=false:=h4
          rw [setB_get e1.2] at h4
          refine And.intro ⟨by omega,show (s:Int)<(t.length:Int) by omega⟩ ?_
          refine And.intro (show 0≤l.getD i 0∧l.getD i 0<((t.getD s []).length:Int) by omega) ?_
          refine And.intro (show 0≤(t.getD s []).getD (l.getD i 0).toNat 0∧(t.getD s []).getD (l.getD i 0).toNat 0<((setB t.length (setI l)).length:Int) by omega) ?_
          refine And.intro (fun h5=>?_) (fun h5=>?_)
          · have h5:(!(setB t.length (setI l)).getD (en t s (l.getD i 0).toNat) false)=true:=h5
            rw [setB_get e2.2] at h5
            refine And.intro ?_ trivial
            refine (idB_false.2 fun hh=>?_).symm
            have:=(hh.2.2.2 _ s hxn hsl2 hmem).2
            rw [this] at h5;cases h5
          · have h5:(!(setB t.length (setI l)).getD (en t s (l.getD i 0).toNat) false)=false:=h5
            rw [setB_get e2.2] at h5
            refine And.intro (by omega) ?_
            refine nx (s+1) ⟨by omega,fun s' hs'=>?_⟩ (show t.length - (s+1)<t.length - s by omega) (by repeat' first|refine And.intro ?_ ?_|exact True.intro|(show (_:Int)=(_:Int);omega)|omega|exact rfl|(simp only [RO.len];omega))
            by_cases e:s'=s
            · subst e;exact ⟨by simpa using h4,by simpa using h5⟩
            · exact hss s' (by omega)
      · refine And.intro (by omega) ?_
        refine nx (i+1) ⟨by omega,fun j hj=>?_⟩ (show l.length - (i+1)<l.length - i by omega) (by repeat' first|refine And.intro ?_ ?_|exact True.intro|(show (_:Int)=(_:Int);omega)|omega|exact rfl|(simp only [RO.len];omega))
        by_cases e:j=i
        · subst e;exact fun s' hs'=>hss s' (by omega)
        · exact hs j (by omega)
    · refine And.intro ?_ trivial
      show decide ((0:Int)<(l.length:Int))=idB t l
      have hidf:IdF t (setI l):=fun x s hx hs' hm=>by
        obtain ⟨j,hj,e⟩:=mem_getD 0 (setI_iff.1 hm)
        have:=hs j (by omega) s hs'
        rw [e,Int.toNat_natCast] at this
        exact this
      by_cases h0:0<l.length
      · rw [idB_true.2 ⟨h0,hasc,hin,hidf⟩]
        exact decide_eq_true (by omega)
      · rw [idB_false.2 fun hh=>h0 hh.1]
        exact decide_eq_false (by omega)
theorem isIdeal_fn (t:List (List Int)) (h:Sh t) (l:List Int):QF 60 [.ro (.rows .i64 t),.ro (.ints .i64 l)] (.bool (.v (idB t l))):=mkQ Tryz.func60 (by decide+kernel) rfl (Nat.le_of_ble_eq_true rfl) fun hf=>isIdeal_k t h l hf.2.1.1
theorem iIsIdeal_fn (t:List (List Int)) (h:Semi t) (l:List Int):QF 27 [.ro (.rows .i64 t),.ro (.ints .i64 l)] (.bool (.v (idB t l))):=mkQ Tryz.func27 (by decide+kernel) rfl (Nat.le_of_ble_eq_true rfl) fun _=>by
  refine Or.inl (cq (valid_fn t) (And.intro rfl trivial) ?_)
  refine And.intro (fun h1=>?_) (fun h1=>absurd (valid_zero.2 h) h1)
  refine Or.inl (cq (isIdeal_fn t h.toSh l) (And.intro rfl (And.intro rfl trivial)) ?_)
  exact And.intro rfl trivial
end Go.Proofs.YtjabhmhhhlcopaaGreatDoor
end
