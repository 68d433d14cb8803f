import Derived.Test.YtjabhmhhhlcopaaGreatDoorSubLaw
import Derived.Test.YtjabhmhhhlcopaaGreatDoorGroup
section
namespace Go.Proofs.YtjabhmhhhlcopaaGreatDoor
open Go Go.AM
def elS (n:Nat) (f:Nat→Bool):List Nat:=(List.range n).filter f
theorem elS_mem {n:Nat} {f:Nat→Bool} {x:Nat}:x∈elS n f↔x<n∧f x=true:=by unfold elS;rw [List.mem_filter,List.mem_range]
theorem elS_nodup (n:Nat) (f:Nat→Bool):(elS n f).Nodup:=List.nodup_range.filter _
theorem card_le {n:Nat} {f g:Nat→Bool} (h:∀x,x<n→f x=true→g x=true):(elS n f).length≤(elS n g).length:=
  (elS_nodup n f).length_le_of_subset fun x hx=>elS_mem.2 ⟨(elS_mem.1 hx).1,h x (elS_mem.1 hx).1 (elS_mem.1 hx).2⟩
theorem card_map {n:Nat} {f g:Nat→Bool} (φ:Nat→Nat) (h:∀x,x<n→f x=true→∃y,y<n∧g y=true∧x=φ y):(elS n f).length≤(elS n g).length:=by
  have:=(elS_nodup n f).length_le_of_subset (l₂:=(elS n g).map φ) fun x hx=>by
    obtain ⟨y,h1,h2,h3⟩:=h x (elS_mem.1 hx).1 (elS_mem.1 hx).2
    exact List.mem_map.2 ⟨y,elS_mem.2 ⟨h1,h2⟩,h3.symm⟩
  rwa [List.length_map] at this
theorem sub_all {α:Type} [DecidableEq α] {A B:List α} (hA:A.Nodup) (h:∀x∈A,x∈B) (hl:B.length≤A.length):∀x∈B,x∈A:=fun x hx=>by
  rcases Decidable.em (x∈A) with e|e
  · exact e
  · have:(x::A).length≤B.length:=(List.nodup_cons.2 ⟨e,hA⟩).length_le_of_subset fun y hy=>by
      rcases List.mem_cons.1 hy with rfl|hy
      · exact hx
      · exact h y hy
    simp at this;omega
theorem card_eq {n:Nat} {f g:Nat→Bool} (h:∀x,x<n→f x=true→g x=true) (hl:(elS n g).length≤(elS n f).length) {x:Nat} (hx:x<n) (hg:g x=true):f x=true:=
  (elS_mem.1 (sub_all (elS_nodup n f) (fun x hx=>elS_mem.2 ⟨(elS_mem.1 hx).1,h x (elS_mem.1 hx).1 (elS_mem.1 hx).2⟩) hl x (elS_mem.2 ⟨hx,hg⟩))).2
theorem onto {n:Nat} {f:Nat→Bool} (φ:Nat→Nat) (hm:∀x,x<n→f x=true→φ x<n∧f (φ x)=true) (hi:∀x y,x<n→y<n→f x=true→f y=true→φ x=φ y→x=y) {y:Nat} (hy:y<n) (hf:f y=true):∃x,x<n∧f x=true∧φ x=y:=by
  have hn:((elS n f).map φ).Nodup:=by
    refine List.pairwise_map.2 ((elS_nodup n f).imp_of_mem fun {a b} ha hb hab e=>hab ?_)
    have ha:=elS_mem.1 ha
    have hb:=elS_mem.1 hb
    exact hi a b ha.1 hb.1 ha.2 hb.2 e
  have:=sub_all hn (B:=elS n f) (fun x hx=>by
    obtain ⟨y,h1,rfl⟩:=List.mem_map.1 hx
    have h1:=elS_mem.1 h1
    exact elS_mem.2 (hm y h1.1 h1.2)) (by rw [List.length_map];exact Nat.le_refl _) y (elS_mem.2 ⟨hy,hf⟩)
  obtain ⟨x,h1,h2⟩:=List.mem_map.1 this
  exact ⟨x,(elS_mem.1 h1).1,(elS_mem.1 h1).2,h2⟩
theorem stabL {t:List (List Int)} (h:Semi t) {x y:Nat} (hx:x<t.length) (kx:kerF t x=true) (hxy:inLB t x y=true):inLB t y x=true:=by
  have hy:=inL_lt h.toSh hx hxy
  have ha:=allP_lt h.toSh h.pos _ (Nat.le_refl t.length)
  have hj:inJB t y x=true:=(prF_iff h hy).1 (ker_min h (prF_id h hy) hy (prF_self h hy) kx)
  obtain ⟨z,hz,h1,h2⟩:=(inJB_iff h.toSh hy).1 hj
  rcases (inRB_iff h.toSh hz).1 h2 with e|⟨b,hb,e⟩
  · rw [e];exact h1
  · have l1:(elS t.length (inLB t x)).length≤(elS t.length (inLB t z)).length:=card_map (fun w=>en t w b) fun w hw hxw=>by
      rcases (inLB_iff h.toSh hx).1 hxw with e2|⟨s,hs,e2⟩
      · exact ⟨z,hz,(preL h).refl z hz,by rw [e2,e]⟩
      · exact ⟨en t s z,(h.toSh.ent hs hz).2,(inLB_iff h.toSh hz).2 (.inr ⟨s,hs,rfl⟩),by rw [←e2,←e,assoc3 h.assoc hs hz hb]⟩
    have l2:(elS t.length (inLB t z)).length≤(elS t.length (inLB t y)).length:=card_le fun w hw hzw=>(preL h).trans _ _ _ hy hz hw h1 hzw
    exact card_eq (f:=inLB t y) (g:=inLB t x) (fun w hw hyw=>(preL h).trans _ _ _ hx hy hw hxy hyw) (Nat.le_trans l1 l2) hx ((preL h).refl x hx)
theorem stabR {t:List (List Int)} (h:Semi t) {x y:Nat} (hx:x<t.length) (kx:kerF t x=true) (hxy:inRB t x y=true):inRB t y x=true:=by
  have hy:=inR_lt h.toSh hx hxy
  have hj:inJB t y x=true:=(prF_iff h hy).1 (ker_min h (prF_id h hy) hy (prF_self h hy) kx)
  obtain ⟨z0,hz0,h10,h20⟩:=(inJB_iff h.toSh hy).1 hj
  obtain ⟨z,hz,h1,h2⟩:=swap2 h hy h10 h20
  rcases (inLB_iff h.toSh hz).1 h2 with e|⟨b,hb,e⟩
  · rw [e];exact h1
  · have l1:(elS t.length (inRB t x)).length≤(elS t.length (inRB t z)).length:=card_map (fun w=>en t b w) fun w hw hxw=>by
      rcases (inRB_iff h.toSh hx).1 hxw with e2|⟨s,hs,e2⟩
      · exact ⟨z,hz,(preR h).refl z hz,by rw [e2,e]⟩
      · exact ⟨en t z s,(h.toSh.ent hz hs).2,(inRB_iff h.toSh hz).2 (.inr ⟨s,hs,rfl⟩),by rw [←e2,←e,assoc3 h.assoc hb hz hs]⟩
    have l2:(elS t.length (inRB t z)).length≤(elS t.length (inRB t y)).length:=card_le fun w hw hzw=>(preR h).trans _ _ _ hy hz hw h1 hzw
    exact card_eq (f:=inRB t y) (g:=inRB t x) (fun w hw hyw=>(preR h).trans _ _ _ hx hy hw hxy hyw) (Nat.le_trans l1 l2) hx ((preR h).refl x hx)
def metF (t:List (List Int)) (a b:Nat) (x:Nat):Bool:=inLB t a x&&inRB t b x
theorem ker_L {t:List (List Int)} (h:Semi t) {x y:Nat} (hx:x<t.length) (kx:kerF t x=true) (hxy:inLB t x y=true):kerF t y=true:=by
  rcases (inLB_iff h.toSh hx).1 hxy with e|⟨s,hs,e⟩
  · rw [e];exact kx
  · rw [←e];exact (ker_F h x s hx hs kx).2
theorem ker_R {t:List (List Int)} (h:Semi t) {x y:Nat} (hx:x<t.length) (kx:kerF t x=true) (hxy:inRB t x y=true):kerF t y=true:=by
  rcases (inRB_iff h.toSh hx).1 hxy with e|⟨s,hs,e⟩
  · rw [e];exact kx
  · rw [←e];exact (ker_F h x s hx hs kx).1
structure MetG (t:List (List Int)) (a b:Nat):Prop where
  semi:Semi t
  ha:a<t.length
  hb:b<t.length
  ka:kerF t a=true
  kb:kerF t b=true
theorem met_iff {t:List (List Int)} {a b x:Nat}:metF t a b x=true↔inLB t a x=true∧inRB t b x=true:=by unfold metF;exact Bool.and_eq_true_iff
theorem MetG.some {t:List (List Int)} {a b:Nat} (m:MetG t a b):en t b a<t.length∧metF t a b (en t b a)=true:=
  ⟨(m.semi.toSh.ent m.hb m.ha).2,met_iff.2 ⟨(inLB_iff m.semi.toSh m.ha).2 (.inr ⟨b,m.hb,rfl⟩),(inRB_iff m.semi.toSh m.hb).2 (.inr ⟨a,m.ha,rfl⟩)⟩⟩
theorem MetG.mul {t:List (List Int)} {a b x y:Nat} (m:MetG t a b) (hx:x<t.length) (hy:y<t.length) (mx:metF t a b x=true) (my:metF t a b y=true):metF t a b (en t x y)=true:=by
  have mx:=met_iff.1 mx
  have my:=met_iff.1 my
  have hz:=(m.semi.toSh.ent hx hy).2
  exact met_iff.2 ⟨(preL m.semi).trans _ _ _ m.ha hy hz my.1 ((inLB_iff m.semi.toSh hy).2 (.inr ⟨x,hx,rfl⟩)),(preR m.semi).trans _ _ _ m.hb hx hz mx.2 ((inRB_iff m.semi.toSh hx).2 (.inr ⟨y,hy,rfl⟩))⟩
theorem MetG.left {t:List (List Int)} {a b x y:Nat} (m:MetG t a b) (hx:x<t.length) (hy:y<t.length) (mx:metF t a b x=true) (my:metF t a b y=true):inLB t x y=true:=
  (preL m.semi).trans _ _ _ hx m.ha hy (stabL m.semi m.ha m.ka (met_iff.1 mx).1) (met_iff.1 my).1
theorem MetG.right {t:List (List Int)} {a b x y:Nat} (m:MetG t a b) (hx:x<t.length) (hy:y<t.length) (mx:metF t a b x=true) (my:metF t a b y=true):inRB t x y=true:=
  (preR m.semi).trans _ _ _ hx m.hb hy (stabR m.semi m.hb m.kb (met_iff.1 mx).2) (met_iff.1 my).2
theorem MetG.injL {t:List (List Int)} {a b x:Nat} (m:MetG t a b) (hx:x<t.length) (mx:metF t a b x=true):∀z w,z<t.length→w<t.length→metF t a b z=true→metF t a b w=true→en t x z=en t x w→z=w:=fun z w hz hw mz mw e=>by
  have hs:=m.semi.assoc
  have hxz:=(m.semi.toSh.ent hx hz).2
  have i1:=m.left hxz hz (m.mul hx hz mx mz) mz
  have i2:=m.right hz hw mz mw
  rcases (inRB_iff m.semi.toSh hz).1 i2 with e2|⟨v,hv,e2⟩
  · exact e2.symm
  · rcases (inLB_iff m.semi.toSh hxz).1 i1 with e1|⟨s,hs1,e1⟩
    · have:en t x w=w:=by rw [←e2,←assoc3 hs hx hz hv,←e1]
      rw [e1,e,this]
    · have:en t s (en t x w)=w:=by rw [←e2,←assoc3 hs hx hz hv,←assoc3 hs hs1 hxz hv,e1]
      rw [←e1,e,this]
theorem MetG.injR {t:List (List Int)} {a b x:Nat} (m:MetG t a b) (hx:x<t.length) (mx:metF t a b x=true):∀z w,z<t.length→w<t.length→metF t a b z=true→metF t a b w=true→en t z x=en t w x→z=w:=fun z w hz hw mz mw e=>by
  have hs:=m.semi.assoc
  have hzx:=(m.semi.toSh.ent hz hx).2
  have i1:=m.right hzx hz (m.mul hz hx mz mx) mz
  have i2:=m.left hz hw mz mw
  rcases (inLB_iff m.semi.toSh hz).1 i2 with e2|⟨v,hv,e2⟩
  · exact e2.symm
  · rcases (inRB_iff m.semi.toSh hzx).1 i1 with e1|⟨s,hs1,e1⟩
    · have:en t w x=w:=by rw [←e2,assoc3 hs hv hz hx,←e1]
      rw [e1,e,this]
    · have:en t (en t w x) s=w:=by rw [←e2,assoc3 hs hv hz hx,assoc3 hs hv hzx hs1,e1]
      rw [←e1,e,this]
theorem MetG.grp {t:List (List Int)} {a b:Nat} (m:MetG t a b):∃e,e<t.length∧metF t a b e=true∧(∀x,x<t.length→metF t a b x=true→en t e x=x∧en t x e=x)∧∀x,x<t.length→metF t a b x=true→∃y,y<t.length∧metF t a b y=true∧en t x y=e∧en t y x=e:=by
  have hs:=m.semi.assoc
  have oL:∀x,x<t.length→metF t a b x=true→∀y,y<t.length→metF t a b y=true→∃z,z<t.length∧metF t a b z=true∧en t x z=y:=fun x hx mx y hy my=>
    onto (en t x) (fun z hz mz=>⟨(m.semi.toSh.ent hx hz).2,m.mul hx hz mx mz⟩) (fun z w hz hw mz mw=>m.injL hx mx z w hz hw mz mw) hy my
  have oR:∀x,x<t.length→metF t a b x=true→∀y,y<t.length→metF t a b y=true→∃z,z<t.length∧metF t a b z=true∧en t z x=y:=fun x hx mx y hy my=>
    onto (fun z=>en t z x) (fun z hz mz=>⟨(m.semi.toSh.ent hz hx).2,m.mul hz hx mz mx⟩) (fun z w hz hw mz mw=>m.injR hx mx z w hz hw mz mw) hy my
  obtain ⟨hc,mc⟩:=m.some
  obtain ⟨e,he,me,h1⟩:=oL _ hc mc _ hc mc
  obtain ⟨f,hf,mf,h2⟩:=oR _ hc mc _ hc mc
  have hre:∀x,x<t.length→metF t a b x=true→en t x e=x:=fun x hx mx=>by
    obtain ⟨z,hz,mz,h3⟩:=oR _ hc mc x hx mx
    rw [←h3,assoc3 hs hz hc he,h1]
  have hlf:∀x,x<t.length→metF t a b x=true→en t f x=x:=fun x hx mx=>by
    obtain ⟨z,hz,mz,h3⟩:=oL _ hc mc x hx mx
    rw [←h3,←assoc3 hs hf hc hz,h2]
  have hef:f=e:=by rw [←hre f hf mf,hlf e he me]
  subst hef
  refine ⟨f,hf,mf,fun x hx mx=>⟨hlf x hx mx,hre x hx mx⟩,fun x hx mx=>?_⟩
  obtain ⟨y,hy,my,h3⟩:=oL x hx mx f hf mf
  obtain ⟨z,hz,mz,h4⟩:=oR x hx mx f hf mf
  have hyz:y=z:=by
    have h5:=assoc3 hs hz hx hy
    rw [h4,h3,hlf y hy my,hre z hz mz] at h5
    exact h5
  exact ⟨y,hy,my,h3,by rw [hyz];exact h4⟩
structure OneS (t:List (List Int)) (F:(Nat→Bool)→Nat→Bool) (rel:Nat→Nat→Bool):Prop where
  val:∀x y,x<t.length→y<t.length→F (setI [(x:Int)]) y=rel x y
  pre:Pre t.length rel
  stab:∀x y,x<t.length→y<t.length→kerF t x=true→rel x y=true→rel y x=true
  ker:∀x y,x<t.length→y<t.length→kerF t x=true→rel x y=true→kerF t y=true
theorem single_iff {x y:Nat}:setI [(x:Int)] y=true↔y=x:=by rw [setI_iff,List.mem_singleton];omega
theorem oneL_l {t:List (List Int)} (h:Semi t):OneS t (lftF t) (inLB t) where
  val:=fun x y hx hy=>by
    rw [Bool.eq_iff_iff,lftF_iff]
    exact ⟨fun ⟨z,_,h1,h2⟩=>by rw [single_iff] at h1;subst h1;exact h2,fun hh=>⟨x,hx,single_iff.2 rfl,hh⟩⟩
  pre:=preL h
  stab:=fun x y hx _ kx hh=>stabL h hx kx hh
  ker:=fun x y hx _ kx hh=>ker_L h hx kx hh
theorem oneL_r {t:List (List Int)} (h:Semi t):OneS t (rgtF t) (inRB t) where
  val:=fun x y hx hy=>by
    rw [Bool.eq_iff_iff,rgtF_iff]
    exact ⟨fun ⟨z,_,h1,h2⟩=>by rw [single_iff] at h1;subst h1;exact h2,fun hh=>⟨x,hx,single_iff.2 rfl,hh⟩⟩
  pre:=preR h
  stab:=fun x y hx _ kx hh=>stabR h hx kx hh
  ker:=fun x y hx _ kx hh=>ker_R h hx kx hh
structure MnOk (t:List (List Int)) (rel:Nat→Nat→Bool) (rows:List (List Int)) (k:Nat):Prop where
  row:∀l∈rows,∃x,x<t.length∧kerF t x=true∧l=ascV t.length (rel x)
  dis:rows.Pairwise fun l m=>∀z,setI l z=true→setI m z=true→False
  cov:∀y,y<k→y<t.length→kerF t y=true→covB rows y=true
theorem covB_iff {L:List (List Int)} {x:Nat}:covB L x=true↔∃l∈L,setI l x=true:=by unfold covB;rw [List.any_eq_true]
theorem mn_ok {t:List (List Int)} {F:(Nat→Bool)→Nat→Bool} {rel:Nat→Nat→Bool} (o:OneS t F rel):∀k,k≤t.length→MnOk t rel (mnL t F k) k
  |0,_=>⟨fun l hl=>by simp [mnL] at hl,by simp [mnL],fun y hy=>absurd hy (Nat.not_lt_zero _)⟩
  |k+1,hk=>by
   have ih:=mn_ok o k (by omega)
   have hkl:k<t.length:=by omega
   by_cases e:kerF t k=true∧covB (mnL t F k) k=false
   · have er:oneL t F k=ascV t.length (rel k):=ascV_congr fun y hy=>o.val k y hkl hy
     rw [mnL_yes e.1 e.2,er]
     refine ⟨fun l hl=>?_,?_,fun y hy hyl ky=>?_⟩
     · rcases List.mem_append.1 hl with hl|hl
       · exact ih.row l hl
       · rw [List.mem_singleton] at hl;exact ⟨k,hkl,e.1,hl⟩
     · refine List.pairwise_append.2 ⟨ih.dis,by simp,fun l hl m hm z h1 h2=>?_⟩
       rw [List.mem_singleton] at hm
       subst hm
       obtain ⟨x,hx,kx,rfl⟩:=ih.row l hl
       have hz:z<t.length:=by have:=ascV_in (setI_iff.1 h1);omega
       rw [ascV_set hz] at h1 h2
       have h3:=o.stab k z hkl hz e.1 h2
       have h4:=o.pre.trans _ _ _ hx hz hkl h1 h3
       have:covB (mnL t F k) k=true:=covB_iff.2 ⟨_,hl,by rw [ascV_set hkl];exact h4⟩
       rw [e.2] at this;cases this
     · rw [covB_snoc]
       by_cases e2:y=k
       · subst e2;rw [ascV_set hyl,o.pre.refl y hyl];simp
       · rw [ih.cov y (by omega) hyl ky];rfl
   · rw [mnL_no (by
       cases e1:kerF t k with
       |false=>exact Or.inl rfl
       |true=>
        cases e2:covB (mnL t F k) k with
        |true=>exact Or.inr rfl
        |false=>exact absurd ⟨e1,e2⟩ e)]
     refine ⟨ih.row,ih.dis,fun y hy hyl ky=>?_⟩
     by_cases e2:y=k
     · subst e2
       cases e3:covB (mnL t F y) y with
       |true=>rfl
       |false=>exact absurd ⟨ky,e3⟩ e
     · exact ih.cov y (by omega) hyl ky
end Go.Proofs.YtjabhmhhhlcopaaGreatDoor
end
section
namespace Go.Proofs.YtjabhmhhhlcopaaGreatDoor
open Go Go.AM
section
variable {S:Type} (m:S→S→S)
def LlA (y x:S):Prop:=x=y∨∃s,m s y=x
def RrA (y x:S):Prop:=x=y∨∃s,m y s=x
structure Idm (e:S):Prop where
  ac:∀x y z,m (m x y) z=m x (m y z)
  ee:m e e=e
  sL:∀x y,LlA m x y→(∃a b,m (m a y) b=x)→LlA m y x
  sR:∀x y,RrA m x y→(∃a b,m (m a y) b=x)→RrA m y x
structure InL (e x:S):Prop where
  r:m x e=x
  l:∃s,m s x=e
structure InR (e x:S):Prop where
  l:m e x=x
  r:∃s,m x s=e
structure InH (e g:S):Prop where
  l:m e g=g
  r:m g e=g
  il:∃s,m s g=e
  ir:∃s,m g s=e
def Up (e x:S):Prop:=∃a b,m (m a x) b=e
variable {m} {e:S} (I:Idm m e)
include I
theorem Idm.hmul {g h:S} (hg:InH m e g) (hh:InH m e h):InH m e (m g h):=by
  obtain ⟨a,ha⟩:=hg.il
  obtain ⟨b,hb⟩:=hg.ir
  obtain ⟨c,hc⟩:=hh.il
  obtain ⟨d,hd⟩:=hh.ir
  refine ⟨by rw [←I.ac,hg.l],by rw [I.ac,hh.r],⟨m c a,?_⟩,⟨m d b,?_⟩⟩
  · rw [←I.ac,I.ac c a g,ha,I.ac c e h,hh.l,hc]
  · rw [I.ac,←I.ac h d b,hd,←I.ac,hg.r,hb]
theorem Idm.hinv {g:S} (hg:InH m e g):∃y,InH m e y∧m g y=e∧m y g=e:=by
  obtain ⟨a,ha⟩:=hg.il
  obtain ⟨b,hb⟩:=hg.ir
  have h1:m (m (m e a) e) g=e:=by rw [I.ac,hg.l,I.ac,ha,I.ee]
  have h2:m g (m (m e b) e)=e:=by rw [←I.ac,←I.ac,hg.r,hb,I.ee]
  have h3:m (m e a) e=m (m e b) e:=by
    have e1:m (m (m e a) e) (m g (m (m e b) e))=m (m e a) e:=by rw [h2,I.ac,I.ee]
    have e2:m (m (m e a) e) (m g (m (m e b) e))=m (m e b) e:=by rw [←I.ac,h1,←I.ac,←I.ac,I.ee]
    rw [←e1,e2]
  refine ⟨m (m e a) e,⟨by rw [←I.ac,←I.ac,I.ee],by rw [I.ac,I.ee],⟨g,by rw [h3];exact h2⟩,⟨g,h1⟩⟩,by rw [h3];exact h2,h1⟩
theorem Idm.hof {g:S} (h1:m e g=g) (h2:m g e=g) (h3:Up m e g):InH m e g:=by
  refine ⟨h1,h2,?_,?_⟩
  · rcases I.sL e g (.inr ⟨g,h2⟩) h3 with h|h
    · exact ⟨e,by rw [←h,I.ee]⟩
    · exact h
  · rcases I.sR e g (.inr ⟨g,h1⟩) h3 with h|h
    · exact ⟨e,by rw [←h,I.ee]⟩
    · exact h
theorem Idm.dec {x r q:S} (hx:Up m e x) (hr:InL m e r) (hq:InR m e q) (rx:RrA m r x) (qx:LlA m q x):∃g,InH m e g∧m (m r g) q=x:=by
  have hu:∃u,m r u=x:=rx.elim (fun h=>⟨e,by rw [hr.r,h]⟩) id
  have hv:∃v,m v q=x:=qx.elim (fun h=>⟨e,by rw [hq.l,h]⟩) id
  obtain ⟨u,hu⟩:=hu
  obtain ⟨v,hv⟩:=hv
  obtain ⟨r',hr'⟩:=hr.l
  obtain ⟨q',hq'⟩:=hq.r
  have k1:m r (m r' x)=x:=by
    have:m (m r r') r=r:=by rw [I.ac,hr',hr.r]
    rw [←I.ac,←hu,←I.ac,this]
  have k2:m (m x q') q=x:=by
    have:m q' q=m q' q:=rfl
    have h3:m (m q q') q=q:=by rw [hq',hq.l]
    rw [I.ac,←hv,I.ac,←I.ac q q' q,h3]
  have k3:m (m r (m (m e (m (m r' x) q')) e)) q=x:=by
    rw [I.ac r,I.ac (m e (m (m r' x) q')) e q,hq.l,I.ac e,←I.ac r e,hr.r,I.ac (m r' x) q' q,I.ac r' x,←I.ac x q' q,k2,k1]
  have h1:m e (m (m e (m (m r' x) q')) e)=m (m e (m (m r' x) q')) e:=by rw [←I.ac,←I.ac,I.ee]
  have h2:m (m (m e (m (m r' x) q')) e) e=m (m e (m (m r' x) q')) e:=by rw [I.ac,I.ee]
  refine ⟨_,I.hof h1 h2 ?_,k3⟩
  obtain ⟨a,b,hab⟩:=hx
  refine ⟨m a r,m q b,?_⟩
  have gen:∀g,m (m (m a r) g) (m q b)=m (m a (m (m r g) q)) b:=fun g=>by simp only [I.ac]
  rw [gen,k3,hab]
theorem Idm.inj {r q g h:S} (hr:InL m e r) (hq:InR m e q) (hg:InH m e g) (hh:InH m e h) (he:m (m r g) q=m (m r h) q):g=h:=by
  obtain ⟨r',hr'⟩:=hr.l
  obtain ⟨q',hq'⟩:=hq.r
  have key:∀g,InH m e g→m r' (m (m (m r g) q) q')=g:=fun g hg=>by
    rw [I.ac (m r g) q q',hq',I.ac r g e,hg.r,←I.ac,hr',hg.l]
  rw [←key g hg,he,key h hh]
theorem Idm.back {r q g:S} (hr:InL m e r) (hq:InR m e q) (hg:InH m e g):(∃w,m (m (m r g) q) w=r)∧(∃w,m w (m (m r g) q)=q)∧Up m e (m (m r g) q):=by
  obtain ⟨r',hr'⟩:=hr.l
  obtain ⟨q',hq'⟩:=hq.r
  obtain ⟨y,_,h1,h2⟩:=I.hinv hg
  refine ⟨⟨m q' y,?_⟩,⟨m y r',?_⟩,⟨m y r',q',?_⟩⟩
  · rw [I.ac (m r g) q,←I.ac q q' y,hq',I.ac r g,←I.ac g e y,hg.r,h1,hr.r]
  · rw [←I.ac (m y r') (m r g) q,←I.ac (m y r') r g,I.ac y r' r,hr',I.ac y e g,hg.l,h2,hq.l]
  · rw [←I.ac (m y r') (m r g) q,←I.ac (m y r') r g,I.ac y r' r,hr',I.ac y e g,hg.l,h2,hq.l,hq']
theorem Idm.sand {q r:S} (hq:InR m e q) (hr:InL m e r) (h:Up m e (m q r)):InH m e (m q r):=I.hof (by rw [←I.ac,hq.l]) (by rw [I.ac,hr.r]) h
theorem Idm.mul3 (r g q s h p:S):m (m (m r g) q) (m (m s h) p)=m (m r (m (m g (m q s)) h)) p:=by simp only [I.ac]
theorem Idm.mulUp {r g q s h p:S} (hu:Up m e (m (m (m r g) q) (m (m s h) p))):Up m e (m q s):=by
  obtain ⟨a,b,hab⟩:=hu
  exact ⟨m a (m r g),m h (m p b),by rw [←hab];simp only [I.ac]⟩
theorem Idm.rowOf {x:S} (hx:Up m e x) (hd:∃a b,m (m a e) b=x):∃r,InL m e r∧RrA m r x∧RrA m x r:=by
  obtain ⟨a,b,hab⟩:=hx
  obtain ⟨c,d,hcd⟩:=hd
  have h1:m a (m x b)=e:=by rw [←I.ac];exact hab
  have h2:LlA m e (m x b):=I.sL (m x b) e (.inr ⟨a,h1⟩) ⟨c,m d b,by rw [←I.ac,hcd]⟩
  have h3:m (m x b) e=m x b:=h2.elim (fun h=>by rw [h,I.ee]) fun ⟨s,hs⟩=>by rw [←hs,I.ac,I.ee]
  exact ⟨m x b,⟨h3,a,h1⟩,I.sR x (m x b) (.inr ⟨b,rfl⟩) ⟨m c a,d,by rw [I.ac c a,h1];exact hcd⟩,.inr ⟨b,rfl⟩⟩
theorem Idm.colOf {x:S} (hx:Up m e x) (hd:∃a b,m (m a e) b=x):∃q,InR m e q∧LlA m q x∧LlA m x q:=by
  obtain ⟨a,b,hab⟩:=hx
  obtain ⟨c,d,hcd⟩:=hd
  have h2:RrA m e (m a x):=I.sR (m a x) e (.inr ⟨b,hab⟩) ⟨m a c,d,by rw [I.ac a c e,I.ac a,hcd]⟩
  have h3:m e (m a x)=m a x:=h2.elim (fun h=>by rw [h,I.ee]) fun ⟨s,hs⟩=>by rw [←hs,←I.ac,I.ee]
  exact ⟨m a x,⟨h3,b,hab⟩,I.sL x (m a x) (.inr ⟨a,rfl⟩) ⟨c,m b d,by rw [I.ac c,←I.ac (m a x) b d,hab,←I.ac];exact hcd⟩,.inr ⟨a,rfl⟩⟩
end
def mF (t:List (List Int)) (h:Sh t) (x y:Fin t.length):Fin t.length:=⟨en t x y,(h.ent x.2 y.2).2⟩
theorem stabLJ {t:List (List Int)} (h:Semi t) {x y:Nat} (hx:x<t.length) (hxy:inLB t x y=true) (hj:inJB t y x=true):inLB t y x=true:=by
  have hy:=inL_lt h.toSh hx hxy
  obtain ⟨z,hz,h1,h2⟩:=(inJB_iff h.toSh hy).1 hj
  rcases (inRB_iff h.toSh hz).1 h2 with e|⟨b,hb,e⟩
  · rw [e];exact h1
  · have l1:(elS t.length (inLB t x)).length≤(elS t.length (inLB t z)).length:=card_map (fun w=>en t w b) fun w hw hxw=>by
      rcases (inLB_iff h.toSh hx).1 hxw with e2|⟨s,hs,e2⟩
      · exact ⟨z,hz,(preL h).refl z hz,by rw [e2,e]⟩
      · exact ⟨en t s z,(h.toSh.ent hs hz).2,(inLB_iff h.toSh hz).2 (.inr ⟨s,hs,rfl⟩),by rw [←e2,←e,assoc3 h.assoc hs hz hb]⟩
    have l2:(elS t.length (inLB t z)).length≤(elS t.length (inLB t y)).length:=card_le fun w hw hzw=>(preL h).trans _ _ _ hy hz hw h1 hzw
    exact card_eq (f:=inLB t y) (g:=inLB t x) (fun w hw hyw=>(preL h).trans _ _ _ hx hy hw hxy hyw) (Nat.le_trans l1 l2) hx ((preL h).refl x hx)
theorem stabRJ {t:List (List Int)} (h:Semi t) {x y:Nat} (hx:x<t.length) (hxy:inRB t x y=true) (hj:inJB t y x=true):inRB t y x=true:=by
  have hy:=inR_lt h.toSh hx hxy
  obtain ⟨z0,hz0,h10,h20⟩:=(inJB_iff h.toSh hy).1 hj
  obtain ⟨z,hz,h1,h2⟩:=swap2 h hy h10 h20
  rcases (inLB_iff h.toSh hz).1 h2 with e|⟨b,hb,e⟩
  · rw [e];exact h1
  · have l1:(elS t.length (inRB t x)).length≤(elS t.length (inRB t z)).length:=card_map (fun w=>en t b w) fun w hw hxw=>by
      rcases (inRB_iff h.toSh hx).1 hxw with e2|⟨s,hs,e2⟩
      · exact ⟨z,hz,(preR h).refl z hz,by rw [e2,e]⟩
      · exact ⟨en t z s,(h.toSh.ent hz hs).2,(inRB_iff h.toSh hz).2 (.inr ⟨s,hs,rfl⟩),by rw [←e2,←e,assoc3 h.assoc hb hz hs]⟩
    have l2:(elS t.length (inRB t z)).length≤(elS t.length (inRB t y)).length:=card_le fun w hw hzw=>(preR h).trans _ _ _ hy hz hw h1 hzw
    exact card_eq (f:=inRB t y) (g:=inRB t x) (fun w hw hyw=>(preR h).trans _ _ _ hx hy hw hxy hyw) (Nat.le_trans l1 l2) hx ((preR h).refl x hx)
section
variable {t:List (List Int)} (h:Semi t)
include h
theorem llA_iff (y x:Fin t.length):LlA (mF t h.toSh) y x↔inLB t y x=true:=by
  rw [inLB_iff h.toSh y.2]
  exact or_congr ⟨fun e=>by rw [e],fun e=>Fin.ext e⟩ ⟨fun ⟨s,hs⟩=>⟨s,s.2,congrArg Fin.val hs⟩,fun ⟨s,hs,e⟩=>⟨⟨s,hs⟩,Fin.ext e⟩⟩
theorem rrA_iff (y x:Fin t.length):RrA (mF t h.toSh) y x↔inRB t y x=true:=by
  rw [inRB_iff h.toSh y.2]
  exact or_congr ⟨fun e=>by rw [e],fun e=>Fin.ext e⟩ ⟨fun ⟨s,hs⟩=>⟨s,s.2,congrArg Fin.val hs⟩,fun ⟨s,hs,e⟩=>⟨⟨s,hs⟩,Fin.ext e⟩⟩
theorem inJ_of {a y b:Fin t.length}:inJB t y (mF t h.toSh (mF t h.toSh a y) b)=true:=
  (inJB_iff h.toSh y.2).2 ⟨_,(mF t h.toSh a y).2,(inLB_iff h.toSh y.2).2 (.inr ⟨a,a.2,rfl⟩),(inRB_iff h.toSh (mF t h.toSh a y).2).2 (.inr ⟨b,b.2,rfl⟩)⟩
theorem idm {e:Nat} (he:e<t.length) (hi:en t e e=e):Idm (mF t h.toSh) ⟨e,he⟩ where
  ac x y z:=Fin.ext (assoc3 h.assoc x.2 y.2 z.2)
  ee:=Fin.ext hi
  sL x y hxy hj:=by
    rw [llA_iff h] at hxy ⊢
    obtain ⟨a,b,hj⟩:=hj
    exact stabLJ h x.2 hxy (by rw [←hj];exact inJ_of h)
  sR x y hxy hj:=by
    rw [rrA_iff h] at hxy ⊢
    obtain ⟨a,b,hj⟩:=hj
    exact stabRJ h x.2 hxy (by rw [←hj];exact inJ_of h)
theorem up_of {e:Nat} (he:e<t.length) (hi:en t e e=e) {y:Fin t.length} (hj:inJB t y e=true):Up (mF t h.toSh) ⟨e,he⟩ y:=by
  have I:=idm h he hi
  obtain ⟨z,hz,h1,h2⟩:=(inJB_iff h.toSh y.2).1 hj
  have h1:=(llA_iff h y ⟨z,hz⟩).2 h1
  have h2:=(rrA_iff h ⟨z,hz⟩ ⟨e,he⟩).2 h2
  have hz':∃b,mF t h.toSh ⟨z,hz⟩ b=⟨e,he⟩:=h2.elim (fun e1=>⟨⟨e,he⟩,by rw [←e1,I.ee]⟩) id
  obtain ⟨b,hb⟩:=hz'
  rcases h1 with e1|⟨a,ha⟩
  · rw [e1] at hb
    refine ⟨⟨e,he⟩,b,?_⟩
    rw [I.ac,hb,I.ee]
  · exact ⟨a,b,by rw [ha,hb]⟩
theorem down_of {e:Nat} (he:e<t.length) (hi:en t e e=e) {x:Fin t.length} (hj:inJB t e x=true):∃a b,mF t h.toSh (mF t h.toSh a ⟨e,he⟩) b=x:=by
  have I:=idm h he hi
  obtain ⟨z,hz,h1,h2⟩:=(inJB_iff h.toSh he).1 hj
  have h1:=(llA_iff h ⟨e,he⟩ ⟨z,hz⟩).2 h1
  have h2:=(rrA_iff h ⟨z,hz⟩ x).2 h2
  have ha:∃a,mF t h.toSh a ⟨e,he⟩=⟨z,hz⟩:=h1.elim (fun e1=>⟨⟨e,he⟩,by rw [e1,I.ee]⟩) id
  obtain ⟨a,ha⟩:=ha
  rcases h2 with e1|⟨b,hb⟩
  · exact ⟨a,⟨e,he⟩,by rw [I.ac,I.ee,ha,e1]⟩
  · exact ⟨a,b,by rw [ha,hb]⟩
end
end Go.Proofs.YtjabhmhhhlcopaaGreatDoor
end
section
namespace Go.Proofs.YtjabhmhhhlcopaaGreatDoor
open Go Go.AM
section
variable (t:List (List Int)) (j e:Nat)
abbrev rcl (x:Nat):Int:=(classR t).getD x 0
abbrev lcl (x:Nat):Int:=(classL t).getD x 0
abbrev jcl (x:Nat):Int:=(classJ t).getD x 0
def rowsN:List Int:=ascV (classN (classR t)) fun c=>(elemsJ t j).any fun x=>decide (rcl t x.toNat=(c:Int))
def colsN:List Int:=ascV (classN (classL t)) fun c=>(elemsJ t j).any fun x=>decide (lcl t x.toNat=(c:Int))
def hitJ (a b:Int):List Int:=(elemsJ t j).filter fun x=>decide (rcl t x.toNat=a)&&decide (lcl t x.toNat=b)
def lstJ (a b:Int):Nat:=((hitJ t j a b).getD 0 0).toNat
def hLs:List Int:=hitJ t j (rcl t e) (lcl t e)
def rI (i:Nat):Nat:=lstJ t j ((rowsN t j).getD i 0) (lcl t e)
def qI (l:Nat):Nat:=lstJ t j (rcl t e) ((colsN t j).getD l 0)
def gI (g:Nat):Nat:=eL (hLs t j e) g
def cooG:List (List Int):=subT t (hLs t j e)
def cooP:List (List Int):=(List.range (colsN t j).length).map fun l=>(List.range (rowsN t j).length).map fun i=>posTo (hLs t j e) (hLs t j e).length (en t (qI t j e l) (rI t j e i))
def tri (i g l:Nat):Nat:=en t (en t (rI t j e i) (gI t j e g)) (qI t j e l)
end
theorem elemsJ_asc {t:List (List Int)} {j:Nat} (hj:j<numJ t):elemsJ t j=ascV t.length fun x=>decide (jcl t x=(j:Int)):=by
  rw [elemsJ_eq hj];unfold ascV memV memTo;rw [setB_len]
  congr 1
  refine List.filter_congr fun x hx=>?_
  rw [setB_get (List.mem_range.1 hx)]
theorem ascV_filter (n:Nat) (f g:Nat→Bool):(ascV n f).filter (fun x=>g x.toNat)=ascV n fun x=>f x&&g x:=by
  unfold ascV memV memTo
  rw [setB_len,setB_len,List.filter_map,List.filter_filter]
  congr 1
  refine List.filter_congr fun x hx=>?_
  have hx:=List.mem_range.1 hx
  rw [setB_get hx,setB_get hx]
  simp only [Function.comp,Int.toNat_natCast]
  rw [Bool.and_comm]
theorem hitJ_asc {t:List (List Int)} {j:Nat} (hj:j<numJ t) (a b:Int):hitJ t j a b=ascV t.length fun x=>decide (jcl t x=(j:Int))&&(decide (rcl t x=a)&&decide (lcl t x=b)):=by
  unfold hitJ;rw [elemsJ_asc hj,ascV_filter t.length (fun x=>decide (jcl t x=(j:Int))) (fun x=>decide (rcl t x=a)&&decide (lcl t x=b))]
theorem mem_hit {t:List (List Int)} {j:Nat} (hj:j<numJ t) {a b:Int} {x:Nat}:(x:Int)∈hitJ t j a b↔x<t.length∧jcl t x=j∧rcl t x=a∧lcl t x=b:=by
  rw [hitJ_asc hj,ascV_mem]
  constructor
  · rintro ⟨i,hi,hf,e⟩
    obtain rfl:x=i:=by omega
    simp only [Bool.and_eq_true,decide_eq_true_eq] at hf
    exact ⟨hi,hf.1,hf.2.1,hf.2.2⟩
  · rintro ⟨hx,h1,h2,h3⟩
    exact ⟨x,hx,by simp only [Bool.and_eq_true,decide_eq_true_eq];exact ⟨h1,h2,h3⟩,rfl⟩
theorem lst_of {t:List (List Int)} {j:Nat} (hj:j<numJ t) {a b:Int} (hne:∃x,x<t.length∧jcl t x=j∧rcl t x=a∧lcl t x=b):
    0<(hitJ t j a b).length∧(hitJ t j a b).getD 0 0=(lstJ t j a b:Int)∧lstJ t j a b<t.length∧jcl t (lstJ t j a b)=j∧rcl t (lstJ t j a b)=a∧lcl t (lstJ t j a b)=b:=by
  obtain ⟨x,hx⟩:=hne
  have hp:0<(hitJ t j a b).length:=List.length_pos_of_mem ((mem_hit hj).2 hx)
  have h0:=getD_mem (d:=0) hp
  have hr:0≤(hitJ t j a b).getD 0 0:=by
    have:=h0
    rw [hitJ_asc hj] at this ⊢
    exact (ascV_in this).1
  have e:(hitJ t j a b).getD 0 0=(lstJ t j a b:Int):=by unfold lstJ;omega
  rw [e] at h0
  exact ⟨hp,e,(mem_hit hj).1 h0⟩
structure Coo (t:List (List Int)) (j e:Nat):Prop where
  semi:Semi t
  hj:j<numJ t
  he:e<t.length
  ee:en t e e=e
  ej:jcl t e=j
theorem rcl_iff {t:List (List Int)} (h:Semi t) {x y:Nat} (hx:x<t.length) (hy:y<t.length):rcl t x=rcl t y↔(inRB t x y=true∧inRB t y x=true):=clsL_iff (preR h) hx hy
theorem lcl_iff {t:List (List Int)} (h:Semi t) {x y:Nat} (hx:x<t.length) (hy:y<t.length):lcl t x=lcl t y↔(inLB t x y=true∧inLB t y x=true):=clsL_iff (preL h) hx hy
theorem jR {t:List (List Int)} (h:Semi t) {x y:Nat} (hx:x<t.length) (hxy:inRB t x y=true):inJB t x y=true:=(inJB_iff h.toSh hx).2 ⟨x,hx,(preL h).refl x hx,hxy⟩
theorem jL {t:List (List Int)} (h:Semi t) {x y:Nat} (hx:x<t.length) (hxy:inLB t x y=true):inJB t x y=true:=(inJB_iff h.toSh hx).2 ⟨y,inL_lt h.toSh hx hxy,hxy,(preR h).refl y (inL_lt h.toSh hx hxy)⟩
theorem rcl_j {t:List (List Int)} (h:Semi t) {x y:Nat} (hx:x<t.length) (hy:y<t.length) (he:rcl t x=rcl t y):jcl t x=jcl t y:=by
  have:=(rcl_iff h hx hy).1 he
  exact (classJ_iff h hx hy).2 ⟨jR h hx this.1,jR h hy this.2⟩
theorem lcl_j {t:List (List Int)} (h:Semi t) {x y:Nat} (hx:x<t.length) (hy:y<t.length) (he:lcl t x=lcl t y):jcl t x=jcl t y:=by
  have:=(lcl_iff h hx hy).1 he
  exact (classJ_iff h hx hy).2 ⟨jL h hx this.1,jL h hy this.2⟩
namespace Coo
variable {t:List (List Int)} {j e:Nat} (c:Coo t j e)
include c
abbrev m (c:Coo t j e):=mF t c.semi.toSh
abbrev E (c:Coo t j e):Fin t.length:=⟨e,c.he⟩
theorem I:Idm c.m c.E:=idm c.semi c.he c.ee
theorem inL_iff (x:Fin t.length):lcl t x=lcl t e↔InL c.m c.E x:=by
  rw [lcl_iff c.semi x.2 c.he]
  constructor
  · rintro ⟨h1,h2⟩
    have h1:=(llA_iff c.semi x c.E).2 h1
    have h2:=(llA_iff c.semi c.E x).2 h2
    refine ⟨?_,h1.elim (fun hh=>⟨c.E,by rw [←hh,c.I.ee]⟩) id⟩
    rcases h2 with hh|⟨s,hs⟩
    · rw [hh,c.I.ee]
    · rw [←hs,c.I.ac,c.I.ee]
  · rintro ⟨h1,h2⟩
    exact ⟨(llA_iff c.semi x c.E).1 (.inr h2),(llA_iff c.semi c.E x).1 (.inr ⟨x,h1⟩)⟩
theorem inR_iff (x:Fin t.length):rcl t x=rcl t e↔InR c.m c.E x:=by
  rw [rcl_iff c.semi x.2 c.he]
  constructor
  · rintro ⟨h1,h2⟩
    have h1:=(rrA_iff c.semi x c.E).2 h1
    have h2:=(rrA_iff c.semi c.E x).2 h2
    refine ⟨?_,h1.elim (fun hh=>⟨c.E,by rw [←hh,c.I.ee]⟩) id⟩
    rcases h2 with hh|⟨s,hs⟩
    · rw [hh,c.I.ee]
    · rw [←hs,←c.I.ac,c.I.ee]
  · rintro ⟨h1,h2⟩
    exact ⟨(rrA_iff c.semi x c.E).1 (.inr h2),(rrA_iff c.semi c.E x).1 (.inr ⟨x,h1⟩)⟩
theorem inH_iff (x:Fin t.length):(rcl t x=rcl t e∧lcl t x=lcl t e)↔InH c.m c.E x:=by
  rw [c.inR_iff,c.inL_iff]
  exact ⟨fun ⟨a,b⟩=>⟨a.l,b.r,b.l,a.r⟩,fun a=>⟨⟨a.l,a.ir⟩,⟨a.r,a.il⟩⟩⟩
theorem in_iff (x:Fin t.length):jcl t x=j↔(Up c.m c.E x∧∃a b,c.m (c.m a c.E) b=x):=by
  rw [←c.ej,classJ_iff c.semi x.2 c.he]
  constructor
  · rintro ⟨h1,h2⟩
    exact ⟨up_of c.semi c.he c.ee h1,down_of c.semi c.he c.ee h2⟩
  · rintro ⟨⟨a,b,h1⟩,⟨a',b',h2⟩⟩
    refine ⟨?_,?_⟩
    · have:=inJ_of c.semi (a:=a) (y:=x) (b:=b)
      rw [show mF t c.semi.toSh (mF t c.semi.toSh a x) b=c.E from h1] at this;exact this
    · have:=inJ_of c.semi (a:=a') (y:=c.E) (b:=b')
      rw [show mF t c.semi.toSh (mF t c.semi.toSh a' c.E) b'=x from h2] at this;exact this
theorem mem_rows {a:Int}:a∈rowsN t j↔∃x,x<t.length∧jcl t x=j∧rcl t x=a:=by
  unfold rowsN;rw [ascV_mem]
  constructor
  · rintro ⟨i,hi,hf,rfl⟩
    obtain ⟨x,hx,hd⟩:=List.any_eq_true.1 hf
    have:=(mem_elems c.hj).1 hx
    exact ⟨x.toNat,by omega,this.2.2,of_decide_eq_true hd⟩
  · rintro ⟨x,hx,h1,h2⟩
    have hv:=(valid_range (p:=classR t) (canon_idem _) (rcl t x)).2 (getD_mem (by rw [classR_len];exact hx))
    refine ⟨(rcl t x).toNat,by omega,List.any_eq_true.2 ⟨(x:Int),(mem_elems c.hj).2 ⟨by omega,by omega,h1⟩,decide_eq_true ?_⟩,by omega⟩
    rw [Int.toNat_natCast];omega
theorem mem_cols {a:Int}:a∈colsN t j↔∃x,x<t.length∧jcl t x=j∧lcl t x=a:=by
  unfold colsN;rw [ascV_mem]
  constructor
  · rintro ⟨i,hi,hf,rfl⟩
    obtain ⟨x,hx,hd⟩:=List.any_eq_true.1 hf
    have:=(mem_elems c.hj).1 hx
    exact ⟨x.toNat,by omega,this.2.2,of_decide_eq_true hd⟩
  · rintro ⟨x,hx,h1,h2⟩
    have hv:=(valid_range (p:=classL t) (canon_idem _) (lcl t x)).2 (getD_mem (by rw [classL_len];exact hx))
    refine ⟨(lcl t x).toNat,by omega,List.any_eq_true.2 ⟨(x:Int),(mem_elems c.hj).2 ⟨by omega,by omega,h1⟩,decide_eq_true ?_⟩,by omega⟩
    rw [Int.toNat_natCast];omega
theorem row_meets {a:Int} (ha:a∈rowsN t j):∃x,x<t.length∧jcl t x=j∧rcl t x=a∧lcl t x=lcl t e:=by
  obtain ⟨x,hx,h1,h2⟩:=(c.mem_rows).1 ha
  have h3:=(c.in_iff ⟨x,hx⟩).1 h1
  obtain ⟨r,g1,g2,g3⟩:=c.I.rowOf h3.1 h3.2
  have hl:=(c.inL_iff r).2 g1
  refine ⟨r,r.2,(lcl_j c.semi r.2 c.he hl).trans c.ej,?_,hl⟩
  rw [←h2]
  exact (rcl_iff c.semi r.2 hx).2 ⟨(rrA_iff c.semi r ⟨x,hx⟩).1 g2,(rrA_iff c.semi ⟨x,hx⟩ r).1 g3⟩
theorem col_meets {a:Int} (ha:a∈colsN t j):∃x,x<t.length∧jcl t x=j∧rcl t x=rcl t e∧lcl t x=a:=by
  obtain ⟨x,hx,h1,h2⟩:=(c.mem_cols).1 ha
  have h3:=(c.in_iff ⟨x,hx⟩).1 h1
  obtain ⟨r,g1,g2,g3⟩:=c.I.colOf h3.1 h3.2
  have hl:=(c.inR_iff r).2 g1
  refine ⟨r,r.2,(rcl_j c.semi r.2 c.he hl).trans c.ej,hl,?_⟩
  rw [←h2]
  exact (lcl_iff c.semi r.2 hx).2 ⟨(llA_iff c.semi r ⟨x,hx⟩).1 g2,(llA_iff c.semi ⟨x,hx⟩ r).1 g3⟩
theorem rI_ok {i:Nat} (hi:i<(rowsN t j).length):rI t j e i<t.length∧jcl t (rI t j e i)=j∧rcl t (rI t j e i)=(rowsN t j).getD i 0∧lcl t (rI t j e i)=lcl t e:=(lst_of c.hj (c.row_meets (getD_mem hi))).2.2
theorem qI_ok {l:Nat} (hl:l<(colsN t j).length):qI t j e l<t.length∧jcl t (qI t j e l)=j∧rcl t (qI t j e l)=rcl t e∧lcl t (qI t j e l)=(colsN t j).getD l 0:=(lst_of c.hj (c.col_meets (getD_mem hl))).2.2
theorem hLs_asc:hLs t j e=ascV t.length fun x=>decide (jcl t x=(j:Int))&&(decide (rcl t x=rcl t e)&&decide (lcl t x=lcl t e)):=hitJ_asc c.hj _ _
theorem mem_hLs {x:Nat}:setI (hLs t j e) x=true↔x<t.length∧rcl t x=rcl t e∧lcl t x=lcl t e:=by
  rw [setI_iff];unfold hLs;rw [mem_hit c.hj]
  exact ⟨fun h=>⟨h.1,h.2.2⟩,fun h=>⟨h.1,(rcl_j c.semi h.1 c.he h.2.1).trans c.ej,h.2⟩⟩
theorem hCl:ClL t (hLs t j e) where
  pos:=List.length_pos_of_mem (setI_iff.1 (c.mem_hLs.2 ⟨c.he,rfl,rfl⟩))
  asc:=by rw [c.hLs_asc];exact ascV_asc _ _
  ins:=fun x hx=>by rw [c.hLs_asc] at hx;exact ascV_in hx
  cl:=fun x y hx hy h1 h2=>by
    have h1:=(c.inH_iff ⟨x,hx⟩).1 (c.mem_hLs.1 h1).2
    have h2:=(c.inH_iff ⟨y,hy⟩).1 (c.mem_hLs.1 h2).2
    have h3:=(c.inH_iff _).2 (c.I.hmul h1 h2)
    exact c.mem_hLs.2 ⟨(c.semi.toSh.ent hx hy).2,h3⟩
theorem hlen:(hLs t j e).length≤t.length:=by rw [c.hLs_asc];exact ascV_len _ _
theorem gI_ok {g:Nat} (hg:g<(hLs t j e).length):gI t j e g<t.length∧rcl t (gI t j e g)=rcl t e∧lcl t (gI t j e g)=lcl t e:=by
  have:=c.hCl.el hg
  have h2:=c.mem_hLs.1 this.2.2
  exact h2
theorem hH {g:Nat} (hg:g<(hLs t j e).length):InH c.m c.E ⟨gI t j e g,(c.gI_ok hg).1⟩:=(c.inH_iff ⟨_,(c.gI_ok hg).1⟩).1 (c.gI_ok hg).2
theorem hRr {i:Nat} (hi:i<(rowsN t j).length):InL c.m c.E ⟨rI t j e i,(c.rI_ok hi).1⟩:=(c.inL_iff ⟨_,(c.rI_ok hi).1⟩).1 (c.rI_ok hi).2.2.2
theorem hQq {l:Nat} (hl:l<(colsN t j).length):InR c.m c.E ⟨qI t j e l,(c.qI_ok hl).1⟩:=(c.inR_iff ⟨_,(c.qI_ok hl).1⟩).1 (c.qI_ok hl).2.2.1
theorem grp:Grp (cooG t j e):=by
  refine ⟨sub_semi c.semi c.hCl c.hlen,?_⟩
  have pe:=pL_in (c.mem_hLs.2 ⟨c.he,rfl,rfl⟩)
  refine ⟨pL (hLs t j e) e,by unfold cooG;rw [subT_len];exact pe.2.1,fun x hx=>?_,fun x hx=>?_⟩
  · unfold cooG at hx ⊢
    rw [subT_len] at hx
    have ex:=c.hH hx
    have n1:en t e (eL (hLs t j e) x)=eL (hLs t j e) x:=congrArg Fin.val ex.l
    have n2:en t (eL (hLs t j e) x) e=eL (hLs t j e) x:=congrArg Fin.val ex.r
    rw [(sub_en c.hCl pe.2.1 hx).1,(sub_en c.hCl hx pe.2.1).1,pe.2.2,n1,n2,pL_el c.hCl hx]
    exact ⟨rfl,rfl⟩
  · unfold cooG at hx ⊢
    rw [subT_len] at hx
    obtain ⟨y,hy,h3,h4⟩:=c.I.hinv (c.hH hx)
    have my:=(c.inH_iff y).2 hy
    have py:=pL_in (c.mem_hLs.2 ⟨y.2,my⟩)
    have h3:en t (eL (hLs t j e) x) y=e:=congrArg Fin.val h3
    have h4:en t y (eL (hLs t j e) x)=e:=congrArg Fin.val h4
    refine ⟨pL (hLs t j e) y,by rw [subT_len];exact py.2.1,?_,?_⟩
    · rw [(sub_en c.hCl hx py.2.1).1,py.2.2,h3]
    · rw [(sub_en c.hCl py.2.1 hx).1,py.2.2,h4]
omit c in
theorem glen:(cooG t j e).length=(hLs t j e).length:=subT_len _ _
theorem tri_ok {i g l:Nat} (hi:i<(rowsN t j).length) (hg:g<(hLs t j e).length) (hl:l<(colsN t j).length):
    tri t j e i g l<t.length∧jcl t (tri t j e i g l)=j∧rcl t (tri t j e i g l)=(rowsN t j).getD i 0∧lcl t (tri t j e i g l)=(colsN t j).getD l 0:=by
  have r:=c.rI_ok hi
  have q:=c.qI_ok hl
  have gg:=c.gI_ok hg
  obtain ⟨⟨w,h1⟩,⟨v,h2⟩,h3⟩:=c.I.back (c.hRr hi) (c.hQq hl) (c.hH hg)
  have hlt:tri t j e i g l<t.length:=(c.semi.toSh.ent (c.semi.toSh.ent r.1 gg.1).2 q.1).2
  have e1:rcl t (tri t j e i g l)=rcl t (rI t j e i):=(rcl_iff c.semi hlt r.1).2 ⟨(rrA_iff c.semi ⟨_,hlt⟩ ⟨_,r.1⟩).1 (.inr ⟨w,h1⟩),(rrA_iff c.semi ⟨_,r.1⟩ ⟨_,hlt⟩).1 (.inr ⟨c.m ⟨_,gg.1⟩ ⟨_,q.1⟩,(c.I.ac _ _ _).symm⟩)⟩
  have e2:lcl t (tri t j e i g l)=lcl t (qI t j e l):=(lcl_iff c.semi hlt q.1).2 ⟨(llA_iff c.semi ⟨_,hlt⟩ ⟨_,q.1⟩).1 (.inr ⟨v,h2⟩),(llA_iff c.semi ⟨_,q.1⟩ ⟨_,hlt⟩).1 (.inr ⟨c.m ⟨_,r.1⟩ ⟨_,gg.1⟩,rfl⟩)⟩
  exact ⟨hlt,(rcl_j c.semi hlt r.1 e1).trans r.2.1,e1.trans r.2.2.1,e2.trans q.2.2.2⟩
omit c in
theorem rows_asc:Asc (rowsN t j):=ascV_asc _ _
omit c in
theorem cols_asc:Asc (colsN t j):=ascV_asc _ _
theorem tri_inj {i g l i' g' l':Nat} (hi:i<(rowsN t j).length) (hg:g<(hLs t j e).length) (hl:l<(colsN t j).length) (hi':i'<(rowsN t j).length) (hg':g'<(hLs t j e).length) (hl':l'<(colsN t j).length)
    (he:tri t j e i g l=tri t j e i' g' l'):i=i'∧g=g'∧l=l':=by
  have a:=c.tri_ok hi hg hl
  have b:=c.tri_ok hi' hg' hl'
  have ei:i=i':=asc_inj rows_asc hi hi' (by rw [←a.2.2.1,←b.2.2.1,he])
  have el:l=l':=asc_inj cols_asc hl hl' (by rw [←a.2.2.2,←b.2.2.2,he])
  subst ei;subst el
  have:=c.I.inj (c.hRr hi) (c.hQq hl) (c.hH hg) (c.hH hg') (Fin.ext he)
  exact ⟨rfl,eL_inj c.hCl hg hg' (congrArg Fin.val this),rfl⟩
theorem tri_all {x:Nat} (hx:x<t.length) (hc:jcl t x=j):∃i g l,i<(rowsN t j).length∧g<(hLs t j e).length∧l<(colsN t j).length∧tri t j e i g l=x:=by
  obtain ⟨i,hi,ei⟩:=mem_getD 0 (c.mem_rows.2 ⟨x,hx,hc,rfl⟩)
  obtain ⟨l,hl,el⟩:=mem_getD 0 (c.mem_cols.2 ⟨x,hx,hc,rfl⟩)
  have r:=c.rI_ok hi
  have q:=c.qI_ok hl
  have h3:=(c.in_iff ⟨x,hx⟩).1 hc
  have rx:=(rcl_iff c.semi r.1 hx).1 (r.2.2.1.trans ei)
  have qx:=(lcl_iff c.semi q.1 hx).1 (q.2.2.2.trans el)
  obtain ⟨g,hg,hgx⟩:=c.I.dec h3.1 (c.hRr hi) (c.hQq hl) ((rrA_iff c.semi ⟨_,r.1⟩ ⟨x,hx⟩).2 rx.1) ((llA_iff c.semi ⟨_,q.1⟩ ⟨x,hx⟩).2 qx.1)
  have mg:=(c.inH_iff g).2 hg
  have pg:=pL_in (c.mem_hLs.2 ⟨g.2,mg⟩)
  refine ⟨i,pL (hLs t j e) g,l,hi,pg.2.1,hl,?_⟩
  unfold tri gI;rw [pg.2.2]
  exact congrArg Fin.val hgx
end Coo
end Go.Proofs.YtjabhmhhhlcopaaGreatDoor
end
