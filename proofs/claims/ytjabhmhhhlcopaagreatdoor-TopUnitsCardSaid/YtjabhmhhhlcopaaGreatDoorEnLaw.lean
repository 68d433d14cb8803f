import Derived.Test.YtjabhmhhhlcopaaGreatDoorAwk
import Derived.Test.YtjabhmhhhlcopaaGreatDoorRefCgL
import Derived.Test.YtjabhmhhhlcopaaGreatDoorBase
section
namespace Go.Proofs.YtjabhmhhhlcopaaGreatDoor
open Classical
theorem map_range_getD {α:Type} (f:Nat→α) (n i:Nat) (d:α) (h:i<n):((List.range n).map f).getD i d=f i:=by
  simp [List.getD,h]
theorem take_snoc {α:Type} {l:List α} {i:Nat} {d:α} (h:i<l.length):l.take (i+1)=l.take i++[l.getD i d]:=by
  rw [List.take_succ_eq_append_getElem h];simp [List.getD,h]
theorem ext_getD {α:Type} {l m:List α} (d:α) (hl:l.length=m.length) (h:∀i,i<l.length→l.getD i d=m.getD i d):l=m:=by
  refine List.ext_getElem hl fun i h1 h2=>?_
  have:=h i h1
  simpa [List.getD,h1,h2] using this
end Go.Proofs.YtjabhmhhhlcopaaGreatDoor
end
section
namespace Go.Proofs.YtjabhmhhhlcopaaGreatDoor
open Go Go.AM
structure Perm (n:Nat) (p:List Int):Prop where
  len:p.length=n
  rng:∀x∈p,0≤x∧x<(n:Int)
  nd:p.Nodup
def cmpP (f g:List Int):List Int:=f.map fun y=>g.getD y.toNat 0
section
variable {n:Nat} {f g h:List Int}
theorem cmpP_len:(cmpP f g).length=f.length:=by simp [cmpP]
theorem cmpP_get {i:Nat} (hi:i<f.length):(cmpP f g).getD i 0=g.getD (f.getD i 0).toNat 0:=by simp [cmpP,List.getD,hi]
theorem Perm.at (hf:Perm n f) {i:Nat} (hi:i<n):0≤f.getD i 0∧f.getD i 0<(n:Int):=hf.rng _ (getD_mem (by rw [hf.len];exact hi))
theorem nodup_inj {l:List Int} (hl:l.Nodup) {i j:Nat} (hi:i<l.length) (hj:j<l.length) (e:l.getD i 0=l.getD j 0):i=j:=by
  rw [getD_eq hi,getD_eq hj] at e
  exact (List.getElem_inj hl).1 e
theorem perm_dis (n:Nat):Perm n (disI n):=⟨disI_len n,fun x hx=>mem_disI.1 hx,by
  refine List.nodup_iff_pairwise_ne.2 (List.pairwise_iff_getElem.2 fun a b ha hb hab=>?_)
  simp [disI]
  omega⟩
theorem Perm.cmp (hf:Perm n f) (hg:Perm n g):Perm n (cmpP f g):=by
  refine ⟨by rw [cmpP_len,hf.len],fun x hx=>?_,?_⟩
  · obtain ⟨y,hy,rfl⟩:=List.mem_map.1 hx
    have:=hf.rng y hy
    exact hg.at (by omega)
  · refine List.nodup_iff_pairwise_ne.2 (List.pairwise_iff_getElem.2 fun a b ha hb hab e=>?_)
    have hla:a<f.length:=by rw [cmpP_len] at ha;exact ha
    have hlb:b<f.length:=by rw [cmpP_len] at hb;exact hb
    have e:(cmpP f g).getD a 0=(cmpP f g).getD b 0:=by rw [getD_eq ha,getD_eq hb];exact e
    rw [cmpP_get hla,cmpP_get hlb] at e
    have h1:=hf.at (i:=a) (by rw [←hf.len];exact hla)
    have h2:=hf.at (i:=b) (by rw [←hf.len];exact hlb)
    have h3:=nodup_inj hg.nd (by rw [hg.len];omega) (by rw [hg.len];omega) e
    have h4:=nodup_inj hf.nd hla hlb (by omega)
    omega
end
end Go.Proofs.YtjabhmhhhlcopaaGreatDoor
end
section
namespace Go.Proofs.YtjabhmhhhlcopaaGreatDoor
open Go Go.AM
theorem gsn_lt {α:Type} {E:List α} {x d:α} {j:Nat} (h:j<E.length):(E++[x]).getD j d=E.getD j d:=by
  simp [List.getD,List.getElem?_append_left h]
theorem gsn_eq {α:Type} {E:List α} {x d:α}:(E++[x]).getD E.length d=x:=by simp [List.getD]
structure Trn (n:Nat) (f:List Int):Prop where
  len:f.length=n
  rng:∀x∈f,0≤x∧x<(n:Int)
section
variable {n:Nat} {f g h:List Int}
theorem Trn.at (hf:Trn n f) {i:Nat} (hi:i<n):0≤f.getD i 0∧f.getD i 0<(n:Int):=hf.rng _ (getD_mem (by rw [hf.len];exact hi))
theorem trn_dis (n:Nat):Trn n (disI n):=⟨disI_len n,fun _ hx=>mem_disI.1 hx⟩
theorem Trn.cmp (hf:Trn n f) (hg:Trn n g):Trn n (cmpP f g):=by
  refine ⟨by rw [cmpP_len,hf.len],fun x hx=>?_⟩
  obtain ⟨y,hy,rfl⟩:=List.mem_map.1 hx
  have:=hf.rng y hy
  exact hg.at (by omega)
theorem trn_assoc (hf:Trn n f) (hg:Trn n g):cmpP (cmpP f g) h=cmpP f (cmpP g h):=by
  refine ext_getD 0 (by rw [cmpP_len,cmpP_len,cmpP_len]) fun i hi=>?_
  rw [cmpP_len,cmpP_len] at hi
  have h1:=hf.at (i:=i) (by rw [←hf.len];exact hi)
  rw [cmpP_get (by rw [cmpP_len];exact hi),cmpP_get hi,cmpP_get hi,cmpP_get (by rw [hg.len];omega)]
theorem one_cmp (hg:Trn n g):cmpP (disI n) g=g:=by
  refine ext_getD 0 (by rw [cmpP_len,disI_len,hg.len]) fun i hi=>?_
  rw [cmpP_len,disI_len] at hi
  rw [cmpP_get (by rw [disI_len];exact hi),disI_get hi,Int.toNat_natCast]
theorem cmp_one (hf:Trn n f):cmpP f (disI n)=f:=by
  refine ext_getD 0 (by rw [cmpP_len]) fun i hi=>?_
  rw [cmpP_len] at hi
  have h1:=hf.at (i:=i) (by rw [←hf.len];exact hi)
  rw [cmpP_get hi,disI_get (by omega)];omega
end
def funL (n:Nat):Nat→List (List Int)
  |0=>[[]]
  |k+1=>(funL n k).flatMap fun l=>(disI n).map fun x=>x::l
theorem mem_fun {n:Nat}:∀{l:List Int},(∀x∈l,0≤x∧x<(n:Int))→l∈funL n l.length
  |[],_=>List.mem_singleton.2 rfl
  |a::l,hr=>List.mem_flatMap.2 ⟨l,mem_fun fun x hx=>hr x (List.mem_cons_of_mem _ hx),List.mem_map.2 ⟨a,mem_disI.2 (hr a (List.mem_cons_self ..)),rfl⟩⟩
theorem fun_few:∀n,n≤3→(funL n n).length≤27:=by decide+kernel
theorem trns_few {n:Nat} (hn:n≤3) {E:List (List Int)} (hd:E.Nodup) (hE:∀p∈E,Trn n p):E.length≤27:=by
  refine Nat.le_trans (nodup_sub hd (B:=funL n n) fun p hp=>?_) (fun_few n hn)
  have:=mem_fun (hE p hp).rng
  rw [(hE p hp).len] at this;exact this
def ixO:List (List Int)→List Int→Nat
  |[],_=>0|a::E,f=>if a=f then 0 else ixO E f+1
theorem ixO_mem {f:List Int}:∀{E:List (List Int)},f∈E→ixO E f<E.length∧E.getD (ixO E f) []=f
  |a::E,h=>by
   unfold ixO
   split
   · rename_i e;exact ⟨Nat.succ_pos _,e⟩
   · rename_i e
     have:=ixO_mem ((List.mem_cons.1 h).resolve_left fun e'=>e e'.symm)
     exact ⟨Nat.succ_lt_succ this.1,this.2⟩
theorem gnd_inj {E:List (List Int)} (hd:E.Nodup) {i j:Nat} (hi:i<E.length) (hj:j<E.length) (e:E.getD i []=E.getD j []):i=j:=by
  rw [getD_eq hi,getD_eq hj] at e
  exact (List.getElem_inj hd).1 e
theorem ixO_at {E:List (List Int)} (hd:E.Nodup) {i:Nat} (hi:i<E.length):ixO E (E.getD i [])=i:=
  have h:=ixO_mem (getD_mem (d:=[]) hi)
  gnd_inj hd h.1 hi h.2
def mapA:List (List Int)→Nat→List (List Int × Int)
  |[],_=>[]|a::E,k=>(a,(k:Int))::mapA E (k+1)
def mapO (E:List (List Int)):List (List Int × Int):=mapA E 0
theorem getM_mapA {f:List Int}:∀{E:List (List Int)} {k:Nat},getM (mapA E k) f=if f∈E then some ((k+ixO E f:Nat):Int) else none
  |[],_=>rfl
  |a::E,k=>by
   show (if a=f then some (k:Int) else getM (mapA E (k+1)) f)=_
   unfold ixO
   by_cases h:a=f
   · rw [if_pos h,if_pos (by rw [h];exact List.mem_cons_self ..),if_pos h];rfl
   · rw [if_neg h,getM_mapA,if_neg h]
     by_cases hm:f∈E
     · rw [if_pos hm,if_pos (List.mem_cons_of_mem _ hm),Nat.add_right_comm];rfl
     · rw [if_neg hm,if_neg fun hc=>(List.mem_cons.1 hc).elim (fun e=>h e.symm) hm]
theorem mapA_app {f:List Int}:∀{E:List (List Int)} {k:Nat},mapA (E++[f]) k=mapA E k++[(f,((k+E.length:Nat):Int))]
  |[],_=>rfl
  |a::E,k=>by
   show (a,(k:Int))::mapA (E++[f]) (k+1)=_
   rw [mapA_app,show k+1+E.length=k+(a::E).length by simp;omega];rfl
theorem getM_mapO {f:List Int} {E:List (List Int)}:getM (mapO E) f=if f∈E then some (ixO E f:Int) else none:=by
  unfold mapO;rw [getM_mapA,Nat.zero_add]
theorem setM_mapO {f:List Int} {E:List (List Int)} (h:f∉E):setM (mapO E) f (E.length:Int)=mapO (E++[f]):=by
  rw [setM_new (by rw [getM_mapO,if_neg h])]
  unfold mapO
  rw [mapA_app,Nat.zero_add]
structure EnS where
  E:List (List Int)
  P:List Int
  L:List Int
  W:List (List Int)
  B:List Int
  R:List (List Int)
  U:List (List Int × List Int)
  D:Nat
  S:List Int
  Q:List Int
abbrev ltr (x:Nat):List Int:=[97+(x:Int)]
abbrev aftE (R:List (List Int)) (b:Int) (x:Nat):Int:=(R.getD b.toNat []).getD x 0
def bgX (G:List (List Int)) (s:EnS) (x:Nat):EnS:=
  if G.getD x []∈s.E then { s with U:=s.U++[(ltr x,s.W.getD (ixO s.E (G.getD x [])) [])],S:=s.S++[(ixO s.E (G.getD x []):Int)] }
  else { s with E:=s.E++[G.getD x []],P:=s.P++[0],L:=s.L++[(x:Int)],W:=s.W++[ltr x],B:=s.B++[0],S:=s.S++[(s.E.length:Int)] }
def bgS (n:Nat):EnS:=⟨[disI n],[-1],[-1],[[]],[-1],[],[],0,[],[]⟩
def bgXs (n:Nat) (G:List (List Int)):Nat→EnS
  |0=>bgS n|k+1=>bgX G (bgXs n G k) k
def redB (s:EnS) (x:Nat):Bool:=
  decide (s.P.getD (aftE s.R (s.B.getD s.D 0) x).toNat 0=s.B.getD s.D 0)&&decide (s.L.getD (aftE s.R (s.B.getD s.D 0) x).toNat 0=(x:Int))
def enX (G:List (List Int)) (s:EnS) (x:Nat):EnS:=
  if cmpP (s.E.getD s.D []) (G.getD x [])∈s.E then
    { s with U:=if s.W.getD s.D []≠[]∧redB s x=true then s.U++[(s.W.getD s.D []++ltr x,s.W.getD (ixO s.E (cmpP (s.E.getD s.D []) (G.getD x []))) [])] else s.U,Q:=s.Q.set x (ixO s.E (cmpP (s.E.getD s.D []) (G.getD x [])):Int) }
  else { s with E:=s.E++[cmpP (s.E.getD s.D []) (G.getD x [])],P:=s.P++[(s.D:Int)],L:=s.L++[(x:Int)],W:=s.W++[s.W.getD s.D []++ltr x],B:=s.B++[aftE s.R (s.B.getD s.D 0) x],Q:=s.Q.set x (s.E.length:Int) }
def enXs (G:List (List Int)) (s:EnS):Nat→EnS
  |0=>{ s with Q:=List.replicate G.length 0 }|k+1=>enX G (enXs G s k) k
def enP (G:List (List Int)) (s:EnS):EnS:={ enXs G s G.length with R:=(enXs G s G.length).R++[(enXs G s G.length).Q],D:=(enXs G s G.length).D+1,Q:=[] }
def enI (n:Nat) (G:List (List Int)):Nat→EnS
  |0=>bgXs n G G.length|j+1=>enP G (enI n G j)
section
variable {n:Nat} {G:List (List Int)}
structure EnV (n:Nat) (G:List (List Int)) (k:Nat) (s:EnS):Prop where
  trn:∀f∈s.E,Trn n f
  nd:s.E.Nodup
  one:s.E.getD 0 []=disI n
  pos:0<s.E.length
  pl:s.P.length=s.E.length
  ll:s.L.length=s.E.length
  wl:s.W.length=s.E.length
  bl:s.B.length=s.E.length
  dl:s.D≤s.E.length
  rl:s.R.length=s.D
  sl:s.S.length=k
  row:∀i,i<s.D→(s.R.getD i []).length=G.length∧∀x,x<G.length→0≤aftE s.R i x∧aftE s.R i x<(s.E.length:Int)∧s.E.getD (aftE s.R i x).toNat []=cmpP (s.E.getD i []) (G.getD x [])
  p0:s.P.getD 0 0= -1
  l0:s.L.getD 0 0= -1
  w0:s.W.getD 0 []=[]
  wd:∀i,i<s.E.length→(s.W.getD i []).length≤i
  pre:∀i,0<i→i<s.E.length→(0≤s.P.getD i 0∧s.P.getD i 0<(i:Int))∧(0≤s.L.getD i 0∧s.L.getD i 0<(G.length:Int))∧(0≤s.B.getD i 0∧s.B.getD i 0<(i:Int))∧s.E.getD i []=cmpP (s.E.getD (s.P.getD i 0).toNat []) (G.getD (s.L.getD i 0).toNat [])
  sng:∀x,x<k→(0≤s.S.getD x 0∧s.S.getD x 0<(s.E.length:Int))∧G.getD x []∈s.E
theorem EnV.add {k:Nat} {s:EnS} (h:EnV n G k s) {f w:List Int} {p l b:Int} (hf:Trn n f) (hno:f∉s.E) (hp:0≤p∧p<(s.E.length:Int)) (hl:0≤l∧l<(G.length:Int)) (hb:0≤b∧b<(s.E.length:Int))
    (hw:w.length≤s.E.length) (he:f=cmpP (s.E.getD p.toNat []) (G.getD l.toNat [])):EnV n G k { s with E:=s.E++[f],P:=s.P++[p],L:=s.L++[l],W:=s.W++[w],B:=s.B++[b] }:=by
  have hpos:=h.pos
  refine ⟨fun g hg=>?_,?_,by rw [←h.one];exact gsn_lt h.pos,by simp,by simp [h.pl],by simp [h.ll],by simp [h.wl],by simp [h.bl],by have:=h.dl;simp;omega,h.rl,h.sl,fun i hi=>?_,?_,?_,?_,fun i hi=>?_,fun i h0 hi=>?_,fun x hx=>?_⟩
  · rcases List.mem_append.1 hg with hg|hg
    · exact h.trn g hg
    · rw [List.mem_singleton.1 hg];exact hf
  · rw [List.nodup_append]
    exact ⟨h.nd,List.pairwise_singleton _ _,fun a ha b hb e=>hno (by rw [List.mem_singleton] at hb;rw [←hb,←e];exact ha)⟩
  · obtain ⟨h1,h2⟩:=h.row i hi
    refine ⟨h1,fun x hx=>?_⟩
    obtain ⟨h3,h4,h5⟩:=h2 x hx
    have hd:=h.dl
    refine ⟨h3,by show aftE s.R i x<((s.E++[f]).length:Int);rw [List.length_append,List.length_singleton];omega,?_⟩
    show (s.E++[f]).getD (aftE s.R i x).toNat []=cmpP ((s.E++[f]).getD i []) (G.getD x [])
    rw [gsn_lt (by omega),gsn_lt (by have:i<s.D:=hi;omega),h5]
  · exact (gsn_lt (by rw [h.pl];exact hpos)).trans h.p0
  · exact (gsn_lt (by rw [h.ll];exact hpos)).trans h.l0
  · exact (gsn_lt (by rw [h.wl];exact hpos)).trans h.w0
  · show ((s.W++[w]).getD i []).length≤i
    by_cases e:i=s.E.length
    · subst e;rw [←h.wl,gsn_eq,h.wl];exact hw
    · have hi:i<(s.E++[f]).length:=hi
      simp at hi
      rw [gsn_lt (by rw [h.wl];omega)];exact h.wd i (by omega)
  · have hi:i<(s.E++[f]).length:=hi
    simp at hi
    show (0≤(s.P++[p]).getD i 0∧(s.P++[p]).getD i 0<(i:Int))∧(0≤(s.L++[l]).getD i 0∧(s.L++[l]).getD i 0<(G.length:Int))∧(0≤(s.B++[b]).getD i 0∧(s.B++[b]).getD i 0<(i:Int))∧(s.E++[f]).getD i []=cmpP ((s.E++[f]).getD ((s.P++[p]).getD i 0).toNat []) (G.getD ((s.L++[l]).getD i 0).toNat [])
    by_cases e:i=s.E.length
    · have e1:(s.P++[p]).getD i 0=p:=by rw [e,←h.pl];exact gsn_eq
      have e2:(s.L++[l]).getD i 0=l:=by rw [e,←h.ll];exact gsn_eq
      have e3:(s.B++[b]).getD i 0=b:=by rw [e,←h.bl];exact gsn_eq
      rw [e1,e2,e3,e,gsn_eq,gsn_lt (by omega)]
      exact ⟨hp,hl,hb,he⟩
    · have e1:(s.P++[p]).getD i 0=s.P.getD i 0:=gsn_lt (by rw [h.pl];omega)
      have e2:(s.L++[l]).getD i 0=s.L.getD i 0:=gsn_lt (by rw [h.ll];omega)
      have e3:(s.B++[b]).getD i 0=s.B.getD i 0:=gsn_lt (by rw [h.bl];omega)
      obtain ⟨h1,h2,h3,h4⟩:=h.pre i h0 (by omega)
      rw [e1,e2,e3,gsn_lt (by omega),gsn_lt (by omega)]
      exact ⟨h1,h2,h3,h4⟩
  · obtain ⟨h1,h2⟩:=h.sng x hx
    exact ⟨⟨h1.1,by show s.S.getD x 0<((s.E++[f]).length:Int);rw [List.length_append,List.length_singleton];omega⟩,List.mem_append_left _ h2⟩
theorem bgS_ok:EnV n G 0 (bgS n):=by
  refine ⟨fun f hf=>?_,List.pairwise_singleton _ _,rfl,Nat.succ_pos _,rfl,rfl,rfl,rfl,Nat.zero_le _,rfl,rfl,fun i hi=>absurd hi (Nat.not_lt_zero _),rfl,rfl,rfl,fun i hi=>?_,fun i h0 hi=>?_,fun x hx=>absurd hx (Nat.not_lt_zero _)⟩
  · rw [List.mem_singleton.1 hf];exact trn_dis n
  · have hi:i<1:=hi
    obtain rfl:i=0:=by omega
    exact Nat.le_refl _
  · have hi:i<1:=hi
    omega
theorem EnV.rul {k:Nat} {s:EnS} (h:EnV n G k s) (U:List (List Int × List Int)):EnV n G k { s with U:=U }:=⟨h.trn,h.nd,h.one,h.pos,h.pl,h.ll,h.wl,h.bl,h.dl,h.rl,h.sl,h.row,h.p0,h.l0,h.w0,h.wd,h.pre,h.sng⟩
theorem EnV.sgl {k:Nat} {s:EnS} (h:EnV n G k s) {i:Nat} (hi:i<s.E.length) (hg:G.getD k []∈s.E):EnV n G (k+1) { s with S:=s.S++[(i:Int)] }:=by
  refine ⟨h.trn,h.nd,h.one,h.pos,h.pl,h.ll,h.wl,h.bl,h.dl,h.rl,by simp [h.sl],h.row,h.p0,h.l0,h.w0,h.wd,h.pre,fun x hx=>?_⟩
  show (0≤(s.S++[(i:Int)]).getD x 0∧(s.S++[(i:Int)]).getD x 0<(s.E.length:Int))∧_
  by_cases e:x=k
  · rw [e,←h.sl,gsn_eq,h.sl];exact ⟨⟨by omega,by omega⟩,hg⟩
  · rw [gsn_lt (by rw [h.sl];omega)];exact h.sng x (by omega)
theorem EnV.qq {k:Nat} {s:EnS} (h:EnV n G k s) (q:List Int):EnV n G k { s with Q:=q }:=⟨h.trn,h.nd,h.one,h.pos,h.pl,h.ll,h.wl,h.bl,h.dl,h.rl,h.sl,h.row,h.p0,h.l0,h.w0,h.wd,h.pre,h.sng⟩
theorem bg_D {G:List (List Int)}:∀k,(bgXs n G k).D=0∧(bgXs n G k).U.length≤k∧(bgXs n G k).R=[]∧(bgXs n G k).Q=[]
  |0=>⟨rfl,Nat.zero_le _,rfl,rfl⟩
  |k+1=>by
   obtain ⟨h1,h2,h3,h4⟩:=bg_D (G:=G) k
   unfold bgXs bgX
   split
   · exact ⟨h1,by simp;omega,h3,h4⟩
   · exact ⟨h1,by show (bgXs n G k).U.length≤k+1;omega,h3,h4⟩
theorem bg_ok (hG:∀f∈G,Trn n f):∀k,k≤G.length→EnV n G k (bgXs n G k)
  |0,_=>bgS_ok
  |k+1,hk=>by
   have h:=bg_ok hG k (by omega)
   have hg:=hG _ (getD_mem (d:=[]) (l:=G) (i:=k) (by omega))
   have hl:=h.pos
   unfold bgXs bgX
   split
   · rename_i hm
     exact (h.rul ((bgXs n G k).U++[(ltr k,(bgXs n G k).W.getD (ixO (bgXs n G k).E (G.getD k [])) [])])).sgl (ixO_mem hm).1 hm
   · rename_i hm
     refine EnV.sgl (i:=(bgXs n G k).E.length) (h.add (f:=G.getD k []) (w:=ltr k) (p:=0) (l:=(k:Int)) (b:=0) hg hm ⟨by omega,by omega⟩ ⟨by omega,by omega⟩ ⟨by omega,by omega⟩ hl ?_) (by simp) (by simp)
     show G.getD k []=cmpP ((bgXs n G k).E.getD 0 []) (G.getD k [])
     rw [h.one,one_cmp hg]
theorem EnV.mul {s:EnS} (hG:∀f∈G,Trn n f) (h:EnV n G G.length s) (hD:s.D<s.E.length) {x:Nat} (hx:x<G.length) (hno:cmpP (s.E.getD s.D []) (G.getD x [])∉s.E):
    Trn n (cmpP (s.E.getD s.D []) (G.getD x []))∧0<s.D∧0≤s.B.getD s.D 0∧s.B.getD s.D 0<(s.D:Int)∧0≤aftE s.R (s.B.getD s.D 0) x∧aftE s.R (s.B.getD s.D 0) x<(s.E.length:Int):=by
  have hg:=hG _ (getD_mem (d:=[]) hx)
  have h0:0<s.D:=by
    rcases Nat.eq_zero_or_pos s.D with h0|h0
    · rw [h0,h.one,one_cmp hg] at hno;exact absurd (h.sng x hx).2 hno
    · exact h0
  obtain ⟨_,_,h3,_⟩:=h.pre s.D h0 hD
  have hr:=(h.row (s.B.getD s.D 0).toNat (by omega)).2 x hx
  exact ⟨(h.trn _ (getD_mem hD)).cmp hg,h0,h3.1,h3.2,hr.1,hr.2.1⟩
theorem EnV.red {s:EnS} (h:EnV n G G.length s) (hD:s.D<s.E.length) {x:Nat} (hx:x<G.length) (hw:s.W.getD s.D []≠[]):0≤s.B.getD s.D 0∧s.B.getD s.D 0<(s.D:Int)∧0≤aftE s.R (s.B.getD s.D 0) x∧aftE s.R (s.B.getD s.D 0) x<(s.E.length:Int):=by
  have h0:0<s.D:=by
    rcases Nat.eq_zero_or_pos s.D with h0|h0
    · rw [h0,h.w0] at hw;exact absurd rfl hw
    · exact h0
  obtain ⟨_,_,h3,_⟩:=h.pre s.D h0 hD
  have hr:=(h.row (s.B.getD s.D 0).toNat (by omega)).2 x hx
  exact ⟨h3.1,h3.2,hr.1,hr.2.1⟩
structure EnQ (G:List (List Int)) (k:Nat) (s:EnS):Prop where
  ql:s.Q.length=G.length
  qv:∀x,x<k→0≤s.Q.getD x 0∧s.Q.getD x 0<(s.E.length:Int)∧s.E.getD (s.Q.getD x 0).toNat []=cmpP (s.E.getD s.D []) (G.getD x [])
theorem gset_eq {l:List Int} {i:Nat} {v:Int} (h:i<l.length):(l.set i v).getD i 0=v:=by simp [List.getD,h]
theorem gset_ne {l:List Int} {i j:Nat} {v:Int} (h:j≠i):(l.set i v).getD j 0=l.getD j 0:=by simp [List.getD,List.getElem?_set_ne (Ne.symm h)]
theorem enX_ok (hG:∀f∈G,Trn n f) {s:EnS} {k:Nat} (hk:k<G.length) (h:EnV n G G.length s) (hD:s.D<s.E.length) (hq:EnQ G k s):
    EnQ G (k+1) (enX G s k)∧(enX G s k).D=s.D∧s.E.length≤(enX G s k).E.length∧(enX G s k).U.length≤s.U.length+1∧(enX G s k).R=s.R∧(enX G s k).S=s.S∧(enX G s k).E.getD s.D []=s.E.getD s.D []∧EnV n G G.length (enX G s k):=by
  unfold enX
  split
  · rename_i hm
    have hi:=ixO_mem hm
    refine ⟨⟨by simp [hq.ql],fun x hx=>?_⟩,rfl,Nat.le_refl _,?_,rfl,rfl,rfl,(h.rul (if s.W.getD s.D []≠[]∧redB s k=true then s.U++[(s.W.getD s.D []++ltr k,s.W.getD (ixO s.E (cmpP (s.E.getD s.D []) (G.getD k []))) [])] else s.U)).qq _⟩
    · show 0≤(s.Q.set k _).getD x 0∧(s.Q.set k _).getD x 0<(s.E.length:Int)∧s.E.getD ((s.Q.set k _).getD x 0).toNat []=_
      by_cases e:x=k
      · subst e
        rw [gset_eq (by rw [hq.ql];exact hk)]
        exact ⟨by omega,by omega,hi.2⟩
      · rw [gset_ne e];exact hq.qv x (by omega)
    · show List.length (if _ then _ else _)≤_
      split
      · simp
      · omega
  · rename_i hm
    obtain ⟨ht,h0,hb0,hb1,ha0,ha1⟩:=h.mul hG hD hk hm
    have hw:=h.wd s.D hD
    refine ⟨⟨by simp [hq.ql],fun x hx=>?_⟩,rfl,by simp,by simp,rfl,rfl,gsn_lt hD,?_⟩
    · show 0≤(s.Q.set k _).getD x 0∧(s.Q.set k _).getD x 0<((s.E++[_]).length:Int)∧(s.E++[_]).getD ((s.Q.set k _).getD x 0).toNat []=cmpP ((s.E++[_]).getD s.D []) _
      rw [gsn_lt hD]
      by_cases e:x=k
      · subst e
        rw [gset_eq (by rw [hq.ql];exact hk)]
        exact ⟨by omega,by rw [List.length_append,List.length_singleton];omega,gsn_eq⟩
      · rw [gset_ne e]
        obtain ⟨g1,g2,g3⟩:=hq.qv x (by omega)
        exact ⟨g1,by rw [List.length_append,List.length_singleton];omega,by rw [gsn_lt (by omega)];exact g3⟩
    · exact (h.add (f:=cmpP (s.E.getD s.D []) (G.getD k [])) (w:=s.W.getD s.D []++ltr k) (p:=(s.D:Int)) (l:=(k:Int)) (b:=aftE s.R (s.B.getD s.D 0) k) ht hm ⟨by omega,by have:s.D<s.E.length:=hD;omega⟩ ⟨by omega,by omega⟩ ⟨ha0,ha1⟩ (by show (s.W.getD s.D []++ltr k).length≤s.E.length;rw [List.length_append,List.length_singleton];omega) (by show cmpP _ _=cmpP (s.E.getD ((s.D:Int)).toNat []) (G.getD ((k:Int)).toNat []);rw [Int.toNat_natCast,Int.toNat_natCast])).qq _
theorem enXs_ok (hG:∀f∈G,Trn n f) {s:EnS} (h:EnV n G G.length s) (hD:s.D<s.E.length):∀k,k≤G.length→
    EnQ G k (enXs G s k)∧(enXs G s k).D=s.D∧s.E.length≤(enXs G s k).E.length∧(enXs G s k).U.length≤s.U.length+k∧(enXs G s k).R=s.R∧(enXs G s k).S=s.S∧EnV n G G.length (enXs G s k)
  |0,_=>⟨⟨by simp [enXs],fun x hx=>absurd hx (Nat.not_lt_zero _)⟩,rfl,Nat.le_refl _,Nat.le_refl _,rfl,rfl,h.qq _⟩
  |k+1,hk=>by
   obtain ⟨h1,h2,h3,h4,h5,h6,h7⟩:=enXs_ok hG h hD k (by omega)
   obtain ⟨g1,g2,g3,g4,g5,g6,_,g8⟩:=enX_ok hG (show k<G.length by omega) h7 (by omega) h1
   exact ⟨g1,g2.trans h2,by unfold enXs;omega,by unfold enXs;omega,g5.trans h5,g6.trans h6,g8⟩
theorem enP_ok (hG:∀f∈G,Trn n f) {s:EnS} (h:EnV n G G.length s) (hD:s.D<s.E.length):EnV n G G.length (enP G s)∧(enP G s).D=s.D+1∧(enP G s).U.length≤s.U.length+G.length∧(enP G s).S=s.S:=by
  obtain ⟨h1,h2,h3,h4,h5,h6,h7⟩:=enXs_ok hG h hD G.length (Nat.le_refl _)
  have hrl:=h7.rl
  refine ⟨⟨h7.trn,h7.nd,h7.one,h7.pos,h7.pl,h7.ll,h7.wl,h7.bl,by show (enXs G s G.length).D+1≤(enXs G s G.length).E.length;rw [h2];exact Nat.le_trans hD h3,by show List.length (_++[_])=_;rw [List.length_append,h7.rl];rfl,h7.sl,fun i hi=>?_,h7.p0,h7.l0,h7.w0,h7.wd,h7.pre,h7.sng⟩,by show (enXs G s G.length).D+1=_;rw [h2],h4,h6⟩
  have hi:i<(enXs G s G.length).D+1:=hi
  show (((enXs G s G.length).R++[(enXs G s G.length).Q]).getD i []).length=_∧∀x,x<G.length→0≤aftE ((enXs G s G.length).R++[(enXs G s G.length).Q]) i x∧aftE ((enXs G s G.length).R++[(enXs G s G.length).Q]) i x<((enXs G s G.length).E.length:Int)∧(enXs G s G.length).E.getD (aftE ((enXs G s G.length).R++[(enXs G s G.length).Q]) i x).toNat []=cmpP ((enXs G s G.length).E.getD i []) (G.getD x [])
  unfold aftE
  by_cases e:i=(enXs G s G.length).D
  · have e2:((enXs G s G.length).R++[(enXs G s G.length).Q]).getD i []=(enXs G s G.length).Q:=by rw [e,←hrl,gsn_eq]
    rw [Int.toNat_natCast,e2]
    exact ⟨h1.ql,fun x hx=>by rw [e];exact h1.qv x hx⟩
  · rw [Int.toNat_natCast,gsn_lt (by rw [hrl];omega)]
    exact h7.row i (by omega)
theorem enI_ok (hG:∀f∈G,Trn n f):∀j,(∀i,i<j→(enI n G i).D<(enI n G i).E.length)→EnV n G G.length (enI n G j)∧(enI n G j).D=j∧(enI n G j).U.length≤G.length*(j+1)
  |0,_=>by
   have h:=bg_D (n:=n) (G:=G) G.length
   exact ⟨bg_ok hG _ (Nat.le_refl _),h.1,by rw [Nat.zero_add,Nat.mul_one];exact h.2.1⟩
  |j+1,hj=>by
   obtain ⟨h1,h2,h3⟩:=enI_ok hG j fun i hi=>hj i (by omega)
   obtain ⟨g1,g2,g3,_⟩:=enP_ok hG h1 (hj j (by omega))
   exact ⟨g1,by show (enP G (enI n G j)).D=_;rw [g2,h2],by show (enP G (enI n G j)).U.length≤_;rw [Nat.mul_add];omega⟩
theorem EnV.closed {s:EnS} (h:EnV n G G.length s) (hf:s.D=s.E.length):∀f∈s.E,∀g∈s.E,cmpP f g∈s.E:=by
  have key:∀j,j<s.E.length→∀f∈s.E,cmpP f (s.E.getD j [])∈s.E:=by
    intro j
    induction j using Nat.strongRecOn with
    |ind j ih=>
     intro hj f hfm
     rcases Nat.eq_zero_or_pos j with e|e
     · rw [e,h.one,cmp_one (h.trn _ hfm)];exact hfm
     · obtain ⟨h1,h2,_,h4⟩:=h.pre j e hj
       have hp:=ih (s.P.getD j 0).toNat (by omega) (by omega) f hfm
       rw [h4,←trn_assoc (h.trn _ hfm) (h.trn _ (getD_mem (by omega)))]
       obtain ⟨i,hi,e2⟩:=mem_getD [] hp
       rw [←e2]
       obtain ⟨g1,g2,g3⟩:=(h.row i (by omega)).2 (s.L.getD j 0).toNat (by omega)
       rw [←g3]
       exact getD_mem (by omega)
  intro f hfm g hgm
  obtain ⟨j,hj,rfl⟩:=mem_getD [] hgm
  exact key j hj f hfm
def tabE (E:List (List Int)):List (List Int):=E.map fun f=>E.map fun g=>(ixO E (cmpP f g):Int)
theorem EnV.ent {s:EnS} (h:EnV n G G.length s) (hf:s.D=s.E.length) {i j:Nat} (hi:i<s.E.length) (h0:0<j) (hj:j<s.E.length):
    ixO s.E (cmpP (s.E.getD i []) (s.E.getD (s.P.getD j 0).toNat []))<s.E.length∧(ixO s.E (cmpP (s.E.getD i []) (s.E.getD j [])):Int)=(s.R.getD (ixO s.E (cmpP (s.E.getD i []) (s.E.getD (s.P.getD j 0).toNat []))) []).getD (s.L.getD j 0).toNat 0:=by
  have hc:=h.closed hf
  obtain ⟨h1,h2,_,h4⟩:=h.pre j h0 hj
  have hm:=ixO_mem (hc _ (getD_mem (d:=[]) hi) _ (getD_mem (d:=[]) (show (s.P.getD j 0).toNat<s.E.length by omega)))
  refine ⟨hm.1,?_⟩
  obtain ⟨g1,g2,g3⟩:=(h.row _ (show ixO s.E (cmpP (s.E.getD i []) (s.E.getD (s.P.getD j 0).toNat []))<s.D by rw [hf];exact hm.1)).2 (s.L.getD j 0).toNat (by omega)
  rw [hm.2,trn_assoc (h.trn _ (getD_mem hi)) (h.trn _ (getD_mem (by omega))),←h4] at g3
  unfold aftE at g1 g2 g3
  rw [Int.toNat_natCast] at g1 g2 g3
  have e3:=ixO_at h.nd (show ((s.R.getD (ixO s.E (cmpP (s.E.getD i []) (s.E.getD (s.P.getD j 0).toNat []))) []).getD (s.L.getD j 0).toNat 0).toNat<s.E.length by omega)
  rw [g3] at e3
  rw [e3]
  omega
end
end Go.Proofs.YtjabhmhhhlcopaaGreatDoor
end
