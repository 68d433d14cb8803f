import Derived.Test.YtjabhmhhhlcopaaGreatDoorBase
import Derived.Test.YtjabhmhhhlcopaaGreatDoorCmTz
import Derived.Test.YtjabhmhhhlcopaaGreatDoorCmCode
import Derived.Shelf.Strings.Builder1
import Derived.Test.YtjabhmhhhlcopaaGreatDoorProg
import Derived.Shelf.Spec.TrailingZeros
section
namespace Go.Proofs.YtjabhmhhhlcopaaGreatDoor
open Go Go.AM Go.CM
set_option maxRecDepth 100000
noncomputable section
def tzK (f:FuncId) (args:List CV) (s:HS):Option (CV × HS):=
  bt (Nat.beq f 239) (match args with
    |[]=>none
    |a::l=>(match l with|[]=>bo (asI a) fun p=>bt (kq p.1 .u64) (bo (natI p.2) fun n=>some (.c (.int .i64 (Lib.ctz 64 n)),s))|_::_=>none))
def ccH (k:Nat) (l:List CC) (g:Option (Nat × Nat)) (s:HS):Option (CV × HS):=
  match l with
  |[]=>none
  |a::l=>(match l with
   |[]=>none
   |x::l=>(match l with
    |_::_=>none
    |[]=>(match a with
     |.nilp=>(match g with|none=>none|some p=>bt (Nat.beq p.1 0) (bt (Nat.beq p.2 258) (some (.t [],s.put k (.cells [.ptr k 0,x] g)))))
     |.ptr k' o=>bt (Nat.beq k' k) (bt (Nat.beq o 0) (some (.t [],s)))
     |_=>none)))
def ccK (f:FuncId) (args:List CV) (s:HS):Option (CV × HS):=
  bt (Nat.beq f 268) (match args with
    |[]=>none
    |a::l=>(match l with|[]=>bo (asP a) fun p=>bt (Nat.beq p.2 0) (bo (cellsH s p.1) fun q=>ccH p.1 q.1 q.2 s)|_::_=>none))
def topK:Cal:=fun f args s=>match ccK f args s with|some r=>some r|none=>tzK f args s
abbrev KT:Kn:=⟨[],[(285,5)],topK⟩
end
set_option maxHeartbeats 0 in
theorem awake_run:okTrue (evF Tryz.prog TY TZ KT 1000 60 10 [] ⟨.lf,0,0,[]⟩)=true:=by decide+kernel
end Go.Proofs.YtjabhmhhhlcopaaGreatDoor
end
section
namespace Go.Proofs.YtjabhmhhhlcopaaGreatDoor
open Go
open Go.Shelf Go.RowKit
set_option maxHeartbeats 1000000 in
set_option maxRecDepth 100000 in
theorem cc_used (b:Nat) (w:World) (h0:w.cell? ⟨b,0,none⟩=some (.pointer (some ⟨b,0,none⟩))):
    Calls Tryz.prog 268 #[.pointer (some ⟨b,0,none⟩)] w fun e w'=>e= .returned (.tuple #[])∧w'=w:=by
  obtain ⟨j,hj,_⟩:∃j,Tryz.prog.info? 258=some j∧j.size=2:=Option.map_eq_some_iff.1 (show (Tryz.prog.info? 258).map (·.size)=some 2 by kernel_rfl)
  have mixed:Tryz.prog.follows .mixedOrders=true:=by kernel_rfl
  have t72:=Tryz.underlying258;have a72:=Tryz.isAgg258;have z72:=Tryz.sizeOf258;have u72:=run_underlying t72
  have t70:=Tryz.underlying256;have a70:=Tryz.isAgg256;have z70:=Tryz.sizeOf256;have u70:=run_underlying t70
  have t4:=Tryz.underlying4;have a4:=Tryz.isAgg4;have z4:=Tryz.sizeOf4;have u4:=run_underlying t4
  have t164:=Tryz.underlying304;have a164:=Tryz.isAgg304;have z164:=Tryz.sizeOf304;have u164:=run_underlying t164
  go_enter Tryz.func268,Tryz.ntmps268
  go_wp2
  rw [Lib.run_neq_ptr_same w _ t70 hj]
  go_wp2
  go_end0
  exact ⟨rfl,rfl⟩
set_option maxHeartbeats 1000000 in
set_option maxRecDepth 100000 in
theorem cc_fresh (b:Nat) (w:World) (h0:w.cell? ⟨b,0,none⟩=some (.pointer none)) (hsh:w.shape? b=some (258,2)) (hfz:w.frozen? ⟨b,0,none⟩=false):
    Calls Tryz.prog 268 #[.pointer (some ⟨b,0,none⟩)] w fun e w'=>e= .returned (.tuple #[])∧w'=w.setCell ⟨b,0,none⟩ (.pointer (some ⟨b,0,none⟩)):=by
  obtain ⟨j,hj,hjs⟩:∃j,Tryz.prog.info? 258=some j∧j.size=2:=Option.map_eq_some_iff.1 (show (Tryz.prog.info? 258).map (·.size)=some 2 by kernel_rfl)
  have mixed:Tryz.prog.follows .mixedOrders=true:=by kernel_rfl
  have lies:liesAt Tryz.prog Tryz.prog.depth 258 (2 / Tryz.prog.cellsOf 258) 0 258 1=true:=by kernel_rfl
  have t72:=Tryz.underlying258;have a72:=Tryz.isAgg258;have z72:=Tryz.sizeOf258;have u72:=run_underlying t72
  have t70:=Tryz.underlying256;have a70:=Tryz.isAgg256;have z70:=Tryz.sizeOf256;have u70:=run_underlying t70
  have t4:=Tryz.underlying4;have a4:=Tryz.isAgg4;have z4:=Tryz.sizeOf4;have u4:=run_underlying t4
  have t164:=Tryz.underlying304;have a164:=Tryz.isAgg304;have z164:=Tryz.sizeOf304;have u164:=run_underlying t164
  go_enter Tryz.func268,Tryz.ntmps268
  go_wp2
  rw [Lib.run_to_unsafe w ⟨b,0,none⟩ t70 t164 hj (by rw [hjs];decide) hsh (Nat.zero_lt_succ 1)]
  simp only [Result.andThen]
  rw [Oper.upon_value]
  go_wp2
  rw [run_callFunc_extern Tryz.func275 (by kernel_rfl) (by kernel_rfl) (by kernel_rfl) (e:=Extern.AbiNoEscape.same) (by kernel_rfl)]
  rw [Lib.run_noEscape]
  simp only [Result.andThen]
  rw [Oper.upon_value]
  go_wp2
  rw [Lib.run_from_unsafe w ⟨b,0,none⟩ t164 t70 hj hsh lies]
  simp only [Result.andThen]
  rw [Oper.upon_value]
  go_wp2
  go_end0
  exact ⟨rfl,rfl⟩
end Go.Proofs.YtjabhmhhhlcopaaGreatDoor
end
section
namespace Go.Proofs.YtjabhmhhhlcopaaGreatDoor
open Go Go.Shelf Go.Proofs
def tzL_ren:Go.Shelf.Ren:=⟨fun|29=>239|n=>n,fun|22=>169|3=>3|4=>4|25=>170|54=>289|0=>0|5=>5|n=>n,fun|1=>0|n=>n⟩
theorem tzL:Go.Proofs.Lays7.n29 Tryz.prog tzL_ren:={
  mixed:=by kernel_rfl,
  f29:=Tryz.func239.trans (congrArg some (by kernel_rfl)),
  t0:=Tryz.underlying0,
  a0:=Tryz.isAgg0,
  z0:=Tryz.sizeOf0,
  v0:=Tryz.zeroValue0,
  i0:=by kernel_rfl,
  t3:=Tryz.underlying3,
  a3:=Tryz.isAgg3,
  z3:=Tryz.sizeOf3,
  v3:=Tryz.zeroValue3,
  i3:=by kernel_rfl,
  t4:=Tryz.underlying4,
  a4:=Tryz.isAgg4,
  z4:=Tryz.sizeOf4,
  v4:=Tryz.zeroValue4,
  i4:=by kernel_rfl,
  t5:=Tryz.underlying5,
  a5:=Tryz.isAgg5,
  z5:=Tryz.sizeOf5,
  v5:=Tryz.zeroValue5,
  i5:=by kernel_rfl,
  t22:=Tryz.underlying169,
  a22:=Tryz.isAgg169,
  z22:=Tryz.sizeOf169,
  v22:=Tryz.zeroValue169,
  i22:=by kernel_rfl,
  t25:=Tryz.underlying170,
  a25:=Tryz.isAgg170,
  z25:=Tryz.sizeOf170,
  v25:=Tryz.zeroValue170,
  i25:=by kernel_rfl,
  t54:=Tryz.underlying289,
  a54:=Tryz.isAgg289,
  z54:=Tryz.sizeOf289,
  g1:=by kernel_rfl }
end Go.Proofs.YtjabhmhhhlcopaaGreatDoor
end
section
namespace Go.Proofs.YtjabhmhhhlcopaaGreatDoor
open Classical
theorem mem_of_getD {α:Type} {l:List α} {i:Nat} {d:α} (h:i<l.length):l.getD i d∈l:=by
  simp [List.getD,h]
def en (t:List (List Int)) (x y:Nat):Nat:=((t.getD x []).getD y 0).toNat
def rowOk (n:Nat) (r:List Int):Prop:=r.length=n∧∀x∈r,0≤x∧x<n
structure Sh (t:List (List Int)):Prop where
  pos:0<t.length
  most:t.length≤400
  row:∀r∈t,rowOk t.length r
noncomputable def shapeV (t:List (List Int)):Int:=if t.length>400 then 3 else if t.length=0 then 4 else if ∀r∈t,rowOk t.length r then 0 else 4
theorem shape_zero {t:List (List Int)}:shapeV t=0↔Sh t:=by
  unfold shapeV
  split
  · exact ⟨fun h=>by omega,fun h=>absurd h.most (by omega)⟩
  · split
    · exact ⟨fun h=>by omega,fun h=>absurd h.pos (by omega)⟩
    · split
      · rename_i h1 h2 h3;exact ⟨fun _=>⟨by omega,by omega,h3⟩,fun _=>rfl⟩
      · rename_i h3;exact ⟨fun h=>by omega,fun h=>absurd h.row h3⟩
theorem Sh.len {t:List (List Int)} (h:Sh t) {x:Nat} (hx:x<t.length):(t.getD x []).length=t.length:=by
  refine (h.row _ ?_).1
  simp [List.getD,hx]
theorem Sh.ent {t:List (List Int)} (h:Sh t) {x y:Nat} (hx:x<t.length) (hy:y<t.length):(t.getD x []).getD y 0=(en t x y:Int)∧en t x y<t.length:=by
  have hm:t.getD x []∈t:=by simp [List.getD,hx]
  obtain ⟨hl,hall⟩:=h.row _ hm
  have hy':y<(t.getD x []).length:=by rw [hl];exact hy
  have hmem:(t.getD x []).getD y 0∈t.getD x []:=mem_of_getD hy'
  have:=hall _ hmem
  unfold en
  omega
def Lt (t:List (List Int)) (g:Nat):Prop:=∀x y,x<t.length→y<t.length→en t (en t x g) y=en t x (en t g y)
def Assoc (t:List (List Int)):Prop:=∀g,g<t.length→Lt t g
theorem assoc3 {t:List (List Int)} (h:Assoc t) {x y z:Nat} (hx:x<t.length) (hy:y<t.length) (hz:z<t.length):en t (en t x y) z=en t x (en t y z):=h y hy x z hx hz
noncomputable def lightB (t:List (List Int)) (gens:List Int):Bool:=decide (∀g∈gens,Lt t g.toNat)
theorem lightB_true {t:List (List Int)} {gens:List Int}:lightB t gens=true↔∀g∈gens,Lt t g.toNat:=by unfold lightB;exact decide_eq_true_iff
theorem lightB_false {t:List (List Int)} {gens:List Int}:lightB t gens=false↔¬∀g∈gens,Lt t g.toNat:=by unfold lightB;exact decide_eq_false_iff_not
inductive Mk (t:List (List Int)) (gens:List Int):Nat→Prop
  |gen {g:Int} (h:g∈gens):Mk t gens g.toNat
  |mul {a b:Nat} (ha:Mk t gens a) (hb:Mk t gens b):Mk t gens (en t a b)
theorem Mk.mono {t:List (List Int)} {g h:List Int} (hs:∀x∈g,x∈h) {a:Nat} (m:Mk t g a):Mk t h a:=by
  induction m with
  |gen hm=>exact .gen (hs _ hm)
  |mul _ _ ih1 ih2=>exact .mul ih1 ih2
structure Spans (t:List (List Int)) (gens:List Int):Prop where
  el:∀g∈gens,0≤g∧g<t.length
  all:∀x,x<t.length→Mk t gens x
theorem Mk.lt {t:List (List Int)} {gens:List Int} (h:Sh t) (hg:∀g∈gens,0≤g∧g<t.length) {a:Nat} (m:Mk t gens a):a<t.length:=by
  induction m with
  |gen hm=>have:=hg _ hm;omega
  |mul _ _ h1 h2=>exact (h.ent h1 h2).2
theorem Mk.light {t:List (List Int)} {gens:List Int} (h:Sh t) (hg:∀g∈gens,0≤g∧g<t.length) (hl:∀g∈gens,Lt t g.toNat) {a:Nat} (m:Mk t gens a):Lt t a:=by
  induction m with
  |gen hm=>exact hl _ hm
  |mul h1 h2 ih1 ih2=>
   rename_i a b
   intro x y hx hy
   have ha:=h1.lt h hg
   have hb:=h2.lt h hg
   rw [←ih1 x b hx hb,ih2 (en t x a) y (h.ent hx ha).2 hy,ih1 x (en t b y) hx (h.ent hb hy).2,←ih2 a y ha hy]
theorem light_assoc {t:List (List Int)} {gens:List Int} (h:Sh t) (hs:Spans t gens):lightB t gens=true↔Assoc t:=by
  unfold lightB
  rw [decide_eq_true_iff]
  constructor
  · intro hl g hg;exact (hs.all g hg).light h hs.el hl
  · intro ha g hg;exact ha _ (by have:=hs.el g hg;omega)
noncomputable def validV (t:List (List Int)):Int:=if shapeV t≠0 then shapeV t else if Assoc t then 0 else 5
structure Semi (t:List (List Int)):Prop extends Sh t where
  assoc:Assoc t
theorem valid_zero {t:List (List Int)}:validV t=0↔Semi t:=by
  unfold validV
  split
  · rename_i h;exact ⟨fun h'=>absurd h' h,fun h'=>absurd (shape_zero.2 h'.toSh) h⟩
  · rename_i h
    have h:shapeV t=0:=Classical.byContradiction h
    split
    · rename_i ha;exact ⟨fun _=>⟨shape_zero.1 h,ha⟩,fun _=>rfl⟩
    · rename_i ha;exact ⟨fun h'=>by omega,fun h'=>absurd h'.assoc ha⟩
def Neutral (t:List (List Int)) (e:Nat):Prop:=∀x,x<t.length→en t e x=x∧en t x e=x
noncomputable def idV (t:List (List Int)):Int:=if h:∃e:Nat,e<t.length∧Neutral t e then ((Classical.choose h:Nat):Int) else -1
theorem neutral_unique {t:List (List Int)} {e f:Nat} (he:e<t.length) (hf:f<t.length) (h:Neutral t e) (h':Neutral t f):e=f:=by
  rw [←(h' e he).1,(h f hf).2]
theorem id_of {t:List (List Int)} {e:Nat} (he:e<t.length) (h:Neutral t e):idV t=e:=by
  have hx:∃e:Nat,e<t.length∧Neutral t e:=⟨e,he,h⟩
  unfold idV
  rw [dif_pos hx]
  have:=Classical.choose_spec hx
  rw [neutral_unique this.1 he this.2 h]
theorem id_none {t:List (List Int)} (h:∀e,e<t.length→¬Neutral t e):idV t= -1:=by
  unfold idV
  rw [dif_neg]
  rintro ⟨e,he,hn⟩
  exact h e he hn
theorem id_cases (t:List (List Int)):(∃e:Nat,e<t.length∧Neutral t e∧idV t=e)∨((∀e,e<t.length→¬Neutral t e)∧idV t= -1):=by
  by_cases h:∃e:Nat,e<t.length∧Neutral t e
  · obtain ⟨e,he,hn⟩:=h
    exact .inl ⟨e,he,hn,id_of he hn⟩
  · have h':∀e,e<t.length→¬Neutral t e:=fun e he hn=>h ⟨e,he,hn⟩
    exact .inr ⟨h',id_none h'⟩
def Inv (t:List (List Int)) (e x y:Nat):Prop:=en t x y=e∧en t y x=e
structure Grp (t:List (List Int)):Prop extends Semi t where
  inv:∃e:Nat,e<t.length∧Neutral t e∧∀x,x<t.length→∃y,y<t.length∧Inv t e x y
noncomputable def grpB (t:List (List Int)):Bool:=decide (Grp t)
theorem grpB_true {t:List (List Int)}:grpB t=true↔Grp t:=by unfold grpB;exact decide_eq_true_iff
theorem grpB_false {t:List (List Int)}:grpB t=false↔¬Grp t:=by unfold grpB;exact decide_eq_false_iff_not
theorem inv_right {t:List (List Int)} (h:Semi t) {e x y z:Nat} (he:Neutral t e) (hx:x<t.length) (hy:y<t.length) (hz:z<t.length) (hi:Inv t e x z) (hr:en t x y=e):y=z:=by
  have h1:=assoc3 h.assoc hz hx hy
  rw [hi.2,hr,(he y hy).1,(he z hz).2] at h1
  exact h1
end Go.Proofs.YtjabhmhhhlcopaaGreatDoor
end
section
namespace Go.Proofs.YtjabhmhhhlcopaaGreatDoor
open Go Go.AM
set_option maxRecDepth 100000
theorem shape_bad {t:List (List Int)} (h:¬400<(t.length:Int)) (k:Nat) (hk:k<t.length) (hb:¬rowOk t.length (t.getD k [])):4=shapeV t:=by
  unfold shapeV
  rw [if_neg (by omega),if_neg (by omega),if_neg]
  intro hall
  exact hb (hall _ (by simp [List.getD,hk]))
theorem shape_k (t:List (List Int)):fnK TY SP Tryz.f121 [.ro (.rows .i64 t)] (.int .i64 (shapeV t)):=by
  refine And.intro (fun h=>?_) (fun h=>?_)
  · refine And.intro (show (3:Int)=shapeV t from ?_) trivial
    unfold shapeV;rw [if_pos (by omega)]
  refine And.intro (fun h1=>?_) (fun h1=>?_)
  · refine And.intro (show (4:Int)=shapeV t from ?_) trivial
    unfold shapeV;rw [if_neg (by omega),if_pos (by omega)]
  refine Exists.intro []<|lp (X:=Nat) (fun k=>[(15,.int .i64 k)]) (fun _=>[]) (fun k=>k≤t.length∧∀j,j<k→rowOk t.length (t.getD j [])) (fun k=>t.length - k) 0 ⟨Nat.zero_le _,by simp⟩ ⟨⟨rfl,trivial⟩,trivial⟩ fun k hk=>?_
  refine And.intro (fun h2=>?_) (fun h2=>?_)
  · refine And.intro ⟨by omega,by omega⟩ ?_
    refine And.intro (fun h3=>?_) (fun h3=>?_)
    · refine And.intro (show (4:Int)=shapeV t from ?_) trivial
      exact shape_bad (by omega) k (by omega) (fun hr=>h3 (by have:=hr.1;simp only [Int.toNat_natCast];exact_mod_cast this))
    · simp only [Int.toNat_natCast] at h3
      refine Exists.intro []<|lp (X:=Nat) (fun i=>[(26,.int .i64 i)]) (fun _=>[]) (fun i=>i≤t.length∧∀j,j<i→0≤(t.getD k []).getD j 0∧(t.getD k []).getD j 0<t.length) (fun i=>t.length - i) 0 ⟨Nat.zero_le _,by simp⟩ ⟨⟨rfl,trivial⟩,trivial⟩ fun i hi=>?_
      refine And.intro (fun h4=>?_) (fun h4=>?_)
      · simp only [Int.toNat_natCast] at h4
        refine And.intro ⟨by omega,by simp only [Int.toNat_natCast];omega⟩ ?_
        have hm:(t.getD k []).getD i 0∈t.getD k []:=getD_mem (by omega)
        refine And.intro (fun h5=>?_) (fun h5=>?_)
        · refine And.intro (show (4:Int)=shapeV t from ?_) trivial
          refine shape_bad (by omega) k (by omega) (fun hr=>?_)
          have h6:=hr.2 _ hm
          simp only [Int.toNat_natCast] at h5
          omega
        · refine And.intro (fun h6=>?_) (fun h6=>?_)
          · refine And.intro (show (4:Int)=shapeV t from ?_) trivial
            refine shape_bad (by omega) k (by omega) (fun hr=>?_)
            have h7:=hr.2 _ hm
            simp only [Int.toNat_natCast] at h6
            omega
          · refine And.intro ⟨by omega,by omega⟩ ?_
            refine nx (i+1) ⟨by omega,fun j hj=>?_⟩ (show t.length - (i+1)<t.length - i by omega) ⟨⟨rfl,trivial⟩,trivial⟩
            by_cases hji:j<i
            · exact hi.2 j hji
            · have:j=i:=by omega
              subst this
              exact ⟨h5,h6⟩
      · simp only [Int.toNat_natCast] at h4
        refine And.intro ⟨by omega,by omega⟩ ?_
        refine nx (k+1) ⟨by omega,fun j hj=>?_⟩ (show t.length - (k+1)<t.length - k by omega) ⟨⟨rfl,trivial⟩,trivial⟩
        by_cases hjk:j<k
        · exact hk.2 j hjk
        · have:j=k:=by omega
          subst this
          refine ⟨by omega,fun x hx=>?_⟩
          obtain ⟨q,hq,rfl⟩:=mem_getD 0 hx
          exact hi.2 q (by omega)
  · refine And.intro (show (0:Int)=shapeV t from ?_) trivial
    unfold shapeV
    rw [if_neg (by omega),if_neg (by omega),if_pos]
    intro r hr
    obtain ⟨j,hj,rfl⟩:=mem_getD [] hr
    exact hk.2 j (by omega)
theorem shape_fn (t:List (List Int)):QF 121 [.ro (.rows .i64 t)] (.int .i64 (shapeV t)):=mkQ Tryz.func121 (by decide+kernel) rfl (Nat.le_of_ble_eq_true rfl) fun _=>shape_k t
theorem light_no {t:List (List Int)} (_hs:Sh t) {gens:List Int} (_hg:∀g∈gens,0≤g∧g<t.length) {k x y:Nat} (hk:k<gens.length) (hx:x<t.length) (hy:y<t.length)
    (h:en t (en t x (gens.getD k 0).toNat) y≠en t x (en t (gens.getD k 0).toNat y)):false=lightB t gens:=by
  symm
  rw [lightB_false]
  intro hall
  exact h (hall _ (getD_mem hk) x y hx hy)
theorem associates_k (t:List (List Int)) (gens:List Int) (hs:Sh t) (hg:∀g∈gens,0≤g∧g<t.length) (hgl:gens.length≤140737488355328):
    fnK TY SP Tryz.f122 [.ro (.rows .i64 t),.ro (.ints .i64 gens)] (.bool (.v (lightB t gens))):=by
  have hpos:=hs.pos
  have hmost:=hs.most
  refine And.intro (by omega) ?_
  refine And.intro (by omega) ?_
  refine Exists.intro []<|lp2 (fun k (tr:List Bool)=>[(18,.int .i64 (k:Nat))]) (fun k tr=>[(15,.vec 0 (.bools tr) [])]) (fun k tr=>k≤gens.length∧tr.length=t.length∧(∀j,j<k→Lt t (gens.getD j 0).toNat)∧∀g,tr.getD g false=true→Lt t g) (fun k tr=>gens.length - k) 0 (List.replicate t.length false) ?_ ⟨⟨rfl,trivial⟩,⟨⟨by omega,by simp⟩,rfl⟩,trivial⟩ ?_
  · exact ⟨Nat.zero_le _,by simp,by simp,fun g h=>by simp [List.getD,List.getElem?_replicate] at h;split at h<;>simp at h⟩
  rintro k tr ⟨hk,htr,hL,hT⟩
  refine And.intro (fun h1=>?_) (fun h1=>?_)
  · refine And.intro (by omega) ?_
    have hkl:k<gens.length:=by omega
    have g1:0≤gens.getD (k:Int).toNat 0∧gens.getD (k:Int).toNat 0<t.length:=hg _ (getD_mem (by simp;omega))
    have g2:(gens.getD (k:Int).toNat 0).toNat<t.length:=by omega
    refine And.intro (by omega) ?_
    refine And.intro (fun h2=>?_) (fun h2=>?_)
    · refine And.intro (by omega) ?_
      refine nx (k+1,tr) ⟨by omega,htr,fun j hj=>?_,hT⟩ (show gens.length - (k+1)<gens.length - k by omega) ⟨⟨rfl,trivial⟩,⟨⟨by omega,by omega⟩,rfl⟩,trivial⟩
      by_cases hjk:j<k
      · exact hL j hjk
      · obtain rfl:j=k:=by omega
        exact hT _ (by simpa using h2)
    · refine And.intro (by omega) ?_
      refine And.intro (by omega) ?_
      refine Exists.intro []<|lp (X:=Nat) (fun x=>[(31,.int .i64 x)]) (fun _=>[]) (fun x=>x≤t.length∧∀x' y,x'<x→y<t.length→en t (en t x' (gens.getD (k:Int).toNat 0).toNat) y=en t x' (en t (gens.getD (k:Int).toNat 0).toNat y)) (fun x=>t.length - x) 0 ⟨Nat.zero_le _,by omega⟩ ⟨⟨rfl,trivial⟩,⟨⟨by omega,by simp⟩,rfl⟩,trivial⟩ ?_
      rintro x ⟨hx,hX⟩
      refine And.intro (fun h3=>?_) (fun h3=>?_)
      · have hxl:x<t.length:=by omega
        have hrl:=hs.len hxl
        have a1:=hs.ent hxl g2
        refine And.intro (by omega) ?_
        refine And.intro (by simp only [Int.toNat_natCast] at*;omega) ?_
        refine And.intro (by simp only [Int.toNat_natCast] at*;omega) ?_
        refine And.intro (by omega) ?_
        refine Exists.intro []<|lp (X:=Nat) (fun y=>[(47,.int .i64 y)]) (fun _=>[]) (fun y=>y≤t.length∧∀y',y'<y→en t (en t x (gens.getD (k:Int).toNat 0).toNat) y'=en t x (en t (gens.getD (k:Int).toNat 0).toNat y')) (fun y=>t.length - y) 0 ⟨Nat.zero_le _,by omega⟩ ⟨⟨rfl,trivial⟩,⟨⟨by omega,by simp⟩,rfl⟩,trivial⟩ ?_
        rintro y ⟨hy,hY⟩
        have hgl2:=hs.len g2
        refine And.intro (fun h4=>?_) (fun h4=>?_)
        · have hyl:y<t.length:=by omega
          have b1:=hs.ent g2 hyl
          have b2:=hs.ent a1.2 hyl
          have b3:=hs.ent hxl b1.2
          have hll:=hs.len a1.2
          refine And.intro (by omega) ?_
          refine Or.inl<|Exists.intro [false,false,false,false,false,false,false,false,false] (And.intro (by decide+kernel) ?_)
          refine And.intro (show 0≤(y:Int)∧(y:Int)<((t.getD (en t x (gens.getD (k:Int).toNat 0).toNat) []).length:Int) by omega) ?_
          refine And.intro (by simp only [Int.toNat_natCast] at*;omega) ?_
          refine And.intro (fun h5=>?_) (fun h5=>?_)
          · refine And.intro (light_no hs hg hkl hxl hyl fun he=>h5 ?_) trivial
            show (t.getD (en t x (gens.getD (k:Int).toNat 0).toNat) []).getD y 0=(t.getD x []).getD (en t (gens.getD (k:Int).toNat 0).toNat y) 0
            rw [b2.1,b3.1]
            exact congrArg _ he
          · refine And.intro (by omega) ?_
            refine nx (y+1) ⟨by omega,fun y' hy'=>?_⟩ (show t.length - (y+1)<t.length - y by omega) ⟨⟨rfl,trivial⟩,⟨⟨by omega,by omega⟩,rfl⟩,trivial⟩
            by_cases hyy:y'<y
            · exact hY y' hyy
            · obtain rfl:y'=y:=by omega
              have h5:(t.getD (en t x (gens.getD (k:Int).toNat 0).toNat) []).getD y' 0=(t.getD x []).getD (en t (gens.getD (k:Int).toNat 0).toNat y') 0:=h5
              rw [b2.1,b3.1] at h5
              exact_mod_cast h5
        · refine And.intro (by omega) ?_
          refine nx (x+1) ⟨by omega,fun x' y hx' hy=>?_⟩ (show t.length - (x+1)<t.length - x by omega) ⟨⟨rfl,trivial⟩,⟨⟨by omega,by simp⟩,rfl⟩,trivial⟩
          by_cases hxx:x'<x
          · exact hX x' y hxx hy
          · obtain rfl:x'=x:=by omega
            exact hY y (by omega)
      · refine And.intro (by omega) ?_
        refine nx (k+1,tr.set (gens.getD (k:Int).toNat 0).toNat true) ⟨by omega,by simp [htr],fun j hj=>?_,fun g hgt=>?_⟩ (show gens.length - (k+1)<gens.length - k by omega) ⟨⟨rfl,trivial⟩,⟨⟨by omega,by omega⟩,rfl⟩,trivial⟩
        · by_cases hjk:j<k
          · exact hL j hjk
          · obtain rfl:j=k:=by omega
            intro x' y' hx' hy'
            exact hX x' y' (by omega) hy'
        · by_cases hge:g=(gens.getD (k:Int).toNat 0).toNat
          · subst hge
            intro x' y' hx' hy'
            exact hX x' y' (by omega) hy'
          · refine hT g ?_
            rwa [getD_set_ne (Ne.symm hge)] at hgt
  · refine And.intro ?_ trivial
    show true=lightB t gens
    symm
    rw [lightB_true]
    intro g hgm
    obtain ⟨j,hj,rfl⟩:=mem_getD 0 hgm
    exact hL j (by omega)
theorem associates_fn (t:List (List Int)) (gens:List Int) (hs:Sh t) (hg:∀g∈gens,0≤g∧g<t.length):
    QF 122 [.ro (.rows .i64 t),.ro (.ints .i64 gens)] (.bool (.v (lightB t gens))):=
  mkQ Tryz.func122 (by decide+kernel) rfl (Nat.le_of_ble_eq_true rfl) fun hf=>associates_k t gens hs hg hf.2.1.1
def addMade (inn:List Bool) (made:List Int) (x:Nat):List Int:=if inn.getD x false=true then made else made++[(x:Int)]
theorem add_k (x:Nat) (inn:List Bool) (made:List Int) (wm:Nat) (hx:x<inn.length) (hm:made.length<100000) (hw:wm≤made.length):
    fnMK TY SP Tryz.f190 [.int .i64 x,.ptr 1000 0,.ptr 1001 0] [(1000,.box [.vec 1002]),(1002,.vec 0 (.bools inn) []),(1001,.box [.vec 501]),(501,.vec wm (.ints .i64 made) [])] (.tup [])
      [(1000,.box [.vec 1002]),(1002,.vec 0 (.bools (inn.set x true)) []),(1001,.box [.vec 501]),(501,.vec wm (.ints .i64 (addMade inn made x)) [])]:=by
  refine And.intro (by omega) ?_
  refine And.intro (fun h1=>?_) (fun h1=>?_)
  · have h1:inn.getD x false=false:=by simpa using h1
    refine And.intro (by omega) ?_
    refine And.intro (by omega) ?_
    refine And.intro (by simp;omega) ?_
    have e:addMade inn made x=made++[(x:Int)]:=by unfold addMade;rw [h1];rfl
    rw [e]
    refine And.intro ⟨⟨⟨rfl,trivial,trivial⟩,trivial⟩,⟨⟨by omega,by simp [RO.len]⟩,rfl⟩,⟨⟨rfl,trivial,trivial⟩,trivial⟩,⟨⟨by omega,by simp [RO.len];omega⟩,rfl⟩,trivial⟩ trivial
  · have h1:inn.getD x false=true:=by simpa using h1
    have e:addMade inn made x=made:=by unfold addMade;rw [h1];rfl
    have e2:inn.set x true=inn:=by
      refine List.ext_getElem? fun i=>?_
      rw [List.getElem?_set]
      split
      · rename_i hi;subst hi
        simp [hx]
        rw [getD_eq hx] at h1
        exact h1
      · rfl
    rw [e,e2]
    refine And.intro ⟨⟨⟨rfl,trivial,trivial⟩,trivial⟩,⟨⟨by omega,by simp [RO.len]⟩,rfl⟩,⟨⟨rfl,trivial,trivial⟩,trivial⟩,⟨⟨by omega,by simp [RO.len];omega⟩,rfl⟩,trivial⟩ trivial
theorem add_fn (x:Nat) (inn:List Bool) (made:List Int) (wm:Nat) (hx:x<inn.length) (hm:made.length<100000) (hw:wm≤made.length):
    MF 190 [.int .i64 x,.ptr 1000 0,.ptr 1001 0] [(1000,.box [.vec 1002]),(1002,.vec 0 (.bools inn) []),(1001,.box [.vec 501]),(501,.vec wm (.ints .i64 made) [])] (.tup [])
      [(1000,.box [.vec 1002]),(1002,.vec 0 (.bools (inn.set x true)) []),(1001,.box [.vec 501]),(501,.vec wm (.ints .i64 (addMade inn made x)) [])]:=
  mkM Tryz.func190 (by decide+kernel) rfl (Nat.le_of_ble_eq_true rfl) fun _=>add_k x inn made wm hx hm hw
structure Mkd (t:List (List Int)) (gens:List Int) (inn:List Bool) (made:List Int):Prop where
  len:inn.length=t.length
  cnt:inn.count true=made.length
  mem:∀x,x<t.length→(inn.getD x false=true↔(x:Int)∈made)
  el:∀x∈made,0≤x∧x<t.length
  mkd:∀x∈made,Mk t gens x.toNat
theorem Mkd.le {t:List (List Int)} {gens:List Int} {inn:List Bool} {made:List Int} (h:Mkd t gens inn made):made.length≤t.length:=by
  rw [←h.cnt,←h.len];exact List.count_le_length
theorem Mkd.add {t:List (List Int)} {gens:List Int} {inn:List Bool} {made:List Int} (h:Mkd t gens inn made) {x:Nat} (hx:x<t.length) (hm:Mk t gens x):
    Mkd t gens (inn.set x true) (addMade inn made x)∧(∀y∈made,y∈addMade inn made x)∧(x:Int)∈addMade inn made x∧made.length≤(addMade inn made x).length:=by
  have hxi:x<inn.length:=by rw [h.len];exact hx
  cases hb:inn.getD x false with
  |true=>
   have e:addMade inn made x=made:=by unfold addMade;rw [hb];rfl
   have e2:inn.set x true=inn:=by
     refine List.ext_getElem? fun i=>?_
     rw [List.getElem?_set]
     split
     · rename_i hi;subst hi
       simp [hxi]
       rw [getD_eq hxi] at hb
       exact hb
     · rfl
   rw [e,e2]
   exact ⟨h,fun _ h=>h,(h.mem x hx).1 hb,Nat.le_refl _⟩
  |false=>
   have e:addMade inn made x=made++[(x:Int)]:=by unfold addMade;rw [hb];rfl
   rw [e]
   refine ⟨⟨by simp [h.len],?_,fun y hy=>?_,fun y hy=>?_,fun y hy=>?_⟩,fun y hy=>by simp [hy],by simp,by simp⟩
   · rw [List.count_set hxi]
     rw [getD_eq hxi] at hb
     simp [hb,h.cnt]
   · by_cases hyx:y=x
     · subst hyx;rw [getD_set_eq hxi];simp
     · rw [getD_set_ne (Ne.symm hyx),h.mem y hy]
       simp;omega
   · rcases List.mem_append.1 hy with hy|hy
     · exact h.el y hy
     · simp at hy;omega
   · rcases List.mem_append.1 hy with hy|hy
     · exact h.mkd y hy
     · simp at hy;subst hy;simpa using hm
theorem Mkd.mono {t:List (List Int)} {g g':List Int} {inn:List Bool} {made:List Int} (h:Mkd t g inn made) (hs:∀x∈g,x∈g'):Mkd t g' inn made:=
  ⟨h.len,h.cnt,h.mem,h.el,fun x hx=>(h.mkd x hx).mono hs⟩
theorem Mkd.get {t:List (List Int)} {gens:List Int} {inn:List Bool} {made:List Int} (h:Mkd t gens inn made) {j:Nat} (hj:j<made.length):made.getD j 0=((made.getD j 0).toNat:Int)∧(made.getD j 0).toNat<t.length∧Mk t gens (made.getD j 0).toNat:=by
  have hm:made.getD j 0∈made:=getD_mem hj
  have h1:=h.el _ hm
  exact ⟨by omega,by omega,h.mkd _ hm⟩
theorem take_getD {α:Type} {l:List α} {n i:Nat} {d:α} (h:i<n):((l.take n).drop 0).getD i d=l.getD i d:=by
  simp [List.getD,h]
set_option maxHeartbeats 1000000 in
theorem spanning_k (t:List (List Int)) (hs:Sh t):
    fnEK TY SP Tryz.f123 [.ro (.rows .i64 t)] (fun g:List Int=>.ro (.ints .i64 g)) (fun g=>Spans t g):=by
  have hpos:=hs.pos
  have hmost:=hs.most
  refine And.intro (by omega) ?_
  refine And.intro (by omega) ?_
  refine Exists.intro []<|lp4 (fun (k:Nat) (gens:List Int) (inn:List Bool) (made:List Int)=>[(18,.int .i64 k),(3,.vec 28),(7,.int .i64 made.length)])
    (fun k gens inn made=>[(28,.vec 0 (.ints .i64 gens) []),(14,.vec 0 (.bools inn) []),(40,.vec made.length (.ints .i64 made) []),(4,.box [.vec 40])])
    (fun k gens inn made=>k≤t.length∧gens.length≤k∧(∀g∈gens,0≤g∧g<t.length)∧Mkd t gens inn made∧∀x,x<k→(x:Int)∈made) (fun k _ _ _=>t.length - k) 0 [] (List.replicate t.length false) [] ?_ ?_ ?_
  · refine ⟨Nat.zero_le _,Nat.le_refl _,by simp,⟨by simp,by simp [List.count_replicate],fun x _=>?_,by simp,by simp⟩,by simp⟩
    simp [List.getD,List.getElem?_replicate]
    split<;>simp
  · repeat' first|exact True.intro|omega|refine And.intro ?_ ?_|exact rfl|simp [RO.len]
  rintro k gens inn made ⟨hk,hgk,hg,hM,hall⟩
  have hml:=hM.le
  have hil:=hM.len
  refine And.intro (fun h1=>?_) (fun h1=>?_)
  · refine And.intro (by omega) ?_
    refine And.intro (fun h2=>?_) (fun h2=>?_)
    · refine And.intro (by omega) ?_
      refine nx (k+1,gens,inn,made) ⟨by omega,by omega,hg,hM,fun x hx=>?_⟩ (show t.length - (k+1)<t.length - k by omega) ?_
      · by_cases hxk:x<k
        · exact hall x hxk
        · obtain rfl:x=k:=by omega
          exact (hM.mem x (by omega)).1 (by simpa using h2)
      · repeat' first|refine And.intro ?_ ?_|exact True.intro|(show (_:Int)=(_:Int);omega)|omega|exact rfl|(simp only [RO.len];omega)
    · refine And.intro (by simp;omega) ?_
      have hg':∀g∈gens++[(k:Int)],0≤g∧g<t.length:=fun g hgm=>by
        rcases List.mem_append.1 hgm with h|h
        · exact hg g h
        · simp at h;omega
      have hM0:=hM.mono (g':=gens++[(k:Int)]) (fun x hx=>by simp [hx])
      obtain ⟨hM1,hsub1,hin1,hle1⟩:=hM0.add (x:=k) (by omega) (by have:=Mk.gen (t:=t) (gens:=gens++[(k:Int)]) (g:=k) (by simp);simpa using this)
      refine Or.inr (cm [] [(1000,5),(1001,4),(1002,14),(501,40)] (add_fn k inn made made.length (by omega) (by omega) (Nat.le_refl _)) ?_)
      refine And.intro (by repeat' first|refine And.intro ?_ ?_|exact True.intro|(show (_:Int)=(_:Int);omega)|omega|exact rfl|(simp only [RO.len];omega)) ?_
      refine Exists.intro []<|lp3 (fun (mu:Nat) (inn:List Bool) (made:List Int)=>[(7,.int .i64 mu)])
        (fun mu inn made=>[(14,.vec 0 (.bools inn) []),(40,.vec mu (.ints .i64 made) []),(4,.box [.vec 40])])
        (fun mu inn made=>mu≤made.length∧Mkd t (gens++[(k:Int)]) inn made∧∀x,x<k+1→(x:Int)∈made) (fun mu _ _=>t.length - mu) made.length (inn.set k true) (addMade inn made k) ?_ ?_ ?_
      · refine ⟨hle1,hM1,fun x hx=>?_⟩
        by_cases hxk:x<k
        · exact hsub1 _ (hall x hxk)
        · obtain rfl:x=k:=by omega
          exact hin1
      · repeat' first|refine And.intro ?_ ?_|exact True.intro|(show (_:Int)=(_:Int);omega)|omega|exact rfl|(simp only [RO.len];omega)
      clear hM1 hsub1 hin1 hle1 hM0
      rintro mu inn made ⟨hmu,hM,hall⟩
      have hml:=hM.le
      have hil:=hM.len
      refine And.intro (fun h3=>?_) (fun h3=>?_)
      · have hX:=hM.get (j:=(mu:Int).toNat) (by omega)
        refine And.intro (by omega) ?_
        refine And.intro (by omega) ?_
        refine And.intro (by omega) ?_
        refine Or.inl ?_
        refine Exists.intro [33,38,40,42]<|lp3 (fun (j:Nat) (inn:List Bool) (made2:List Int)=>[(47,.int .i64 j)])
          (fun j inn made2=>[(14,.vec 0 (.bools inn) []),(40,.vec (mu+1) (.ints .i64 made2) []),(4,.box [.vec 40])])
          (fun j inn made2=>j≤mu+1∧Mkd t (gens++[(k:Int)]) inn made2∧made.length≤made2.length∧∀y∈made,y∈made2) (fun j _ _=>mu+1 - j) 0 inn made ⟨Nat.zero_le _,hM,Nat.le_refl _,fun _ h=>h⟩ ?_ ?_
        · repeat' first|refine And.intro ?_ ?_|exact True.intro|(show (_:Int)=(_:Int);omega)|omega|exact rfl|(simp only [RO.len];omega)
        rintro j inn2 made2 ⟨hj,hM2,hle2,hsub2⟩
        have hml2:=hM2.le
        have hil2:=hM2.len
        have hlen:((made.take ((mu:Int)+1).toNat).drop 0).length=mu+1:=by simp;omega
        refine And.intro (fun h4=>?_) (fun h4=>?_)
        · have hY:=hM.get (j:=(j:Int).toNat) (by omega)
          have hY':((made.take ((mu:Int)+1).toNat).drop 0).getD (j:Int).toNat 0=made.getD (j:Int).toNat 0:=take_getD (by omega)
          have e1:=hs.ent hX.2.1 hY.2.1
          have e2:=hs.ent hY.2.1 hX.2.1
          have l1:=hs.len hX.2.1
          have l2:=hs.len hY.2.1
          have A:=hM2.add e1.2 (.mul hX.2.2 hY.2.2)
          have B:=A.1.add e2.2 (.mul hY.2.2 hX.2.2)
          have la:=A.1.le
          have lb:=B.1.le
          have ia:=A.1.len
          have hle3:=A.2.2.2
          have hE1:(t.getD (made.getD (mu:Int).toNat 0).toNat []).getD (((made.take ((mu:Int)+1).toNat).drop 0).getD (j:Int).toNat 0).toNat 0=(en t (made.getD (mu:Int).toNat 0).toNat (made.getD (j:Int).toNat 0).toNat:Int):=by rw [hY'];exact e1.1
          have hE2:(t.getD (((made.take ((mu:Int)+1).toNat).drop 0).getD (j:Int).toNat 0).toNat []).getD (made.getD (mu:Int).toNat 0).toNat 0=(en t (made.getD (j:Int).toNat 0).toNat (made.getD (mu:Int).toNat 0).toNat:Int):=by rw [hY'];exact e2.1
          refine And.intro (by omega) ?_
          refine And.intro (by omega) ?_
          refine And.intro (by rw [hY'];omega) ?_
          refine Or.inr (cm [] [(1000,5),(1001,4),(1002,14),(501,40)] (add_fn (en t (made.getD (mu:Int).toNat 0).toNat (made.getD (j:Int).toNat 0).toNat) inn2 made2 (mu+1) (by omega) (by omega) (by omega)) ?_)
          refine And.intro (And.intro (by repeat' first|refine And.intro ?_ ?_|exact True.intro|(show (_:Int)=(_:Int);omega)|omega|exact rfl|(simp only [RO.len];omega)) (And.intro hE1 (And.intro ⟨rfl,rfl,trivial,trivial⟩ (And.intro ⟨rfl,rfl,trivial,trivial⟩ trivial)))) ?_
          refine And.intro (by omega) ?_
          refine And.intro (by rw [hY'];omega) ?_
          refine Or.inr (cm [] [(1000,5),(1001,4),(1002,14),(501,40)] (add_fn (en t (made.getD (j:Int).toNat 0).toNat (made.getD (mu:Int).toNat 0).toNat) (inn2.set (en t (made.getD (mu:Int).toNat 0).toNat (made.getD (j:Int).toNat 0).toNat) true) (addMade inn2 made2 (en t (made.getD (mu:Int).toNat 0).toNat (made.getD (j:Int).toNat 0).toNat)) (mu+1) (by rw [ia];exact e2.2) (by omega) (by omega)) ?_)
          refine And.intro (And.intro (by repeat' first|refine And.intro ?_ ?_|exact True.intro|(show (_:Int)=(_:Int);omega)|omega|exact rfl|(simp only [RO.len];omega)) (And.intro hE2 (And.intro ⟨rfl,rfl,trivial,trivial⟩ (And.intro ⟨rfl,rfl,trivial,trivial⟩ trivial)))) ?_
          refine And.intro (by omega) ?_
          refine nx (j+1,_,_) ⟨by omega,B.1,by omega,fun y hy=>B.2.1 _ (A.2.1 _ (hsub2 y hy))⟩ (show mu+1 - (j+1)<mu+1 - j by omega) ?_
          repeat' first|refine And.intro ?_ ?_|exact True.intro|(show (_:Int)=(_:Int);omega)|omega|exact rfl|(simp only [RO.len];omega)
        · refine And.intro (by omega) ?_
          refine nx (mu+1,inn2,made2) ⟨by omega,hM2,fun x hx=>hsub2 _ (hall x hx)⟩ (show t.length - (mu+1)<t.length - mu by omega) ?_
          repeat' first|refine And.intro ?_ ?_|exact True.intro|(show (_:Int)=(_:Int);omega)|omega|exact rfl|(simp only [RO.len];omega)
      · refine And.intro (by omega) ?_
        refine nx (k+1,gens++[(k:Int)],inn,made) ⟨by omega,by simp;omega,hg',hM,hall⟩ (show t.length - (k+1)<t.length - k by omega) ?_
        repeat' first|refine And.intro ?_ ?_|exact True.intro|(show (_:Int)=(_:Int);omega)|omega|exact rfl|(simp only [RO.len];omega)
  · refine Exists.intro gens (And.intro ⟨hg,fun x hx=>?_⟩ ?_)
    · have:=hM.mkd _ (hall x (by omega));simpa using this
    · repeat' first|refine And.intro ?_ ?_|exact True.intro|(show (_:Int)=(_:Int);omega)|omega|exact rfl|(simp only [RO.len];omega)
theorem spanning_fn (t:List (List Int)) (hs:Sh t):EF 123 [.ro (.rows .i64 t)] (fun g:List Int=>.ro (.ints .i64 g)) (fun g=>Spans t g):=
  mkE Tryz.func123 (by decide+kernel) rfl (Nat.le_of_ble_eq_true rfl) fun _=>spanning_k t hs
theorem valid_fn (t:List (List Int)):QF 50 [.ro (.rows .i64 t)] (.int .i64 (validV t)):=mkQ Tryz.func50 (by decide+kernel) rfl (Nat.le_of_ble_eq_true rfl) fun _=>by
  refine Or.inl (cq (shape_fn t) (And.intro rfl trivial) ?_)
  refine And.intro (fun h1=>?_) (fun h1=>?_)
  · refine And.intro (show shapeV t=validV t from ?_) trivial
    unfold validV;rw [if_pos h1]
  · have hs:=shape_zero.1 h1
    refine Or.inr (Or.inr (ce (spanning_fn t hs) (And.intro rfl trivial) fun g hg=>?_))
    refine Or.inl (cq (associates_fn t g hs hg.el) (And.intro rfl (And.intro rfl trivial)) ?_)
    have e:=light_assoc hs hg
    refine And.intro (fun h2=>?_) (fun h2=>?_)
    · refine And.intro (show (5:Int)=validV t from ?_) trivial
      unfold validV
      rw [if_neg (by omega),if_neg]
      intro ha
      rw [e.2 ha] at h2
      cases h2
    · refine And.intro (show (0:Int)=validV t from ?_) trivial
      unfold validV
      rw [if_neg (by omega),if_pos]
      refine e.1 ?_
      revert h2
      cases lightB t g<;>simp
end Go.Proofs.YtjabhmhhhlcopaaGreatDoor
end
section
namespace Go.Proofs.YtjabhmhhhlcopaaGreatDoor
open Go Go.AM Go.CM
set_option maxRecDepth 100000
theorem zOk:ZOk Tryz.prog TY TZ:=zOk_of (by decide+kernel)
theorem namesOk:namesB Tryz.prog=true:=by decide+kernel
end Go.Proofs.YtjabhmhhhlcopaaGreatDoor
end
