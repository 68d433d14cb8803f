import Derived.Test.YtjabhmhhhlcopaaGreatDoorGroup
import Derived.Test.YtjabhmhhhlcopaaGreatDoorBase
import Derived.Test.YtjabhmhhhlcopaaGreatDoorBits
section
namespace Go.Proofs.YtjabhmhhhlcopaaGreatDoor
open Go Go.AM
set_option maxRecDepth 100000
def rowsB (n:Nat) (e:Nat→Nat→Bool):List (List Bool):=(List.range n).map fun x=>setB n (e x)
end Go.Proofs.YtjabhmhhhlcopaaGreatDoor
end
section
namespace Go.Proofs.YtjabhmhhhlcopaaGreatDoor
open Go Go.AM
set_option maxRecDepth 100000
abbrev rav (G:List (List Int)) (R C:Int) (P:List (List Int)) (z:Bool):AV:=.agg [.ro (.rows .i64 G),.int .i64 R,.int .i64 C,.ro (.rows .i64 P),.bool (.v z)]
theorem sh_no {G:List (List Int)} {R C:Int} {P:List (List Int)} {z:Bool} (h:¬Shaped G R C P z):false=shapedB G R C P z:=(shapedB_false.2 h).symm
def entOk (n:Nat) (z:Bool) (g:Int):Prop:= -1≤g∧g<n∧(g<0→z=true)
theorem sh_ent {G:List (List Int)} {R C:Int} {P:List (List Int)} {z:Bool} {k i:Nat} (hk:k<P.length) (hi:i<(P.getD k []).length) (h:¬entOk G.length z ((P.getD k []).getD i 0)):false=shapedB G R C P z:=
  sh_no fun hs=>h ((hs.rows _ (getD_mem hk)).2 _ (getD_mem hi))
theorem shaped_k (G:List (List Int)) (R C:Int) (P:List (List Int)) (z:Bool) (_hG:G.length≤140737488355328) (hP:P.length≤140737488355328∧∀m∈P,m.length≤140737488355328):
    fnK TY SP Tryz.f153 [rav G R C P z] (.bool (.v (shapedB G R C P z))):=by
  have hP1:=hP.1
  refine And.intro (fun h1=>?_) (fun h1=>?_)
  · exact And.intro (sh_no fun hs=>by have:=hs.r;omega) trivial
  refine And.intro (fun h2=>?_) (fun h2=>?_)
  · exact And.intro (sh_no fun hs=>by have:=hs.c;omega) trivial
  refine And.intro (fun h3=>?_) (fun h3=>?_)
  · exact And.intro (sh_no fun hs=>h3 hs.p) trivial
  refine Exists.intro []<|lp (X:=Nat) (fun k=>[(26,.int .i64 k)]) (fun _=>[]) (fun k=>k≤P.length∧∀j,j<k→((P.getD j []).length:Int)=R∧∀g∈P.getD j [],entOk G.length z g) (fun k=>P.length - k) 0 ⟨Nat.zero_le _,by omega⟩ (by repeat' first|refine And.intro ?_ ?_|exact True.intro|(show (_:Int)=(_:Int);omega)|omega|exact rfl|(simp only [RO.len];omega)) ?_
  intro k hk
  refine And.intro (fun h4=>?_) (fun h4=>?_)
  · have hkl:k<P.length:=by omega
    have hml:=hP.2 _ (getD_mem (d:=[]) hkl)
    refine And.intro (by omega) ?_
    refine And.intro (fun h5=>?_) (fun h5=>?_)
    · exact And.intro (sh_no fun hs=>h5 (hs.rows _ (getD_mem hkl)).1) trivial
    refine Exists.intro []<|lp (X:=Nat) (fun i=>[(37,.int .i64 i)]) (fun _=>[]) (fun i=>i≤(P.getD k []).length∧∀j,j<i→entOk G.length z ((P.getD k []).getD j 0)) (fun i=>(P.getD k []).length - i) 0 ⟨Nat.zero_le _,by omega⟩ (by repeat' first|refine And.intro ?_ ?_|exact True.intro|(show (_:Int)=(_:Int);omega)|omega|exact rfl|(simp only [RO.len];omega)) ?_
    intro i hi
    refine And.intro (fun h6=>?_) (fun h6=>?_)
    · have h6:(i:Int)<((P.getD k []).length:Int):=h6
      have hil:i<(P.getD k []).length:=by omega
      refine And.intro ⟨by omega,h6⟩ ?_
      have next:entOk G.length z ((P.getD k []).getD i 0)→∀j,j<i+1→entOk G.length z ((P.getD k []).getD j 0):=fun he j hj=>by
        by_cases hji:j<i
        · exact hi.2 j hji
        · have:j=i:=by omega
          rw [this];exact he
      refine And.intro (fun h7=>?_) (fun h7=>?_)
      · have h7:(P.getD k []).getD i 0< -1:=h7
        exact And.intro (sh_ent hkl hil fun he=>by have:=he.1;omega) trivial
      have h7: -1≤(P.getD k []).getD i 0:=h7
      refine And.intro (fun h8=>?_) (fun h8=>?_)
      · have h8:(G.length:Int)≤(P.getD k []).getD i 0:=h8
        exact And.intro (sh_ent hkl hil fun he=>by have:=he.2.1;omega) trivial
      have h8:(P.getD k []).getD i 0<(G.length:Int):=h8
      refine And.intro (fun h9=>?_) (fun h9=>?_)
      · have h9:(P.getD k []).getD i 0<0:=h9
        refine And.intro (fun h10=>?_) (fun h10=>?_)
        · exact And.intro (sh_ent hkl hil fun he=>by rw [he.2.2 h9] at h10;cases h10) trivial
        · refine And.intro (by omega) ?_
          refine nx (i+1) ⟨by omega,next ⟨h7,h8,fun _=>by simpa using h10⟩⟩ (show (P.getD k []).length - (i+1)<(P.getD k []).length - i by omega) (by repeat' first|refine And.intro ?_ ?_|exact True.intro|(show (_:Int)=(_:Int);omega)|omega|exact rfl|(simp only [RO.len];omega))
      · have h9:0≤(P.getD k []).getD i 0:=h9
        refine And.intro (by omega) ?_
        refine nx (i+1) ⟨by omega,next ⟨h7,h8,fun _=>by omega⟩⟩ (show (P.getD k []).length - (i+1)<(P.getD k []).length - i by omega) (by repeat' first|refine And.intro ?_ ?_|exact True.intro|(show (_:Int)=(_:Int);omega)|omega|exact rfl|(simp only [RO.len];omega))
    · have h6:((P.getD k []).length:Int)≤(i:Int):=h6
      refine And.intro (by omega) ?_
      refine nx (k+1) ⟨by omega,fun j hj=>?_⟩ (show P.length - (k+1)<P.length - k by omega) (by repeat' first|refine And.intro ?_ ?_|exact True.intro|(show (_:Int)=(_:Int);omega)|omega|exact rfl|(simp only [RO.len];omega))
      by_cases hjk:j<k
      · exact hk.2 j hjk
      · have:j=k:=by omega
        rw [this]
        refine ⟨h5,fun g hg=>?_⟩
        obtain ⟨q,hq,rfl⟩:=mem_getD 0 hg
        exact hi.2 q (by omega)
  · refine And.intro ?_ trivial
    show true=shapedB G R C P z
    symm
    refine shapedB_true.2 ⟨h1,h2,h3,fun row hrow=>?_⟩
    obtain ⟨j,hj,rfl⟩:=mem_getD [] hrow
    exact hk.2 j (by omega)
theorem numI_true (n C i g l:Int):(i*n+g)*C+l+1=numI n C true i g l:=by simp [numI,zI]
theorem numI_false (n C i g l:Int):(i*n+g)*C+l=numI n C false i g l:=by simp [numI,zI]
theorem num_fn (G:List (List Int)) (R C:Int) (P:List (List Int)) (z:Bool) (h:Rees G R C P z) (i g l:Int) (hi:0≤i∧i<R) (hg:0≤g∧g<G.length) (hl:0≤l∧l<C):
    QF 71 [rav G R C P z,.int .i64 i,.int .i64 g,.int .i64 l] (.int .i64 (numI G.length C z i g l)):=mkQ Tryz.func71 (by decide+kernel) rfl (Nat.le_of_ble_eq_true rfl) fun _=>by
  have hle:=h.le
  have hz:=z_cases z
  have hn:=num_lt (z:=z) (n:=G.length) hle.1 hle.2.2.2.2.1 hi hg hl
  have hs:=h.small
  have a1:0≤i*(G.length:Int):=Int.mul_nonneg hi.1 (by omega)
  have a2:0≤(i*(G.length:Int)+g)*C:=Int.mul_nonneg (by omega) (by omega)
  have a3:i*(G.length:Int)+g≤(i*(G.length:Int)+g)*C:=by
    have:=Int.mul_le_mul_of_nonneg_left (show (1:Int)≤C by omega) (show 0≤i*(G.length:Int)+g by omega)
    rw [Int.mul_one] at this;exact this
  unfold numI at hn
  refine And.intro (by omega) ?_
  refine And.intro (by omega) ?_
  refine And.intro (by omega) ?_
  refine And.intro (by omega) ?_
  refine And.intro (fun h1=>?_) (fun h1=>?_)
  · refine And.intro (by omega) ?_
    refine And.intro ?_ trivial
    show (i*(G.length:Int)+g)*C+l+1=numI G.length C z i g l
    rw [h1];exact numI_true ..
  · refine And.intro ?_ trivial
    show (i*(G.length:Int)+g)*C+l=numI G.length C z i g l
    rw [h1];exact numI_false ..
theorem triple_neg (G:List (List Int)) (R C:Int) (P:List (List Int)) (z:Bool) (x:Int) (hx:0≤x) (hn:x - zI z<0):
    QF 154 [rav G R C P z,.int .i64 x] (.tup [.int .i64 0,.int .i64 0,.int .i64 0,.bool (.lit false)]):=mkQ Tryz.func154 (by decide+kernel) rfl (Nat.le_of_ble_eq_true rfl) fun _=>by
  refine And.intro (fun h1=>?_) (fun h1=>?_)
  · have e:zI z=1:=by rw [h1];rfl
    refine And.intro (by omega) ?_
    refine And.intro (fun h2=>?_) (fun h2=>?_)
    · exact ⟨rfl,rfl,rfl,rfl,trivial⟩
    · omega
  · have e:zI z=0:=by rw [h1];rfl
    omega
theorem triple_pos_k (G:List (List Int)) (R C:Int) (P:List (List Int)) (z:Bool) (h:Rees G R C P z) (x:Int) (hx2:x≤9223372036854775807) (hn:0≤x - zI z):
    fnK TY SP Tryz.f154 [rav G R C P z,.int .i64 x] (.tup [.int .i64 ((x - zI z) / C / G.length),.int .i64 ((x - zI z) / C % G.length),.int .i64 ((x - zI z) % C),.bool (.lit true)]):=by
  have hle:=h.le
  have hz:=z_cases z
  refine And.intro (fun h1=>?_) (fun h1=>?_)
  · have e:zI z=1:=by rw [h1];rfl
    rw [e] at hn ⊢
    refine And.intro (by omega) ?_
    refine And.intro (fun h2=>?_) (fun h2=>?_)
    · omega
    · have h3:0≤(x - 1) / C:=Int.ediv_nonneg h2 (by omega)
      refine And.intro (by omega) ?_
      refine Or.inl<|Exists.intro [false,false,false,false,false,false,false,false,false,false,false,false,false,false,false,false,false,false] (And.intro (by decide+kernel) ?_)
      refine And.intro (by omega) ?_
      refine Or.inl (And.intro (by omega) ?_)
      refine Or.inl (And.intro (by omega) ?_)
      exact ⟨rfl,rfl,rfl,rfl,trivial⟩
  · have e:zI z=0:=by rw [h1];rfl
    rw [e,Int.sub_zero] at hn
    rw [e,Int.sub_zero]
    refine And.intro (fun h2=>?_) (fun h2=>?_)
    · omega
    · have h3:0≤x / C:=Int.ediv_nonneg h2 (by omega)
      refine And.intro (by omega) ?_
      refine Or.inl<|Exists.intro [false,false,false,false,false,false,false,false,false,false,false,false,false,false,false,false,false,false] (And.intro (by decide+kernel) ?_)
      refine And.intro (by omega) ?_
      refine Or.inl (And.intro (by omega) ?_)
      refine Or.inl (And.intro (by omega) ?_)
      exact ⟨rfl,rfl,rfl,rfl,trivial⟩
theorem triple_pos (G:List (List Int)) (R C:Int) (P:List (List Int)) (z:Bool) (h:Rees G R C P z) (x:Int) (hn:0≤x - zI z):
    QF 154 [rav G R C P z,.int .i64 x] (.tup [.int .i64 ((x - zI z) / C / G.length),.int .i64 ((x - zI z) / C % G.length),.int .i64 ((x - zI z) % C),.bool (.lit true)]):=
  mkQ Tryz.func154 (by decide+kernel) rfl (Nat.le_of_ble_eq_true rfl) fun hf=>triple_pos_k G R C P z h x hf.2.1.2 hn
theorem shaped_fn (G:List (List Int)) (R C:Int) (P:List (List Int)) (z:Bool):QF 153 [rav G R C P z] (.bool (.v (shapedB G R C P z))):=
  mkQ Tryz.func153 (by decide+kernel) rfl (Nat.le_of_ble_eq_true rfl) fun hf=>shaped_k G R C P z hf.1.1.1 ⟨hf.1.2.2.2.1.1,fun m hm=>(hf.1.2.2.2.1.2 m hm).1⟩
theorem size_fn (G:List (List Int)) (R C:Int) (P:List (List Int)) (z:Bool) (hG:1≤G.length∧G.length≤400) (hR:1≤R) (hC:1≤C):
    QF 70 [rav G R C P z] (.int .i64 (min (sizeI G.length R C z) 401)):=mkQ Tryz.func70 (by decide+kernel) rfl (Nat.le_of_ble_eq_true rfl) fun _=>by
  refine Exists.intro []<|lp2 (fun (k:Nat) (n:Int)=>[(14,.int .i64 k),(3,.int .i64 n)]) (fun _ _=>[]) (fun k n=>(k=0∧n=G.length)∨(k=1∧n=G.length*R∧R≤401)∨(k=2∧n=G.length*R*C∧R≤401∧C≤401∧G.length*R≤401)) (fun k _=>2 - k) 0 G.length (.inl ⟨rfl,rfl⟩) (by repeat' first|refine And.intro ?_ ?_|exact True.intro|(show (_:Int)=(_:Int);omega)|omega|exact rfl|(simp only [RO.len];omega)) ?_
  intro k n hk
  have hz:=z_cases z
  have p1:0≤(G.length:Int)*R:=Int.mul_nonneg (by omega) (by omega)
  have p2:1*R≤(G.length:Int)*R:=Int.mul_le_mul_of_nonneg_right (by omega) (by omega)
  have p3:(G.length:Int)*R*1≤G.length*R*C:=Int.mul_le_mul_of_nonneg_left (by omega) p1
  have p4:1*C≤G.length*R*C:=Int.mul_le_mul_of_nonneg_right (by omega) (by omega)
  refine And.intro (fun h1=>?_) (fun h1=>?_)
  · refine And.intro (by omega) ?_
    refine And.intro (fun h2=>?_) (And.intro (fun h2=>?_) trivial)
    · have h2:(k:Int)=0:=h2
      have hn:n=G.length:=by omega
      have r1:n*R≤400*R:=Int.mul_le_mul_of_nonneg_right (by omega) (by omega)
      have r2:0≤n*R:=Int.mul_nonneg (by omega) (by omega)
      refine And.intro (fun h3=>?_) (fun h3=>?_)
      · omega
      refine And.intro (fun h4=>?_) (fun h4=>?_)
      · refine And.intro ?_ trivial
        show 401=min (sizeI G.length R C z) 401
        unfold sizeI;omega
      · refine And.intro (by omega) ?_
        refine And.intro (by omega) ?_
        refine nx (k+1,n*R) (.inr (.inl ⟨by omega,by rw [hn],by omega⟩)) (show 2 - (k+1)<2 - k by omega) (by repeat' first|refine And.intro ?_ ?_|exact True.intro|(show (_:Int)=(_:Int);omega)|omega|exact rfl|(simp only [RO.len];omega))
    · have h2:(k:Int)=0+1:=h2
      have hn:n=G.length*R∧R≤401:=by omega
      refine And.intro (fun h3=>?_) (fun h3=>?_)
      · refine And.intro ?_ trivial
        show 401=min (sizeI G.length R C z) 401
        unfold sizeI;omega
      have r1:n*C≤401*C:=Int.mul_le_mul_of_nonneg_right (by omega) (by omega)
      have r2:0≤n*C:=Int.mul_nonneg (by omega) (by omega)
      refine And.intro (fun h4=>?_) (fun h4=>?_)
      · refine And.intro ?_ trivial
        show 401=min (sizeI G.length R C z) 401
        unfold sizeI;omega
      · refine And.intro (by omega) ?_
        refine And.intro (by omega) ?_
        refine nx (k+1,n*C) (.inr (.inr ⟨by omega,by rw [hn.1],by omega,by omega,by omega⟩)) (show 2 - (k+1)<2 - k by omega) (by repeat' first|refine And.intro ?_ ?_|exact True.intro|(show (_:Int)=(_:Int);omega)|omega|exact rfl|(simp only [RO.len];omega))
  · have hn:n=G.length*R*C∧R≤401∧C≤401∧G.length*R≤401:=by omega
    have r1:G.length*R*C≤401*C:=Int.mul_le_mul_of_nonneg_right (by omega) (by omega)
    refine And.intro (fun h2=>?_) (fun h2=>?_)
    · refine And.intro (by omega) ?_
      refine And.intro ?_ trivial
      show min (n+1) 401=min (sizeI G.length R C z) 401
      rw [h2,hn.1];rfl
    · refine And.intro ?_ trivial
      show min n 401=min (sizeI G.length R C z) 401
      have e:sizeI G.length R C z=n:=by rw [h2,hn.1];exact Int.add_zero _
      rw [e]
theorem rees_no {G:List (List Int)} {R C:Int} {P:List (List Int)} {z:Bool} (h:¬(Grp G∧Shaped G R C P z)):4=reesV G R C P z:=by
  unfold reesV;rw [if_neg h]
theorem rvalid2_fn (G:List (List Int)) (R C:Int) (P:List (List Int)) (z:Bool):QF 83 [rav G R C P z] (.int .i64 (reesV G R C P z)):=mkQ Tryz.func83 (by decide+kernel) rfl (Nat.le_of_ble_eq_true rfl) fun _=>by
  refine Or.inl (cq (isgroup_fn G) (And.intro rfl trivial) ?_)
  refine And.intro (fun h1=>?_) (fun h1=>?_)
  · exact And.intro (rees_no fun h=>by rw [grpB_true.2 h.1] at h1;cases h1) trivial
  · have hg:Grp G:=grpB_true.1 (by simpa using h1)
    refine Or.inl (cq (shaped_fn G R C P z) (And.intro (by repeat' first|refine And.intro ?_ ?_|exact True.intro|(show (_:Int)=(_:Int);omega)|omega|exact rfl|(simp only [RO.len];omega)) trivial) ?_)
    refine And.intro (fun h2=>?_) (fun h2=>?_)
    · exact And.intro (rees_no fun h=>by rw [shapedB_true.2 h.2] at h2;cases h2) trivial
    · have hs:Shaped G R C P z:=shapedB_true.1 (by simpa using h2)
      have hgp:=hg.pos
      have hgm:=hg.most
      refine Or.inl (cq (size_fn G R C P z ⟨by omega,by omega⟩ hs.r hs.c) (And.intro (by repeat' first|refine And.intro ?_ ?_|exact True.intro|(show (_:Int)=(_:Int);omega)|omega|exact rfl|(simp only [RO.len];omega)) trivial) ?_)
      refine And.intro (fun h3=>?_) (fun h3=>?_)
      · refine And.intro (show 3=reesV G R C P z from ?_) trivial
        unfold reesV
        rw [if_pos ⟨hg,hs⟩,if_pos (by omega)]
      · refine And.intro (show 0=reesV G R C P z from ?_) trivial
        unfold reesV
        rw [if_pos ⟨hg,hs⟩,if_neg (by omega)]
theorem prod_fn (G:List (List Int)) (R C:Int) (P:List (List Int)) (z:Bool) (h:Rees G R C P z) (x y:Int) (hx:0≤x∧x<sizeI G.length R C z) (hy:0≤y∧y<sizeI G.length R C z):
    QF 84 [rav G R C P z,.int .i64 x,.int .i64 y] (.int .i64 (mulI G C P z x y)):=mkQ Tryz.func84 (by decide+kernel) rfl (Nat.le_of_ble_eq_true rfl) fun _=>by
  have hle:=h.le
  by_cases hx0:x - zI z<0
  · refine Or.inl (cq (triple_neg G R C P z x hx.1 hx0) (And.intro (by repeat' first|refine And.intro ?_ ?_|exact True.intro|(show (_:Int)=(_:Int);omega)|omega|exact rfl|(simp only [RO.len];omega)) (And.intro rfl trivial)) ?_)
    refine And.intro ?_ trivial
    show 0=mulI G C P z x y
    unfold mulI;rw [if_pos (.inl hx0)]
  refine Or.inl (cq (triple_pos G R C P z h x (by omega)) (And.intro (by repeat' first|refine And.intro ?_ ?_|exact True.intro|(show (_:Int)=(_:Int);omega)|omega|exact rfl|(simp only [RO.len];omega)) (And.intro rfl trivial)) ?_)
  by_cases hy0:y - zI z<0
  · refine Or.inl (cq (triple_neg G R C P z y hy.1 hy0) (And.intro (by repeat' first|refine And.intro ?_ ?_|exact True.intro|(show (_:Int)=(_:Int);omega)|omega|exact rfl|(simp only [RO.len];omega)) (And.intro rfl trivial)) ?_)
    refine And.intro ?_ trivial
    show 0=mulI G C P z x y
    unfold mulI;rw [if_pos (.inr hy0)]
  refine Or.inl (cq (triple_pos G R C P z h y (by omega)) (And.intro (by repeat' first|refine And.intro ?_ ?_|exact True.intro|(show (_:Int)=(_:Int);omega)|omega|exact rfl|(simp only [RO.len];omega)) (And.intro rfl trivial)) ?_)
  have c1:=coord (z:=z) (x:=x) hle.1 hle.2.2.1 hle.2.2.2.2.1 (by omega) hx.2
  have c2:=coord (z:=z) (x:=y) hle.1 hle.2.2.1 hle.2.2.2.2.1 (by omega) hy.2
  have hpe:=h.pent (l:=((x - zI z) % C).toNat) (i:=((y - zI z) / C / G.length).toNat) (by omega) (by omega)
  have g1:=h.grp.len (x:=((x - zI z) / C % G.length).toNat) (by omega)
  refine And.intro (by omega) ?_
  refine And.intro (by omega) ?_
  refine And.intro (fun h2=>?_) (fun h2=>?_)
  · refine And.intro ?_ trivial
    show 0=mulI G C P z x y
    unfold mulI;rw [if_neg (by omega),if_pos h2]
  have e1:=h.grp.ent (x:=((x - zI z) / C % G.length).toNat) (y:=((P.getD ((x - zI z) % C).toNat []).getD ((y - zI z) / C / G.length).toNat 0).toNat) (by omega) (by omega)
  have e1':((G.getD ((x - zI z) / C % G.length).toNat []).getD ((P.getD ((x - zI z) % C).toNat []).getD ((y - zI z) / C / G.length).toNat 0).toNat 0).toNat<G.length:=by rw [e1.1];simpa using e1.2
  have g2:=h.grp.len (x:=((G.getD ((x - zI z) / C % G.length).toNat []).getD ((P.getD ((x - zI z) % C).toNat []).getD ((y - zI z) / C / G.length).toNat 0).toNat 0).toNat) e1'
  have e2:=h.grp.ent (x:=((G.getD ((x - zI z) / C % G.length).toNat []).getD ((P.getD ((x - zI z) % C).toNat []).getD ((y - zI z) / C / G.length).toNat 0).toNat 0).toNat) (y:=((y - zI z) / C % G.length).toNat) e1' (by omega)
  refine Or.inl<|Exists.intro [false,false,false,false,false,false,false,false,false,false,false,false,false,false,false,false,false,false,false,false,false,false,false,false,false,false,false] (And.intro (by decide+kernel) ?_)
  refine And.intro (by omega) ?_
  refine And.intro (by omega) ?_
  refine And.intro (by omega) ?_
  refine And.intro (by omega) ?_
  refine And.intro (by omega) ?_
  refine And.intro (by omega) ?_
  refine cq (num_fn G R C P z h _ _ _ ⟨c1.1,c1.2.1⟩ (show 0≤(G.getD ((G.getD ((x - zI z) / C % G.length).toNat []).getD ((P.getD ((x - zI z) % C).toNat []).getD ((y - zI z) / C / G.length).toNat 0).toNat 0).toNat []).getD ((y - zI z) / C % G.length).toNat 0∧(G.getD ((G.getD ((x - zI z) / C % G.length).toNat []).getD ((P.getD ((x - zI z) % C).toNat []).getD ((y - zI z) / C / G.length).toNat 0).toNat 0).toNat []).getD ((y - zI z) / C % G.length).toNat 0<G.length by rw [e2.1];omega) ⟨c2.2.2.2.2.1,c2.2.2.2.2.2⟩) (And.intro (by repeat' first|refine And.intro ?_ ?_|exact True.intro|(show (_:Int)=(_:Int);omega)|omega|exact rfl|(simp only [RO.len];omega)) (And.intro rfl (And.intro rfl (And.intro rfl trivial)))) ?_
  refine And.intro ?_ trivial
  show numI G.length C z _ _ _=mulI G C P z x y
  unfold mulI;rw [if_neg (by omega),if_neg (by omega)]
theorem sizeV (G:List (List Int)) (R C:Int) (P:List (List Int)) (z:Bool) (h:Rees G R C P z):QF 70 [rav G R C P z] (.int .i64 (sizeI G.length R C z)):=by
  have hle:=h.le
  have:=size_fn G R C P z ⟨by omega,by omega⟩ h.sh.r h.sh.c
  rwa [Int.min_eq_left (by have:=h.small;omega)] at this
theorem size_pos {n R C:Int} {z:Bool} (hn:1≤n) (hR:1≤R) (hC:1≤C):1≤sizeI n R C z:=by
  have:=Int.mul_pos (Int.mul_pos (show 0<n by omega) (show 0<R by omega)) (show 0<C by omega)
  have hz:=z_cases z
  unfold sizeI;omega
end Go.Proofs.YtjabhmhhhlcopaaGreatDoor
end
section
namespace Go.Proofs.YtjabhmhhhlcopaaGreatDoor
open Go Go.AM
set_option maxRecDepth 100000
def memTo (l:List Bool) (k:Nat):List Int:=((List.range k).filter fun i=>l.getD i false).map fun i:Nat=>(i:Int)
def memV (l:List Bool):List Int:=memTo l l.length
theorem memTo_yes {l:List Bool} {k:Nat} (h:l.getD k false=true):memTo l (k+1)=memTo l k++[(k:Int)]:=by
  unfold memTo;rw [List.range_succ,List.filter_append,List.map_append,List.filter_cons_of_pos (p:=fun i=>l.getD i false) h];rfl
theorem memTo_no {l:List Bool} {k:Nat} (h:l.getD k false=false):memTo l (k+1)=memTo l k:=by
  unfold memTo;rw [List.range_succ,List.filter_append,List.map_append,List.filter_cons_of_neg (p:=fun i=>l.getD i false) (by rw [h];decide)];exact List.append_nil _
theorem memTo_len {l:List Bool} {k:Nat}:(memTo l k).length≤k:=by
  unfold memTo;rw [List.length_map]
  exact Nat.le_trans (List.length_filter_le _ _) (by simp)
end Go.Proofs.YtjabhmhhhlcopaaGreatDoor
end
section
namespace Go.Proofs.YtjabhmhhhlcopaaGreatDoor
open Go Go.AM
open Classical
def lftF (t:List (List Int)) (g:Nat→Bool) (x:Nat):Bool:=(List.range t.length).any fun y=>g y&&inLB t y x
def rgtF (t:List (List Int)) (g:Nat→Bool) (x:Nat):Bool:=(List.range t.length).any fun y=>g y&&inRB t y x
def twoF (t:List (List Int)) (g:Nat→Bool):Nat→Bool:=lftF t (rgtF t g)
theorem lftF_iff {t:List (List Int)} {g:Nat→Bool} {x:Nat}:lftF t g x=true↔∃y,y<t.length∧g y=true∧inLB t y x=true:=by
  unfold lftF
  rw [List.any_eq_true]
  constructor
  · rintro ⟨y,hy,h⟩
    rw [Bool.and_eq_true] at h
    exact ⟨y,List.mem_range.1 hy,h.1,h.2⟩
  · rintro ⟨y,hy,h1,h2⟩
    exact ⟨y,List.mem_range.2 hy,by rw [h1,h2];rfl⟩
theorem rgtF_iff {t:List (List Int)} {g:Nat→Bool} {x:Nat}:rgtF t g x=true↔∃y,y<t.length∧g y=true∧inRB t y x=true:=by
  unfold rgtF
  rw [List.any_eq_true]
  constructor
  · rintro ⟨y,hy,h⟩
    rw [Bool.and_eq_true] at h
    exact ⟨y,List.mem_range.1 hy,h.1,h.2⟩
  · rintro ⟨y,hy,h1,h2⟩
    exact ⟨y,List.mem_range.2 hy,by rw [h1,h2];rfl⟩
def setI (l:List Int) (x:Nat):Bool:=l.contains (x:Int)
theorem setI_iff {l:List Int} {x:Nat}:setI l x=true↔(x:Int)∈l:=List.contains_iff_mem
theorem memV_mem {l:List Bool} {x:Int}:x∈memV l↔∃i:Nat,i<l.length∧l.getD i false=true∧x=(i:Int):=by
  unfold memV memTo
  simp only [List.mem_map,List.mem_filter,List.mem_range]
  constructor
  · rintro ⟨i,⟨h1,h2⟩,rfl⟩;exact ⟨i,h1,h2,rfl⟩
  · rintro ⟨i,h1,h2,rfl⟩;exact ⟨i,⟨h1,h2⟩,rfl⟩
theorem setB_congr {n:Nat} {f g:Nat→Bool} (h:∀x,x<n→f x=g x):setB n f=setB n g:=
  List.map_congr_left fun x hx=>h x (List.mem_range.1 hx)
def ascV (n:Nat) (f:Nat→Bool):List Int:=memV (setB n f)
theorem ascV_mem {n:Nat} {f:Nat→Bool} {x:Int}:x∈ascV n f↔∃i:Nat,i<n∧f i=true∧x=(i:Int):=by
  unfold ascV
  rw [memV_mem,setB_len]
  constructor
  · rintro ⟨i,h1,h2,h3⟩;rw [setB_get h1] at h2;exact ⟨i,h1,h2,h3⟩
  · rintro ⟨i,h1,h2,h3⟩;exact ⟨i,h1,by rw [setB_get h1];exact h2,h3⟩
theorem ascV_congr {n:Nat} {f g:Nat→Bool} (h:∀x,x<n→f x=g x):ascV n f=ascV n g:=by unfold ascV;rw [setB_congr h]
theorem ascV_len (n:Nat) (f:Nat→Bool):(ascV n f).length≤n:=by
  have h:=memTo_len (l:=setB n f) (k:=(setB n f).length)
  rw [setB_len] at h
  unfold ascV memV
  rw [setB_len];exact h
theorem ascV_set {n:Nat} {f:Nat→Bool} {x:Nat} (hx:x<n):setI (ascV n f) x=f x:=by
  cases h:f x with
  |true=>exact setI_iff.2 (ascV_mem.2 ⟨x,hx,h,rfl⟩)
  |false=>
   rw [Bool.eq_false_iff]
   intro h'
   obtain ⟨i,_,h2,h3⟩:=ascV_mem.1 (setI_iff.1 h')
   have:i=x:=by omega
   rw [this,h] at h2;cases h2
theorem set_iff {r:List Bool} {n i:Nat} {Q:Nat→Prop} (hl:r.length=n) (h:∀x,x<n→(r.getD x false=true↔Q x)) (hi:i<n):(r.set i true).length=n∧∀x,x<n→((r.set i true).getD x false=true↔(Q x∨x=i)):=
  ⟨by rw [List.length_set];exact hl,fun x hx=>by
    by_cases e:x=i
    · subst e;rw [getD_set_eq (by omega)];simp
    · rw [getD_set_ne (Ne.symm e),h x hx];simp [e]⟩
theorem setB_ofP {r:List Bool} {n:Nat} {f:Nat→Bool} (hl:r.length=n) (h:∀x,x<n→(r.getD x false=true↔f x=true)):r=setB n f:=
  setB_of hl fun x hx=>Bool.eq_iff_iff.2 (h x hx)
def inT (t:List (List Int)) (l:List Int):Prop:=∀x∈l,0≤x∧x<(t.length:Int)
instance (t:List (List Int)) (l:List Int):Decidable (inT t l):=by unfold inT;infer_instance
def IdF (t:List (List Int)) (f:Nat→Bool):Prop:=∀x s,x<t.length→s<t.length→f x=true→f (en t x s)=true∧f (en t s x)=true
def Asc (l:List Int):Prop:=∀i,i+1<l.length→l.getD i 0<l.getD (i+1) 0
def allP (t:List (List Int)):Nat→Nat|0=>0|s+1=>en t (allP t s) s
theorem allP_lt {t:List (List Int)} (h:Sh t) (ht:0<t.length):∀s,s≤t.length→allP t s<t.length
  |0,_=>ht
  |s+1,hs=>(h.ent (allP_lt h ht s (by omega)) (by omega)).2
def kerF (t:List (List Int)):Nat→Bool:=twoF t (setI [((allP t t.length:Nat):Int)])
theorem swap2 {t:List (List Int)} (h:Semi t) {x y z:Nat} (hx:x<t.length) (h1:inLB t x y=true) (h2:inRB t y z=true):∃w,w<t.length∧inRB t x w=true∧inLB t w z=true:=by
  have hy:=inL_lt h.toSh hx h1
  rcases (inRB_iff h.toSh hy).1 h2 with rfl|⟨s,hs,rfl⟩
  · exact ⟨x,hx,(inRB_iff h.toSh hx).2 (.inl rfl),h1⟩
  · rcases (inLB_iff h.toSh hx).1 h1 with rfl|⟨r,hr,rfl⟩
    · exact ⟨en t y s,(h.toSh.ent hy hs).2,(inRB_iff h.toSh hy).2 (.inr ⟨s,hs,rfl⟩),(inLB_iff h.toSh (h.toSh.ent hy hs).2).2 (.inl rfl)⟩
    · have hw:=(h.toSh.ent hx hs).2
      exact ⟨en t x s,hw,(inRB_iff h.toSh hx).2 (.inr ⟨s,hs,rfl⟩),(inLB_iff h.toSh hw).2 (.inr ⟨r,hr,(assoc3 h.assoc hr hx hs).symm⟩)⟩
theorem twoF_iff {t:List (List Int)} (h:Semi t) {g:Nat→Bool} {x:Nat}:twoF t g x=true↔∃y,y<t.length∧g y=true∧inJB t y x=true:=by
  unfold twoF
  rw [lftF_iff]
  constructor
  · rintro ⟨y,hy,h1,h2⟩
    obtain ⟨z,hz,h3,h4⟩:=rgtF_iff.1 h1
    obtain ⟨w,hw,h5,h6⟩:=swap h hz h4 h2
    exact ⟨z,hz,h3,(inJB_iff h.toSh hz).2 ⟨w,hw,h5,h6⟩⟩
  · rintro ⟨y,hy,h1,h2⟩
    obtain ⟨z,hz,h3,h4⟩:=(inJB_iff h.toSh hy).1 h2
    obtain ⟨w,hw,h5,h6⟩:=swap2 h hy h3 h4
    exact ⟨w,hw,rgtF_iff.2 ⟨y,hy,h1,h5⟩,h6⟩
end Go.Proofs.YtjabhmhhhlcopaaGreatDoor
end
section
namespace Go.Proofs.YtjabhmhhhlcopaaGreatDoor
open Go Go.AM
structure TotC {α:Type} (c:α→α→Int):Prop where
  swap:∀a b,c b a= - c a b
  eq:∀a b,c a b=0→a=b
  trans:∀a b d,c a b<0→c b d<0→c a d<0
theorem TotC.self {α:Type} {c:α→α→Int} (h:TotC c) (a:α):c a a=0:=by have:=h.swap a a;omega
def cmpI (a b:Int):Int:=if a<b then -1 else if b<a then 1 else 0
theorem cmpI_tot:TotC cmpI where
  swap a b:=by unfold cmpI;split<;>split<;>(try split)<;>omega
  eq a b:=by unfold cmpI;split<;>(try split)<;>omega
  trans a b d:=by unfold cmpI;intro h1 h2;split at h1<;>(try split at h1)<;>split at h2<;>(try split at h2)<;>first|omega|(rw [if_pos (by omega)];omega)
def Srt {α:Type} (c:α→α→Int) (l:List α):Prop:=l.Pairwise fun a b=>c a b<0
section
variable {α:Type} {c:α→α→Int}
theorem Srt.nodup (h:TotC c) {l:List α} (hs:Srt c l):l.Nodup:=hs.imp fun {a b} hab e=>by subst e;have:=h.self a;omega
theorem perm_sorted (h:TotC c):∀{l m:List α},l.Pairwise (fun a b=>c a b≤0)→m.Pairwise (fun a b=>c a b≤0)→l.Perm m→l=m
  |[],m,_,_,hp=>by rw [List.nil_perm.1 hp]
  |a::l,[],_,_,hp=>by have:=hp.length_eq;simp at this
  |a::l,b::m,h1,h2,hp=>by
   have h1':=List.pairwise_cons.1 h1
   have h2':=List.pairwise_cons.1 h2
   have e:a=b:=by
     have ha:a∈b::m:=hp.mem_iff.1 (by simp)
     have hb:b∈a::l:=hp.mem_iff.2 (by simp)
     rcases List.mem_cons.1 ha with e|ha
     · exact e
     · rcases List.mem_cons.1 hb with e|hb
       · exact e.symm
       · have g1:=h2'.1 a ha
         have g2:=h1'.1 b hb
         have:=h.swap a b
         exact h.eq _ _ (by omega)
   subst e
   rw [perm_sorted h h1'.2 h2'.2 hp.cons_inv]
theorem sorted_uniq (h:TotC c) {l m:List α} (hl:Srt c l) (hm:Srt c m) (he:∀x,x∈l↔x∈m):l=m:=
  perm_sorted h (hl.imp fun h=>by omega) (hm.imp fun h=>by omega) ((List.perm_ext_iff_of_nodup (hl.nodup h) (hm.nodup h)).2 he)
end
end Go.Proofs.YtjabhmhhhlcopaaGreatDoor
end
section
namespace Go.Proofs.YtjabhmhhhlcopaaGreatDoor
open Go Go.AM
open Classical
theorem pairwise_adj {l:List Int} (h:Asc l):l.Pairwise (· <·):=by
  rw [List.pairwise_iff_getElem]
  have key:∀d i,i+d+1<l.length→l.getD i 0<l.getD (i+d+1) 0:=by
    intro d
    induction d with
    |zero=>intro i hi;exact h i hi
    |succ d ih=>intro i hi;have h1:=ih i (by omega);have h2:=h (i+d+1) (by omega);rw [show i+(d+1)+1=i+d+1+1 by omega];omega
  intro i j hi hj hij
  have:=key (j - i - 1) i (by omega)
  rw [show i+(j - i - 1)+1=j by omega,getD_eq hi,getD_eq hj] at this
  exact this
theorem asc_of {l:List Int} (h:l.Pairwise (· <·)):Asc l:=fun i hi=>by
  rw [getD_eq (by omega),getD_eq hi]
  exact List.pairwise_iff_getElem.1 h i (i+1) (by omega) hi (by omega)
theorem asc_ext {l m:List Int} (hl:Asc l) (hm:Asc m) (h:∀x,x∈l↔x∈m):l=m:=by
  have c:∀a b:Int,cmpI a b<0↔a<b:=fun a b=>by unfold cmpI;split<;>(try split)<;>omega
  exact sorted_uniq cmpI_tot ((pairwise_adj hl).imp fun hab=>(c _ _).2 hab) ((pairwise_adj hm).imp fun hab=>(c _ _).2 hab) h
theorem ascV_asc (n:Nat) (f:Nat→Bool):Asc (ascV n f):=by
  refine asc_of ?_
  unfold ascV memV memTo
  rw [List.pairwise_map]
  refine List.Pairwise.imp ?_ (List.Pairwise.sublist List.filter_sublist List.pairwise_lt_range)
  intro a b h;exact_mod_cast h
theorem ascV_in {n:Nat} {f:Nat→Bool} {x:Int} (h:x∈ascV n f):0≤x∧x<(n:Int):=by
  obtain ⟨i,h1,_,rfl⟩:=ascV_mem.1 h;omega
def prF (t:List (List Int)) (x:Nat):Nat→Bool:=twoF t (setI [(x:Int)])
theorem prF_iff {t:List (List Int)} (h:Semi t) {x y:Nat} (hx:x<t.length):prF t x y=true↔inJB t x y=true:=by
  unfold prF
  rw [twoF_iff h]
  constructor
  · rintro ⟨z,_,h1,h2⟩
    have h1:=setI_iff.1 h1
    rw [List.mem_singleton] at h1
    have:z=x:=by omega
    rw [←this];exact h2
  · intro h1;exact ⟨x,hx,setI_iff.2 (by simp),h1⟩
theorem inJ_mul {t:List (List Int)} (h:Semi t) {x y s:Nat} (hx:x<t.length) (hs:s<t.length) (hy:inJB t x y=true):inJB t x (en t y s)=true∧inJB t x (en t s y)=true:=by
  have hy':=inJ_lt h.toSh hx hy
  have p:=preJ h
  refine ⟨p.trans _ _ _ hx hy' (h.toSh.ent hy' hs).2 hy ?_,p.trans _ _ _ hx hy' (h.toSh.ent hs hy').2 hy ?_⟩
  · exact (inJB_iff h.toSh hy').2 ⟨y,hy',(inLB_iff h.toSh hy').2 (.inl rfl),(inRB_iff h.toSh hy').2 (.inr ⟨s,hs,rfl⟩)⟩
  · exact (inJB_iff h.toSh hy').2 ⟨en t s y,(h.toSh.ent hs hy').2,(inLB_iff h.toSh hy').2 (.inr ⟨s,hs,rfl⟩),(inRB_iff h.toSh (h.toSh.ent hs hy').2).2 (.inl rfl)⟩
theorem prF_id {t:List (List Int)} (h:Semi t) {x:Nat} (hx:x<t.length):IdF t (prF t x):=fun y s _ hs hf=>by
  rw [prF_iff h hx] at hf ⊢
  rw [prF_iff h hx]
  exact inJ_mul h hx hs hf
theorem prF_self {t:List (List Int)} (h:Semi t) {x:Nat} (hx:x<t.length):prF t x x=true:=(prF_iff h hx).2 ((preJ h).refl _ hx)
theorem id_has {t:List (List Int)} (h:Semi t) {f:Nat→Bool} (hf:IdF t f) {x y:Nat} (hx:x<t.length) (hfx:f x=true) (hy:inJB t x y=true):f y=true:=by
  obtain ⟨z,hz,h1,h2⟩:=(inJB_iff h.toSh hx).1 hy
  have hz':f z=true:=by
    rcases (inLB_iff h.toSh hx).1 h1 with rfl|⟨s,hs,rfl⟩
    · exact hfx
    · exact (hf x s hx hs hfx).2
  rcases (inRB_iff h.toSh hz).1 h2 with rfl|⟨s,hs,rfl⟩
  · exact hz'
  · exact (hf z s hz hs hz').1
end Go.Proofs.YtjabhmhhhlcopaaGreatDoor
end
section
namespace Go.Proofs.YtjabhmhhhlcopaaGreatDoor
open Go Go.AM
theorem ker_F {t:List (List Int)} (h:Semi t):IdF t (kerF t):=prF_id h (allP_lt h.toSh h.pos _ (Nat.le_refl _))
theorem ker_has {t:List (List Int)} (h:Semi t):kerF t (allP t t.length)=true:=prF_self h (allP_lt h.toSh h.pos _ (Nat.le_refl _))
theorem all_in {t:List (List Int)} (h:Sh t) {f:Nat→Bool} (hf:IdF t f) {x:Nat} (hx:x<t.length) (hfx:f x=true):∀k,x<k→k≤t.length→f (allP t k)=true
  |0,h1,_=>absurd h1 (Nat.not_lt_zero _)
  |k+1,h1,h2=>by
   have hp:=allP_lt h h.pos k (by omega)
   by_cases e:x=k
   · subst e;exact (hf x (allP t x) hx hp hfx).2
   · exact (hf (allP t k) k hp (by omega) (all_in h hf hx hfx k (by omega) (by omega))).1
theorem ker_min {t:List (List Int)} (h:Semi t) {f:Nat→Bool} (hf:IdF t f) {x:Nat} (hx:x<t.length) (hfx:f x=true) {y:Nat} (hy:kerF t y=true):f y=true:=by
  have ha:=allP_lt h.toSh h.pos _ (Nat.le_refl t.length)
  exact id_has h hf ha (all_in h.toSh hf hx hfx _ hx (Nat.le_refl _)) ((prF_iff h ha).1 hy)
end Go.Proofs.YtjabhmhhhlcopaaGreatDoor
end
section
namespace Go.Proofs.YtjabhmhhhlcopaaGreatDoor
open Go Go.AM
def oneL (t:List (List Int)) (F:(Nat→Bool)→Nat→Bool) (x:Nat):List Int:=ascV t.length (F (setI [(x:Int)]))
def mnL (t:List (List Int)) (F:(Nat→Bool)→Nat→Bool):Nat→List (List Int)
  |0=>[]
  |x+1=>if kerF t x&& !(mnL t F x).any (fun l=>setI l x) then mnL t F x++[oneL t F x] else mnL t F x
def covB (L:List (List Int)) (x:Nat):Bool:=L.any fun l=>setI l x
theorem mnL_yes {t:List (List Int)} {F:(Nat→Bool)→Nat→Bool} {x:Nat} (h1:kerF t x=true) (h2:covB (mnL t F x) x=false):mnL t F (x+1)=mnL t F x++[oneL t F x]:=by
  unfold covB at h2
  simp only [mnL];rw [h1,h2];rfl
theorem mnL_no {t:List (List Int)} {F:(Nat→Bool)→Nat→Bool} {x:Nat} (h:kerF t x=false∨covB (mnL t F x) x=true):mnL t F (x+1)=mnL t F x:=by
  simp only [mnL]
  rcases h with h|h
  · rw [h];rfl
  · unfold covB at h;rw [h,if_neg (by simp)]
theorem mnL_len (t:List (List Int)) (F:(Nat→Bool)→Nat→Bool):∀x,(mnL t F x).length≤x
  |0=>Nat.le_refl _
  |x+1=>by
   have:=mnL_len t F x
   simp only [mnL];split<;>simp<;>omega
theorem covB_snoc (L:List (List Int)) (l:List Int) (x:Nat):covB (L++[l]) x=(covB L x||setI l x):=by unfold covB;rw [List.any_append];simp
end Go.Proofs.YtjabhmhhhlcopaaGreatDoor
end
section
namespace Go.Proofs.YtjabhmhhhlcopaaGreatDoor
open Go Go.AM
def posTo (l:List Int):Nat→Nat→Int|0,_=> -1|k+1,x=>if l.getD k 0=(x:Int) then (k:Int) else posTo l k x
theorem posTo_rng (l:List Int):∀k x, -1≤posTo l k x∧posTo l k x<k
  |0,_=>by simp [posTo]
  |k+1,x=>by have:=posTo_rng l k x;simp only [posTo];split<;>omega
theorem posTo_in {l:List Int} {x:Nat}:∀{k:Nat},(∃j,j<k∧l.getD j 0=(x:Int))→0≤posTo l k x∧l.getD (posTo l k x).toNat 0=(x:Int)
  |0,⟨j,hj,_⟩=>absurd hj (Nat.not_lt_zero _)
  |k+1,⟨j,hj,he⟩=>by
   simp only [posTo]
   by_cases e:l.getD k 0=(x:Int)
   · rw [if_pos e,Int.toNat_natCast];exact ⟨by omega,e⟩
   · rw [if_neg e]
     refine posTo_in ⟨j,?_,he⟩
     rcases Nat.lt_or_ge j k with h|h
     · exact h
     · exact absurd (show l.getD k 0=(x:Int) by rw [show k=j by omega];exact he) e
theorem asc_inj {l:List Int} (h:Asc l) {i j:Nat} (hi:i<l.length) (hj:j<l.length) (he:l.getD i 0=l.getD j 0):i=j:=by
  have hp:=List.pairwise_iff_getElem.1 (pairwise_adj h)
  rw [getD_eq hi,getD_eq hj] at he
  rcases Nat.lt_trichotomy i j with h1|h1|h1
  · have:=hp i j hi hj h1;omega
  · exact h1
  · have:=hp j i hj hi h1;omega
structure ClL (t:List (List Int)) (l:List Int):Prop where
  pos:0<l.length
  asc:Asc l
  ins:inT t l
  cl:∀x y,x<t.length→y<t.length→setI l x=true→setI l y=true→setI l (en t x y)=true
def eL (l:List Int) (i:Nat):Nat:=(l.getD i 0).toNat
theorem ClL.el {t:List (List Int)} {l:List Int} (h:ClL t l) {i:Nat} (hi:i<l.length):eL l i<t.length∧l.getD i 0=(eL l i:Int)∧setI l (eL l i)=true:=by
  have hm:=getD_mem (d:=0) hi
  have hr:=h.ins _ hm
  unfold eL
  exact ⟨by omega,by omega,setI_iff.2 (by rw [Int.toNat_of_nonneg hr.1];exact hm)⟩
def pL (l:List Int) (x:Nat):Nat:=(posTo l l.length x).toNat
theorem pL_in {l:List Int} {x:Nat} (h:setI l x=true):posTo l l.length x=(pL l x:Int)∧pL l x<l.length∧eL l (pL l x)=x:=by
  obtain ⟨j,hj,he⟩:=mem_getD 0 (setI_iff.1 h)
  have h1:=posTo_in (l:=l) (x:=x) ⟨j,hj,he.symm▸rfl⟩
  have h2:=posTo_rng l l.length x
  unfold pL eL
  refine ⟨by omega,by omega,?_⟩
  rw [h1.2,Int.toNat_natCast]
theorem eL_inj {t:List (List Int)} {l:List Int} (h:ClL t l) {i j:Nat} (hi:i<l.length) (hj:j<l.length) (he:eL l i=eL l j):i=j:=
  asc_inj h.asc hi hj (by rw [(h.el hi).2.1,(h.el hj).2.1,he])
theorem pL_el {t:List (List Int)} {l:List Int} (h:ClL t l) {i:Nat} (hi:i<l.length):pL l (eL l i)=i:=by
  have:=pL_in (h.el hi).2.2
  exact eL_inj h this.2.1 hi this.2.2
def subV (t:List (List Int)) (l:List Int) (i j:Nat):Int:=posTo l l.length (en t (eL l i) (eL l j))
def subT (t:List (List Int)) (l:List Int):List (List Int):=(List.range l.length).map fun i=>(List.range l.length).map fun j=>subV t l i j
theorem subT_len (t:List (List Int)) (l:List Int):(subT t l).length=l.length:=by simp [subT]
theorem subT_row {t:List (List Int)} {l:List Int} {i:Nat} (hi:i<l.length):(subT t l).getD i []=(List.range l.length).map fun j=>subV t l i j:=map_range_getD _ _ _ _ hi
theorem sub_in {t:List (List Int)} {l:List Int} (h:ClL t l) {i j:Nat} (hi:i<l.length) (hj:j<l.length):setI l (en t (eL l i) (eL l j))=true:=h.cl _ _ (h.el hi).1 (h.el hj).1 (h.el hi).2.2 (h.el hj).2.2
theorem sub_en {t:List (List Int)} {l:List Int} (h:ClL t l) {i j:Nat} (hi:i<l.length) (hj:j<l.length):en (subT t l) i j=pL l (en t (eL l i) (eL l j))∧en (subT t l) i j<l.length∧eL l (en (subT t l) i j)=en t (eL l i) (eL l j):=by
  have hp:=pL_in (sub_in h hi hj)
  have e:en (subT t l) i j=pL l (en t (eL l i) (eL l j)):=by
    unfold en;rw [subT_row hi,map_range_getD _ _ _ _ hj];rfl
  rw [e];exact ⟨rfl,hp.2⟩
theorem sub_semi {t:List (List Int)} (ht:Semi t) {l:List Int} (h:ClL t l) (hl:l.length≤t.length):Semi (subT t l) where
  pos:=by rw [subT_len];exact h.pos
  most:=by rw [subT_len];have:=ht.most;omega
  row:=fun r hr=>by
    obtain ⟨i,hi,rfl⟩:=mem_getD [] hr
    rw [subT_len] at hi ⊢
    rw [subT_row hi]
    refine ⟨by simp,fun x hx=>?_⟩
    obtain ⟨k,hk,rfl⟩:=List.mem_map.1 hx
    have:=pL_in (sub_in h hi (List.mem_range.1 hk))
    unfold subV;omega
  assoc:=fun g hg x y hx hy=>by
    rw [subT_len] at hg hx hy
    have a:=sub_en h hx hg
    have b:=sub_en h hg hy
    have c:=sub_en h a.2.1 hy
    have d:=sub_en h hx b.2.1
    refine eL_inj h c.2.1 d.2.1 ?_
    rw [c.2.2,d.2.2,a.2.2,b.2.2]
    exact assoc3 ht.assoc (h.el hx).1 (h.el hg).1 (h.el hy).1
end Go.Proofs.YtjabhmhhhlcopaaGreatDoor
end
