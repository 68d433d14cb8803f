import Derived.Test.YtjabhmhhhlcopaaGreatDoorSubLaw
import Derived.Test.YtjabhmhhhlcopaaGreatDoorAwk
section
namespace Go.Proofs.YtjabhmhhhlcopaaGreatDoor
open Go Go.AM
set_option maxRecDepth 100000
theorem ilist_fn (l:List Bool) (hl:l.length≤4096):QF 51 [.ro (.bools l)] (.new (.ints .i64 (memV l))):=mkQ Tryz.func51 (by decide+kernel) rfl (Nat.le_of_ble_eq_true rfl) fun _=>by
  refine Exists.intro []<|lp (X:=Nat) (fun k=>[(8,.int .i64 k),(3,.vec 17)]) (fun k=>[(17,.vec 0 (.ints .i64 (memTo l k)) [])]) (fun k=>k≤l.length) (fun k=>l.length - k) 0 (Nat.zero_le _) (by repeat' first|refine And.intro ?_ ?_|exact True.intro|(show (_:Int)=(_:Int);omega)|omega|exact rfl|(simp only [RO.len];omega)) ?_
  intro k hk
  have hm:=memTo_len (l:=l) (k:=k)
  refine And.intro (fun h1=>?_) (fun h1=>?_)
  · refine And.intro (by omega) ?_
    refine And.intro (fun h2=>?_) (fun h2=>?_)
    · have h2:l.getD k false=true:=h2
      refine And.intro (by rw [List.length_append,List.length_singleton];omega) ?_
      refine And.intro (by omega) ?_
      refine nx (k+1) (by omega) (show l.length - (k+1)<l.length - k by omega) ?_
      refine And.intro (by repeat' first|refine And.intro ?_ ?_|exact True.intro|(show (_:Int)=(_:Int);omega)|omega|exact rfl|(simp only [RO.len];omega)) (And.intro (And.intro (And.intro (by omega) (Nat.zero_le _)) (congrArg (RO.ints .i64) (memTo_yes h2).symm)) ?_)
      repeat' first|refine And.intro ?_ ?_|exact True.intro|(show (_:Int)=(_:Int);omega)|omega|exact rfl|(simp only [RO.len];omega)
    · have h2:l.getD k false=false:=h2
      refine And.intro (by omega) ?_
      refine nx (k+1) (by omega) (show l.length - (k+1)<l.length - k by omega) ?_
      refine And.intro (by repeat' first|refine And.intro ?_ ?_|exact True.intro|(show (_:Int)=(_:Int);omega)|omega|exact rfl|(simp only [RO.len];omega)) (And.intro (And.intro (And.intro (by omega) (Nat.zero_le _)) (congrArg (RO.ints .i64) (memTo_no h2).symm)) ?_)
      repeat' first|refine And.intro ?_ ?_|exact True.intro|(show (_:Int)=(_:Int);omega)|omega|exact rfl|(simp only [RO.len];omega)
  · have h1:k=l.length:=by omega
    refine And.intro ?_ trivial
    refine And.intro rfl ?_
    show RO.ints .i64 (memTo l k)=RO.ints .i64 (memTo l l.length)
    rw [h1]
theorem cloneB_fn (l:List Bool) (hl:l.length≤4096):QF 155 [.ro (.bools l)] (.new (.bools l)):=mkQ Tryz.func155 (by decide+kernel) rfl (Nat.le_of_ble_eq_true rfl) fun _=>by
  refine And.intro (fun h1=>?_) ?_
  · exact And.intro h1 trivial
  · refine And.intro (by simp;omega) ?_
    exact And.intro ⟨by omega,by simp⟩ trivial
theorem marked_k (n:Nat) (l:List Int) (hn:n≤400) (hl:∀x∈l,0≤x∧x<(n:Int)) (hll:l.length≤140737488355328):fnK TY SP Tryz.f61 [.int .i64 n,.ro (.ints .i64 l)] (.new (.bools (setB n (setI l)))):=by
  refine And.intro (by omega) ?_
  refine And.intro (by omega) ?_
  refine Exists.intro []<|lp2 (fun (i:Nat) (_:List Bool)=>[(12,.int .i64 i)]) (fun _ r=>[(9,.vec 0 (.bools r) [])]) (fun i r=>i≤l.length∧r.length=n∧∀x,x<n→(r.getD x false=true↔(x:Int)∈l.take i)) (fun i _=>l.length - i) 0 (List.replicate n false) ⟨Nat.zero_le _,by simp,fun x hx=>by rw [rep_false];simp⟩ (by repeat' first|refine And.intro ?_ ?_|exact True.intro|(show (_:Int)=(_:Int);omega)|omega|exact rfl|(simp only [RO.len];omega)) ?_
  rintro i r ⟨hi,hr,hs⟩
  refine And.intro (fun h1=>?_) (fun h1=>?_)
  · have hil:i<l.length:=by omega
    have hm:=hl _ (getD_mem (d:=0) hil)
    refine And.intro (by omega) ?_
    refine And.intro (show 0≤l.getD i 0∧l.getD i 0<(r.length:Int) by omega) ?_
    refine And.intro (show (0:Int)≤l.getD i 0 by omega) ?_
    refine And.intro (by omega) ?_
    have hnx:=set_iff hr hs (i:=(l.getD i 0).toNat) (by omega)
    refine nx (i+1,r.set (l.getD i 0).toNat true) ⟨by omega,hnx.1,fun x hx=>?_⟩ (show l.length - (i+1)<l.length - i by omega) (by repeat' first|refine And.intro ?_ ?_|exact True.intro|(show (_:Int)=(_:Int);omega)|omega|exact rfl|(simp only [RO.len];omega))
    rw [hnx.2 x hx,take_snoc (d:=0) hil,List.mem_append,List.mem_singleton]
    exact or_congr Iff.rfl ⟨fun h=>by omega,fun h=>by omega⟩
  · refine And.intro ?_ trivial
    refine And.intro rfl ?_
    exact congrArg RO.bools (setB_ofP hr fun x hx=>by rw [hs x hx,List.take_of_length_le (by omega),setI_iff])
theorem marked_fn (n:Nat) (l:List Int) (hn:n≤400) (hl:∀x∈l,0≤x∧x<(n:Int)):QF 61 [.int .i64 n,.ro (.ints .i64 l)] (.new (.bools (setB n (setI l)))):=mkQ Tryz.func61 (by decide+kernel) rfl (Nat.le_of_ble_eq_true rfl) fun hf=>marked_k n l hn hl hf.2.1.1
theorem left_fn (t:List (List Int)) (h:Sh t) (g:Nat→Bool):QF 87 [.ro (.rows .i64 t),.ro (.bools (setB t.length g))] (.new (.bools (setB t.length (lftF t g)))):=mkQ Tryz.func87 (by decide+kernel) rfl (Nat.le_of_ble_eq_true rfl) fun _=>by
  have hmost:=h.most
  have hgl:=setB_len t.length g
  refine Or.inl (cq (cloneB_fn (setB t.length g) (by omega)) (And.intro rfl trivial) ?_)
  refine Exists.intro []<|lp2 (fun (i:Nat) (_:List Bool)=>[(13,.int .i64 i)]) (fun _ r=>[(10,.vec 0 (.bools r) [])]) (fun i r=>i≤t.length∧r.length=t.length∧∀x,x<t.length→(r.getD x false=true↔(g x=true∨∃y,y<i∧g y=true∧inLB t y x=true))) (fun i _=>t.length - i) 0 (setB t.length g) ⟨Nat.zero_le _,hgl,fun x hx=>by rw [setB_get hx];simp⟩ (by repeat' first|refine And.intro ?_ ?_|exact True.intro|(show (_:Int)=(_:Int);omega)|omega|exact rfl|(simp only [RO.len];omega)) ?_
  rintro i r ⟨hi,hr,hs⟩
  refine And.intro (fun h1=>?_) (fun h1=>?_)
  · have h1:(i:Int)<((setB t.length g).length:Int):=h1
    have hil:i<t.length:=by omega
    refine And.intro ⟨by omega,h1⟩ ?_
    refine And.intro (fun h2=>?_) (fun h2=>?_)
    · have h2:g i=false:=by
        have h2:(!(setB t.length g).getD i false)=true:=h2
        rw [setB_get hil] at h2;simpa using h2
      refine And.intro (by omega) ?_
      refine nx (i+1,r) ⟨by omega,hr,fun x hx=>?_⟩ (show t.length - (i+1)<t.length - i by omega) (by repeat' first|refine And.intro ?_ ?_|exact True.intro|(show (_:Int)=(_:Int);omega)|omega|exact rfl|(simp only [RO.len];omega))
      rw [hs x hx]
      exact or_congr Iff.rfl ⟨fun ⟨y,hy,q⟩=>⟨y,by omega,q⟩,fun ⟨y,hy,q⟩=>⟨y,by
        by_cases e:y=i
        · subst e;rw [h2] at q;cases q.1
        · omega,q⟩⟩
    · have h2:g i=true:=by
        have h2:(!(setB t.length g).getD i false)=false:=h2
        rw [setB_get hil] at h2;simpa using h2
      refine Exists.intro []<|lp2 (fun (s:Nat) (_:List Bool)=>[(22,.int .i64 s)]) (fun _ r=>[(10,.vec 0 (.bools r) [])]) (fun s r=>s≤t.length∧r.length=t.length∧∀x,x<t.length→(r.getD x false=true↔((g x=true∨∃y,y<i∧g y=true∧inLB t y x=true)∨∃s',s'<s∧en t s' i=x))) (fun s _=>t.length - s) 0 r ⟨Nat.zero_le _,hr,fun x hx=>by rw [hs x hx];simp⟩ (by repeat' first|refine And.intro ?_ ?_|exact True.intro|(show (_:Int)=(_:Int);omega)|omega|exact rfl|(simp only [RO.len];omega)) ?_
      rintro s q ⟨hsn,hq,hqs⟩
      refine And.intro (fun h3=>?_) (fun h3=>?_)
      · have hsl:s<t.length:=by omega
        have hrow:=h.len hsl
        have he:=h.ent hsl hil
        refine And.intro (by omega) ?_
        refine And.intro ⟨by omega,show (i:Int)<((t.getD s []).length:Int) by omega⟩ ?_
        refine And.intro (show 0≤(t.getD s []).getD i 0∧(t.getD s []).getD i 0<(q.length:Int) by omega) ?_
        refine And.intro (show (0:Int)≤(t.getD s []).getD i 0 by omega) ?_
        refine And.intro (by omega) ?_
        have hnx:=set_iff hq hqs (i:=((t.getD s []).getD i 0).toNat) (by omega)
        refine nx (s+1,q.set ((t.getD s []).getD i 0).toNat true) ⟨by omega,hnx.1,fun x hx=>?_⟩ (show t.length - (s+1)<t.length - s by omega) (by repeat' first|refine And.intro ?_ ?_|exact True.intro|(show (_:Int)=(_:Int);omega)|omega|exact rfl|(simp only [RO.len];omega))
        rw [hnx.2 x hx,or_assoc]
        refine or_congr Iff.rfl ⟨?_,?_⟩
        · rintro (⟨s',h4,h5⟩|h4)
          · exact ⟨s',by omega,h5⟩
          · exact ⟨s,by omega,by unfold en;omega⟩
        · rintro ⟨s',h4,h5⟩
          by_cases e:s'=s
          · subst e;exact .inr (by unfold en at h5;omega)
          · exact .inl ⟨s',by omega,h5⟩
      · refine And.intro (by omega) ?_
        refine nx (i+1,q) ⟨by omega,hq,fun x hx=>?_⟩ (show t.length - (i+1)<t.length - i by omega) (by repeat' first|refine And.intro ?_ ?_|exact True.intro|(show (_:Int)=(_:Int);omega)|omega|exact rfl|(simp only [RO.len];omega))
        rw [hqs x hx,or_assoc]
        refine ⟨?_,?_⟩
        · rintro (h4|⟨y,h4,h5⟩|⟨s',h4,h5⟩)
          · exact .inl h4
          · exact .inr ⟨y,by omega,h5⟩
          · exact .inr ⟨i,by omega,h2,(inLB_iff h hil).2 (.inr ⟨s',by omega,h5⟩)⟩
        · rintro (h4|⟨y,h4,h5,h6⟩)
          · exact .inl h4
          · by_cases e:y=i
            · subst e
              rcases (inLB_iff h hil).1 h6 with h7|⟨s',h7,h8⟩
              · exact .inl (by rw [h7];exact h5)
              · exact .inr (.inr ⟨s',by omega,h8⟩)
            · exact .inr (.inl ⟨y,by omega,h5,h6⟩)
  · refine And.intro ?_ trivial
    refine And.intro rfl ?_
    have h1:((setB t.length g).length:Int)≤(i:Int):=h1
    have hin:i=t.length:=by omega
    refine congrArg RO.bools (setB_ofP hr fun x hx=>?_)
    rw [hs x hx,lftF_iff,hin]
    exact ⟨fun h'=>h'.elim (fun h4=>⟨x,hx,h4,(inLB_iff h hx).2 (.inl rfl)⟩) id,.inr⟩
theorem right_fn (t:List (List Int)) (h:Sh t) (g:Nat→Bool):QF 86 [.ro (.rows .i64 t),.ro (.bools (setB t.length g))] (.new (.bools (setB t.length (rgtF t g)))):=mkQ Tryz.func86 (by decide+kernel) rfl (Nat.le_of_ble_eq_true rfl) fun _=>by
  have hmost:=h.most
  have hgl:=setB_len t.length g
  refine Or.inl (cq (cloneB_fn (setB t.length g) (by omega)) (And.intro rfl trivial) ?_)
  refine Exists.intro []<|lp2 (fun (i:Nat) (_:List Bool)=>[(14,.int .i64 i)]) (fun _ r=>[(11,.vec 0 (.bools r) [])]) (fun i r=>i≤t.length∧r.length=t.length∧∀x,x<t.length→(r.getD x false=true↔(g x=true∨∃y,y<i∧g y=true∧inRB t y x=true))) (fun i _=>t.length - i) 0 (setB t.length g) ⟨Nat.zero_le _,hgl,fun x hx=>by rw [setB_get hx];simp⟩ (by repeat' first|refine And.intro ?_ ?_|exact True.intro|(show (_:Int)=(_:Int);omega)|omega|exact rfl|(simp only [RO.len];omega)) ?_
  rintro i r ⟨hi,hr,hs⟩
  refine And.intro (fun h1=>?_) (fun h1=>?_)
  · have h1:(i:Int)<((setB t.length g).length:Int):=h1
    have hil:i<t.length:=by omega
    refine And.intro ⟨by omega,h1⟩ ?_
    refine And.intro (fun h2=>?_) (fun h2=>?_)
    · have h2:g i=false:=by
        have h2:(!(setB t.length g).getD i false)=true:=h2
        rw [setB_get hil] at h2;simpa using h2
      refine And.intro (by omega) ?_
      refine nx (i+1,r) ⟨by omega,hr,fun x hx=>?_⟩ (show t.length - (i+1)<t.length - i by omega) (by repeat' first|refine And.intro ?_ ?_|exact True.intro|(show (_:Int)=(_:Int);omega)|omega|exact rfl|(simp only [RO.len];omega))
      rw [hs x hx]
      exact or_congr Iff.rfl ⟨fun ⟨y,hy,q⟩=>⟨y,by omega,q⟩,fun ⟨y,hy,q⟩=>⟨y,by
        by_cases e:y=i
        · subst e;rw [h2] at q;cases q.1
        · omega,q⟩⟩
    · have h2:g i=true:=by
        have h2:(!(setB t.length g).getD i false)=false:=h2
        rw [setB_get hil] at h2;simpa using h2
      have hrow:=h.len hil
      refine And.intro (by omega) ?_
      refine Exists.intro []<|lp2 (fun (s:Nat) (_:List Bool)=>[(26,.int .i64 s)]) (fun _ r=>[(11,.vec 0 (.bools r) [])]) (fun s r=>s≤t.length∧r.length=t.length∧∀x,x<t.length→(r.getD x false=true↔((g x=true∨∃y,y<i∧g y=true∧inRB t y x=true)∨∃s',s'<s∧en t i s'=x))) (fun s _=>t.length - s) 0 r ⟨Nat.zero_le _,hr,fun x hx=>by rw [hs x hx];simp⟩ (by repeat' first|refine And.intro ?_ ?_|exact True.intro|(show (_:Int)=(_:Int);omega)|omega|exact rfl|(simp only [RO.len];omega)) ?_
      rintro s q ⟨hsn,hq,hqs⟩
      refine And.intro (fun h3=>?_) (fun h3=>?_)
      · have h3:(s:Int)<((t.getD i []).length:Int):=h3
        have hsl:s<t.length:=by omega
        have he:=h.ent hil hsl
        refine And.intro ⟨by omega,h3⟩ ?_
        refine And.intro (show 0≤(t.getD i []).getD s 0∧(t.getD i []).getD s 0<(q.length:Int) by omega) ?_
        refine And.intro (show (0:Int)≤(t.getD i []).getD s 0 by omega) ?_
        refine And.intro (by omega) ?_
        have hnx:=set_iff hq hqs (i:=((t.getD i []).getD s 0).toNat) (by omega)
        refine nx (s+1,q.set ((t.getD i []).getD s 0).toNat true) ⟨by omega,hnx.1,fun x hx=>?_⟩ (show t.length - (s+1)<t.length - s by omega) (by repeat' first|refine And.intro ?_ ?_|exact True.intro|(show (_:Int)=(_:Int);omega)|omega|exact rfl|(simp only [RO.len];omega))
        rw [hnx.2 x hx,or_assoc]
        refine or_congr Iff.rfl ⟨?_,?_⟩
        · rintro (⟨s',h4,h5⟩|h4)
          · exact ⟨s',by omega,h5⟩
          · exact ⟨s,by omega,by unfold en;omega⟩
        · rintro ⟨s',h4,h5⟩
          by_cases e:s'=s
          · subst e;exact .inr (by unfold en at h5;omega)
          · exact .inl ⟨s',by omega,h5⟩
      · have h3:((t.getD i []).length:Int)≤(s:Int):=h3
        refine And.intro (by omega) ?_
        refine nx (i+1,q) ⟨by omega,hq,fun x hx=>?_⟩ (show t.length - (i+1)<t.length - i by omega) (by repeat' first|refine And.intro ?_ ?_|exact True.intro|(show (_:Int)=(_:Int);omega)|omega|exact rfl|(simp only [RO.len];omega))
        rw [hqs x hx,or_assoc]
        refine ⟨?_,?_⟩
        · rintro (h4|⟨y,h4,h5⟩|⟨s',h4,h5⟩)
          · exact .inl h4
          · exact .inr ⟨y,by omega,h5⟩
          · exact .inr ⟨i,by omega,h2,(inRB_iff h hil).2 (.inr ⟨s',by omega,h5⟩)⟩
        · rintro (h4|⟨y,h4,h5,h6⟩)
          · exact .inl h4
          · by_cases e:y=i
            · subst e
              rcases (inRB_iff h hil).1 h6 with h7|⟨s',h7,h8⟩
              · exact .inl (by rw [h7];exact h5)
              · exact .inr (.inr ⟨s',by omega,h8⟩)
            · exact .inr (.inl ⟨y,by omega,h5,h6⟩)
  · refine And.intro ?_ trivial
    refine And.intro rfl ?_
    have h1:((setB t.length g).length:Int)≤(i:Int):=h1
    have hin:i=t.length:=by omega
    refine congrArg RO.bools (setB_ofP hr fun x hx=>?_)
    rw [hs x hx,rgtF_iff,hin]
    exact ⟨fun h'=>h'.elim (fun h4=>⟨x,hx,h4,(inRB_iff h hx).2 (.inl rfl)⟩) id,.inr⟩
theorem two_fn (t:List (List Int)) (h:Sh t) (g:Nat→Bool):QF 152 [.ro (.rows .i64 t),.ro (.bools (setB t.length g))] (.new (.bools (setB t.length (twoF t g)))):=mkQ Tryz.func152 (by decide+kernel) rfl (Nat.le_of_ble_eq_true rfl) fun _=>by
  refine Or.inl (cq (right_fn t h g) (And.intro rfl (And.intro rfl trivial)) ?_)
  refine Or.inl (cq (left_fn t h (rgtF t g)) (And.intro rfl (And.intro rfl trivial)) ?_)
  exact And.intro (And.intro rfl rfl) trivial
theorem kernel_fn (t:List (List Int)) (h:Sh t) (ht:0<t.length):QF 82 [.ro (.rows .i64 t)] (.new (.bools (setB t.length (kerF t)))):=mkQ Tryz.func82 (by decide+kernel) rfl (Nat.le_of_ble_eq_true rfl) fun _=>by
  have hmost:=h.most
  refine Exists.intro []<|lp (X:=Nat) (fun s=>[(7,.int .i64 s),(3,.int .i64 (allP t s:Nat))]) (fun _=>[]) (fun s=>s≤t.length) (fun s=>t.length - s) 0 (Nat.zero_le _) (by repeat' first|refine And.intro ?_ ?_|exact True.intro|(show (_:Int)=(_:Int);omega)|omega|exact rfl|(simp only [RO.len];omega)) ?_
  intro s hs
  have hp:=allP_lt h ht s hs
  refine And.intro (fun h1=>?_) (fun h1=>?_)
  · have hsl:s<t.length:=by omega
    have hrow:=h.len hp
    have he:=h.ent hp hsl
    refine And.intro (by omega) ?_
    refine And.intro ⟨by omega,show (s:Int)<((t.getD (((allP t s:Nat):Int)).toNat []).length:Int) by rw [Int.toNat_natCast];omega⟩ ?_
    refine And.intro (by omega) ?_
    refine nx (s+1) (by omega) (show t.length - (s+1)<t.length - s by omega) ?_
    have e:(t.getD (((allP t s:Nat):Int)).toNat []).getD ((s:Int)).toNat 0=((allP t (s+1):Nat):Int):=by
      rw [Int.toNat_natCast,Int.toNat_natCast];exact he.1
    refine And.intro (And.intro ?_ (And.intro ?_ trivial)) trivial
    · show (_:Int)=(_:Int);omega
    · exact e
  · have hsn:s=t.length:=by omega
    subst hsn
    have hin:inT t [((allP t t.length:Nat):Int)]:=fun x hx=>by
      rw [List.mem_singleton] at hx;subst hx;omega
    refine Or.inl (cq (marked_fn t.length [((allP t t.length:Nat):Int)] (by omega) hin) (And.intro rfl (And.intro rfl trivial)) ?_)
    refine Or.inl (cq (two_fn t h (setI [((allP t t.length:Nat):Int)])) (And.intro rfl (And.intro rfl trivial)) ?_)
    exact And.intro (And.intro rfl rfl) trivial
theorem iKernel_fn (t:List (List Int)) (h:Semi t):QF 28 [.ro (.rows .i64 t)] (.new (.ints .i64 (ascV t.length (kerF t)))):=mkQ Tryz.func28 (by decide+kernel) rfl (Nat.le_of_ble_eq_true rfl) fun _=>by
  have hmost:=h.most
  refine Or.inl (cq (valid_fn t) (And.intro rfl trivial) ?_)
  refine And.intro (fun h1=>absurd (valid_zero.2 h) h1) (fun _=>?_)
  refine Or.inl (cq (kernel_fn t h.toSh h.pos) (And.intro rfl trivial) ?_)
  refine Or.inl (cq (ilist_fn (setB t.length (kerF t)) (by rw [setB_len];omega)) (And.intro rfl trivial) ?_)
  exact And.intro (And.intro rfl rfl) trivial
end Go.Proofs.YtjabhmhhhlcopaaGreatDoor
end
section
namespace Go.Proofs.YtjabhmhhhlcopaaGreatDoor
open Go Go.AM
set_option maxRecDepth 100000
set_option maxHeartbeats 2000000
theorem minimal_fn (t:List (List Int)) (h:Semi t) (g:FuncId) (F:(Nat→Bool)→Nat→Bool) (hg:∀f,QF g [.ro (.rows .i64 t),.ro (.bools (setB t.length f))] (.new (.bools (setB t.length (F f))))):
    QF 85 [.ro (.rows .i64 t),.fn g []] (.ro (.rows .i64 (mnL t F t.length))):=mkQ Tryz.func85 (by decide+kernel) rfl (Nat.le_of_ble_eq_true rfl) fun _=>by
  have hmost:=h.most
  refine And.intro (by omega) ?_
  refine And.intro (by omega) ?_
  refine Or.inl (cq (kernel_fn t h.toSh h.pos) (And.intro rfl trivial) ?_)
  have hkl:=setB_len t.length (kerF t)
  have e0:List.replicate ((t.length:Nat):Int).toNat false=setB t.length (covB (mnL t F 0)):=by
    refine ext_getD false (by simp [setB]) fun x hx=>?_
    rw [Int.toNat_natCast,List.length_replicate] at hx
    rw [setB_get hx,Int.toNat_natCast];unfold covB mnL;simp [hx]
  refine Exists.intro []<|lp (X:=Nat) (fun x=>[(18,.int .i64 x),(5,.vec 53)]) (fun x=>[(14,.vec 0 (.bools (setB t.length (covB (mnL t F x)))) []),(53,.vec 0 (.rows .i64 (mnL t F x)) [])]) (fun x=>x≤t.length) (fun x=>t.length - x) 0 (Nat.zero_le _) (by repeat' first|refine And.intro ?_ ?_|exact True.intro|exact congrArg RO.bools e0|(show (_:Int)=(_:Int);omega)|omega|exact rfl) ?_
  intro x hx
  have hml:=mnL_len t F x
  have hcl:=setB_len t.length (covB (mnL t F x))
  refine And.intro (fun h1=>?_) (fun h1=>?_)
  · have h1:(x:Int)<((setB t.length (kerF t)).length:Int):=h1
    have hxl:x<t.length:=by omega
    refine And.intro (by omega) ?_
    refine And.intro (fun h2=>?_) (fun h2=>?_)
    · have h2:(!(setB t.length (kerF t)).getD x false)=true:=h2
      rw [setB_get hxl] at h2
      have ek:mnL t F x=mnL t F (x+1):=(mnL_no (Or.inl (by simpa using h2))).symm
      have ed:setB t.length (covB (mnL t F x))=setB t.length (covB (mnL t F (x+1))):=by rw [ek]
      refine And.intro (by omega) ?_
      refine nx (x+1) (show x+1≤t.length by omega) (show t.length - (x+1)<t.length - x by omega) ?_
      repeat' first|refine And.intro ?_ ?_|exact True.intro|exact congrArg (RO.rows .i64) ek|exact congrArg RO.bools ed|(show (_:Int)=(_:Int);omega)|omega|exact rfl
    have h2:(!(setB t.length (kerF t)).getD x false)=false:=h2
    rw [setB_get hxl] at h2
    refine And.intro (by omega) ?_
    refine And.intro (fun h3=>?_) (fun h3=>?_)
    · have h3:(setB t.length (covB (mnL t F x))).getD x false=true:=h3
      rw [setB_get hxl] at h3
      have ek:mnL t F x=mnL t F (x+1):=(mnL_no (Or.inr h3)).symm
      have ed:setB t.length (covB (mnL t F x))=setB t.length (covB (mnL t F (x+1))):=by rw [ek]
      refine And.intro (by omega) ?_
      refine nx (x+1) (show x+1≤t.length by omega) (show t.length - (x+1)<t.length - x by omega) ?_
      repeat' first|refine And.intro ?_ ?_|exact True.intro|exact congrArg (RO.rows .i64) ek|exact congrArg RO.bools ed|(show (_:Int)=(_:Int);omega)|omega|exact rfl
    have h3:(setB t.length (covB (mnL t F x))).getD x false=false:=h3
    rw [setB_get hxl] at h3
    have ek:mnL t F x++[oneL t F x]=mnL t F (x+1):=(mnL_yes (by simpa using h2) h3).symm
    refine Or.inl (cq (marked_fn t.length [(x:Int)] hmost (fun y hy=>by rw [List.mem_singleton] at hy;omega)) (And.intro rfl (And.intro rfl trivial)) ?_)
    refine Or.inl (cq (hg (setI [(x:Int)])) (And.intro rfl (And.intro rfl trivial)) ?_)
    refine Or.inl (cq (ilist_fn (setB t.length (F (setI [(x:Int)]))) (by rw [setB_len];omega)) (And.intro rfl trivial) ?_)
    have hol:(oneL t F x).length≤t.length:=ascV_len _ _
    refine Exists.intro []<|lp2 (fun (q:Nat) (_:List Bool)=>[(42,.int .i64 q)]) (fun _ D=>[(14,.vec 0 (.bools D) [])]) (fun q D=>q≤(oneL t F x).length∧D.length=t.length∧∀y,y<t.length→D.getD y false=(covB (mnL t F x) y||((oneL t F x).take q).contains (y:Int))) (fun q _=>(oneL t F x).length - q) 0 (setB t.length (covB (mnL t F x))) ⟨Nat.zero_le _,hcl,fun y hy=>by rw [setB_get hy];simp⟩ (by repeat' first|refine And.intro ?_ ?_|exact True.intro|(show (_:Int)=(_:Int);omega)|omega|exact rfl|(simp only [RO.len];omega)) ?_
    rintro q D ⟨hq,hD,hDy⟩
    refine And.intro (fun h4=>?_) (fun h4=>?_)
    · have h4:(q:Int)<((oneL t F x).length:Int):=h4
      have hql:q<(oneL t F x).length:=by omega
      have hr:=ascV_in (n:=t.length) (getD_mem (d:=0) hql)
      have hr:0≤(oneL t F x).getD q 0∧(oneL t F x).getD q 0<(t.length:Int):=hr
      refine And.intro (by omega) ?_
      refine And.intro (show 0≤(oneL t F x).getD q 0∧(oneL t F x).getD q 0<(D.length:Int) by omega) ?_
      refine And.intro (show (0:Int)≤(oneL t F x).getD q 0 from hr.1) ?_
      refine And.intro (by omega) ?_
      refine nx (q+1,D.set ((oneL t F x).getD q 0).toNat true) ⟨by omega,by rw [List.length_set];exact hD,fun y hy=>?_⟩ (show (oneL t F x).length - (q+1)<(oneL t F x).length - q by omega) (by repeat' first|refine And.intro ?_ ?_|exact True.intro|(show (_:Int)=(_:Int);omega)|omega|exact rfl|(simp only [RO.len];omega))
      have ec:((oneL t F x).take (q+1)).contains (y:Int)=(((oneL t F x).take q).contains (y:Int)||decide ((oneL t F x).getD q 0=(y:Int))):=by
        rw [take_snoc (d:=0) hql,Bool.eq_iff_iff,Bool.or_eq_true_iff,List.contains_iff_mem,List.contains_iff_mem,List.mem_append,List.mem_singleton,decide_eq_true_iff,@eq_comm _ (y:Int)]
      by_cases e:y=((oneL t F x).getD q 0).toNat
      · subst e
        rw [getD_set_eq (by omega),ec,decide_eq_true (show (oneL t F x).getD q 0=(((oneL t F x).getD q 0).toNat:Int) by omega)];simp
      · rw [getD_set_ne (Ne.symm e),hDy y hy,ec,decide_eq_false (show ¬(oneL t F x).getD q 0=(y:Int) by omega),Bool.or_false]
    · have h4:((oneL t F x).length:Int)≤(q:Int):=h4
      have ed:D=setB t.length (covB (mnL t F (x+1))):=ext_getD false (by rw [setB_len];exact hD) fun y hy=>by
        rw [hDy y (by omega),setB_get (by omega),←ek,covB_snoc,List.take_of_length_le (by omega)];rfl
      subst ed
      refine And.intro (by simp;omega) ?_
      refine And.intro (by omega) ?_
      refine nx (x+1) (show x+1≤t.length by omega) (show t.length - (x+1)<t.length - x by omega) ?_
      repeat' first|refine And.intro ?_ ?_|exact True.intro|exact congrArg (RO.rows .i64) ek|(show (_:Int)=(_:Int);omega)|omega|exact rfl
  · have h1:((setB t.length (kerF t)).length:Int)≤(x:Int):=h1
    refine And.intro (And.intro trivial ?_) trivial
    show RO.rows .i64 (mnL t F x)=RO.rows .i64 (mnL t F t.length)
    rw [show x=t.length by omega]
theorem minL_fn (t:List (List Int)) (h:Semi t):QF 32 [.ro (.rows .i64 t)] (.ro (.rows .i64 (mnL t (lftF t) t.length))):=mkQ Tryz.func32 (by decide+kernel) rfl (Nat.le_of_ble_eq_true rfl) fun _=>by
  refine Or.inl (cq (valid_fn t) (And.intro rfl trivial) ?_)
  refine And.intro (fun h1=>absurd (valid_zero.2 h) h1) (fun _=>?_)
  refine Or.inl (cq (minimal_fn t h 87 (lftF t) (left_fn t h.toSh)) (And.intro rfl (And.intro (by repeat' first|refine And.intro ?_ ?_|exact True.intro|(show (_:Int)=(_:Int);omega)|omega|exact rfl|(simp only [RO.len];omega)) trivial)) ?_)
  exact And.intro rfl trivial
theorem minR_fn (t:List (List Int)) (h:Semi t):QF 31 [.ro (.rows .i64 t)] (.ro (.rows .i64 (mnL t (rgtF t) t.length))):=mkQ Tryz.func31 (by decide+kernel) rfl (Nat.le_of_ble_eq_true rfl) fun _=>by
  refine Or.inl (cq (valid_fn t) (And.intro rfl trivial) ?_)
  refine And.intro (fun h1=>absurd (valid_zero.2 h) h1) (fun _=>?_)
  refine Or.inl (cq (minimal_fn t h 86 (rgtF t) (right_fn t h.toSh)) (And.intro rfl (And.intro (by repeat' first|refine And.intro ?_ ?_|exact True.intro|(show (_:Int)=(_:Int);omega)|omega|exact rfl|(simp only [RO.len];omega)) trivial)) ?_)
  exact And.intro rfl trivial
end Go.Proofs.YtjabhmhhhlcopaaGreatDoor
end
