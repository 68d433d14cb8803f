/- The abstract machine over this program: its types; from obligations to contracts. -/
import Derived.Test.YtjabhmhhhlcopaaGreatDoorAmTy
import Derived.Test.YtjabhmhhhlcopaaGreatDoorProg
import Derived.Test.YtjabhmhhhlcopaaGreatDoorAmRet
namespace Go.Proofs.YtjabhmhhhlcopaaGreatDoor
open Go Go.AM
set_option maxRecDepth 100000
theorem tyOk:TyOk Tryz.prog TY:=tyOk_of (by decide+kernel) (by decide+kernel) (by decide+kernel)
theorem mixed:Tryz.prog.follows .mixedOrders=true:=by decide+kernel
abbrev SP:Go.AM.Spec:=specOf Tryz.prog
abbrev QF (f:FuncId) (args:List AV) (ret:AV):Prop:=Go.AM.Fn Tryz.prog f args ret
abbrev EF (f:FuncId) (args:List AV) {X:Type} (out:X→AV) (ok:X→Prop):Prop:=Go.AM.FnE Tryz.prog f args X out ok
abbrev MF (f:FuncId) (args:List AV) (S1:Store) (ret:AV) (S2:Store):Prop:=Go.AM.FnM Tryz.prog f args S1 ret S2
theorem mkQ {f:FuncId} {fn:Func} {args:List AV} {ret:AV} (hf:Tryz.prog.funcs[f]? =some fn) (hn:fn.name≠ "runtime.NumGoroutine") (hb:fn.body.isSome=true) (hl:args.length≤fn.ntmps)
    (h:factsL args→fnK TY SP fn args ret):QF f args ret:=fn_of_ex tyOk (specOf_ok _) mixed hf hn hb hl h
theorem mkE {f:FuncId} {fn:Func} {args:List AV} {X:Type} {out:X→AV} {ok:X→Prop} (hf:Tryz.prog.funcs[f]? =some fn) (hn:fn.name≠ "runtime.NumGoroutine") (hb:fn.body.isSome=true) (hl:args.length≤fn.ntmps)
    (h:factsL args→fnEK TY SP fn args out ok):EF f args out ok:=fnE_of_ex tyOk (specOf_ok _) mixed hf hn hb hl h
theorem mkM {f:FuncId} {fn:Func} {args:List AV} {S1 S2:Store} {ret:AV} (hf:Tryz.prog.funcs[f]? =some fn) (hn:fn.name≠ "runtime.NumGoroutine") (hb:fn.body.isSome=true) (hl:args.length≤fn.ntmps)
    (h:factsL args→fnMK TY SP fn args S1 ret S2):MF f args S1 ret S2:=fnM_of_ex tyOk (specOf_ok _) mixed hf hn hb hl h
theorem getD_mem {α:Type} {l:List α} {i:Nat} {d:α} (h:i<l.length):l.getD i d∈l:=by
  simp [List.getD,h]
theorem getD_eq {α:Type} {l:List α} {i:Nat} {d:α} (h:i<l.length):l.getD i d=l[i]:=by
  simp [List.getD,h]
theorem getD_set_ne {α:Type} {l:List α} {i j:Nat} {a d:α} (h:i≠j):(l.set i a).getD j d=l.getD j d:=by
  simp [List.getD,List.getElem?_set_ne h]
theorem getD_set_eq {α:Type} {l:List α} {i:Nat} {a d:α} (h:i<l.length):(l.set i a).getD i d=a:=by
  simp [List.getD,h]
theorem mem_getD {α:Type} {l:List α} {x:α} (d:α) (h:x∈l):∃i,i<l.length∧l.getD i d=x:=by
  obtain ⟨i,hi,e⟩:=List.mem_iff_getElem.1 h
  exact ⟨i,hi,by rw [getD_eq hi,e]⟩
theorem lp {X:Type} (U:X→List (Nat × AV)) (V:X→Store) (ok:X→Prop) (μ:X→Nat) (x0:X) {E:(Y:Type)→(Y→List (Nat × AV))→(Y→Store)→(Y→Prop)→(Y→Nat)→Y→Prop} {B:(Y:Type)→(Y→List (Nat × AV))→(Y→Store)→(Y→Prop)→(Y→Nat)→Y→Prop}
    (h0:ok x0) (h1:E X U V ok μ x0) (h2:∀x,ok x→B X U V ok μ x):
    ∃(X:Type) (U:X→List (Nat × AV)) (V:X→Store) (ok:X→Prop) (μ:X→Nat) (x0:X),(ok x0∧E X U V ok μ x0)∧∀x,ok x→B X U V ok μ x:=
  ⟨X,U,V,ok,μ,x0,⟨h0,h1⟩,h2⟩
abbrev un2 {A B:Type} {γ:Sort _} (f:A→B→γ) (p:A × B):γ:=match p with|(a,b)=>f a b
abbrev un3 {A B C:Type} {γ:Sort _} (f:A→B→C→γ) (p:A × B × C):γ:=match p with|(a,b,c)=>f a b c
abbrev un4 {A B C D:Type} {γ:Sort _} (f:A→B→C→D→γ) (p:A × B × C × D):γ:=match p with|(a,b,c,d)=>f a b c d
theorem lp2 {A B:Type} (U:A→B→List (Nat × AV)) (V:A→B→Store) (ok:A→B→Prop) (μ:A→B→Nat) (a0:A) (b0:B) {E Bd:(Y:Type)→(Y→List (Nat × AV))→(Y→Store)→(Y→Prop)→(Y→Nat)→Y→Prop}
    (h0:ok a0 b0) (h1:E (A × B) (un2 U) (un2 V) (un2 ok) (un2 μ) (a0,b0)) (h2:∀a b,ok a b→Bd (A × B) (un2 U) (un2 V) (un2 ok) (un2 μ) (a,b)):
    ∃(X:Type) (U:X→List (Nat × AV)) (V:X→Store) (ok:X→Prop) (μ:X→Nat) (x0:X),(ok x0∧E X U V ok μ x0)∧∀x,ok x→Bd X U V ok μ x:=
  ⟨A × B,un2 U,un2 V,un2 ok,un2 μ,(a0,b0),⟨h0,h1⟩,fun (a,b) h=>h2 a b h⟩
theorem lp3 {A B C:Type} (U:A→B→C→List (Nat × AV)) (V:A→B→C→Store) (ok:A→B→C→Prop) (μ:A→B→C→Nat) (a0:A) (b0:B) (c0:C) {E Bd:(Y:Type)→(Y→List (Nat × AV))→(Y→Store)→(Y→Prop)→(Y→Nat)→Y→Prop}
    (h0:ok a0 b0 c0) (h1:E (A × B × C) (un3 U) (un3 V) (un3 ok) (un3 μ) (a0,b0,c0)) (h2:∀a b c,ok a b c→Bd (A × B × C) (un3 U) (un3 V) (un3 ok) (un3 μ) (a,b,c)):
    ∃(X:Type) (U:X→List (Nat × AV)) (V:X→Store) (ok:X→Prop) (μ:X→Nat) (x0:X),(ok x0∧E X U V ok μ x0)∧∀x,ok x→Bd X U V ok μ x:=
  ⟨A × B × C,un3 U,un3 V,un3 ok,un3 μ,(a0,b0,c0),⟨h0,h1⟩,fun (a,b,c) h=>h2 a b c h⟩
theorem lp4 {A B C D:Type} (U:A→B→C→D→List (Nat × AV)) (V:A→B→C→D→Store) (ok:A→B→C→D→Prop) (μ:A→B→C→D→Nat) (a0:A) (b0:B) (c0:C) (d0:D) {E Bd:(Y:Type)→(Y→List (Nat × AV))→(Y→Store)→(Y→Prop)→(Y→Nat)→Y→Prop}
    (h0:ok a0 b0 c0 d0) (h1:E (A × B × C × D) (un4 U) (un4 V) (un4 ok) (un4 μ) (a0,b0,c0,d0)) (h2:∀a b c d,ok a b c d→Bd (A × B × C × D) (un4 U) (un4 V) (un4 ok) (un4 μ) (a,b,c,d)):
    ∃(X:Type) (U:X→List (Nat × AV)) (V:X→Store) (ok:X→Prop) (μ:X→Nat) (x0:X),(ok x0∧E X U V ok μ x0)∧∀x,ok x→Bd X U V ok μ x:=
  ⟨A × B × C × D,un4 U,un4 V,un4 ok,un4 μ,(a0,b0,c0,d0),⟨h0,h1⟩,fun (a,b,c,d) h=>h2 a b c d h⟩
theorem cm {f:FuncId} (fz:List Nat) (σ:List (Nat × Nat)) {S1:Store} {as2:List AV} {ret:AV} {S2:Store} (h:MF f as2 S1 ret S2) {Q:Prop} {R:List Nat→List (Nat × Nat)→Store→List AV→AV→Store→Prop} (hr:R fz σ S1 as2 ret S2):
    (∃(fz:List Nat) (σ:List (Nat × Nat)) (S1:Store) (as2:List AV) (ret:AV) (S2:Store),SP.m f as2 S1 ret S2∧R fz σ S1 as2 ret S2)∨Q:=Or.inl ⟨fz,σ,S1,as2,ret,S2,h,hr⟩
theorem cq {f:FuncId} {as2:List AV} {ret:AV} (h:QF f as2 ret) {R Q:List AV→AV→Prop} (ha:R as2 ret) (hr:Q as2 ret):∃(as2:List AV) (ret:AV),SP.q f as2 ret∧R as2 ret∧Q as2 ret:=⟨as2,ret,h,ha,hr⟩
theorem ce {f:FuncId} {as2:List AV} {X:Type} {out:X→AV} {ok:X→Prop} (h:EF f as2 out ok) {R:List AV→Prop} {Q:(X:Type)→(X→AV)→X→Prop} (ha:R as2) (hr:∀x,ok x→Q X out x):
    ∃(X:Type) (as2:List AV) (out:X→AV) (ok:X→Prop),SP.e f as2 X out ok∧R as2∧∀x,ok x→Q X out x:=⟨X,as2,out,ok,h,ha,hr⟩
theorem nx {X:Type} {ok:X→Prop} {μ:X→Nat} {m:Nat} {T3 T0:List AV} {R:X→Prop} (x':X) (h1:ok x') (h2:μ x'<m) (h4:R x') (h3:T3=T0:=by rfl):∃x',(ok x'∧μ x'<m)∧T3=T0∧R x':=⟨x',⟨h1,h2⟩,h3,h4⟩
end Go.Proofs.YtjabhmhhhlcopaaGreatDoor
