import Derived.Test.YtfhdihdafmahgaaGreatDoorR39
import Derived.Test.YtfhdihdafmahgaaGreatDoorR25
set_option linter.unusedVariables false
set_option maxRecDepth 100000
namespace Go.Proofs.YtfhdihdafmahgaaGreatDoor
open Go.ChangeShapes Go.WideShapes Go.ChangeAt Go.RowKit Go.Lib Go.Deep Ru
section
variable {H:Type} {enc:TypeId×Value→H} {W:World} {b0:Nat} {sp:Nat→Bool} {hd:Bool}
theorem sl_toksK {n:Nat} {cs:List Value} {y:DataW H×List MemPlace} (h:DataW.trod enc Tryz.prog W b0 sp hd n 32 cs=some y) :
  ∃ (A:Option Addr) (c:Nat) (l:List GTok),cs=[.slice A l.length c]∧l.length≤maxLen∧l.length≤c∧ReadsS W (· < W.heap.size) 3 A l.length (cellsG l)∧∀ t∈l,okT t:=by
 obtain⟨A,n,c,l,rfl,h1,h2,rfl,h3,h4⟩:=open_rows (f:=cells1) (Q:=okT) Tryz.underlying32 co_tok (by omega) cells1_len (fun _ _ _ h=>el_tok h) h
 exact⟨A,c,l,rfl,by omega,h1,h3,h4⟩
theorem el_declK {n:Nat} {cs:List Value} {y:DataW H×List MemPlace} (h:DataW.trod enc Tryz.prog W b0 sp hd n 34 cs=some y):∃ m:MDecl,cs=m.cells∧ReadsS W (· < W.heap.size) 3 m.A m.d.value.length (cellsG m.d.value)∧m.d.value.length≤m.c∧okD m.d:=by
 obtain⟨f0,f1,f2,hfs,y0,y1,y2,o0,o1,o2⟩:=st3 decl_fields;obtain⟨xs,k,hk,hxy,hl,hxl,hf⟩:=DataW.trod_struct (und_of decl_under hfs) h;rw[co_decl] at hl
 match xs,hxl,cs,hl with
 | [z0,z1,z2],_,[v0,v1,v2],_ =>
  have g0:=hf 0 f0 rfl;have g1:=hf 1 f1 rfl;have g2:=hf 2 f2 rfl
  simp[o0,o1,o2,y0,y1,y2,co_toks,co_str,co_bool] at g0 g1 g2
  obtain⟨s0,q0,_,w0⟩:=DataW.trod_string Tryz.underlying9 g0;obtain⟨A,c,l,q1,hl1,hlc,hr,hq⟩:=sl_toksK g1;obtain⟨b2,q2,_⟩:=DataW.trod_bool Tryz.underlying4 g2;simp only[List.cons.injEq,and_true] at q0 q1 q2;subst q0 q1 q2;have:s0.data.toList.length=s0.size:=by rw[Array.length_toList];rfl
  exact⟨⟨⟨s0.data.toList,l,b2⟩,A,c⟩,by simp[MDecl.cells,bytesOf_eta],hr,hlc,by rw[this];exact w0,hl1,hq⟩
theorem sl_declsK {n:Nat} {cs:List Value} {y:DataW H×List MemPlace} (h:DataW.trod enc Tryz.prog W b0 sp hd n 31 cs=some y) :
  ∃ (A:Option Addr) (c:Nat) (l:List Decl),cs=[.slice A l.length c]∧l.length≤maxLen∧DeclsK W (· < W.heap.size) A l.length l∧∀ d∈l,okD d:=by
 obtain⟨A,n,c,l,rfl,h1,h2,rfl,h3,h4⟩:=open_rows (f:=MDecl.cells) (Q:=fun m=>ReadsS W (· < W.heap.size) 3 m.A m.d.value.length (cellsG m.d.value)∧m.d.value.length≤m.c∧okD m.d) Tryz.underlying31 co_decl (by omega) MDecl.len (fun _ _ _ h=>el_declK h) h
 refine⟨A,c,l.map (·.d),by rw[List.length_map],by rw[List.length_map];omega,?_,fun d hd'=>?_⟩
 ·rw[List.length_map];exact⟨l,rfl,h3,fun m hm=>(h4 m hm).1,fun m hm=>(h4 m hm).2.1⟩
 ·obtain⟨m,hm,rfl⟩:=List.mem_map.1 hd'
  exact(h4 m hm).2.2
theorem el_marginK {n:Nat} {cs:List Value} {y:DataW H×List MemPlace} (h:DataW.trod enc Tryz.prog W b0 sp hd n 41 cs=some y):∃ m:MMargin,cs=m.cells∧DeclsK W (· < W.heap.size) m.A m.m.decls.length m.m.decls∧okM m.m:=by
 obtain⟨f0,f1,hfs,y0,y1,o0,o1⟩:=st2 margin_fields;obtain⟨xs,k,hk,hxy,hl,hxl,hf⟩:=DataW.trod_struct (und_of margin_under hfs) h;rw[co_margin] at hl
 match xs,hxl,cs,hl with
 | [z0,z1],_,[v0,v1],_ =>
  have g0:=hf 0 f0 rfl;have g1:=hf 1 f1 rfl
  simp[o0,o1,y0,y1,co_decls,co_str] at g0 g1
  obtain⟨s0,q0,_,w0⟩:=DataW.trod_string Tryz.underlying9 g0;obtain⟨A,c,l,q1,hl1,hr,hq⟩:=sl_declsK g1;simp only[List.cons.injEq,and_true] at q0 q1;subst q0 q1;have:s0.data.toList.length=s0.size:=by rw[Array.length_toList];rfl
  exact⟨⟨⟨s0.data.toList,l⟩,A,c⟩,by simp[MMargin.cells,bytesOf_eta],hr,by rw[this];exact w0,hl1,hq⟩
theorem sl_marginsK {n:Nat} {cs:List Value} {y:DataW H×List MemPlace} (h:DataW.trod enc Tryz.prog W b0 sp hd n 37 cs=some y) :
  ∃ (A:Option Addr) (c:Nat) (l:List Margin),cs=[.slice A l.length c]∧l.length≤maxLen∧MarginsK W (· < W.heap.size) A l.length l∧∀ d∈l,okM d:=by
 obtain⟨A,n,c,l,rfl,h1,h2,rfl,h3,h4⟩:=open_rows (f:=MMargin.cells) (Q:=fun m=>DeclsK W (· < W.heap.size) m.A m.m.decls.length m.m.decls∧okM m.m) Tryz.underlying37 co_margin (by omega) MMargin.len (fun _ _ _ h=>el_marginK h) h
 refine⟨A,c,l.map (·.m),by rw[List.length_map],by rw[List.length_map];omega,?_,fun d hd'=>?_⟩
 ·rw[List.length_map];exact⟨l,rfl,h3,fun m hm=>(h4 m hm).1⟩
 ·obtain⟨m,hm,rfl⟩:=List.mem_map.1 hd'
  exact(h4 m hm).2
theorem el_ruleK {n:Nat} {cs:List Value} {y:DataW H×List MemPlace} (h:DataW.trod enc Tryz.prog W b0 sp hd n 39 cs=some y):∃ m:MRule,cs=m.cells∧(ReadsS W (· < W.heap.size) 3 m.A1 m.r.prelude.length (cellsG m.r.prelude)∧DeclsK W (· < W.heap.size) m.A2 m.r.decls.length m.r.decls∧MarginsK W (· < W.heap.size) m.A3 m.r.margins.length m.r.margins)∧okR m.r:=by
 obtain⟨f0,f1,f2,f3,hfs,y0,y1,y2,y3,o0,o1,o2,o3⟩:=st4 rule_fields;obtain⟨xs,k,hk,hxy,hl,hxl,hf⟩:=DataW.trod_struct (und_of rule_under hfs) h;rw[co_rule] at hl
 match xs,hxl,cs,hl with
 | [z0,z1,z2,z3],_,[v0,v1,v2,v3],_ =>
  have g0:=hf 0 f0 rfl;have g1:=hf 1 f1 rfl;have g2:=hf 2 f2 rfl;have g3:=hf 3 f3 rfl
  simp[o0,o1,o2,o3,y0,y1,y2,y3,co_toks,co_int,co_decls,co_margins] at g0 g1 g2 g3
  obtain⟨n0,q0,_,w0⟩:=DataW.trod_int Tryz.underlying3 g0;obtain⟨A1,c1,l1,q1,hl1,_,hr1,hq1⟩:=sl_toksK g1;obtain⟨A2,c2,l2,q2,hl2,hr2,hq2⟩:=sl_declsK g2;obtain⟨A3,c3,l3,q3,hl3,hr3,hq3⟩:=sl_marginsK g3;simp only[List.cons.injEq,and_true] at q0 q1 q2 q3;subst q0 q1 q2 q3
  exact⟨⟨⟨n0,l1,l2,l3⟩,A1,c1,A2,c2,A3,c3⟩,rfl,⟨hr1,hr2,hr3⟩,hl1,hq1,hl2,hq2,hl3,hq3⟩
theorem open_rulesK {base:Nat} {v:Value} {d:DataW H} {ps:List MemPlace} (hv:Value.okWide Tryz.prog W .any base 24 v) (h:DataW.Trod enc Tryz.prog W b0 sp hd 24 v d ps) :
  ∃ (A:Option Addr) (n c:Nat) (l:List Rule),v=.slice A n c∧n≤c∧c≤maxLen∧RulesK W (· < W.heap.size) A n l∧∀ r∈l,okR r:=by
 obtain⟨a0,len,cap,rfl⟩:=okWide_slice Tryz.underlying24 hv;obtain⟨fuel,hf⟩:=h;obtain⟨A,n,c,l,hcs,h1,h2,rfl,h3,h4⟩:=open_rows (f:=MRule.cells) (Q:=fun m=>(ReadsS W (· < W.heap.size) 3 m.A1 m.r.prelude.length (cellsG m.r.prelude)∧DeclsK W (· < W.heap.size) m.A2 m.r.decls.length m.r.decls∧MarginsK W (· < W.heap.size) m.A3 m.r.margins.length m.r.margins)∧okR m.r) Tryz.underlying24 co_rule (by omega) MRule.len (fun _ _ _ h=>el_ruleK h) hf;simp only[Value.cells,List.cons.injEq,Value.slice.injEq,and_true] at hcs;obtain⟨rfl,rfl,rfl⟩:=hcs
 refine⟨a0,_,cap,l.map (·.r),rfl,h1,h2,⟨l,rfl,h3,fun m hm=>(h4 m hm).1⟩,fun d hd'=>?_⟩
 obtain⟨m,hm,rfl⟩:=List.mem_map.1 hd'
 exact(h4 m hm).2
end
end Go.Proofs.YtfhdihdafmahgaaGreatDoor
