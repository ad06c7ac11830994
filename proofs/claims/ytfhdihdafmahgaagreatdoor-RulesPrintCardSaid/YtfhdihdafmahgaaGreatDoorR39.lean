import Derived.Test.YtfhdihdafmahgaaGreatDoorR38
import Derived.Test.YtfhdihdafmahgaaGreatDoorR20
set_option linter.unusedVariables false
set_option maxRecDepth 100000
namespace Go.Proofs.YtfhdihdafmahgaaGreatDoor
open Go.ChangeShapes Go.WideShapes Go.ChangeAt Go.RowKit Go.Lib Go.Deep Ru
section
variable {H:Type} {enc:TypeId×Value→H} {W:World} {b0:Nat} {sp:Nat→Bool} {hd:Bool}
theorem flat_get {α:Type} {f:α→List Value} {s:Nat} (hs:0<s) (hf:∀ x,(f x).length=s) {l:List α} {j:Nat} {u:Value} (h:(l.flatMap f)[j]?=some u):∃ x,l[j / s]?=some x∧(f x)[j % s]?=some u:=by
 have hj:j<l.length * s:=by have:=(List.getElem?_eq_some_iff.1 h).1;rw[flat_len hf] at this;exact this
 have hi:j / s<l.length:=(Nat.div_lt_iff_lt_mul hs).2 hj;have ht:l[j / s]?=some l[j / s]:=List.getElem?_eq_getElem hi
 refine⟨_,ht,?_⟩
 rw[←flat_at hf l (j / s) (j % s) _ ht (Nat.mod_lt _ hs),Nat.mul_comm,Nat.div_add_mod]
 exact h
theorem open_rows {α:Type} [Inhabited α] {f:α→List Value} {s:Nat} {Q:α→Prop} {t e:TypeId} {fuel:Nat} {cs:List Value} {x:DataW H×List MemPlace}
  (ht:Tryz.prog.underlying t=some (.slice e)) (ce:Tryz.prog.cellsOf e=s) (hs:0<s) (hf:∀ x,(f x).length=s)
  (hel:∀ n cs y,DataW.trod enc Tryz.prog W b0 sp hd n e cs=some y→∃ a:α,cs=f a∧Q a)
  (h:DataW.trod enc Tryz.prog W b0 sp hd fuel t cs=some x) :
  ∃ (A:Option Addr) (n c:Nat) (l:List α),cs=[.slice A n c]∧n≤c∧c≤maxLen∧l.length=n∧ReadsS W (· < W.heap.size) s A n (l.flatMap f)∧∀ a∈l,Q a:=by
 rcases open_slice ht h with⟨rfl,_⟩|⟨a,len,cap,m,fu,D,Pl,rfl,_,hl,hm,hmm,_,hx⟩
 ·exact⟨none,0,0,[],rfl,Nat.le_refl _,Nat.zero_le _,rfl,ReadsS.nil,fun a ha=>by cases ha⟩
 ·have hlm:len≤m:=by rw[hmm];split<;>omega
  have each:∀ i,i<m→∃ q:α,(∀ j u,(f q)[j]?=some u→W.cell? (a.add (i * s+j))=some u)∧Q q:=by
   intro i hi;obtain⟨cs',h1,h2⟩:=hx i hi;rw[ce] at h1;obtain⟨q,rfl,hq⟩:=hel _ _ _ h2;obtain⟨_,hlen,hcell⟩:=World.cells?_some h1
   refine⟨q,fun j u hu=>?_,hq⟩
   have hj:=(List.getElem?_eq_some_iff.1 hu).1;have e0:=hcell j (by omega);rw[Go.Deep.add_add] at e0;rw[e0,hu]
  obtain⟨q,hq⟩:=choose_lt each
  refine⟨some a,len,cap,(List.range len).map q,rfl,hl,hm,by simp,⟨by rw[flat_len hf];simp,fun hn=>?_⟩,fun y hy=>?_⟩
  ·obtain⟨b,off,fld⟩:=a
   have h0:∃ u,(f (q 0))[0]?=some u:=⟨_,List.getElem?_eq_getElem (by rw[hf];exact hs)⟩;obtain⟨u0,h0⟩:=h0;have c0:=(hq 0 (by omega)).1 0 u0 h0;have hspot:fld=none:=by simpa [Addr.add] using World.cell?_spot c0
   subst hspot
   refine⟨b,off,rfl,?_,fun j u hu=>?_⟩
   ·rw[Go.WideShapes.add_plain] at c0
    exact World.block_lt_of_cell? _ _ c0
   ·obtain⟨y,hy,hc⟩:=flat_get hs hf hu
    have hil:j / s<len:=by have:=(List.getElem?_eq_some_iff.1 hy).1;simpa using this
    rw[List.getElem?_map,List.getElem?_range hil] at hy
    injection hy with hy
    rw[←hy] at hc;have g:=(hq (j / s) (by omega)).1 _ _ hc;rw[Go.WideShapes.add_plain,Nat.mul_comm,Nat.div_add_mod] at g
    exact g
  ·obtain⟨i,hi,rfl⟩:=List.mem_map.1 hy
   exact(hq i (by have:=List.mem_range.1 hi;omega)).2
theorem st3 {fs:List Field} {n0 n1 n2:String} {t0 t1 t2:TypeId} {a0 a1 a2:Nat} (hf:fs.map (fun f=>(f.name,f.type,f.offset))=[(n0,t0,a0),(n1,t1,a1),(n2,t2,a2)]):∃ f0 f1 f2,fs=[f0,f1,f2]∧f0.type=t0∧f1.type=t1∧f2.type=t2∧f0.offset=a0∧f1.offset=a1∧f2.offset=a2:=by
 rcases fs with _|⟨a,_|⟨b,_|⟨c,_|⟨d,fs⟩⟩⟩⟩
 ·simp at hf
 ·simp at hf
 ·simp at hf
 ·simp only[List.map_cons,List.map_nil,List.cons.injEq,Prod.mk.injEq,and_true] at hf
  obtain⟨⟨_,a2,a3⟩,⟨_,b2,b3⟩,_,c2,c3⟩:=hf
  exact⟨a,b,c,rfl,a2,b2,c2,a3,b3,c3⟩
 ·simp at hf
theorem st2 {fs:List Field} {n0 n1:String} {t0 t1:TypeId} {a0 a1:Nat} (hf:fs.map (fun f=>(f.name,f.type,f.offset))=[(n0,t0,a0),(n1,t1,a1)]):∃ f0 f1,fs=[f0,f1]∧f0.type=t0∧f1.type=t1∧f0.offset=a0∧f1.offset=a1:=by
 rcases fs with _|⟨a,_|⟨b,_|⟨c,fs⟩⟩⟩
 ·simp at hf
 ·simp at hf
 ·simp only[List.map_cons,List.map_nil,List.cons.injEq,Prod.mk.injEq,and_true] at hf
  obtain⟨⟨_,a2,a3⟩,_,b2,b3⟩:=hf
  exact⟨a,b,rfl,a2,b2,a3,b3⟩
 ·simp at hf
theorem st4 {fs:List Field} {n0 n1 n2 n3:String} {t0 t1 t2 t3:TypeId} {a0 a1 a2 a3:Nat} (hf:fs.map (fun f=>(f.name,f.type,f.offset))=[(n0,t0,a0),(n1,t1,a1),(n2,t2,a2),(n3,t3,a3)]):∃ f0 f1 f2 f3,fs=[f0,f1,f2,f3]∧f0.type=t0∧f1.type=t1∧f2.type=t2∧f3.type=t3∧f0.offset=a0∧f1.offset=a1∧f2.offset=a2∧f3.offset=a3:=by
 rcases fs with _|⟨a,_|⟨b,_|⟨c,_|⟨d,_|⟨e,fs⟩⟩⟩⟩⟩
 ·simp at hf
 ·simp at hf
 ·simp at hf
 ·simp at hf
 ·simp only[List.map_cons,List.map_nil,List.cons.injEq,Prod.mk.injEq,and_true] at hf
  obtain⟨⟨_,a2,a3⟩,⟨_,b2,b3⟩,⟨_,c2,c3⟩,_,d2,d3⟩:=hf
  exact⟨a,b,c,d,rfl,a2,b2,c2,d2,a3,b3,c3,d3⟩
 ·simp at hf
theorem und_of {t:TypeId} {l:List Field} (h1:Tryz.prog.underlying t=some (.struct (Tryz.prog.fieldsOf t))) (h2:(Tryz.prog.fieldsOf t).toList=l):Tryz.prog.underlying t=some (.struct l.toArray):=by
 rw[h1]
 congr 2
 apply Array.ext'
 rw[h2]
theorem decl_fields:(Tryz.prog.fieldsOf 34).toList.map (fun f=>(f.name,f.type,f.offset))=[("Name", 9,0),("Value", 32,1),("Important", 4,2)]:=by kernel_rfl
theorem margin_fields:(Tryz.prog.fieldsOf 41).toList.map (fun f=>(f.name,f.type,f.offset))=[("Name", 9,0),("Decls", 31,1)]:=by kernel_rfl
theorem rule_fields:(Tryz.prog.fieldsOf 39).toList.map (fun f=>(f.name,f.type,f.offset))=[("Kind", 3,0),("Prelude", 32,1),("Decls", 31,2),("Margins", 37,3)]:=by kernel_rfl
theorem decl_under:Tryz.prog.underlying 34=some (.struct (Tryz.prog.fieldsOf 34)):=by kernel_rfl
theorem margin_under:Tryz.prog.underlying 41=some (.struct (Tryz.prog.fieldsOf 41)):=by kernel_rfl
theorem rule_under:Tryz.prog.underlying 39=some (.struct (Tryz.prog.fieldsOf 39)):=by kernel_rfl
theorem co_int:Tryz.prog.cellsOf 3=1:=by kernel_rfl
theorem co_str:Tryz.prog.cellsOf 9=1:=by kernel_rfl
theorem co_bool:Tryz.prog.cellsOf 4=1:=by kernel_rfl
theorem co_toks:Tryz.prog.cellsOf 32=1:=by kernel_rfl
theorem co_decls:Tryz.prog.cellsOf 31=1:=by kernel_rfl
theorem co_margins:Tryz.prog.cellsOf 37=1:=by kernel_rfl
theorem co_tok:Tryz.prog.cellsOf 58=3:=by kernel_rfl
theorem co_decl:Tryz.prog.cellsOf 34=3:=by kernel_rfl
theorem co_margin:Tryz.prog.cellsOf 41=2:=by kernel_rfl
theorem co_rule:Tryz.prog.cellsOf 39=4:=by kernel_rfl
theorem el_tok {n:Nat} {cs:List Value} {y:DataW H×List MemPlace} (h:DataW.trod enc Tryz.prog W b0 sp hd n 58 cs=some y):∃ t:GTok,cs=cells1 t∧okT t:=by
 obtain⟨f0,f1,f2,hfs,y0,y1,y2,o0,o1,o2⟩:=st3 tok_fields;obtain⟨xs,k,hk,hxy,hl,hxl,hf⟩:=DataW.trod_struct (und_of tok_under hfs) h;rw[co_tok] at hl
 match xs,hxl,cs,hl with
 | [z0,z1,z2],_,[v0,v1,v2],_ =>
  have g0:=hf 0 f0 rfl;have g1:=hf 1 f1 rfl;have g2:=hf 2 f2 rfl
  simp[o0,o1,o2,y0,y1,y2,co_int,co_str] at g0 g1 g2
  obtain⟨n0,q0,_,w0⟩:=DataW.trod_int Tryz.underlying3 g0;obtain⟨s1,q1,_,w1⟩:=DataW.trod_string Tryz.underlying9 g1;obtain⟨n2,q2,_,w2⟩:=DataW.trod_int Tryz.underlying3 g2;simp only[List.cons.injEq,and_true] at q0 q1 q2;subst q0 q1 q2
  refine⟨⟨n0,s1.data.toList,n2⟩,by simp[cells1,bytesOf_eta],?_,bounds_i64 w2⟩
  have:s1.data.toList.length=s1.size:=by rw[Array.length_toList];rfl
  rw[this];exact w1
instance :Inhabited MDecl:=⟨⟨⟨[],[],false⟩,none,0⟩⟩
instance :Inhabited MMargin:=⟨⟨⟨[],[]⟩,none,0⟩⟩
instance :Inhabited MRule:=⟨⟨⟨0,[],[],[]⟩,none,0,none,0,none,0⟩⟩
end
end Go.Proofs.YtfhdihdafmahgaaGreatDoor
