import Derived.Test.YtfhdihdafmahgaaGreatDoorR43
import Derived.Test.YtfhdihdafmahgaaGreatDoorR38
set_option linter.unusedVariables false
set_option linter.unusedSimpArgs false
set_option maxRecDepth 100000
set_option maxHeartbeats 16000000
namespace Go.Proofs.YtfhdihdafmahgaaGreatDoor
open Go.RowKit Rn Tp Ru
structure DJ (w wr:World) (v:Value) (md:List MDecl):Prop where
 bel:Below w.heap.size w wr
 own:wr.ownsRow w.heap.size 34 3 v md.length (cellsD md)
 rd:DeclsM wr (RS w wr v) md
section
variable {w wr W w3:World} {v v':Value} {md:List MDecl} {o:Obj}
theorem DJ.start (w:World):DJ w w (.slice none 0 0) []:=⟨Below.refl _ _,World.ownsRow_nil _ _ _ _,(fun m hm=>by cases hm)⟩
theorem DJ.below (h:DJ w wr v md) (hb:Below wr.heap.size wr W):DJ w W v md :=
 ⟨h.bel.trans (hb.mono h.bel.size),own_below h.own hb,(h.rd.keep (Kept.of_below hb (fun b h=>h.2.1))).more (fun b hb'=>⟨hb'.1,Nat.lt_of_lt_of_le hb'.2.1 hb.size,hb'.2.2⟩)⟩
theorem DJ.push {m:MDecl} (h:DJ w W v md) (hm:ReadsS W (RS w W v) 3 m.A m.d.value.length (cellsG m.d.value)) (hw:w.heap.size≤W.heap.size)
  (hown:w3.ownsRow w.heap.size 34 3 v' (md.length+1) (cellsD md++m.cells)) (hg:(W.alloc o).grownBy w3 v.ownBlock) (hat:v'.ownBlock=v.ownBlock∨v'.ownBlock=some (W.heap.size+1)):DJ w w3 v' (md++[m]):=by
 have hsz:W.heap.size+1≤w3.heap.size:=by have:=hg.size;simpa using this
 have hS:∀ b,RS w W v b→RS w w3 v' b:=fun b hb=>⟨hb.1,by have:=hb.2.1;omega,by
  rcases hat with e|e
  ·rw[e];exact hb.2.2
  ·rw[e];intro e2;injection e2 with e2;have:=hb.2.1;omega⟩
 have hkA:Kept (RS w W v) W (W.alloc o):=Kept.of_alloc o (fun b hb=>hb.2.1);have hkG:Kept (RS w W v) (W.alloc o) w3:=Kept.of_grown hg (fun b hb=>⟨by have:=hb.2.1;simp;omega,fun e=>hb.2.2 e.symm⟩);have hk:=hkA.trans hkG
 exact⟨push_below h.bel hw h.own hg,by rw[List.length_append,cellsD_snoc];exact hown,((h.rd.keep hk).more hS).snoc ((hm.keep hk).more hS)⟩
theorem DJ.done {A:Option Addr} {n c:Nat} (h:DJ w wr (.slice A n c) md) (hn:n=md.length):DeclsS wr (Fresh w wr) A n (md.map (·.d)):=by
 subst hn
 exact⟨md,rfl,ReadsS.of_own h.own (fun b hb=>h.own.lt b hb),h.rd.more (fun b hb=>⟨hb.1,hb.2.1⟩)⟩
end
section
variable {P:Program} (w:World)
end
namespace Ru
end Ru
structure OJ (rs:List Rule) (w wr:World) (k:Nat) (v:Value) (mr:List MRule):Prop where
 bel:Below w.heap.size w wr
 own:wr.ownsRow w.heap.size 39 4 v mr.length (cellsR mr)
 rd:RulesM wr (RS w wr v) mr
 e1:mr.map (·.r)=rs.take k
structure MJ (ms:List Margin) (w wr:World) (k:Nat) (v:Value) (mm:List MMargin):Prop where
 bel:Below w.heap.size w wr
 own:wr.ownsRow w.heap.size 41 2 v mm.length (cellsM mm)
 rd:MarginsM wr (RS w wr v) mm
 e1:mm.map (·.m)=ms.take k
section
variable {rs:List Rule} {ms:List Margin} {k:Nat} {w wr W w3:World} {v v':Value} {mr:List MRule} {mm:List MMargin} {o:Obj}
theorem OJ.start (rs:List Rule) (w:World):OJ rs w w 0 (.slice none 0 0) []:=⟨Below.refl _ _,World.ownsRow_nil _ _ _ _,(fun m hm=>by cases hm),(by simp)⟩
theorem OJ.below (h:OJ rs w wr k v mr) (hb:Below wr.heap.size wr W):OJ rs w W k v mr :=
 ⟨h.bel.trans (hb.mono h.bel.size),own_below h.own hb,(h.rd.keep (Kept.of_below hb (fun b h=>h.2.1))).more (fun b hb'=>⟨hb'.1,Nat.lt_of_lt_of_le hb'.2.1 hb.size,hb'.2.2⟩),h.e1⟩
theorem OJ.push {m:MRule} (h:OJ rs w W k v mr) (hm:m.Reads W (RS w W v)) (hw:w.heap.size≤W.heap.size)
  (hown:w3.ownsRow w.heap.size 39 4 v' (mr.length+1) (cellsR mr++m.cells)) (hg:(W.alloc o).grownBy w3 v.ownBlock) (hat:v'.ownBlock=v.ownBlock∨v'.ownBlock=some (W.heap.size+1))
  (h1:rs[k]?=some m.r):OJ rs w w3 (k+1) v' (mr++[m]):=by
 have hsz:W.heap.size+1≤w3.heap.size:=by have:=hg.size;simpa using this
 have hS:∀ b,RS w W v b→RS w w3 v' b:=fun b hb=>⟨hb.1,by have:=hb.2.1;omega,by
  rcases hat with e|e
  ·rw[e];exact hb.2.2
  ·rw[e];intro e2;injection e2 with e2;have:=hb.2.1;omega⟩
 have hkA:Kept (RS w W v) W (W.alloc o):=Kept.of_alloc o (fun b hb=>hb.2.1);have hkG:Kept (RS w W v) (W.alloc o) w3:=Kept.of_grown hg (fun b hb=>⟨by have:=hb.2.1;simp;omega,fun e=>hb.2.2 e.symm⟩);have hk:=hkA.trans hkG
 refine⟨push_below h.bel hw h.own hg,by rw[List.length_append,cellsR_snoc];exact hown,?_,?_⟩
 ·exact((h.rd.keep hk).more hS).snoc ((hm.keep hk).more hS)
 ·rw[List.map_append,h.e1,List.take_add_one,h1];rfl
theorem MJ.start (ms:List Margin) (w:World):MJ ms w w 0 (.slice none 0 0) []:=⟨Below.refl _ _,World.ownsRow_nil _ _ _ _,(fun m hm=>by cases hm),(by simp)⟩
theorem MJ.below (h:MJ ms w wr k v mm) (hb:Below wr.heap.size wr W):MJ ms w W k v mm :=
 ⟨h.bel.trans (hb.mono h.bel.size),own_below h.own hb,(h.rd.keep (Kept.of_below hb (fun b h=>h.2.1))).more (fun b hb'=>⟨hb'.1,Nat.lt_of_lt_of_le hb'.2.1 hb.size,hb'.2.2⟩),h.e1⟩
theorem MJ.push {m:MMargin} (h:MJ ms w W k v mm) (hm:DeclsS W (RS w W v) m.A m.m.decls.length m.m.decls) (hw:w.heap.size≤W.heap.size)
  (hown:w3.ownsRow w.heap.size 41 2 v' (mm.length+1) (cellsM mm++m.cells)) (hg:(W.alloc o).grownBy w3 v.ownBlock) (hat:v'.ownBlock=v.ownBlock∨v'.ownBlock=some (W.heap.size+1))
  (h1:ms[k]?=some m.m):MJ ms w w3 (k+1) v' (mm++[m]):=by
 have hsz:W.heap.size+1≤w3.heap.size:=by have:=hg.size;simpa using this
 have hS:∀ b,RS w W v b→RS w w3 v' b:=fun b hb=>⟨hb.1,by have:=hb.2.1;omega,by
  rcases hat with e|e
  ·rw[e];exact hb.2.2
  ·rw[e];intro e2;injection e2 with e2;have:=hb.2.1;omega⟩
 have hkA:Kept (RS w W v) W (W.alloc o):=Kept.of_alloc o (fun b hb=>hb.2.1);have hkG:Kept (RS w W v) (W.alloc o) w3:=Kept.of_grown hg (fun b hb=>⟨by have:=hb.2.1;simp;omega,fun e=>hb.2.2 e.symm⟩);have hk:=hkA.trans hkG
 refine⟨push_below h.bel hw h.own hg,by rw[List.length_append,cellsM_snoc];exact hown,?_,?_⟩
 ·exact((h.rd.keep hk).more hS).snoc ((hm.keep hk).more hS)
 ·rw[List.map_append,h.e1,List.take_add_one,h1];rfl
theorem MJ.done {A:Option Addr} {c:Nat} (h:MJ ms w wr ms.length (.slice A mm.length c) mm):MarginsS wr (Fresh w wr) A ms.length ms:=by
 have he:mm.map (·.m)=ms:=by rw[h.e1,List.take_length]
 have hl:ms.length=mm.length:=by rw[←he,List.length_map]
 refine⟨mm,he,?_,h.rd.more (fun b hb=>⟨hb.1,hb.2.1⟩)⟩
 rw[hl]
 exact ReadsS.of_own h.own (fun b hb=>h.own.lt b hb)
theorem OJ.done {A:Option Addr} {n c:Nat} (h:OJ rs w wr rs.length (.slice A n c) mr):RulesS wr (Fresh w wr) A rs.length rs:=by
 have he:mr.map (·.r)=rs:=by rw[h.e1,List.take_length]
 have hl:rs.length=mr.length:=by rw[←he,List.length_map]
 refine⟨mr,he,?_,h.rd.more (fun b hb=>⟨hb.1,hb.2.1⟩)⟩
 rw[hl];obtain⟨A',c',hv,_,_⟩:=own_form h.own
 injection hv with hv1 hv2 hv3
 subst hv1 hv2 hv3
 exact ReadsS.of_own h.own (fun b hb=>h.own.lt b hb)
end
end Go.Proofs.YtfhdihdafmahgaaGreatDoor
namespace Go.Proofs.YtfhdihdafmahgaaGreatDoor
open Go.RowKit Rn Tp Ru
theorem few_big {l:List Rule} (h:fewR l=true):∀ r∈l,bigR r:=fun r hr=>by
 obtain⟨a1,_,a2,a3,a4⟩:=ruleFew_facts ((fewR_facts h).2 r hr);obtain⟨b1,b2⟩:=declsFew_facts a3
 refine⟨by omega,by omega,by omega,fun d hd=>by have:=(declFew_facts (b2 d hd)).2.1;omega,fun m hm=>?_⟩
 obtain⟨d1,d2⟩:=declsFew_facts (marginFew_facts (a4 m hm)).2
 exact⟨by omega,fun d hd=>by have:=(declFew_facts (d2 d hd)).2.1;omega⟩
theorem walk_RulesPrint (l:List Rule) (A:Option Addr) (n c:Nat) (w:World) (hx:RulesK w (· < w.heap.size) A n l) (hn:n≤c) (hc:c≤maxLen) (hok:∀ r∈l,okR r) (hT:Tabs w) (hE:Env w) (hD:Db w) (hB:Boxed w) :
  Calls Tryz.prog 5 #[.slice A n c] w fun e w'=>e=.returned (.bool true)∧Below w.heap.size w w':=by
 have hS:=hx.toS;have cF:=ru_few l A n c w hS (by omega) (fun r hr=>(hok r hr).lim);have cAw:=fun (W:World) (h:Below w.heap.size w W)=>ru_awake W (hT.below h) (hE.below h) (hB.below h)
 have hnum:=okR.num hok;obtain⟨q1,hq1⟩:∃ q,fewR l=q:=⟨_,rfl⟩;rw[hq1] at cF
 cases q1 with
 | false =>
  go_enter Tryz.func5,Tryz.ntmps5
  go_wp2_with fail
  refine cF.mono ?_
  rintro e w1 ⟨rfl,hb1⟩
  go_wp2_with fail
  refine(cAw _ hb1).mono ?_
  rintro e w2 ⟨rfl,hb2⟩
  go_wp2_with fail
  go_ret
  exact⟨rfl,hb1.trans (hb2.mono hb1.size)⟩
 | true =>
  have cP:=fun (W:World) (h:Below w.heap.size w W)=>ru_Print l A n c W (hx.below h) hq1 hnum (hT.below h) (hE.below h) (hD.below h) (hB.below h)
  have cR:=fun (W:World) (h:Below w.heap.size w W)=>ru_Right l A n c W (hx.below h) hq1 hnum (hT.below h) (hE.below h) (hD.below h) (hB.below h)
  obtain⟨q2,hq2⟩:∃ q,rulesB l=q:=⟨_,rfl⟩;simp only[hq2] at cR
  cases q2 with
  | false =>
   have cT:=fun (W:World) (h:Below w.heap.size w W)=>ru_Tokens l A n c W (hx.below h) hq1 hnum (hT.below h) (hE.below h) (hD.below h) (hB.below h)
   have hTR:tokensR l=[]:=by unfold tokensR;rw[hq2];rfl
   have hPl:bytesOf (printL (tokensR l))=⟨#[]⟩:=by rw[hTR];rfl
   simp only[hPl] at cP;simp only[hTR] at cT;clear hPl hTR hq1 hq2 hnum hok
   go_enter Tryz.func5,Tryz.ntmps5
   go_wp2_with fail
   refine cF.mono ?_
   rintro e w1 ⟨rfl,hb1⟩;have s1:=hb1.size;clear cF
   go_wp2_with fail
   refine(cP _ hb1).mono ?_
   rintro e w2 ⟨rfl,hb2⟩;have hB2:=hb1.trans (hb2.mono s1);have s2:=hB2.size;clear cP
   go_wp2_with fail
   refine(cR _ hB2).mono ?_
   rintro e w3 ⟨rfl,hb3⟩;have hB3:=hB2.trans (hb3.mono s2);have s3:=hB3.size;clear cR
   go_wp2_with fail
   refine(cT _ hB3).mono ?_
   rintro e w4 ⟨⟨A4,c4,rfl,hR4⟩,hb4⟩;have hB4:=hB3.trans (hb4.mono s3);have s4:=hB4.size;clear cT hR4;simp only[List.length_nil]
   go_wp2_with fail
   refine(cAw _ hB4).mono ?_
   rintro e w5 ⟨rfl,hb5⟩
   go_wp2_with fail
   go_ret
   exact⟨rfl,hB4.trans (hb5.mono s4)⟩
  | true =>
   have hpp:=sheet_print hq2 hq1;have hTR:tokensR l=tokensP l:=by unfold tokensR;rw[hq2];rfl
   have h65:=(rulesB_le hq2).1;have h8:=(fewR_facts hq1).1;have hbig:=few_big hq1;obtain⟨X,hX⟩:∃ X,printL (tokensP l)=X:=⟨_,rfl⟩;rw[hTR,hX] at cP;rw[hX] at hpp h65;have Hpp:=Lib.hid hpp;have hlen:=hS.len;have Hlen:=Lib.hid hlen;clear hpp hTR hX hq1 hq2 hnum hok hlen
   go_enter Tryz.func5,Tryz.ntmps5
   go_wp2_with fail
   refine cF.mono ?_
   rintro e w1 ⟨rfl,hb1⟩;have s1:=hb1.size;clear cF
   go_wp2_with fail
   refine(cP _ hb1).mono ?_
   rintro e w2 ⟨rfl,hb2⟩;have hB2:=hb1.trans (hb2.mono s1);have s2:=hB2.size;clear cP
   go_wp2_with fail
   refine(cR _ hB2).mono ?_
   rintro e w3 ⟨rfl,hb3⟩;have hB3:=hB2.trans (hb3.mono s2);have s3:=hB3.size;clear cR;obtain⟨ca,Wa,hca,hca1,hca2,hba,hra⟩:=conv_text (P:=Tryz.prog) Tryz.underlying9 Tryz.underlying22 Tryz.underlying5 w3 _ X rfl (by unfold maxLen;omega);have hBa:=hB3.trans (hba.mono s3);have sa:=hBa.size;have hpa:=ru_parse X _ _ ca Wa hra hca1 hca2 (hT.below hBa) (hE.below hBa) (hB.below hBa);clear hra hca1 hca2
   go_wp2_with fail
   refine hpa.mono ?_
   intro e w4 hp;obtain⟨hb4,A4,c4,rfl,hS4⟩:=hp.out;rw[Hpp.out] at hS4;rw[Hpp.out];simp only[] at hS4 ⊢;have hB4:=hBa.trans (hb4.mono sa);have s4:=hB4.size;have hS4':=hS4.more (S':=(· < w4.heap.size)) (fun b h=>h.2);clear hp hpa hca hba hS4;obtain⟨cb,Wb,hcb,hcb1,hcb2,hbb,hrb⟩:=conv_text (P:=Tryz.prog) Tryz.underlying9 Tryz.underlying22 Tryz.underlying5 w4 _ X rfl (by unfold maxLen;omega);have hBb:=hB4.trans (hbb.mono s4);have sb:=hBb.size;have hpb:=rr_parse X _ _ cb Wb hrb hcb1 hcb2;have hS4b:=hS4'.below hbb;clear hrb hcb1 hcb2 hS4'
   go_wp2_with fail
   refine hpb.mono ?_
   intro e w5 hp;obtain⟨hb5,A5,c5,rfl,hS5⟩:=hp.out;rw[Hpp.out] at hS5;rw[Hpp.out];simp only[] at hS5 ⊢;have hB5:=hBb.trans (hb5.mono sb);have s5:=hB5.size;have hS5':=hS5.more (S':=(· < w5.heap.size)) (fun b h=>h.2);have hS4c:=hS4b.below hb5;have cS1:=ru_same l l A A4 n l.length c c4 w5 (hS.below hB5) hS4c (by have:=Hlen.out;omega) hbig;rw[decide_eq_true rfl] at cS1;clear hp hpb hcb hbb hS5 hS4b hS4c
   go_wp2_with fail
   refine cS1.mono ?_
   rintro e w6 ⟨rfl,hb6⟩;have hB6:=hB5.trans (hb6.mono s5);have s6:=hB6.size;have cS2:=ru_same l l A A5 n l.length c c5 w6 (hS.below hB6) (hS5'.below hb6) (by have:=Hlen.out;omega) hbig;rw[decide_eq_true rfl] at cS2;clear cS1 hS5'
   go_wp2_with fail
   refine cS2.mono ?_
   rintro e w7 ⟨rfl,hb7⟩;have hB7:=hB6.trans (hb7.mono s6);clear cS2
   go_wp2_with fail
   refine(cAw _ hB7).mono ?_
   rintro e w8 ⟨rfl,hb8⟩
   go_wp2_with fail
   go_ret
   exact⟨rfl,hB7.trans (hb8.mono hB7.size)⟩
end Go.Proofs.YtfhdihdafmahgaaGreatDoor
