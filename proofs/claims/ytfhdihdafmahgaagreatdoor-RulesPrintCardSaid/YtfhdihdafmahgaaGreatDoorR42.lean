import Derived.Test.YtfhdihdafmahgaaGreatDoorR36
set_option linter.unusedVariables false
set_option linter.unusedSimpArgs false
set_option maxRecDepth 100000
set_option maxHeartbeats 16000000
namespace Go.Proofs.YtfhdihdafmahgaaGreatDoor
open Go.RowKit Rn Tp Ru
theorem take_flat_le {α:Type} (f:α→List GTok) (l:List α) (k:Nat):((l.take k).flatMap f).length≤(l.flatMap f).length:=by
 have h:l.flatMap f=(l.take k).flatMap f++(l.drop k).flatMap f:=by rw[←List.flatMap_append,List.take_append_drop]
 rw[h,List.length_append];omega
theorem few_take {l:List Rule} (h:fewR l=true) (k:Nat):(tokensP (l.take k)).length≤14784:=by
 have h1:=take_flat_le ruleT l k;have h2:=tokens_le h;have h3:=(fewR_facts h).1;unfold tokensP at *
 omega
theorem ru_tokens (rs:List Rule) (A:Option Addr) (n c:Nat) (w:World) (h:RulesS w (· < w.heap.size) A n rs) (hf:fewR rs=true) :
  Calls Tryz.prog 52 #[.slice A n c] w (TokOut (tokensP rs) w):=by
 have hlen:=h.len;have Hlen:=Lib.hid hlen;have Hf:=Lib.hid hf;have hn8:n≤8:=by have:=(fewR_facts hf).1;omega
 obtain⟨hi0,hi,hz0,hz1,hz2⟩:=info_take ru_tok_info;obtain⟨g4,hg4⟩:∃ g4,w.heap.size=g4:=⟨_,rfl⟩;obtain⟨Za,hZa⟩:∃ Za,w.alloc (.cells #[.int .i64 0,.string ⟨#[]⟩,.int .i64 0] 58)=Za:=⟨_,rfl⟩;have bZa:Below g4 w Za:=by rw[←hZa,←hg4];exact Below.one _ _
 have rZa:RowAt Za g4 [.int .i64 0,.string ⟨#[]⟩,.int .i64 0]:=by rw[←hZa,←hg4];exact RowAt.new _ _ _
 have hsz:Za.heap.size=g4+1:=by rw[←hZa,←hg4];simp
 obtain⟨Zb,hZb⟩:∃ Zb,Za.alloc (.cells #[.int .i64 0,.string ⟨#[]⟩,.int .i64 0] 58)=Zb:=⟨_,rfl⟩;have bZb:Below (g4+1) Za Zb:=by rw[←hZb,←hsz];exact Below.one _ _
 have rZb:RowAt Zb (g4+1) [.int .i64 0,.string ⟨#[]⟩,.int .i64 0]:=by rw[←hZb,←hsz];exact RowAt.new _ _ _
 have rZa':=rZa.below bZb (by omega);obtain⟨m0,n0⟩:=rZa'.2 0 _ rfl;obtain⟨m1,n1⟩:=rZa'.2 1 _ rfl;obtain⟨m2,n2⟩:=rZa'.2 2 _ rfl;obtain⟨m3,n3⟩:=rZb.2 0 _ rfl;obtain⟨m4,n4⟩:=rZb.2 1 _ rfl;obtain⟨m5,n5⟩:=rZb.2 2 _ rfl;obtain⟨W1,hW1⟩:∃ W1,(((Zb.setCell ⟨g4,0,none⟩ (.int .i64 12)).setCell ⟨g4,1,none⟩ (.string ⟨#[123]⟩)).setCell ⟨g4,2,none⟩ (.int .i64 0))=W1:=⟨_,rfl⟩;have r1:RowAt W1 g4 [.int .i64 12,.string ⟨#[123]⟩,.int .i64 0]:=by rw[←hW1];exact((rZa'.store 0 (.int .i64 12)).store 1 (.string ⟨#[123]⟩)).store 2 (.int .i64 0)
 have b1:Below g4 w W1:=by rw[←hW1];exact(((bZa.trans (bZb.mono (by omega))).setCell (p:=⟨g4,0,none⟩) (Nat.le_refl _) _).setCell (p:=⟨g4,1,none⟩) (Nat.le_refl _) _).setCell (p:=⟨g4,2,none⟩) (Nat.le_refl _) _
 have hk1:∀ b,b≠g4→W1.heap[b]?=Zb.heap[b]?:=fun b hb=>by rw[←hW1];exact((Below.heap_setCell _ _ _ _ hb).trans (Below.heap_setCell _ _ _ _ hb)).trans (Below.heap_setCell _ _ _ _ hb)
 have hs1:Zb.heap.size≤W1.heap.size:=by rw[←hW1];simp[World.setCell]
 have rb1:RowAt W1 (g4+1) [.int .i64 0,.string ⟨#[]⟩,.int .i64 0]:=by
  have e:=hk1 (g4+1) (by omega)
  exact⟨Nat.lt_of_lt_of_le rZb.1 hs1,fun j u hu=>⟨(World.cell?_of_block (w:=Zb) (a:=⟨g4+1,j,none⟩) e).trans (rZb.2 j u hu).1,(World.frozen?_of_block (w:=Zb) (a:=⟨g4+1,j,none⟩) e).trans (rZb.2 j u hu).2⟩⟩
 obtain⟨e0,f0⟩:=rb1.2 0 _ rfl;obtain⟨e1,f1⟩:=rb1.2 1 _ rfl;obtain⟨e2,f2⟩:=rb1.2 2 _ rfl;obtain⟨W2,hW2⟩:∃ W2,(((W1.setCell ⟨g4+1,0,none⟩ (.int .i64 13)).setCell ⟨g4+1,1,none⟩ (.string ⟨#[125]⟩)).setCell ⟨g4+1,2,none⟩ (.int .i64 0))=W2:=⟨_,rfl⟩;have r2:RowAt W2 (g4+1) [.int .i64 13,.string ⟨#[125]⟩,.int .i64 0]:=by rw[←hW2];exact((rb1.store 0 (.int .i64 13)).store 1 (.string ⟨#[125]⟩)).store 2 (.int .i64 0)
 have hk2:∀ b,b≠g4+1→W2.heap[b]?=W1.heap[b]?:=fun b hb=>by rw[←hW2];exact((Below.heap_setCell _ _ _ _ hb).trans (Below.heap_setCell _ _ _ _ hb)).trans (Below.heap_setCell _ _ _ _ hb)
 have hs2:W1.heap.size≤W2.heap.size:=by rw[←hW2];simp[World.setCell]
 have r12:RowAt W2 g4 [.int .i64 12,.string ⟨#[123]⟩,.int .i64 0]:=by
  have e:=hk2 g4 (by omega)
  exact⟨Nat.lt_of_lt_of_le r1.1 hs2,fun j u hu=>⟨(World.cell?_of_block (w:=W1) (a:=⟨g4,j,none⟩) e).trans (r1.2 j u hu).1,(World.frozen?_of_block (w:=W1) (a:=⟨g4,j,none⟩) e).trans (r1.2 j u hu).2⟩⟩
 have b2:Below g4 w W2:=by rw[←hW2];exact((b1.setCell (p:=⟨g4+1,0,none⟩) (by show g4≤g4+1;omega) _).setCell (p:=⟨g4+1,1,none⟩) (by show g4≤g4+1;omega) _).setCell (p:=⟨g4+1,2,none⟩) (by show g4≤g4+1;omega) _
 clear hlen hf hk1 hk2 rb1 r1 rZa' rZb rZa
 go_enter Tryz.func52,Tryz.ntmps52
 go_wp2_with fail
 obtain⟨g5,hg5⟩:∃ g5,g4+1=g5:=⟨_,rfl⟩;have hg45:g4≠g5:=by omega
 rw[hg5] at r2 ⊢
 go_loopw [3,14] (fun v i wr=>∃ (k:Nat) (A1:Option Addr) (c1:Nat) (l1:List GTok),k≤n∧i=.int .i64 (k:Int)∧v=.slice A1 l1.length c1∧Hid (l1=tokensP (rs.take k))∧TR w wr A1 c1 l1∧RowAt wr g4 [.int .i64 12,.string ⟨#[123]⟩,.int .i64 0]∧RowAt wr g5 [.int .i64 13,.string ⟨#[125]⟩,.int .i64 0]∧(Value.slice A1 l1.length c1).ownBlock≠some g4∧(Value.slice A1 l1.length c1).ownBlock≠some g5) (fun _ i _=>n-(intOf i).toNat)
 case atStart=>exact⟨0,none,0,[],by omega,rfl,rfl,rfl,⟨by rw[hg4];exact b2,World.ownsRow_nil _ _ _ _⟩,r12,r2,(fun e=>by cases e),(fun e=>by cases e)⟩
 case round =>
  obtain⟨k,A1,c1,l1,hk,rfl,rfl,hl1,hT,o4,o5,ne4,ne5⟩:=hrel;obtain⟨u,hu⟩:∃ x,x=wr:=⟨_,rfl⟩;subst hu;have hb:=hT.bel;have hbs:=hb.size
  by_cases hlt:k<n
  ·obtain⟨b,off,C1,d1,C2,d2,C3,d3,r,hA,hbl,hrk,x0,x1,x2,x3,hX1,hX2,hX3⟩:=h.at_ hlt
   subst hA;have hki:(k:Int)<(n:Int):=by omega
   have hfr:=(fewR_facts Hf.out).2 r (List.mem_of_getElem? hrk);obtain⟨q1,_,q3,q4,q5⟩:=ruleFew_facts hfr;obtain⟨q6,q7⟩:=declsFew_facts q4;have hdv:∀ d∈r.decls,d.value.length≤1000:=fun d hd=>by have:=(declFew_facts (q7 d hd)).2.1;omega
   have hdt:=declsT_le q4;have hrt:=ruleT_le hfr;have hrl:=ruleT_len r;have hil:(innerT r).length=(r.decls.flatMap declT).length+(r.margins.flatMap marginT).length:=by unfold innerT;rw[List.length_append]
   have hl1l:l1.length≤14784:=by rw[hl1.out];exact few_take Hf.out k
   have hnx:tokensP (rs.take (k+1))=l1++ruleT r:=by rw[hl1.out];unfold tokensP;exact flat_succ ruleT hrk
   replace x0:=(hb.cell (p:=⟨b,off+k * 4,none⟩) hbl).trans x0
   replace x1:=(hb.cell (p:=⟨b,off+k * 4+1,none⟩) hbl).trans x1
   replace x2:=(hb.cell (p:=⟨b,off+k * 4+2,none⟩) hbl).trans x2
   replace x3:=(hb.cell (p:=⟨b,off+k * 4+3,none⟩) hbl).trans x3
   obtain⟨Zc,hZc⟩:∃ Zc,u.alloc (.cells #[.int .i64 0,.slice none 0 0,.slice none 0 0,.slice none 0 0] 39)=Zc:=⟨_,rfl⟩;have bZc:Below u.heap.size u Zc:=by rw[←hZc];exact Below.one _ _
   have rZc:RowAt Zc u.heap.size [.int .i64 0,.slice none 0 0,.slice none 0 0,.slice none 0 0]:=by rw[←hZc];exact RowAt.new _ _ _
   obtain⟨t0,s0⟩:=rZc.2 0 _ rfl;obtain⟨t1,s1⟩:=rZc.2 1 _ rfl;obtain⟨t2,s2⟩:=rZc.2 2 _ rfl;obtain⟨t3,s3⟩:=rZc.2 3 _ rfl;obtain⟨WA,hWA⟩:∃ WA,((((Zc.setCell ⟨u.heap.size,0,none⟩ (.int .i64 r.kind)).setCell ⟨u.heap.size,1,none⟩ (.slice C1 r.prelude.length d1)).setCell ⟨u.heap.size,2,none⟩ (.slice C2 r.decls.length d2)).setCell ⟨u.heap.size,3,none⟩ (.slice C3 r.margins.length d3))=WA:=⟨_,rfl⟩;have bA:Below u.heap.size u WA:=by rw[←hWA];exact((((bZc.setCell (p:=⟨u.heap.size,0,none⟩) (Nat.le_refl _) _).setCell (p:=⟨u.heap.size,1,none⟩) (Nat.le_refl _) _).setCell (p:=⟨u.heap.size,2,none⟩) (Nat.le_refl _) _).setCell (p:=⟨u.heap.size,3,none⟩) (Nat.le_refl _) _)
   have rA:RowAt WA u.heap.size [.int .i64 r.kind,.slice C1 r.prelude.length d1,.slice C2 r.decls.length d2,.slice C3 r.margins.length d3]:=by rw[←hWA];exact((((rZc.store 0 (.int .i64 r.kind)).store 1 (.slice C1 r.prelude.length d1)).store 2 (.slice C2 r.decls.length d2)).store 3 (.slice C3 r.margins.length d3))
   have neg:(Value.slice A1 l1.length c1).ownBlock≠some u.heap.size:=fun e=>by have:=(hT.own.lt _ e).2;omega
   have hTA:=hT.below bA;have o4A:=o4.below bA o4.1;have o5A:=o5.below bA o5.1;obtain⟨a0,_⟩:=rA.2 0 _ rfl;obtain⟨pk,hpk⟩:∃ pk,(r.kind==2)=pk:=⟨_,rfl⟩
   have hhd:headT r=if pk=true then [⟨4,pageS,0⟩,⟨1,[],0⟩] else []:=by
    unfold headT
    by_cases e:r.kind=2
    ·rw[if_pos e,if_pos (by rw[←hpk];simpa using e)]
    ·rw[if_neg e,if_neg (by rw[←hpk];simpa using e)]
   have Hhd:=Lib.hid hhd;have Hnx:=Lib.hid hnx;have Hl1:=hl1;have HX1:=Lib.hid hX1;have HX2:=Lib.hid hX2;have HX3:=Lib.hid hX3;have Q5:=Lib.hid q5;have Hdv:=Lib.hid hdv;have Hil:=Lib.hid hil;have Hrl:=Lib.hid hrl;clear hT o4 o5 hhd hnx hl1 hX1 hX2 hX3 q4 q5 q7 hdv rZc hil hrl hrk
   go_upto_if 20 with (fail)
   go_cut [3] (fun x wx=>∃ (A5:Option Addr) (c5:Nat) (l5:List GTok),x=.slice A5 l5.length c5∧Hid (l5=l1++headT r)∧TR w wx A5 c5 l5∧Far WA wx (.slice A1 l1.length c1) x)
   case first =>
    cases pk with
    | false =>
     have hh:Hid (l1=l1++headT r):=by show _=_;rw[Hhd.out];simp
     go_wp2_with fail
     go_meet
     exact⟨A1,c1,l1,rfl,hh,hTA,far_below (Below.refl _ _)⟩
    | true =>
     go_wp2_with (at_builtin;refine wpList_append_own_at _ rfl _ _ 32 rfl w.heap.size 58 hi0 _ 3 32 Tryz.underlying32 hi hz0 hz1 hz2 rfl (by decide) _ l1.length (cellsG l1) rfl (hTA.own.alloc _) ⟨WA.heap.size,0,none⟩ 2 2 [.int .i64 4,.string ⟨#[112,97,103,101]⟩,.int .i64 0,.int .i64 1,.string ⟨#[]⟩,.int .i64 0] rfl rfl (cells_new_l _ _ _) (by intro u hu;simp at hu;rcases hu with rfl | rfl | rfl | rfl | rfl | rfl<;>rfl) (by unfold maxLen;omega) (by omega) (by have:=hTA.bel.size;simp;omega) ?_;intro v' w5 hown hg _ hat)
     have hF:=far_alloc (v:=.slice A1 l1.length c1) hg hat;obtain⟨A5,c5,rfl,hT5⟩:=hTA.push (ts:=[⟨4,pageS,0⟩,⟨1,[],0⟩]) rfl rfl hown hg;have hh:Hid (l1++[⟨4,pageS,0⟩,⟨1,[],0⟩]=l1++headT r):=by show _=_;rw[Hhd.out];simp
     obtain⟨l5,hl5⟩:∃ l5,l1++[⟨4,pageS,0⟩,⟨1,[],0⟩]=l5:=⟨_,rfl⟩;rw[hl5] at hh hT5 hF ⊢;clear hl5 hown hg hat
     go_wp2_with fail
     go_meet
     exact⟨A5,c5,l5,rfl,hh,hT5,hF⟩
   case rest =>
    obtain⟨A5,c5,l5,rfl,hl5,hT5,hF5⟩:=hcut;obtain⟨w5,hw5⟩:∃ x,x=wc:=⟨_,rfl⟩;subst hw5;obtain⟨r5,neg5⟩:=rA.far hF5 neg;obtain⟨o45,ne45⟩:=o4A.far hF5 ne4;obtain⟨o55,ne55⟩:=o5A.far hF5 ne5;have hlh:l5.length=l1.length+(headT r).length:=by rw[hl5.out,List.length_append]
    have hP5:ReadsS w5 (· < w5.heap.size) 3 C1 r.prelude.length (cellsG r.prelude):=HX1.out.below hT5.bel;have hlim:l5.length+r.prelude.length+1+(r.decls.flatMap declT).length≤100000000:=by have:=Hrl.out;omega
    clear hTA o4A o5A rA hF5 x0 x1 x2 x3 a0 t0 s0 t1 s1 t2 s2 t3 s3
    go_upto_region 8 with (fail)
    go_cut [3] (fun x wy=>TokRet w w5 (.slice A5 l5.length c5) (l5++r.prelude++[openT]++r.decls.flatMap declT) x wy)
    case first =>
     rename_i hKK
     refine Code.wp_mono ?_ (ru_tok_head _ _ _ _ _ _ _ _ _ _ _ _ _ _ _ _ _ _ _ _ _ _ _ _ _ _ _ _ _ _ _ _ _ _ _ _ _ _ _ _ _ _ _ _ _ _ _ _ _ _ _ _ _ _ _ _ _ _ _ _ _ _ _ hT5 neg5 ne45 r5 o45 hP5 HX2.out (by omega) Hdv.out hlim)
     intro e' a W hQ
     cases e'<;>first | exact hQ.elim | skip
     obtain⟨v3,⟨v26,v27,v28,v29,v30,v31,v32,v33,v34,v35,v36,rfl⟩,hRR⟩:=hQ
     refine hKK _ _ ?_
     go_meet
     exact hRR
    case rest =>
     obtain⟨A6,c6,rfl,hT6,hF6⟩:=hcut;obtain⟨w6,hw6⟩:∃ x,x=wc:=⟨_,rfl⟩;subst hw6;obtain⟨l6,hl6⟩:∃ l6,l5++r.prelude++[openT]++r.decls.flatMap declT=l6:=⟨_,rfl⟩;rw[hl6] at hT6 hF6 ⊢;obtain⟨r6,neg6⟩:=r5.far hF6 neg5;obtain⟨o46,ne46⟩:=o45.far hF6 ne45;obtain⟨o56,ne56⟩:=o55.far hF6 ne55;obtain⟨y3,_⟩:=r6.2 3 _ rfl;obtain⟨mq,hmq⟩:∃ mq,r.margins.length=mq:=⟨_,rfl⟩;have hmq8:mq≤8:=by omega
     have hl6l:l6.length=l5.length+r.prelude.length+1+(r.decls.flatMap declT).length:=by rw[←hl6];simp only[List.length_append,List.length_cons,List.length_nil]
     rw[hmq] at y3 HX3;have Hmq:=Lib.hid hmq;have Hl6:=Lib.hid hl6;clear hmq hl6 hT5 r5 o45 o55 hF6 hP5
     go_wp2_with fail
     go_loopw [3,40] (fun v i wz=>∃ (j:Nat) (A7:Option Addr) (c7:Nat) (l7:List GTok),j≤mq∧i=.int .i64 (j:Int)∧v=.slice A7 l7.length c7∧Hid (l7=l6++(r.margins.take j).flatMap marginT)∧TR w wz A7 c7 l7∧RowAt wz g4 [.int .i64 12,.string ⟨#[123]⟩,.int .i64 0]∧RowAt wz g5 [.int .i64 13,.string ⟨#[125]⟩,.int .i64 0]∧(Value.slice A7 l7.length c7).ownBlock≠some g4∧(Value.slice A7 l7.length c7).ownBlock≠some g5) (fun _ i _=>mq-(intOf i).toNat)
     case atStart=>exact⟨0,A6,c6,l6,by omega,rfl,rfl,(by show _=_;simp),hT6,o46,o56,ne46,ne56⟩
     case round =>
      obtain⟨j,A7,c7,l7,hj,rfl,rfl,hl7,hT7,o47,o57,ne47,ne57⟩:=hrel;obtain⟨wz,huz⟩:∃ x,x=wr:=⟨_,rfl⟩;subst huz;have hbz:=hT7.bel
      have hl7l:l7.length≤l6.length+(r.margins.flatMap marginT).length:=by
       have h1:=take_flat_le marginT r.margins j;rw[hl7.out,List.length_append];omega
      have hl7m:l7.length≤20000:=by have:=Hrl.out;have:=Hil.out;omega
      by_cases hjl:j<mq
      ·obtain⟨b',off',C4,d4,m,hA,hbl',hmj,y0,y1,hXm⟩:=HX3.out.at_ hjl
       subst hA;have hji:(j:Int)<(mq:Int):=by omega
       obtain⟨z1,z2⟩:=marginFew_facts (Q5.out m (List.mem_of_getElem? hmj));obtain⟨z3,z4⟩:=declsFew_facts z2;have hdm:∀ d∈m.decls,d.value.length≤1000:=fun d hd=>by have:=(declFew_facts (z4 d hd)).2.1;omega
       have hmt:=declsT_le z2
       replace y0:=(hbz.cell (p:=⟨b',off'+j * 2,none⟩) hbl').trans y0
       replace y1:=(hbz.cell (p:=⟨b',off'+j * 2+1,none⟩) hbl').trans y1
       obtain⟨WB,hWB⟩:∃ WB,wz.alloc (.cells #[.string (bytesOf m.name),.slice C4 m.decls.length d4] 41)=WB:=⟨_,rfl⟩;have bB:Below wz.heap.size wz WB:=by rw[←hWB];exact Below.one _ _
       have rB:RowAt WB wz.heap.size [.string (bytesOf m.name),.slice C4 m.decls.length d4]:=by rw[←hWB];exact RowAt.new _ _ _
       have negm:(Value.slice A7 l7.length c7).ownBlock≠some wz.heap.size:=fun e=>by have:=(hT7.own.lt _ e).2;omega
       have hTB:=hT7.below bB;have o4B:=o47.below bB o47.1;have o5B:=o57.below bB o57.1;obtain⟨p0,_⟩:=rB.2 0 _ rfl;obtain⟨k0,_⟩:=o4B.2 0 _ rfl;obtain⟨k1,_⟩:=o4B.2 1 _ rfl;obtain⟨k2,_⟩:=o4B.2 2 _ rfl;have Hmj:=Lib.hid hmj;clear hT7 o47 o57 hmj z2 z4
       go_upto_region 13 with (at_builtin;refine wpList_append_own_at _ rfl _ _ 32 rfl w.heap.size 58 hi0 _ 3 32 Tryz.underlying32 hi hz0 hz1 hz2 rfl (by decide) _ l7.length (cellsG l7) rfl (hTB.own.alloc _) ⟨WB.heap.size,0,none⟩ 2 2 [.int .i64 4,.string (bytesOf m.name),.int .i64 0,.int .i64 12,.string ⟨#[123]⟩,.int .i64 0] rfl rfl (cells_new_l _ _ _) (by intro u hu;simp at hu;rcases hu with rfl | rfl | rfl | rfl | rfl | rfl<;>rfl) (by unfold maxLen;omega) (by omega) (by have:=hTB.bel.size;simp;omega) ?_;intro v' w8 hown hg _ hat)
       have hF8:=far_alloc (v:=.slice A7 l7.length c7) hg hat;obtain⟨A8,c8,rfl,hT8⟩:=hTB.push (ts:=[⟨4,m.name,0⟩,openT]) rfl rfl hown hg;obtain⟨l8,hl8⟩:∃ l8,l7++[⟨4,m.name,0⟩,openT]=l8:=⟨_,rfl⟩;rw[hl8] at hT8 hF8 ⊢;have hl8l:l8.length=l7.length+2:=by rw[←hl8];simp
       obtain⟨r8,neg8⟩:=rB.far hF8 negm;obtain⟨o48,ne48⟩:=o4B.far hF8 ne47;obtain⟨o58,ne58⟩:=o5B.far hF8 ne57;have Hl8:=Lib.hid hl8;clear hown hg hat hF8 hTB rB o4B o5B hl8
       refine Code.wp_mono ?_ (ru_tok_margin _ _ _ _ _ _ _ _ _ _ _ _ _ _ _ _ _ _ _ _ _ _ _ _ _ _ _ _ _ _ _ _ _ _ _ _ _ _ _ _ _ _ _ _ _ _ _ _ _ _ _ _ _ _ _ _ _ _ _ _ _ _ _ hT8 neg8 ne58 r8 o58 hXm (by omega) hdm (by omega))
       intro e' a W hQ
       cases e'<;>first | exact hQ.elim | skip
       obtain⟨v3,⟨v51,v52,v53,v54,v55,v56,v57,v58,rfl⟩,A9,c9,rfl,hT9,hF9⟩:=hQ;obtain⟨o49,ne49⟩:=o48.far hF9 ne48;obtain⟨o59,ne59⟩:=o58.far hF9 ne58
       have hnew:Hid (l8++m.decls.flatMap declT++[shutT]=l6++(r.margins.take (j+1)).flatMap marginT):=by
        show _=_
        rw[flat_succ marginT Hmj.out,←List.append_assoc,←hl7.out,←Hl8.out];unfold marginT
        simp
       obtain⟨l9,hl9⟩:∃ l9,l8++m.decls.flatMap declT++[shutT]=l9:=⟨_,rfl⟩;rw[hl9] at hT9 hnew ne49 ne59 ⊢;have wj:IntKind.i64.wrap ((j:Int)+1)=(j:Int)+1:=by rw[IntKind.wrap_i64];omega
       clear hl9 hF9 hT8 r8 o48 o58
       go_wp2_with fail
       go_roundw
       case rel=>first | exact⟨j+1,A9,c9,l9,by omega,by go_num,rfl,hnew,hT9,o49,o59,ne49,ne59⟩ | exact⟨_,_,_,⟨j+1,by omega,by go_num,A9,c9,l9,rfl,hnew,hT9,o49,o59,ne49,ne59⟩,rfl,rfl,rfl⟩
       case measure=>simp[intOf];omega
      ·obtain rfl:j=mq:=by omega
       have dj:¬ (j:Int)<(j:Int):=by omega
       obtain⟨k0,_⟩:=o57.2 0 _ rfl;obtain⟨k1,_⟩:=o57.2 1 _ rfl;obtain⟨k2,_⟩:=o57.2 2 _ rfl;have wk:IntKind.i64.wrap ((k:Int)+1)=(k:Int)+1:=by rw[IntKind.wrap_i64];omega
       go_wp2_with (at_builtin;refine wpList_append_own_at _ rfl _ _ 32 rfl w.heap.size 58 hi0 _ 3 32 Tryz.underlying32 hi hz0 hz1 hz2 rfl (by decide) _ l7.length (cellsG l7) rfl (hT7.own.alloc _) ⟨wz.heap.size,0,none⟩ 1 1 [.int .i64 13,.string ⟨#[125]⟩,.int .i64 0] rfl rfl (cells_new_l _ _ _) (by intro u hu;simp at hu;rcases hu with rfl | rfl | rfl<;>rfl) (by unfold maxLen;omega) (by omega) (by have:=hT7.bel.size;simp;omega) ?_;intro v' w10 hown hg _ hat)
       have hF10:=far_alloc (v:=.slice A7 l7.length c7) hg hat;obtain⟨A10,c10,rfl,hT10⟩:=hT7.push (ts:=[shutT]) rfl rfl hown hg;obtain⟨o410,ne410⟩:=o47.far hF10 ne47;obtain⟨o510,ne510⟩:=o57.far hF10 ne57
       have hnew:Hid (l7++[shutT]=tokensP (rs.take (k+1))):=by
        show _=_
        have h7:=hl7.out;rw[←Hmq.out,List.take_length] at h7;rw[Hnx.out,h7,←Hl6.out,hl5.out];unfold ruleT innerT
        simp
       obtain⟨l10,hl10⟩:∃ l10,l7++[shutT]=l10:=⟨_,rfl⟩;rw[hl10] at hT10 hnew ne410 ne510 ⊢;clear hl10 hown hg hat hF10 hT7 o47 o57
       go_wp2_with fail
       go_roundw
       case rel=>first | exact⟨k+1,A10,c10,l10,by omega,by go_num,rfl,hnew,hT10,o410,o510,ne410,ne510⟩ | exact⟨_,_,_,_,⟨k+1,by omega,by go_num,A10,c10,l10,rfl,hnew,hT10,o410,o510,ne410,ne510⟩,rfl,rfl,rfl,rfl⟩
       case measure=>simp[intOf];omega
  ·obtain rfl:k=n:=by omega
   have dk:¬ (k:Int)<(k:Int):=by omega
   have hfin:TokOut (tokensP rs) w (.returned (.slice A1 l1.length c1)) u:=by
    have h1:=hl1.out;rw[←Hlen.out,List.take_length] at h1;rw[←h1]
    exact⟨A1,c1,rfl,hT⟩
   have HF:=Lib.hid hfin;clear hfin hT
   go_wp2_with fail
   go_ret
   exact HF.out
end Go.Proofs.YtfhdihdafmahgaaGreatDoor
