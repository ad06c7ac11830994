import Derived.Laws.StructEq
import Derived.Test.YtfhdihdafmahgaaGreatDoorR18
set_option linter.unusedVariables false
set_option linter.unusedSimpArgs false
set_option maxRecDepth 100000
set_option maxHeartbeats 3000000
namespace Go.Proofs.YtfhdihdafmahgaaGreatDoor
open Go.RowKit Rn Tk
theorem tk_next {w:World} {B S P n cap k:Nat} {A:Option Addr} {l:List Int} (h:At w B S P A n cap l k) (hch:Chars l) (hkn:k<n) (hw:EnvP P w) :
  Calls Tryz.prog 57 #[.pointer (some ⟨S,0,none⟩)] w fun e w'=>e=.returned (tokV (nextT (l.drop k)).1)∧Mv P w w'∧∃ k',k<k'∧l.drop k'=(nextT (l.drop k)).2∧At w' B S P A n cap l k':=by
 have hlen:=h.len;have hn:=h.hn;have hS:=h.hS;have hPS:=h.hPS;have Hch:=Lib.hid hch;have hci:=isB_range (pk_is (l:=l) hch (m:=k) (by omega));rw[show pk l k=pk (l.drop k) 0 from by rw[pk_drop];rfl] at hci;clear hch;obtain⟨wA,hwA⟩:∃ wA,w.alloc (.cells #[.int .i64 0,.string ⟨#[]⟩,.int .i64 0] 58)=wA:=⟨_,rfl⟩;have gA:w.grownBy wA none:=by rw[←hwA];exact World.grownBy_alloc _ _ _
 have rA:RowAt wA w.heap.size [.int .i64 0,.string ⟨#[]⟩,.int .i64 0]:=by rw[←hwA];exact RowAt.new _ _ _
 have hA:=h.mv gA;have sA:=hA.s0;have hp:=tk_peek0 hA;obtain⟨NX,hNX⟩:∃ x,nextT (l.drop k)=x:=⟨_,rfl⟩;rw[hNX];have HNX:=Lib.hid hNX;clear hNX;obtain⟨c,hc⟩:∃ c,pk (l.drop k) 0=c:=⟨_,rfl⟩;rw[hc] at hp hci;have Hc:=Lib.hid hc;clear hc;have hset:∀ (W:World) (j:Nat) (u:Value),Mv P w W→Mv P w (W.setCell ⟨w.heap.size,j,none⟩ u):=fun W j u hm=>grown_new hm (Nat.le_refl _) _
 have aset:∀ (W:World) (j k':Nat) (u:Value),At W B S P A n cap l k'→At (W.setCell ⟨w.heap.size,j,none⟩ u) B S P A n cap l k':=fun W j k' u ha=>ha.grown (grownBy_set _ _ _) (by intro g hg;simp at hg;omega)
 go_enter Tryz.func57,Tryz.ntmps57
 go_wp2_with fail
 refine hp.mono ?_
 rintro e1 w1 ⟨rfl,g1⟩;have A1:=hA.mv g1;have M1:Mv P w w1:=Mv.of (gA.trans g1);have R1:=rA.grown g1 (by simp);clear hp sA hA rA gA g1 hwA;obtain⟨q,hq0⟩:∃ q,decide (c=34∨c=39)=q:=⟨_,rfl⟩;have Hq:=Lib.hid hq0;clear hq0
 go_upto_region 2 with (fail)
 go_cut [17] (fun x wx=>x=.bool q∧wx=w1)
 case first =>
  by_cases h34:c=34
  ·have t34:=eq_t h34
   have Hv:Hid (q=true):=by show _=_;rw[←Hq.out];simp[h34]
   clear h34
   go_wp2_with fail
   go_meet
   exact⟨by rw[Hv.out],rfl⟩
  ·have t34:=eq_f h34
   have Hv:Hid (q=(c==39)):=by show _=_;rw[←Hq.out,Bool.eq_iff_iff];simp[h34]
   clear h34
   go_wp2_with fail
   go_meet
   exact⟨by rw[Hv.out],rfl⟩
 case rest =>
  obtain⟨rfl,hwc⟩:=hcut;have hwc2:=hwc.symm;subst hwc2;clear hwc
  cases q
  case true =>
   have hq:=of_decide_eq_true Hq.out
   have hres:NX=(⟨if (quoteT c (l.drop (k+1))).2.1=true then 7 else 6,writeP (quoteT c (l.drop (k+1))).1,0⟩,(quoteT c (l.drop (k+1))).2.2):=by
    rw[←HNX.out];unfold nextT;simp only[Hc.out];rw[if_pos hq,List.tail_drop]
   have hcall:=tk_text A1 Hch.out hkn;rw[Hc.out] at hcall;obtain⟨Kq,hKq⟩:∃ K:Nat,(if (quoteT c (l.drop (k+1))).2.1=true then 7 else 6)=K:=⟨_,rfl⟩;rw[hKq] at hcall hres;have Hres:=Lib.hid hres;clear hKq hres;clear hq
   go_wp2_with fail
   refine hcall.mono ?_
   rintro e2 w2 ⟨rfl,m2,k',hk',hd',A2⟩;have M2:=M1.trans m2;have R2:=R1.grown m2 (by simp;omega);obtain⟨x0,x3⟩:=R2.2 0 _ rfl;obtain⟨x1,x4⟩:=R2.2 1 _ rfl;obtain⟨x2,x5⟩:=R2.2 2 _ rfl;have hfin:=((R2.store 0 (.int .i64 Kq)).store 1 (.string (bytesOf (writeP (quoteT c (l.drop (k+1))).1)))).store 2 (.int .i64 0);have A19:=aset _ 2 k' (.int .i64 0) (aset _ 1 k' (.string (bytesOf (writeP (quoteT c (l.drop (k+1))).1))) (aset _ 0 k' (.int .i64 Kq) A2));have M19:=hset _ 2 (.int .i64 0) (hset _ 1 (.string (bytesOf (writeP (quoteT c (l.drop (k+1))).1))) (hset _ 0 (.int .i64 Kq) M2));unfold tokV;clear aset hset
   go_wp2_with fail
   refine bodyPost_ret (results_tok rfl _ _ _ _ _ _ rfl hfin) rfl ?_
   exact⟨by rw[Hres.out];rfl,M19,k',hk',by rw[Hres.out];exact hd',A19⟩
  have hq:=of_decide_eq_false Hq.out
  have hnx:nextT (l.drop k)=if c=35∧(withinB (pk (l.drop k) 1)||esc (l.drop (k+1)))=true then (⟨5,writeP (nameT (l.drop (k+1))).1,0⟩,(nameT (l.drop (k+1))).2)
   else match numberT (l.drop k) with
    | some x=>x
    | none =>
     if c=64∧beg (l.drop (k+1))=true then (⟨4,writeP (nameT (l.drop (k+1))).1,0⟩,(nameT (l.drop (k+1))).2)
     else if beg (l.drop k)=true then
      if pk (nameT (l.drop k)).2 0=40 then (⟨3,writeP (nameT (l.drop k)).1,0⟩,(nameT (l.drop k)).2.tail) else (⟨2,writeP (nameT (l.drop k)).1,0⟩,(nameT (l.drop k)).2)
     else (signT c,l.drop (k+1)):=by
   unfold nextT;simp only[Hc.out];rw[if_neg hq,List.tail_drop];rfl
  rw[HNX.out] at hnx;have Hnx:=Lib.hid hnx;clear hnx hq;have hp1:=fun w' (g:w1.grownBy w' none)=>tk_peek1 (A1.mv g)
  have he1:=fun w' (g:w1.grownBy w' none)=>tk_escape1 (A1.mv g)
  have s1:=A1.s0;obtain⟨d,hd⟩:∃ d,pk (l.drop k) 1=d:=⟨_,rfl⟩;rw[hd] at hp1;have Hd:=Lib.hid hd;clear hd;obtain⟨D,hD0⟩:∃ D,decide (c=35∧(withinB d||esc (l.drop (k+1)))=true)=D:=⟨_,rfl⟩;have HD:=Lib.hid hD0;clear hD0
  go_upto_region 4 with (fail)
  go_cut [33] (fun x wx=>x=.bool D∧w1.grownBy wx none)
  case first =>
   by_cases h35:c=35
   ·have t35:=eq_t h35
    cases hwi:withinB d with
    | true =>
     have Hv:Hid (D=true):=by show _=_;rw[←HD.out,hwi];simp[h35]
     clear h35
     go_wp2_with fail
     refine(hp1 w1 (World.grownBy.refl _ _)).mono ?_
     rintro e2 w2 ⟨rfl,g2⟩
     go_wp2_with fail
     refine(rn_within d _).mono ?_
     rintro e3 w3 ⟨rfl,rfl⟩;rw[hwi]
     go_wp2_with fail
     go_meet
     exact⟨by rw[Hv.out],g2⟩
    | false =>
     have Hv:Hid (D=esc (l.drop (k+1))):=by show _=_;rw[←HD.out,hwi,Bool.eq_iff_iff];simp[h35]
     clear h35
     go_wp2_with fail
     refine(hp1 w1 (World.grownBy.refl _ _)).mono ?_
     rintro e2 w2 ⟨rfl,g2⟩
     go_wp2_with fail
     refine(rn_within d _).mono ?_
     rintro e3 w3 ⟨rfl,rfl⟩;rw[hwi]
     go_wp2_with fail
     refine(he1 w2 g2).mono ?_
     rintro e3 w3 ⟨rfl,g3⟩;have g3:=g2.trans g3
     go_wp2_with fail
     go_meet
     exact⟨by rw[Hv.out],g3⟩
   ·have t35:=eq_f h35
    have Hv:Hid (D=false):=by show _=_;rw[←HD.out];simp[h35]
    go_wp2_with fail
    go_meet
    exact⟨by rw[Hv.out],World.grownBy.refl _ _⟩
  case rest =>
   obtain⟨rfl,g4⟩:=hcut;have A4:=A1.mv g4;have M4:=M1.trans (Mv.of g4);have R4:=R1.grown g4 (by simp);clear hp1 he1 s1 A1 M1 R1 g4
   cases D
   case true =>
    have hcd:=of_decide_eq_true HD.out;have hres:NX=(⟨5,writeP (nameT (l.drop (k+1))).1,0⟩,(nameT (l.drop (k+1))).2):=by rw[Hnx.out,Hd.out,if_pos hcd]
    have Hres:=Lib.hid hres;clear hres hcd;have u1:=A4.s0;have u2:=A4.p0;have u3:=A4.p1;have u4:=A4.fz;have A5:=A4.store (k':=k+1) (by omega);have M5:=M4.trans (Mv.store _ P (.int .i64 ((k+1:Nat):Int)));have R5:=R4.grown (Mv.store _ P (.int .i64 ((k+1:Nat):Int))) (by simp;omega)
    push_cast at A5 M5 R5
    go_wp2_with fail
    refine(tk_name A5 Hch.out).mono ?_
    rintro e9 w9 ⟨rfl,m9,k',hk',hd',A9⟩;have M9:=M5.trans m9;have R9:=R5.grown m9 (by simp;omega);obtain⟨x0,x3⟩:=R9.2 0 _ rfl;obtain⟨x1,x4⟩:=R9.2 1 _ rfl;obtain⟨x2,x5⟩:=R9.2 2 _ rfl;have hfin:=((R9.store 0 (.int .i64 5)).store 1 (.string (bytesOf (writeP (nameT (l.drop (k+1))).1)))).store 2 (.int .i64 0);have A19:=aset _ 2 k' (.int .i64 0) (aset _ 1 k' (.string (bytesOf (writeP (nameT (l.drop (k+1))).1))) (aset _ 0 k' (.int .i64 5) A9));have M19:=hset _ 2 (.int .i64 0) (hset _ 1 (.string (bytesOf (writeP (nameT (l.drop (k+1))).1))) (hset _ 0 (.int .i64 5) M9));clear aset hset
    go_wp2_with fail
    refine bodyPost_ret (results_tok rfl _ _ _ _ _ _ rfl hfin) rfl ?_
    exact⟨by rw[Hres.out];rfl,M19,k',by omega,by rw[Hres.out];exact hd',A19⟩
   have hn2:=Hnx.out;rw[Hd.out,if_neg (of_decide_eq_false HD.out)] at hn2;have Hn2:=Lib.hid hn2;clear hn2 Hnx HD;have hcall:=tk_number A4 Hch.out (hw.mv M4)
   go_wp2_with fail
   refine hcall.mono ?_
   rintro e5 w5 ⟨m5,hres5⟩;have M5:=M4.trans m5;have R5:=R4.grown m5 (by simp;omega)
   cases hnum:numberT (l.drop k) with
   | some x =>
    rw[hnum] at hres5 Hn2;obtain⟨⟨kd,tx,nn⟩,rs⟩:=x;obtain⟨rfl,k',hk',hd',A5⟩:=hres5;have hNX:NX=(⟨kd,tx,nn⟩,rs):=Hn2.out;have HN:=Lib.hid hNX;clear hNX Hn2 hnum HNX;obtain⟨x0,x3⟩:=R5.2 0 _ rfl;obtain⟨x1,x4⟩:=R5.2 1 _ rfl;obtain⟨x2,x5⟩:=R5.2 2 _ rfl;have hlt:w.heap.size<w5.heap.size:=R5.1;have hfin:=(((R5.store 0 (.int .i64 (kd:Int))).store 1 (.string (bytesOf tx))).store 2 (.int .i64 nn)).grown (World.grownBy_alloc _ (.cells #[.int .i64 (kd:Int),.string (bytesOf tx),.int .i64 nn] 58) none) (by simp);have A19:=(aset _ 2 k' (.int .i64 nn) (aset _ 1 k' (.string (bytesOf tx)) (aset _ 0 k' (.int .i64 (kd:Int)) A5))).mv (World.grownBy_alloc _ (.cells #[.int .i64 (kd:Int),.string (bytesOf tx),.int .i64 nn] 58) none);have M19:=(hset _ 2 (.int .i64 nn) (hset _ 1 (.string (bytesOf tx)) (hset _ 0 (.int .i64 (kd:Int)) M5))).trans (Mv.of (World.grownBy_alloc _ (.cells #[.int .i64 (kd:Int),.string (bytesOf tx),.int .i64 nn] 58) none));unfold tokV;clear aset hset
    go_wp2_with fail
    refine bodyPost_ret (results_tok rfl _ _ _ _ _ _ rfl hfin) rfl ?_
    exact⟨by rw[HN.out];rfl,M19,k',hk',by rw[HN.out];exact hd',A19⟩
   | none =>
    rw[hnum] at hres5 Hn2;obtain⟨rfl,A5⟩:=hres5;have Hn3:=Lib.hid Hn2.out;clear Hn2 hnum HNX;obtain⟨E,hE0⟩:∃ E,decide (c=64∧beg (l.drop (k+1))=true)=E:=⟨_,rfl⟩;have HE:=Lib.hid hE0;clear hE0;unfold tokV
    go_upto_region 10 with (fail)
    go_cut [54] (fun x wx=>x=.bool E∧w5.grownBy wx none)
    case first =>
     by_cases h64:c=64
     ·have t64:=eq_t h64
      have Hv:Hid (E=beg (l.drop (k+1))):=by show _=_;rw[←HE.out,Bool.eq_iff_iff];simp[h64]
      clear h64
      go_wp2_with fail
      refine(tk_begins1 (A5.mv (World.grownBy_alloc _ _ _))).mono ?_
      rintro e7 w7 ⟨rfl,g7⟩
      go_wp2_with fail
      go_meet
      exact⟨by rw[Hv.out],(World.grownBy_alloc _ _ _).trans g7⟩
     ·have t64:=eq_f h64
      have Hv:Hid (E=false):=by show _=_;rw[←HE.out];simp[h64]
      go_wp2_with fail
      go_meet
      exact⟨by rw[Hv.out],World.grownBy_alloc _ _ _⟩
    case rest =>
     obtain⟨rfl,g8⟩:=hcut;have A8:=A5.mv g8;have M8:=M5.trans (Mv.of g8);have R8:=R5.grown g8 (by simp);clear g8 A5 M5 R5 m5 A4 M4 R4
     cases E
     case true =>
      have hres:NX=(⟨4,writeP (nameT (l.drop (k+1))).1,0⟩,(nameT (l.drop (k+1))).2):=by rw[Hn3.out,if_pos (of_decide_eq_true HE.out)]
      have Hres:=Lib.hid hres;clear hres;have u1:=A8.s0;have u2:=A8.p0;have u3:=A8.p1;have u4:=A8.fz;have A15:=A8.store (k':=k+1) (by omega);have M15:=M8.trans (Mv.store _ P (.int .i64 ((k+1:Nat):Int)));have R15:=R8.grown (Mv.store _ P (.int .i64 ((k+1:Nat):Int))) (by simp;omega)
      push_cast at A15 M15 R15
      go_wp2_with fail
      refine(tk_name A15 Hch.out).mono ?_
      rintro e9 w9 ⟨rfl,m9,k',hk',hd',A9⟩;have M9:=M15.trans m9;have R9:=R15.grown m9 (by simp;omega);obtain⟨x0,x3⟩:=R9.2 0 _ rfl;obtain⟨x1,x4⟩:=R9.2 1 _ rfl;obtain⟨x2,x5⟩:=R9.2 2 _ rfl;have hfin:=((R9.store 0 (.int .i64 4)).store 1 (.string (bytesOf (writeP (nameT (l.drop (k+1))).1)))).store 2 (.int .i64 0);have A19:=aset _ 2 k' (.int .i64 0) (aset _ 1 k' (.string (bytesOf (writeP (nameT (l.drop (k+1))).1))) (aset _ 0 k' (.int .i64 4) A9));have M19:=hset _ 2 (.int .i64 0) (hset _ 1 (.string (bytesOf (writeP (nameT (l.drop (k+1))).1))) (hset _ 0 (.int .i64 4) M9));clear aset hset
      go_wp2_with fail
      refine bodyPost_ret (results_tok rfl _ _ _ _ _ _ rfl hfin) rfl ?_
      exact⟨by rw[Hres.out];rfl,M19,k',by omega,by rw[Hres.out];exact hd',A19⟩
     have hn4:NX=if beg (l.drop k)=true then if pk (nameT (l.drop k)).2 0=40 then (⟨3,writeP (nameT (l.drop k)).1,0⟩,(nameT (l.drop k)).2.tail) else (⟨2,writeP (nameT (l.drop k)).1,0⟩,(nameT (l.drop k)).2) else (signT c,l.drop (k+1)):=by
      rw[Hn3.out,if_neg (of_decide_eq_false HE.out)]
     have Hn4:=Lib.hid hn4;clear hn4 Hn3 HE
     cases hb:beg (l.drop k) with
     | false =>
      rw[hb,if_neg (by simp)] at Hn4
      go_wp2_with fail
      refine(tk_begins0 A8).mono ?_
      rintro e9 w9 ⟨rfl,g9⟩;rw[hb];have A9:=A8.mv g9;have M9:=M8.trans (Mv.of g9);have R9:=R8.grown g9 (by simp);have u1:=A9.s0;have u2:=A9.p0;have u3:=A9.p1;have u4:=A9.fz;have A15:=A9.store (k':=k+1) (by omega);have M15:=M9.trans (Mv.store _ P (.int .i64 ((k+1:Nat):Int)));have R15:=R9.grown (Mv.store _ P (.int .i64 ((k+1:Nat):Int))) (by simp;omega)
      push_cast at A15 M15 R15
      go_wp2_with fail
      refine(tk_sign c _ (by omega)).mono ?_
      rintro e10 w10 ⟨rfl,g10⟩;have A10:=A15.mv g10;have M10:=M15.trans (Mv.of g10);have R10:=R15.grown g10 (by simp);obtain⟨x0,x3⟩:=R10.2 0 _ rfl;obtain⟨x1,x4⟩:=R10.2 1 _ rfl;obtain⟨x2,x5⟩:=R10.2 2 _ rfl;have hfin:=((R10.store 0 (.int .i64 ((signT c).kind:Int))).store 1 (.string (bytesOf (signT c).text))).store 2 (.int .i64 (signT c).n);have A19:=aset _ 2 (k+1) (.int .i64 (signT c).n) (aset _ 1 (k+1) (.string (bytesOf (signT c).text)) (aset _ 0 (k+1) (.int .i64 ((signT c).kind:Int)) A10));have M19:=hset _ 2 (.int .i64 (signT c).n) (hset _ 1 (.string (bytesOf (signT c).text)) (hset _ 0 (.int .i64 ((signT c).kind:Int)) M10));unfold tokV;clear aset hset
      go_wp2_with fail
      refine bodyPost_ret (results_tok rfl _ _ _ _ _ _ rfl hfin) rfl ?_
      exact⟨by rw[Hn4.out];rfl,M19,k+1,by omega,by rw[Hn4.out],A19⟩
     | true =>
      rw[hb,if_pos rfl] at Hn4;have hlt0:=(name_some (beg_first hb)).1
      go_wp2_with fail
      refine(tk_begins0 A8).mono ?_
      rintro e9 w9 ⟨rfl,g9⟩;rw[hb];have A9:=A8.mv g9;have M9:=M8.trans (Mv.of g9);have R9:=R8.grown g9 (by simp);clear A8 M8 R8 g9
      go_wp2_with fail
      refine(tk_name A9 Hch.out).mono ?_
      rintro e10 w10 ⟨rfl,m10,k',hk',hd',A10⟩
      have hkk:k<k':=by
       have h1:=congrArg List.length hd';rw[List.length_drop] at h1 hlt0
       omega
      have M10:=M9.trans m10;have R10:=R9.grown m10 (by simp;omega);obtain⟨tx,htx⟩:∃ t,writeP (nameT (l.drop k)).1=t:=⟨_,rfl⟩;have hn5:=Hn4.out;rw[htx,←hd'] at hn5;rw[htx];have Hn5:=Lib.hid hn5;clear hn5 Hn4 hlt0 hd' htx M9 R9 A9 m10;have gd:=World.grownBy_alloc w10 (.cells #[.int .i64 2,.string (bytesOf tx),.int .i64 0] 58) none;have rT:RowAt (w10.alloc (.cells #[.int .i64 2,.string (bytesOf tx),.int .i64 0] 58)) w10.heap.size [.int .i64 2,.string (bytesOf tx),.int .i64 0]:=RowAt.new _ _ _;have A11:=A10.mv gd;have M11:=M10.trans (Mv.of gd);have R11:=R10.grown gd (by simp);have hRT:w.heap.size<w10.heap.size:=R10.1;obtain⟨T,hT⟩:∃ T,w10.heap.size=T:=⟨_,rfl⟩;rw[hT] at rT hRT;have y0:=A11.s0;have hST:S<T:=by omega
      have hne1:¬ w.heap.size=T:=by omega
      have hne2:¬ T=w.heap.size:=by omega
      have hwT:w.heap.size≤T:=by omega
      obtain⟨d,hd⟩:∃ d,pk (l.drop k') 0=d:=⟨_,rfl⟩;have hp:=tk_peek0 A11;rw[hd] at hp Hn5;have Hd:=Lib.hid hd;clear hd A10 R10 M10 gd;have setT:∀ (W:World) (u:Value),Mv P w W→Mv P w (W.setCell ⟨T,0,none⟩ u):=fun W u hm=>grown_new hm hwT _
      have asetT:∀ (W:World) (u:Value),At W B S P A n cap l k'→At (W.setCell ⟨T,0,none⟩ u) B S P A n cap l k':=fun W u ha=>ha.grown (grownBy_set _ _ _) (by intro g hg;simp at hg;omega)
      by_cases h40:d=40
      ·have t40:=eq_t h40
       have hn6:=Hn5.out;rw[if_pos h40] at hn6
       have hk1:k'<n:=by
        have:=pk_pos (l:=l.drop k') (m:=0) (by rw[Hd.out];omega);rw[List.length_drop] at this;omega
       have Hn6:=Lib.hid hn6;clear hn6 Hn5 h40
       go_wp2_with fail
       refine hp.mono ?_
       rintro e13 w13 ⟨rfl,g13⟩;have A13:=A11.mv g13;have M13:=M11.trans (Mv.of g13);have R13:=R11.grown g13 (by simp);have T13:=rT.grown g13 (by simp);obtain⟨x0,z0⟩:=R13.2 0 _ rfl;obtain⟨x1,z1⟩:=R13.2 1 _ rfl;obtain⟨x2,z2⟩:=R13.2 2 _ rfl;obtain⟨p0,q0⟩:=T13.2 0 _ rfl;obtain⟨p1,q1⟩:=T13.2 1 _ rfl;obtain⟨p2,q2⟩:=T13.2 2 _ rfl;have A14:=asetT _ (.int .i64 3) A13;have M14:=setT _ (.int .i64 3) M13;have R14:=R13.grown (grownBy_set w13 ⟨T,0,none⟩ (.int .i64 3)) (by simp;exact hne1);have y1:=A14.s0;have y2:=A14.p0;have y3:=A14.p1;have y4:=A14.fz;have A15:=A14.store (k':=k'+1) (by omega);have M15:=M14.trans (Mv.store _ P (.int .i64 ((k'+1:Nat):Int)));have R15:=R14.grown (Mv.store _ P (.int .i64 ((k'+1:Nat):Int))) (by simp;omega);have hneP1:¬ P=T:=by omega
       have hneP2:¬ P=w.heap.size:=by omega
       have hneP3:¬ T=P:=by omega
       have hneP4:¬ w.heap.size=P:=by omega
       push_cast at A15 M15 R15 y3
       have hfin:=((R15.store 0 (.int .i64 3)).store 1 (.string (bytesOf tx))).store 2 (.int .i64 0);have A19:=aset _ 2 (k'+1) (.int .i64 0) (aset _ 1 (k'+1) (.string (bytesOf tx)) (aset _ 0 (k'+1) (.int .i64 3) A15));have M19:=hset _ 2 (.int .i64 0) (hset _ 1 (.string (bytesOf tx)) (hset _ 0 (.int .i64 3) M15));clear hset aset setT asetT A11 M11 R11 rT A13 M13 R13 T13 A14 M14 R14 A15 M15 R15
       go_wp2_with fail
       refine bodyPost_ret (results_tok rfl _ _ _ _ _ _ rfl hfin) rfl ?_
       exact⟨by rw[Hn6.out];rfl,M19,k'+1,by omega,by rw[Hn6.out,List.tail_drop],A19⟩
      ·have t40:=eq_f h40
       have hn6:=Hn5.out;rw[if_neg h40] at hn6;have Hn6:=Lib.hid hn6;clear hn6 Hn5 h40
       go_wp2_with fail
       refine hp.mono ?_
       rintro e13 w13 ⟨rfl,g13⟩;have A13:=A11.mv g13;have M13:=M11.trans (Mv.of g13);have R13:=R11.grown g13 (by simp);have T13:=rT.grown g13 (by simp);obtain⟨x0,z0⟩:=R13.2 0 _ rfl;obtain⟨x1,z1⟩:=R13.2 1 _ rfl;obtain⟨x2,z2⟩:=R13.2 2 _ rfl;obtain⟨p0,q0⟩:=T13.2 0 _ rfl;obtain⟨p1,q1⟩:=T13.2 1 _ rfl;obtain⟨p2,q2⟩:=T13.2 2 _ rfl;have hfin:=((R13.store 0 (.int .i64 2)).store 1 (.string (bytesOf tx))).store 2 (.int .i64 0);have A19:=aset _ 2 k' (.int .i64 0) (aset _ 1 k' (.string (bytesOf tx)) (aset _ 0 k' (.int .i64 2) A13));have M19:=hset _ 2 (.int .i64 0) (hset _ 1 (.string (bytesOf tx)) (hset _ 0 (.int .i64 2) M13));clear hset aset setT asetT A11 M11 R11 rT A13 M13 R13 T13
       go_wp2_with fail
       refine bodyPost_ret (results_tok rfl _ _ _ _ _ _ rfl hfin) rfl ?_
       exact⟨by rw[Hn6.out];rfl,M19,k',hkk,by rw[Hn6.out],A19⟩
theorem tok_info:(Tryz.prog.info? 58).map (fun i=>(i.zero,i.size,i.bytes))=some (some (.agg #[.int .i64 0,.string ⟨#[]⟩,.int .i64 0]),3,32):=by kernel_rfl
structure Sc (w0 w:World) (B S P:Nat) (A:Option Addr) (n cap:Nat) (l:List Int) (k:Nat) (v:Value) (toks:List Tok):Prop where
 at_:At w B S P A n cap l k
 bel:Below w0.heap.size w0 w
 own:w.ownsRow (S+1) 58 3 v toks.length (toksV toks)
section
variable {w0 w w1 w2:World} {B S P n cap k k':Nat} {A:Option Addr} {l:List Int} {v v':Value} {toks:List Tok}
theorem Sc.mv (h:Sc w0 w B S P A n cap l k v toks) (hw:w0.heap.size≤P) (hm:Mv P w w1) (ha:At w1 B S P A n cap l k'):Sc w0 w1 B S P A n cap l k' v toks :=
 ⟨ha,h.bel.grown hm h.bel.size (fun g hg=>by injection hg with hg;omega),own_mv h.own (by have:=h.at_.hPS;omega) hm⟩
theorem Sc.env (h:Sc w0 w B S P A n cap l k v toks) (hw:w0.heap.size≤P) (he:Env w0):EnvP P w:=⟨w0,he,h.bel,hw⟩
theorem Sc.push {o:Obj} {t:Tok} (h:Sc w0 w B S P A n cap l k v toks) (hw:w0.heap.size≤P) (hg:(w.alloc o).grownBy w2 v.ownBlock) (hown:w2.ownsRow (S+1) 58 3 v' (toks.length+1) (toksV toks++[.int .i64 (t.kind:Int),.string (bytesOf t.text),.int .i64 t.n])):Sc w0 w2 B S P A n cap l k v' (toks++[t]):=by
 have hS:=h.at_.hPS
 refine⟨h.at_.push (by omega:S<S+1) h.own hg,?_,?_⟩
 ·refine(h.bel.grown (World.grownBy_alloc w o none) h.bel.size (by simp)).grown hg (by have:=h.bel.size;simp;omega) (fun g hgr=>?_)
  have:=(h.own.lt g hgr).1;omega
 ·rw[toksV_snoc,List.length_append];exact hown
end
theorem scanT_end {r:List Int} (h:(spacesT r).2=[]):scanT r=if (spacesT r).1=true then [⟨1,[],0⟩] else []:=by rw[scanT,dif_pos h]
theorem scanT_step {r:List Int} (h:¬ (spacesT r).2=[]):scanT r=(if (spacesT r).1=true then [⟨1,[],0⟩] else [])++(nextT (spacesT r).2).1::scanT (nextT (spacesT r).2).2:=by rw[scanT,dif_neg h]
theorem spacesT_nil:spacesT []=(false,[]):=by rw[spacesT_end (by decide) (by rw[pk_nil];decide)]
theorem scanT_nil:scanT []=[]:=by rw[scanT_end (by rw[spacesT_nil]),spacesT_nil];rfl
theorem readF_len:∀ (f:Nat) (bs:List UInt8),(readF f bs).length≤f
 | 0,bs=>by simp[readF]
 | f+1,bs=>by
  have ih:=readF_len f (bs.drop (nextN bs));unfold readF;simp only
  (repeat' split)<;>simp<;>omega
theorem readP_chars (bs:List UInt8):Chars (readP bs):=fun c h=>(readP_plain bs c h).1
def ScanRet (n0:Nat) (T:List Tok) (w:World) (e:Ending) (w':World):Prop :=
 if 65536<n0∨16384<T.length then e=.returned (.tuple #[.slice none 0 0,.int .i64 2])
 else ∃ v,e=.returned (.tuple #[v,.int .i64 0])∧w'.ownsRow w.heap.size 58 3 v T.length (toksV T)
theorem tk_scan (bs:List UInt8) (A0:Option Addr) (n0 cap0:Nat) (w:World) (hr:Reads w w.heap.size 1 A0 n0 (bs.map b8)) (hm:n0≤cap0) (hcap:cap0≤maxLen) (hT:Tabs w) (hE:Env w) :
  Calls Tryz.prog 21 #[.slice A0 n0 cap0] w fun e w'=>Below w.heap.size w w'∧ScanRet n0 (scanT (readP bs)) w e w':=by
 have hlen0:bs.length=n0:=by simpa using hr.len
 have hcap':=hcap;unfold maxLen at hcap'
 by_cases hbig:65536<n0
 ·have t1:decide (65536<(n0:Int))=true:=by simp;omega
  have Hbig:=Lib.hid hbig;clear hbig
  go_enter Tryz.func21,Tryz.ntmps21
  go_wp2_with fail
  go_ret2
  refine⟨Below.refl _ _,?_⟩
  unfold ScanRet;rw[if_pos (.inl Hbig.out)];rfl
 ·have t1:decide (65536<(n0:Int))=false:=by simp;omega
  have hl:(readP bs).length≤bs.length:=readF_len bs.length bs;have hch:=readP_chars bs;obtain⟨l,hl0⟩:∃ l,readP bs=l:=⟨_,rfl⟩;have hrd:=rn_read bs A0 n0 cap0 w hr hm hcap (by omega) hT;rw[hl0] at hl hch hrd ⊢;obtain⟨TS,hTS⟩:∃ T,scanT l=T:=⟨_,rfl⟩;rw[hTS];have HTS:=Lib.hid hTS;have Hch:=Lib.hid hch;have Hbig:=Lib.hid hbig;clear hTS hch hl0
  go_enter Tryz.func21,Tryz.ntmps21
  go_wp2_with fail
  refine hrd.mono ?_
  rintro e1 w1 ⟨v1,rfl,hown1,hb1⟩;obtain⟨A,cap,rfl,hnc,hcm⟩:=own_form hown1;have hrd1:=Reads.of_own hown1;obtain⟨n,hn⟩:∃ n,l.length=n:=⟨_,rfl⟩;rw[hn] at hrd1 hl hnc ⊢;clear hrd hown1;obtain⟨P,hP⟩:∃ P,w1.heap.size=P:=⟨_,rfl⟩;have hwP:w.heap.size≤P:=by rw[←hP];exact hb1.size
  have hat:At ((w1.alloc (.cells #[.slice A n cap,.int .i64 0] 86)).alloc (.cells #[.pointer (some ⟨P,0,none⟩)] 88)) P (P+1) P A n cap l 0:=by
   have r1:=RowAt.new w1 86 #[.slice A n cap,.int .i64 0];rw[hP] at r1;have g2:=World.grownBy_alloc (w1.alloc (.cells #[.slice A n cap,.int .i64 0] 86)) (.cells #[.pointer (some ⟨P,0,none⟩)] 88) none;have r2:=r1.grown g2 (by simp);have r3:=RowAt.new (w1.alloc (.cells #[.slice A n cap,.int .i64 0] 86)) 88 #[.pointer (some ⟨P,0,none⟩)];have hs:(w1.alloc (.cells #[.slice A n cap,.int .i64 0] 86)).heap.size=P+1:=by simp[hP]
   rw[hs] at r3;obtain⟨x0,y0⟩:=r2.2 0 _ rfl;obtain⟨x1,y1⟩:=r2.2 1 _ rfl;obtain⟨x2,y2⟩:=r3.2 0 _ rfl;rw[hP] at hrd1
   exact { s0:=x2,p0:=x0,p1:=x1,fz:=y1,rd:=(hrd1.grown (World.grownBy_alloc _ _ none) (by omega) (by simp)).grown g2 (by simp;omega) (by simp),hB:=Nat.le_refl _,hPS:=Nat.lt_succ_self _,hS:=by simp[hP],hk:=Nat.zero_le _,hn:=by omega,hc:=hnc,hm:=hcm }
  have hsc:Sc w ((w1.alloc (.cells #[.slice A n cap,.int .i64 0] 86)).alloc (.cells #[.pointer (some ⟨P,0,none⟩)] 88)) P (P+1) P A n cap l 0 (.slice none 0 0) []:=by
   refine⟨hat,?_,World.ownsRow_nil _ _ _ _⟩
   exact(hb1.grown (World.grownBy_alloc _ _ none) hb1.size (by simp)).grown (World.grownBy_alloc _ _ none) (by have:=hb1.size;simp;omega) (by simp)
  obtain⟨S,hS⟩:∃ S,P+1=S:=⟨_,rfl⟩;rw[hS] at hsc;clear hat hrd1 hb1
  go_wp2_with fail
  go_loopw [5] (fun x wr=>∃ (k:Nat) (toks:List Tok) (Ao:Option Addr) (co:Nat),Hid (toks++scanT (l.drop k)=TS)∧toks.length≤16384∧x=.slice Ao toks.length co∧Sc w wr P S P A n cap l k (.slice Ao toks.length co) toks) (fun _ wr=>n-posOf P wr)
  case atStart=>exact⟨0,[],none,0,(by show _=_;rw[List.drop_zero];exact HTS.out),by simp,rfl,hsc⟩
  case round =>
   clear hsc;obtain⟨k,toks,Ao,co,hrun,htl,rfl,hsc⟩:=hrel;have hkn:=hsc.at_.hk;have hpos:=hsc.at_.pos;obtain⟨b,hb⟩:∃ b,(spacesT (l.drop k)).1=b:=⟨_,rfl⟩
   go_wp2_with fail
   refine(tk_space hsc.at_ Hch.out).mono ?_
   rintro e2 w2 ⟨rfl,m2,k3,hk3,hd3,A2⟩;have S2:=hsc.mv hwP m2 A2;rw[hb];have Hb:=Lib.hid hb;have Hd3:=Lib.hid hd3;have hk3n:=A2.hk;clear hb hd3 m2 A2 hsc;obtain⟨hi0,hi,hz0,hz1,hz2⟩:=info_got tok_info
   go_upto_if 16 with (fail)
   go_cut [5] (fun x wx=>∃ (toks2:List Tok) (A2:Option Addr) (c2:Nat),Hid (toks2=toks++if b=true then [⟨1,[],0⟩] else [])∧toks2.length≤16385∧x=.slice A2 toks2.length c2∧Sc w wx P S P A n cap l k3 (.slice A2 toks2.length c2) toks2)
   case first =>
    cases b with
    | true =>
     have hsz2:w2.heap.size<w2.heap.size+1:=by omega
     have hS2:=S2.at_.hS
     go_wp2_with (at_builtin;refine wpList_append_own _ rfl _ _ 32 rfl (S+1) 58 hi0 (.agg #[.int .i64 0,.string ⟨#[]⟩,.int .i64 0]) 3 32 Tryz.underlying32 hi hz0 hz1 hz2 rfl (by decide) (.slice Ao toks.length co) toks.length (toksV toks) rfl (S2.own.alloc _) ⟨w2.heap.size,0,none⟩ 1 1 [.int .i64 1,.string ⟨#[]⟩,.int .i64 0] rfl rfl (cells_new3 _ _ _ _ _) ?c2 ?c3 ?c4 ?c5 ?_)
     case c2=>first | exact⟨rfl,rfl,rfl⟩ | (intro u hu;simp at hu;rcases hu with rfl | rfl | rfl<;>rfl)
     case c3=>unfold maxLen;omega
     case c4=>omega
     case c5=>first | omega | (simp;omega)
     intro v' w3 hown3 hgrow3 _;obtain⟨A3,c3,rfl,_,_⟩:=own_form hown3;have S3:=S2.push hwP hgrow3 (t:=⟨1,[],0⟩) hown3
     go_wp2_with fail
     go_meet
     exact⟨toks++[⟨1,[],0⟩],A3,c3,(by show _=_;simp),by simp;omega,by simp,by simpa using S3⟩
    | false =>
     go_wp2_with fail
     go_meet
     exact⟨toks,Ao,co,(by show _=_;simp),by omega,rfl,S2⟩
   case rest =>
    obtain⟨toks2,Aq,cq,ht2,htl2,rfl,S3⟩:=hcut;have S3n:=S3.at_;have hp3:=tk_peek0 S3.at_;have s3:=S3.at_.s0;clear S2;obtain⟨c,hc⟩:∃ c,pk (l.drop k3) 0=c:=⟨_,rfl⟩;rw[hc] at hp3;have Hc:=Lib.hid hc;clear hc;obtain⟨q,hq⟩:∃ q,decide ((0:Int)≤c)=q:=⟨_,rfl⟩
    go_wp2_with fail
    refine hp3.mono ?_
    rintro e4 w4 ⟨rfl,g4⟩;have S4:=S3.mv hwP (Mv.of g4) (S3n.mv g4);clear S3 S3n hp3 s3 g4
    go_upto_if 26 with (fail)
    go_cut [5] (fun x wx=>∃ (k4:Nat) (toks3:List Tok) (A3:Option Addr) (c3:Nat),Hid (toks3++scanT (l.drop k4)=TS)∧toks3.length≤16386∧(k<k4∨k4=n)∧x=.slice A3 toks3.length c3∧Sc w wx P S P A n cap l k4 (.slice A3 toks3.length c3) toks3)
    case first =>
     by_cases hend:k3=n
     ·have hnil:l.drop k3=[]:=List.drop_eq_nil_of_le (by omega)
      have hT:Hid (toks2++scanT (l.drop k3)=TS):=by
       show _=_
       rw[←hrun.out,scanT_end (r:=l.drop k) (by rw[←Hd3.out];exact hnil),Hb.out,hnil,scanT_nil,ht2.out,List.append_nil]
      have hm1:c=-1:=by rw[←Hc.out,hnil,pk_nil]
      have d0:q=false:=by rw[←hq];simp;omega
      have Hend:=Lib.hid hend;subst d0;clear hm1 hnil hend hq
      go_wp2_with fail
      go_meet
      exact⟨k3,toks2,Aq,cq,hT,by omega,.inr Hend.out,rfl,S4⟩
     ·have hlt3:k3<n:=by omega
      have hne:l.drop k3≠[]:=by intro h0;have:=congrArg List.length h0;rw[List.length_drop] at this;simp at this;omega
      have hstep:scanT (l.drop k)=(if b=true then [⟨1,[],0⟩] else [])++(nextT (l.drop k3)).1::scanT (nextT (l.drop k3)).2:=by
       rw[scanT_step (by rw[←Hd3.out];exact hne),Hb.out,←Hd3.out]
      have Hstep:=Lib.hid hstep;have hc0:=isB_range (pk_is (l:=l) Hch.out (m:=k3) (by omega));rw[show pk l k3=pk (l.drop k3) 0 from by rw[pk_drop];rfl,Hc.out] at hc0;have d0:q=true:=by rw[←hq];simp;omega
      subst d0;clear hstep hne hend hq
      go_wp2_with fail
      refine(tk_next S4.at_ Hch.out hlt3 (S4.env hwP hE)).mono ?_
      rintro e5 w5 ⟨rfl,m5,k5,hk5,hd5,A5⟩;have S5:=S4.mv hwP m5 A5;obtain⟨⟨K,tx,N⟩,hTk⟩:∃ t,(nextT (l.drop k3)).1=t:=⟨_,rfl⟩
      have hT:Hid ((toks2++[⟨K,tx,N⟩])++scanT (l.drop k5)=TS):=by
       show _=_
       rw[←hrun.out,Hstep.out,hTk,←hd5,ht2.out];simp
      rw[hTk];unfold tokV;have hS5:=S5.at_.hS;clear hTk hd5 Hstep S4 m5
      go_wp2_with (at_builtin;refine wpList_append_own _ rfl _ _ 32 rfl (S+1) 58 hi0 (.agg #[.int .i64 0,.string ⟨#[]⟩,.int .i64 0]) 3 32 Tryz.underlying32 hi hz0 hz1 hz2 rfl (by decide) (.slice Aq toks2.length cq) toks2.length (toksV toks2) rfl (S5.own.alloc _) ⟨w5.heap.size,0,none⟩ 1 1 [.int .i64 (K:Int),.string (bytesOf tx),.int .i64 N] rfl rfl (cells_new3 _ _ _ _ _) ?c2 ?c3 ?c4 ?c5 ?_)
      case c2=>first | exact⟨rfl,rfl,rfl⟩ | (intro u hu;simp at hu;rcases hu with rfl | rfl | rfl<;>rfl)
      case c3=>unfold maxLen;omega
      case c4=>omega
      case c5=>first | omega | (simp;omega)
      intro v' w6 hown6 hgrow6 _;obtain⟨A6,c6,rfl,_,_⟩:=own_form hown6;have S6:=S5.push hwP hgrow6 (t:=⟨K,tx,N⟩) hown6
      go_wp2_with fail
      go_meet
      exact⟨k5,toks2++[⟨K,tx,N⟩],A6,c6,hT,by simp;omega,.inl (by omega),by simp,by simpa using S6⟩
    case rest =>
     obtain⟨k4,toks3,A3,c3,hT,htl3,hk4,rfl,S7⟩:=hcut;clear S4;have hk4n:=S7.at_.hk
     by_cases hmany:16384<toks3.length
     ·have d1:decide ((16384:Int)<(toks3.length:Int))=true:=by simp;omega
      have hTS:16384<TS.length:=by have:=congrArg List.length hT.out;rw[List.length_append] at this;omega
      have HB:=Lib.hid hTS;clear hmany hTS
      go_wp2_with fail
      go_ret2
      refine⟨S7.bel,?_⟩
      unfold ScanRet;rw[if_pos (.inr HB.out)];rfl
     ·have d1:decide ((16384:Int)<(toks3.length:Int))=false:=by simp;omega
      have hp7:=tk_peek0 S7.at_;have s7:=S7.at_.s0
      by_cases hend:k4=n
      ·have hnil:l.drop k4=[]:=List.drop_eq_nil_of_le (by omega)
       have hm1:pk (l.drop k4) 0=-1:=by rw[hnil,pk_nil]
       rw[hm1] at hp7;have hTT:TS=toks3:=by have:=hT.out;rw[hnil,scanT_nil,List.append_nil] at this;exact this.symm
       have HT:=Lib.hid hTT;have Hm:=Lib.hid hmany;clear hm1 hnil hTT hmany
       go_wp2_with fail
       refine hp7.mono ?_
       rintro e8 w8 ⟨rfl,g8⟩;have S8:=S7.mv hwP (Mv.of g8) (S7.at_.mv g8)
       go_wp2_with fail
       go_ret2
       refine⟨S8.bel,?_⟩
       unfold ScanRet;rw[if_neg (by have:=Hbig.out;have:=Hm.out;rw[HT.out];omega),HT.out]
       exact⟨_,rfl,own_less S8.own (by omega)⟩
      ·have hc0:=isB_range (pk_is (l:=l) Hch.out (m:=k4) (by omega))
       rw[show pk l k4=pk (l.drop k4) 0 from by rw[pk_drop];rfl] at hc0;generalize pk (l.drop k4) 0=c at *
       have d0:decide (c<(0:Int))=false:=by simp;omega
       have hmu:n-k4<n-k:=by omega
       go_wp2_with fail
       refine hp7.mono ?_
       rintro e8 w8 ⟨rfl,g8⟩;have S8:=S7.mv hwP (Mv.of g8) (S7.at_.mv g8);have q8:=S8.at_.pos
       go_wp2_with fail
       go_roundw
       case rel=>exact⟨k4,toks3,A3,c3,hT,by omega,rfl,S8⟩
       case measure=>rw[q8,hpos];exact hmu
theorem cellsG_len (l:List GTok):(cellsG l).length=l.length * 3:=by
 induction l with
 | nil=>rfl
 | cons t l ih=>simp only[cellsG,List.flatMap_cons,List.length_append] at *;rw[ih];simp[cells1];omega
theorem cellsG_at (l:List GTok):∀ (k:Nat) (t:GTok),l[k]?=some t→(cellsG l)[k * 3]?=some (.int .i64 t.kind)∧(cellsG l)[k * 3+1]?=some (.string (bytesOf t.text))∧(cellsG l)[k * 3+2]?=some (.int .i64 t.n):=by
 induction l with
 | nil=>intro k t h;simp at h
 | cons s l ih =>
  intro k t h;have e:cellsG (s::l)=[.int .i64 s.kind,.string (bytesOf s.text),.int .i64 s.n]++cellsG l:=rfl;rw[e]
  cases k with
  | zero=>simp at h;subst h;exact⟨rfl,rfl,rfl⟩
  | succ k =>
   obtain⟨h1,h2,h3⟩:=ih k t (by simpa using h)
   refine⟨?_,?_,?_⟩<;>rw[List.getElem?_append_right (by simp;omega)]
   ·rw[show (k+1) * 3 - [Value.int .i64 s.kind,.string (bytesOf s.text),.int .i64 s.n].length=k * 3 by simp;omega];exact h1
   ·rw[show (k+1) * 3+1 - [Value.int .i64 s.kind,.string (bytesOf s.text),.int .i64 s.n].length=k * 3+1 by simp;omega];exact h2
   ·rw[show (k+1) * 3+2 - [Value.int .i64 s.kind,.string (bytesOf s.text),.int .i64 s.n].length=k * 3+2 by simp;omega];exact h3
abbrev ReadsT (w:World) (B:Nat) (A:Option Addr) (n:Nat) (l:List GTok):Prop:=Reads w B 3 A n (cellsG l)
theorem ReadsT.len {w:World} {B n:Nat} {A:Option Addr} {l:List GTok} (h:ReadsT w B A n l):l.length=n:=by
 have:=h.1;rw[cellsG_len] at this;omega
theorem ReadsT.at_ {w:World} {B n:Nat} {A:Option Addr} {l:List GTok} (h:ReadsT w B A n l) {k:Nat} (hk:k<n):∃ b off t,A=some ⟨b,off,none⟩∧b<B∧l[k]?=some t∧w.cell? ⟨b,off+k * 3,none⟩=some (.int .i64 t.kind)∧w.cell? ⟨b,off+k * 3+1,none⟩=some (.string (bytesOf t.text))∧w.cell? ⟨b,off+k * 3+2,none⟩=some (.int .i64 t.n):=by
 obtain⟨b,off,hA,hb,hc⟩:=h.2 (by omega);have hl:=h.len;obtain⟨h1,h2,h3⟩:=cellsG_at l k l[k] (List.getElem?_eq_getElem (by omega))
 exact⟨b,off,l[k],hA,hb,List.getElem?_eq_getElem (by omega),hc _ _ h1,hc _ _ h2,hc _ _ h3⟩
theorem tok_under:Tryz.prog.underlying 58=some (.struct (Tryz.prog.fieldsOf 58)):=by kernel_rfl
theorem tok_stood:Tryz.prog.stoodInHeld 58=false:=by kernel_rfl
theorem tok_guard:Tryz.prog.eqGuardType Tryz.prog.depth 58=false:=by kernel_rfl
theorem tok_fields:(Tryz.prog.fieldsOf 58).toList.map (fun f=>(f.name,f.type,f.offset))=[("Kind", 3,0),("Text", 9,1),("N", 3,2)]:=by kernel_rfl
theorem bytes_ne (a b:List UInt8):((bytesOf a).toList==(bytesOf b).toList)=decide (a=b):=by
 rw[bytesOf_toList,bytesOf_toList];rw[Bool.eq_iff_iff];simp
#print axioms tok_fields
theorem toks_neq (x y:GTok) (w:World):(binOp .neq 58 (.agg #[.int .i64 x.kind,.string (bytesOf x.text),.int .i64 x.n]) (.agg #[.int .i64 y.kind,.string (bytesOf y.text),.int .i64 y.n])).run Tryz.prog w=.ok (.bool (decide (x≠y))) w:=by
 have h1:=tok_under;have h2:=tok_stood;have h3:=Tryz.underlying3;have h4:=Tryz.underlying9;rw[run_neq_struct,run_equalIn_struct _ _ _ _ _ h1 h2];have hf:=tok_fields;generalize (Tryz.prog.fieldsOf 58).toList=fs at hf
 rcases fs with _|⟨a,_|⟨b,_|⟨c,_|⟨d,fs⟩⟩⟩⟩
 ·simp at hf
 ·simp at hf
 ·simp at hf
 ·simp only[List.map_cons,List.map_nil,List.cons.injEq,Prod.mk.injEq,and_true] at hf
  obtain⟨⟨a1,a2,a3⟩,⟨b1,b2,b3⟩,c1,c2,c3⟩:=hf
  simp[Op.eqFields,a1,a2,a3,b1,b2,b3,c1,c2,c3,go_sem,part,h3,h4]
  have hb:=bytes_ne x.text y.text;obtain⟨xk,xt,xn⟩:=x;obtain⟨yk,yt,yn⟩:=y;simp only[GTok.mk.injEq] at *
  by_cases e1:xk=yk
  ·by_cases e2:xt=yt
   ·by_cases e3:xn=yn
    ·subst e1 e2 e3;simp
    ·subst e1 e2;simp[e3]
   ·have:¬ (bytesOf xt).toList=(bytesOf yt).toList:=by rw[bytesOf_toList,bytesOf_toList];exact e2
    simp[e1,e2,this]
  ·simp[e1]
 ·simp at hf
namespace Tk
def spF:Nat→List Int→Bool×List Int
 | 0,r=>(false,r)
 | f+1,r=>if whiteB (pk r 0)=true then (true,(spF f r.tail).2) else if pk r 0=47∧pk r 1=42 then spF f (skipC r.tail.tail) else (false,r)
def nmF:Nat→List Int→List Int×List Int
 | 0,r=>([],r)
 | f+1,r=>if esc r=true then ((meantT r.tail).1::(nmF f (meantT r.tail).2).1,(nmF f (meantT r.tail).2).2)
  else if withinB (pk r 0)=true then (pk r 0::(nmF f r.tail).1,(nmF f r.tail).2) else ([],r)
def qtF:Nat→Int→List Int→List Int×Bool×List Int
 | 0,_,r=>([],false,r)
 | f+1,e,r =>
  match r with
  | []=>([],false,[])
  | c::t =>
   if c=10 then ([],true,c::t)
   else if c=e then ([],false,t)
   else if esc (c::t)=true then ((meantT t).1::(qtF f e (meantT t).2).1,(qtF f e (meantT t).2).2)
   else if c=92 then qtF f e t.tail
   else (c::(qtF f e t).1,(qtF f e t).2)
def numberF (f:Nat) (r:List Int):Option (Tok×List Int) :=
 let x:=numText r
 let n:=Fx.lenP x
 if n=0 then none else
 let v:=Fx.parseP (x.take n)
 let s:=r.drop n
 if beg s=true then some (⟨10,writeP (nmF f s).1,v⟩,(nmF f s).2)
 else if pk s 0=37 then some (⟨9,[],v⟩,s.tail)
 else some (⟨8,[],v⟩,s)
def nextF (f:Nat) (r:List Int):Tok×List Int :=
 let c:=pk r 0
 if c=34∨c=39 then (⟨if (qtF f c r.tail).2.1=true then 7 else 6,writeP (qtF f c r.tail).1,0⟩,(qtF f c r.tail).2.2)
 else if c=35∧(withinB (pk r 1)||esc r.tail)=true then (⟨5,writeP (nmF f r.tail).1,0⟩,(nmF f r.tail).2)
 else match numberF f r with
  | some x=>x
  | none =>
   if c=64∧beg r.tail=true then (⟨4,writeP (nmF f r.tail).1,0⟩,(nmF f r.tail).2)
   else if beg r=true then
    if pk (nmF f r).2 0=40 then (⟨3,writeP (nmF f r).1,0⟩,(nmF f r).2.tail) else (⟨2,writeP (nmF f r).1,0⟩,(nmF f r).2)
   else (signT c,r.tail)
def scF:Nat→Nat→List Int→List Tok
 | 0,_,_=>[]
 | g+1,f,r =>
  if (spF f r).2=[] then (if (spF f r).1=true then [⟨1,[],0⟩] else [])
  else (if (spF f r).1=true then [⟨1,[],0⟩] else [])++(nextF f (spF f r).2).1::scF g f (nextF f (spF f r).2).2
end Tk
theorem spF_eq:∀ (f:Nat) (r:List Int),r.length≤f→spF f r=spacesT r:=by
 intro f
 induction f with
 | zero =>
  intro r h;have:r=[]:=List.eq_nil_of_length_eq_zero (by omega)
  subst this;rw[spacesT_nil];rfl
 | succ f ih =>
  intro r h;unfold spF
  by_cases h1:whiteB (pk r 0)=true
  ·have:=tail_lt (white_ne h1)
   rw[if_pos h1,spacesT_white h1,ih _ (by omega)]
  ·rw[if_neg h1]
   by_cases h2:pk r 0=47∧pk r 1=42
   ·have hne:r≠[]:=by rintro rfl;rw[pk_nil] at h2;omega
    have h3:=skipC_len r.tail.tail;have h4:=tail_lt hne;have h5:r.tail.tail.length≤r.tail.length:=by simp
    rw[if_pos h2,spacesT_comment (by simpa using h1) h2,ih _ (by omega)]
   ·rw[if_neg h2,spacesT_end (by simpa using h1) h2]
theorem nmF_eq:∀ (f:Nat) (r:List Int),r.length≤f→nmF f r=nameT r:=by
 intro f
 induction f with
 | zero =>
  intro r h;have:r=[]:=List.eq_nil_of_length_eq_zero (by omega)
  subst this;rw[nameT_end (by decide) (by rw[pk_nil];decide)];rfl
 | succ f ih =>
  intro r h;unfold nmF
  by_cases h1:esc r=true
  ·have:=meant_lt (esc_ne h1)
   rw[if_pos h1,nameT_esc h1,ih _ (by omega)]
  ·rw[if_neg h1]
   by_cases h2:withinB (pk r 0)=true
   ·have:=tail_lt (within_ne h2)
    rw[if_pos h2,nameT_in (by simpa using h1) h2,ih _ (by omega)]
   ·rw[if_neg h2,nameT_end (by simpa using h1) (by simpa using h2)]
theorem qtF_eq (e:Int):∀ (f:Nat) (r:List Int),r.length≤f→qtF f e r=quoteT e r:=by
 intro f
 induction f with
 | zero =>
  intro r h;have:r=[]:=List.eq_nil_of_length_eq_zero (by omega)
  subst this;rw[quoteT_nil];rfl
 | succ f ih =>
  intro r h
  cases r with
  | nil=>rw[quoteT_nil];rfl
  | cons c t =>
   rw[List.length_cons] at h;have h5:t.tail.length≤t.length:=by simp
   have h6:=meant_len t;rw[quoteT];unfold qtF;simp only[ih t (by omega),ih t.tail (by omega),ih (meantT t).2 (by omega)]
theorem numberF_eq (f:Nat) (r:List Int) (h:r.length≤f):numberF f r=numberT r:=by
 unfold numberF numberT;have h1:(r.drop (Fx.lenP (numText r))).length≤f:=by rw[List.length_drop];omega
 simp only[nmF_eq f _ h1]
theorem nextF_eq (f:Nat) (r:List Int) (h:r.length≤f):nextF f r=nextT r:=by
 have h5:r.tail.length≤r.length:=by simp
 unfold nextF nextT;simp only[numberF_eq f r h,nmF_eq f r h,nmF_eq f r.tail (by omega),qtF_eq _ f r.tail (by omega)]
 rfl
theorem scF_eq (f:Nat):∀ (g:Nat) (r:List Int),r.length≤f→r.length<g→scF g f r=scanT r:=by
 intro g
 induction g with
 | zero=>intro r _ h;omega
 | succ g ih =>
  intro r hf hg;have h1:=spF_eq f r hf;have h2:=spaces_len r;unfold scF;rw[h1]
  by_cases he:(spacesT r).2=[]
  ·rw[if_pos he,scanT_end he]
  ·have h3:=next_lt he
   rw[if_neg he,scanT_step he,nextF_eq f _ (by omega),ih _ (by omega) (by omega)]
theorem scan_run (r:List Int):scanT r=scF (r.length+1) r.length r:=(scF_eq _ _ _ (Nat.le_refl _) (Nat.lt_succ_self _)).symm
end Go.Proofs.YtfhdihdafmahgaaGreatDoor
namespace Go.Proofs.YtfhdihdafmahgaaGreatDoor
open Go.RowKit Rn Tk Np
theorem rt_next {w:World} {B n cap:Nat} {A:Option Addr} {l:List Int} (h:RL w B A n cap l) (m:Nat) (i0:Int) (hi0:i0=m) (hm:m<n) :
  Calls Tryz.prog 66 #[.slice A n cap,.int .i64 i0] w fun e w'=>(∃ k':Nat,m<k'∧k'≤n∧l.drop k'=(nextT (l.drop m)).2∧e=.returned (.tuple #[tokV (nextT (l.drop m)).1,.int .i64 (k':Int)]))∧Below w.heap.size w w':=by
 have hlen:=h.len;have hn:=h.hn;have hnn:∀ c∈l.drop m,0≤c:=fun c hc=>(isB_range (h.ch.drop m c hc)).1
 have Hnn:=Lib.hid hnn;clear hnn;obtain⟨wA,hwA⟩:∃ wA,w.alloc (.cells #[.int .i64 0,.string ⟨#[]⟩,.int .i64 0] 58)=wA:=⟨_,rfl⟩;have B0:Below w.heap.size w wA:=by rw[←hwA];exact grown_below (World.grownBy_alloc _ _ _)
 have R0:RowAt wA w.heap.size [.int .i64 0,.string ⟨#[]⟩,.int .i64 0]:=by rw[←hwA];exact RowAt.new _ _ _
 have H0:=h.mv B0;obtain⟨b0,off0,hA0,hcell0⟩:=H0.cell hm;rw[pk0] at hcell0;have hcB:=pk_is (l:=l) h.ch (m:=m) (by omega);have hcr:=isB_range hcB;rw[pk0] at hcr hcB;obtain⟨c,hc⟩:∃ c,pk (l.drop m) 0=c:=⟨_,rfl⟩;rw[hc] at hcell0 hcr hcB;obtain⟨NX,hNX⟩:∃ x,nextT (l.drop m)=x:=⟨_,rfl⟩;rw[hNX];have HNX:=Lib.hid hNX;have Hc:=Lib.hid hc;have Hi0:=Lib.hid hi0;have y1:(0:Int)≤i0:=by omega
 have y2:i0<(n:Int):=by omega
 have y3:i0.toNat=m:=by omega
 have y4:i0≤1000000:=by omega
 clear hNX hc hi0;subst hA0;obtain⟨q,hq0⟩:∃ q,decide (c=34∨c=39)=q:=⟨_,rfl⟩;have Hq:=Lib.hid hq0;clear hq0
 go_enter Tryz.func66,Tryz.ntmps66
 go_upto_region 2 with (fail)
 go_cut [29] (fun x wx=>x=.bool q∧wx=wA)
 case first =>
  by_cases h34:c=34
  ·have t34:=eq_t h34
   have Hv:Hid (q=true):=by show _=_;rw[←Hq.out];simp[h34]
   clear h34
   go_wp2_with fail
   go_meet
   exact⟨by rw[Hv.out],rfl⟩
  ·have t34:=eq_f h34
   have Hv:Hid (q=(c==39)):=by show _=_;rw[←Hq.out,Bool.eq_iff_iff];simp[h34]
   clear h34
   go_wp2_with fail
   go_meet
   exact⟨by rw[Hv.out],rfl⟩
 case rest =>
  obtain⟨rfl,hwc⟩:=hcut;have hwc2:=hwc.symm;subst hwc2;clear hwc hwA hcell0;have hrs:=R0.1
  cases q
  case true =>
   have hq:=of_decide_eq_true Hq.out;have hcall:=rt_quoted H0 m i0 Hi0.out hm (by rw[Hc.out];omega);rw[Hc.out] at hcall
   have hres:NX=(⟨if (quoteT c (l.drop (m+1))).2.1=true then 7 else 6,writeP (quoteT c (l.drop (m+1))).1,0⟩,(quoteT c (l.drop (m+1))).2.2):=by
    rw[←HNX.out];unfold nextT;simp only[Hc.out];rw[if_pos hq,List.tail_drop]
   generalize quoteT c (l.drop (m+1))=QT at *
   obtain⟨Kq,hKq⟩:∃ K:Nat,(if QT.2.1=true then 7 else 6)=K:=⟨_,rfl⟩;rw[hKq] at hcall hres;have Hres:=Lib.hid hres;clear hKq hres hq
   go_wp2_with fail
   refine hcall.mono ?_
   rintro e2 w2 ⟨⟨k',hk',hk'n,hd',rfl⟩,hb2⟩;have R1:=row_below R0 hb2;have B1:=B0.trans (hb2.mono B0.size);have H1:=H0.mv hb2;obtain⟨x0,z0⟩:=R1.2 0 _ rfl;obtain⟨x1,z1⟩:=R1.2 1 _ rfl;obtain⟨x2,z2⟩:=R1.2 2 _ rfl;have hfin:=((R1.store 0 (.int .i64 Kq)).store 1 (.string (bytesOf (writeP QT.1)))).store 2 (.int .i64 0);have B99:=below_set (below_set (below_set B1 0 (.int .i64 Kq)) 1 (.string (bytesOf (writeP QT.1)))) 2 (.int .i64 0)
   (try unfold tokV)
   go_wp2_with fail
   (try simp only[Exit.inBlock,Exit.then])
   refine bodyPost_ret (results_tok2 rfl _ _ _ _ _ _ rfl hfin) rfl ?_
   exact⟨⟨k',hk',hk'n,by rw[Hres.out];exact hd',by rw[Hres.out];rfl⟩,B99⟩
  have hq:=of_decide_eq_false Hq.out
  have hnx:nextT (l.drop m)=if c=35∧(withinB (pk (l.drop m) 1)||esc (l.drop (m+1)))=true then (⟨5,writeP (nameT (l.drop (m+1))).1,0⟩,(nameT (l.drop (m+1))).2)
   else match numberT (l.drop m) with
    | some x=>x
    | none =>
     if c=64∧beg (l.drop (m+1))=true then (⟨4,writeP (nameT (l.drop (m+1))).1,0⟩,(nameT (l.drop (m+1))).2)
     else if beg (l.drop m)=true then
      if pk (nameT (l.drop m)).2 0=40 then (⟨3,writeP (nameT (l.drop m)).1,0⟩,(nameT (l.drop m)).2.tail) else (⟨2,writeP (nameT (l.drop m)).1,0⟩,(nameT (l.drop m)).2)
     else (signT c,l.drop (m+1)):=by
   unfold nextT;simp only[Hc.out];rw[if_neg hq,List.tail_drop];rfl
  rw[HNX.out] at hnx;have Hnx:=Lib.hid hnx;clear hnx hq;have hp1:=rt_at H0 (m+1) (i0+1) (by have:=Hi0.out;omega) (by omega);have he1:=rt_escape H0 (m+1) (i0+1) (by have:=Hi0.out;omega) (by omega);have hdr:=H0.range (m+1);rw[pk1] at hp1 hdr;obtain⟨d,hd⟩:∃ d,pk (l.drop m) 1=d:=⟨_,rfl⟩;rw[hd] at hp1 hdr;have hw1:=ref_within d wA (by omega) (by omega);have Hd:=Lib.hid hd;clear hd;obtain⟨D,hD0⟩:∃ D,decide (c=35∧(withinB d||esc (l.drop (m+1)))=true)=D:=⟨_,rfl⟩;have HD:=Lib.hid hD0;clear hD0
  go_upto_region 4 with (fail)
  go_cut [49] (fun x wx=>x=.bool D∧wx=wA)
  case first =>
   by_cases h35:c=35
   ·have t35:=eq_t h35
    cases hwi:withinB d with
    | true =>
     have Hv:Hid (D=true):=by show _=_;rw[←HD.out,hwi];simp[h35]
     rw[hwi] at hw1;clear h35 hwi
     go_wp2_with (first
      | (go_at_call 97;with_reducible refine hp1.mono ?_;rintro e2 w' ⟨rfl,rfl⟩)
      | (go_at_call 99;with_reducible refine hw1.mono ?_;rintro e2 w' ⟨rfl,rfl⟩))
     go_meet
     exact⟨by rw[Hv.out],rfl⟩
    | false =>
     have Hv:Hid (D=esc (l.drop (m+1))):=by show _=_;rw[←HD.out,hwi,Bool.eq_iff_iff];simp[h35]
     rw[hwi] at hw1;clear h35 hwi
     go_wp2_with (first
      | (go_at_call 97;with_reducible refine hp1.mono ?_;rintro e2 w' ⟨rfl,rfl⟩)
      | (go_at_call 99;with_reducible refine hw1.mono ?_;rintro e2 w' ⟨rfl,rfl⟩)
      | (go_at_call 100;with_reducible refine he1.mono ?_;rintro e2 w' ⟨rfl,rfl⟩))
     go_meet
     exact⟨by rw[Hv.out],rfl⟩
   ·have t35:=eq_f h35
    have Hv:Hid (D=false):=by show _=_;rw[←HD.out];simp[h35]
    clear h35
    go_wp2_with fail
    go_meet
    exact⟨by rw[Hv.out],rfl⟩
  case rest =>
   obtain⟨rfl,hwc⟩:=hcut;have hwc2:=hwc.symm;subst hwc2;clear hwc hp1 he1 hw1
   go_upto_if 49 with (fail)
   go_cut [1] (fun z wx=>z=.int .i64 i0∧wx=wA∧Hid (D=false))
   case rest =>
    obtain⟨rfl,hwc,hDf⟩:=hcut;subst hwc;have hn2:=Hnx.out;rw[Hd.out,if_neg (of_decide_eq_false (HD.out.trans hDf.out))] at hn2;have Hn2:=Lib.hid hn2
    refine ‹∀ (a:Act) (w:World),Code.wp _ _ _ a w→_› _ _ ?_
    exact rt_tail7 _ _ _ _ _ _ _ _ _ _ _ _ _ _ _ _ _ _ _ _ _ _ _ _ _ _ _ _ _ _ _ _ _ _ _ _ _ _ _ _ _ _ _ _ _ _ _ _ _ _ _ _ _ _ _ _ _ _ _ _ _ _ _ _ _ _ _ _ _ _ _ _ _ _ _ _ _ _ _ _ _ _ _ _ _ _ _ _ _ _ _ _ _ _ _ _ _ _ _ _ _ _ _ _ _ _ _ _ _ _ _ _ _ _ _ _ _ _ _ _ _ _ _ _ _ _ _ _ _ _ _ _ _ _ _ _ _ _ _ _ _ _ _ _ _ _ _ _ _ _ _ _ _ _ _ _ _ _ _ _ _ _ _ _ _ _ _ _ _ _ _ _ _ _ _ _ _ _ _ _ _ _ _ _ _ _ _ _ _ _ _ _ _ _ _ h Hi0 y1 y4 hm hcB Hc Hn2 R0 B0
   cases D
   case true =>
    have hcd:=of_decide_eq_true HD.out;have hres:NX=(⟨5,writeP (nameT (l.drop (m+1))).1,0⟩,(nameT (l.drop (m+1))).2):=by rw[Hnx.out,Hd.out,if_pos hcd]
    have hcall:=rt_name H0 (m+1) (i0+1) (by have:=Hi0.out;omega) (by omega);generalize nameT (l.drop (m+1))=NM at *
    have Hres:=Lib.hid hres;clear hres hcd
    go_wp2_with fail
    refine hcall.mono ?_
    rintro e2 w2 ⟨⟨k',hk',hk'n,hd',rfl⟩,hb2⟩;have R1:=row_below R0 hb2;have B1:=B0.trans (hb2.mono B0.size);have H1:=H0.mv hb2;obtain⟨x0,z0⟩:=R1.2 0 _ rfl;obtain⟨x1,z1⟩:=R1.2 1 _ rfl;obtain⟨x2,z2⟩:=R1.2 2 _ rfl;have hfin:=((R1.store 0 (.int .i64 5)).store 1 (.string (bytesOf (writeP NM.1)))).store 2 (.int .i64 0);have B99:=below_set (below_set (below_set B1 0 (.int .i64 5)) 1 (.string (bytesOf (writeP NM.1)))) 2 (.int .i64 0)
    (try unfold tokV)
    go_wp2_with fail
    (try simp only[Exit.inBlock,Exit.then])
    refine bodyPost_ret (results_tok2 rfl _ _ _ _ _ _ rfl hfin) rfl ?_
    exact⟨⟨k',by omega,hk'n,by rw[Hres.out];exact hd',by rw[Hres.out];rfl⟩,B99⟩
   go_wp2_with fail
   go_meet
   exact⟨rfl,rfl,(by first | exact rfl | trivial)⟩
end Go.Proofs.YtfhdihdafmahgaaGreatDoor
namespace Go.Proofs.YtfhdihdafmahgaaGreatDoor
open Go.RowKit Rn Tk
theorem rt_scan (bs:List UInt8) (A0:Option Addr) (n0 cap0:Nat) (w:World) (hr:Reads w w.heap.size 1 A0 n0 (bs.map b8)) (hm:n0≤cap0) (hcap:cap0≤maxLen) :
  Calls Tryz.prog 32 #[.slice A0 n0 cap0] w fun e w'=>Below w.heap.size w w'∧ScanRet n0 (scanT (readP bs)) w e w':=by
 have hlen0:bs.length=n0:=by simpa using hr.len
 have hcap':=hcap;unfold maxLen at hcap'
 by_cases hbig:65536<n0
 ·have t1:decide (65536<(n0:Int))=true:=by simp;omega
  have Hbig:=Lib.hid hbig;clear hbig
  go_enter Tryz.func32,Tryz.ntmps32
  go_wp2_with fail
  go_ret2
  refine⟨Below.refl _ _,?_⟩
  unfold ScanRet;rw[if_pos (.inl Hbig.out)];rfl
 ·have t1:decide (65536<(n0:Int))=false:=by simp;omega
  have hl:(readP bs).length≤bs.length:=readF_len bs.length bs;have hch:=readP_chars bs;obtain⟨l,hl0⟩:∃ l,readP bs=l:=⟨_,rfl⟩;have hrd:=ref_read bs A0 n0 cap0 w hr hm hcap (by omega);rw[hl0] at hl hch hrd ⊢;obtain⟨TS,hTS⟩:∃ T,scanT l=T:=⟨_,rfl⟩;rw[hTS];have HTS:=Lib.hid hTS;have Hbig:=Lib.hid hbig;clear hTS hl0
  go_enter Tryz.func32,Tryz.ntmps32
  go_wp2_with fail
  refine hrd.mono ?_
  rintro e1 w1 ⟨v1,rfl,hown1,hb1⟩;obtain⟨A,cap,rfl,hnc,hcm⟩:=own_form hown1;have hrd1:=Reads.of_own hown1;obtain⟨n,hn⟩:∃ n,l.length=n:=⟨_,rfl⟩;rw[hn] at hrd1 hl hnc ⊢;have hRL:RL w1 w1.heap.size A n cap l:=⟨hrd1,Nat.le_refl _,by omega,hnc,hcm,hch⟩;obtain⟨hi0,hi,hz0,hz1,hz2⟩:=info_got tok_info;clear hrd hown1 hrd1;have hws:=hb1.size
  go_upto_block 0 with (fail)
  go_cut [5] (fun x wx=>∃ (toks:List Tok) (Ao:Option Addr) (co:Nat),Hid (toks=TS)∧toks.length≤131072∧x=.slice Ao toks.length co∧Below w1.heap.size w1 wx∧wx.ownsRow w1.heap.size 58 3 (.slice Ao toks.length co) toks.length (toksV toks))
  case first =>
   go_wp2_with fail
   go_loopw [5,6] (fun x z wr=>∃ (j:Nat) (toks:List Tok) (Ao:Option Addr) (co:Nat),j≤n∧Hid (toks++scanT (l.drop j)=TS)∧toks.length≤2 * j∧x=.slice Ao toks.length co∧Below w1.heap.size w1 wr∧wr.ownsRow w1.heap.size 58 3 (.slice Ao toks.length co) toks.length (toksV toks)∧z=.int .i64 (j:Int)) (fun _ z _=>n-(intOf z).toNat)
   case atStart=>exact⟨0,[],none,0,Nat.zero_le _,(by show _=_;rw[List.drop_zero];exact HTS.out),by simp,rfl,Below.refl _ _,World.ownsRow_nil _ _ _ _,rfl⟩
   case round =>
    obtain⟨j,toks,Ao,co,hjn,hrun,htl,rfl,hb,hown,rfl⟩:=hrel
    by_cases hjl:j<n
    ·have x4:decide ((j:Int)<(n:Int))=true:=by simp;omega
     obtain⟨b,hbq⟩:∃ b,(spacesT (l.drop j)).1=b:=⟨_,rfl⟩;have hsp:=rt_spaces (hRL.mv hb) j j rfl (by omega);rw[hbq] at hsp;have Hb:=Lib.hid hbq;have hbs:=hb.size;clear hbq
     go_wp2_with fail
     refine hsp.mono ?_
     rintro e2 w2 ⟨⟨k3,hk3,hk3n,hd3,rfl⟩,hb2⟩;have B2:=hb.trans (hb2.mono hbs)
     have own2:=hown.kept (below_grown hb2) (by cases hv:Value.ownBlock (.slice Ao toks.length co) with
      | none=>exact .inl rfl
      | some g=>exact .inr (by simp))
     have Hd3:=Lib.hid hd3;clear hd3 hb hown hb2 hsp
     go_upto_if 27 with (fail)
     go_cut [5] (fun x wx=>∃ (toks2:List Tok) (A2:Option Addr) (c2:Nat),Hid (toks2=toks++if b=true then [⟨1,[],0⟩] else [])∧toks2.length≤toks.length+1∧x=.slice A2 toks2.length c2∧Below w1.heap.size w1 wx∧wx.ownsRow w1.heap.size 58 3 (.slice A2 toks2.length c2) toks2.length (toksV toks2))
     case first =>
      cases b with
      | true =>
       have hws2:=B2.size
       go_wp2_with (at_builtin;refine wpList_append_own _ rfl _ _ 32 rfl w1.heap.size 58 hi0 (.agg #[.int .i64 0,.string ⟨#[]⟩,.int .i64 0]) 3 32 Tryz.underlying32 hi hz0 hz1 hz2 rfl (by decide) (.slice Ao toks.length co) toks.length (toksV toks) rfl (own2.alloc _) ⟨w2.heap.size,0,none⟩ 1 1 [.int .i64 1,.string ⟨#[]⟩,.int .i64 0] rfl rfl (cells_new3 _ _ _ _ _) ?c2 ?c3 ?c4 ?c5 ?_)
       case c2=>first | exact⟨rfl,rfl,rfl⟩ | (intro u hu;simp at hu;rcases hu with rfl | rfl | rfl<;>rfl)
       case c3=>unfold maxLen;omega
       case c4=>omega
       case c5=>first | omega | (simp;omega)
       intro v' w3 hown3 hgrow3 _;obtain⟨A3,c3,rfl,_,_⟩:=own_form hown3;have B3:=below_push B2 own2 hgrow3
       go_wp2_with fail
       go_meet
       exact⟨toks++[⟨1,[],0⟩],A3,c3,(by show _=_;simp),by simp,by simp,B3,by rw[toksV_snoc,List.length_append];exact hown3⟩
      | false =>
       go_wp2_with fail
       go_meet
       exact⟨toks,Ao,co,(by show _=_;simp),by omega,rfl,B2,own2⟩
     case rest =>
      obtain⟨toks2,Aq,cq,ht2,htl2,rfl,B3,own3⟩:=hcut
      by_cases hend:k3<n
      ·have x5:decide ((k3:Int)<(n:Int))=true:=by simp;omega
       have hne:l.drop k3≠[]:=by intro h0;have:=congrArg List.length h0;rw[List.length_drop] at this;simp at this;omega
       have hstep:scanT (l.drop j)=(if b=true then [⟨1,[],0⟩] else [])++(nextT (l.drop k3)).1::scanT (nextT (l.drop k3)).2:=by
        rw[scanT_step (by rw[←Hd3.out];exact hne),Hb.out,←Hd3.out]
       have Hstep:=Lib.hid hstep;have hnx:=rt_next (hRL.mv B3) k3 k3 rfl hend;have hws3:=B3.size;clear hstep hne
       go_wp2_with fail
       refine hnx.mono ?_
       rintro e5 w5 ⟨⟨k5,hk5,hk5n,hd5,rfl⟩,hb5⟩;have B5:=B3.trans (hb5.mono hws3)
       have own5:=own3.kept (below_grown hb5) (by cases hv:Value.ownBlock (.slice Aq toks2.length cq) with
        | none=>exact .inl rfl
        | some g=>exact .inr (by simp))
       obtain⟨⟨K,tx,N⟩,hTk⟩:∃ t,(nextT (l.drop k3)).1=t:=⟨_,rfl⟩
       have hT:Hid ((toks2++[⟨K,tx,N⟩])++scanT (l.drop k5)=TS):=by
        show _=_
        rw[←hrun.out,Hstep.out,hTk,←hd5,ht2.out];simp
       rw[hTk];unfold tokV;have hrow5:=(RowAt.new w5 58 #[.int .i64 (K:Int),.string (bytesOf tx),.int .i64 N]);obtain⟨f0,_⟩:=hrow5.2 0 _ rfl;obtain⟨f1,_⟩:=hrow5.2 1 _ rfl;obtain⟨f2,_⟩:=hrow5.2 2 _ rfl;have hws5:=B5.size;have B6:Below w1.heap.size w1 (w5.alloc (.cells #[.int .i64 (K:Int),.string (bytesOf tx),.int .i64 N] 58)):=B5.alloc hws5 _;have own6:=own5.alloc (.cells #[.int .i64 (K:Int),.string (bytesOf tx),.int .i64 N] 58);clear hTk hd5 Hstep B3 own3 hb5 hnx B5 own5 hrow5
       go_wp2_with (at_builtin;refine wpList_append_own _ rfl _ _ 32 rfl w1.heap.size 58 hi0 (.agg #[.int .i64 0,.string ⟨#[]⟩,.int .i64 0]) 3 32 Tryz.underlying32 hi hz0 hz1 hz2 rfl (by decide) (.slice Aq toks2.length cq) toks2.length (toksV toks2) rfl (own6.alloc _) ⟨w5.heap.size+1,0,none⟩ 1 1 [.int .i64 (K:Int),.string (bytesOf tx),.int .i64 N] rfl rfl ?c1 ?c2 ?c3 ?c4 ?c5 ?_)
       case c1 =>
        have:=cells_new3 (w5.alloc (.cells #[.int .i64 (K:Int),.string (bytesOf tx),.int .i64 N] 58)) 58 (.int .i64 (K:Int)) (.string (bytesOf tx)) (.int .i64 N);rw[show (w5.alloc (.cells #[.int .i64 (K:Int),.string (bytesOf tx),.int .i64 N] 58)).heap.size=w5.heap.size+1 by simp] at this
        exact this
       case c2=>first | exact⟨rfl,rfl,rfl⟩ | (intro u hu;simp at hu;rcases hu with rfl | rfl | rfl<;>rfl)
       case c3=>unfold maxLen;omega
       case c4=>omega
       case c5=>first | omega | (simp;omega)
       intro v' w6 hown6 hgrow6 _;obtain⟨A6,c6,rfl,_,_⟩:=own_form hown6;have B7:=below_push B6 own6 hgrow6
       go_wp2_with fail
       go_roundw
       case rel=>exact⟨k5,toks2++[⟨K,tx,N⟩],A6,c6,hk5n,hT,by simp;omega,by simp,B7,by simpa [toksV_snoc] using hown6,rfl⟩
       case measure=>simp[intOf];omega
      ·have x5:decide ((k3:Int)<(n:Int))=false:=by simp;omega
       have hnil:l.drop k3=[]:=List.drop_eq_nil_of_le (by omega)
       have hT:Hid (toks2++scanT (l.drop k3)=TS):=by
        show _=_
        rw[←hrun.out,scanT_end (r:=l.drop j) (by rw[←Hd3.out];exact hnil),Hb.out,hnil,scanT_nil,ht2.out,List.append_nil]
       clear hnil
       go_wp2_with fail
       go_roundw
       case rel=>exact⟨k3,toks2,Aq,cq,hk3n,hT,by omega,rfl,B3,own3,rfl⟩
       case measure=>simp[intOf];omega
    ·have x4:decide ((j:Int)<(n:Int))=false:=by simp;omega
     have hT:Hid (toks=TS):=by
      show _=_
      rw[←hrun.out,List.drop_eq_nil_of_le (by omega:l.length≤j),scanT_nil,List.append_nil]
     clear hrun
     go_wp2_with fail
     go_meet
     exact⟨toks,Ao,co,hT,by omega,rfl,hb,hown⟩
  case rest =>
   obtain⟨toks,Ao,co,hT,htl,rfl,hb,hown⟩:=hcut;have hT2:=hT.out;subst hT2
   by_cases hmany:16384<toks.length
   ·have d1:decide ((16384:Int)<(toks.length:Int))=true:=by simp;omega
    have HB:=Lib.hid hmany;clear hmany
    go_wp2_with fail
    go_ret2
    refine⟨hb1.trans (hb.mono hws),?_⟩
    unfold ScanRet;rw[if_pos (.inr HB.out)];rfl
   ·have d1:decide ((16384:Int)<(toks.length:Int))=false:=by simp;omega
    have Hm:=Lib.hid hmany;clear hmany
    go_wp2_with fail
    go_ret2
    refine⟨hb1.trans (hb.mono hws),?_⟩
    unfold ScanRet;rw[if_neg (by have:=Hbig.out;have:=Hm.out;omega)]
    exact⟨_,rfl,own_less hown (by omega)⟩
end Go.Proofs.YtfhdihdafmahgaaGreatDoor
