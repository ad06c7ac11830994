import Derived.Test.YtfhdihdafmahgaaGreatDoorR32
import Derived.Test.YtfhdihdafmahgaaGreatDoorR25
set_option linter.unusedVariables false
set_option linter.unusedSimpArgs false
set_option maxRecDepth 1000000
set_option maxHeartbeats 64000000
namespace Go.Proofs.YtfhdihdafmahgaaGreatDoor
open Go.RowKit Rn Tp Ru
theorem ru_enter_semi (args:Array Value) (W:World):(callFunc 25 args).run Tryz.prog W=.ok (.enter 25 args) W:=by
 exact enters_of Tryz.func25 (by kernel_rfl) rfl args W
theorem ru_enter_brace (args:Array Value) (W:World):(callFunc 23 args).run Tryz.prog W=.ok (.enter 23 args) W:=by
 exact enters_of Tryz.func23 (by kernel_rfl) rfl args W
theorem ru_enter_block (args:Array Value) (W:World):(callFunc 62 args).run Tryz.prog W=.ok (.enter 62 args) W:=by
 exact enters_of Tryz.func62 (by kernel_rfl) rfl args W
theorem ru_enter_parse (args:Array Value) (W:World):(callFunc 24 args).run Tryz.prog W=.ok (.enter 24 args) W:=by
 exact enters_of Tryz.func24 (by kernel_rfl) rfl args W
theorem ru_enter_right (args:Array Value) (W:World):(callFunc 78 args).run Tryz.prog W=.ok (.enter 78 args) W:=by
 exact enters_of Tryz.func78 (by kernel_rfl) rfl args W
theorem ru_decl_info:(Tryz.prog.info? 34).map (fun i=>(i.zero,i.size,i.bytes))=some (some (.agg #[.string ⟨#[]⟩,.slice none 0 0,.bool false]),3,48):=by kernel_rfl
theorem ru_margin_info:(Tryz.prog.info? 41).map (fun i=>(i.zero,i.size,i.bytes))=some (some (.agg #[.string ⟨#[]⟩,.slice none 0 0]),2,40):=by kernel_rfl
theorem cells_new2 (w:World) (e:TypeId) (a b:Value):∀ j u,[a,b][j]?=some u→(w.alloc (.cells #[a,b] e)).cell? ((⟨w.heap.size,0,none⟩:Addr).add j)=some u:=by
 intro j u hu;have h:=((RowAt.new w e #[a,b]).2 j u hu).1;have ha:(⟨w.heap.size,0,none⟩:Addr).add j=⟨w.heap.size,j,none⟩:=by unfold Addr.add;split<;>simp_all
 rw[ha];exact h
theorem ru_block_core (pg:Bool) (l:List GTok) (p:Nat) (A:Option Addr) (n c:Nat) (A':Option Addr) (c' k z:Nat) (w:World) (h:Par w p l A n c A' c') (hk:k≤z) (hz:z≤n) (hT:Tabs w) (hB:Boxed w)
  (hrec:pg=true→∀ (j i:Nat) (W:World),Below w.heap.size w W→j≤i→i≤n→Calls Tryz.prog 30 #[.pointer (some ⟨p,0,none⟩),.int .i64 (j:Int),.int .i64 (i:Int),.bool false] W (BlockRet l j i false W)) :
  Calls Tryz.prog 30 #[.pointer (some ⟨p,0,none⟩),.int .i64 (k:Int),.int .i64 (z:Int),.bool pg] w (BlockRet l k z pg w):=by
 have hn:=h.hn;have hlenl:=h.tk.toks_len;have Hlen:=Lib.hid hlenl;have Hrec:=Lib.hid hrec;obtain⟨di0,di,dz0,dz1,dz2⟩:=info_take ru_decl_info;obtain⟨mi0,mi,mz0,mz1,mz2⟩:=info_take ru_margin_info;clear hlenl hrec
 go_enter Tryz.func30,Tryz.ntmps30
 go_wp2_with fail
 go_loopw [10,11,12] (fun v1 v2 i wr=>∃ (j:Nat) (A1:Option Addr) (n1 c1:Nat) (A2:Option Addr) (n2 c2:Nat) (md:List MDecl) (mm:List MMargin),j≤n+1∧i=.int .i64 (j:Int)∧v1=.slice A1 n1 c1∧v2=.slice A2 n2 c2∧Hid (n1=md.length∧n2=mm.length)∧BJ l pg k z w wr j (.slice A1 n1 c1) (.slice A2 n2 c2) md mm) (fun _ _ i _=>z-(intOf i).toNat)
 case atStart=>exact⟨k,none,0,0,none,0,0,[],[],by omega,rfl,rfl,rfl,⟨rfl,rfl⟩,BJ.start l pg k z w⟩
 case round =>
  obtain⟨j,A1,n1,c1,A2,n2,c2,md,mm,hj,rfl,rfl,rfl,hnn,hJ⟩:=hrel;have hb:=hJ.bel;have Pw:=h.below hb;have hbs:=hb.size
  by_cases hlt:j<z
  ·obtain⟨b,off,t,hA,hbl,ht,x0,x1,x2⟩:=Pw.tk.tok (k:=j) (by omega)
   subst hA;have pc0:=Pw.c0;have dj:(j:Int)<(z:Int):=by omega
   have dj2:(j:Int)<(n:Int):=by omega
   have hst:=h.sm t (List.mem_of_getElem? ht);obtain⟨WA,hWA⟩:∃ WA,wr.alloc (.cells #[.int .i64 t.kind,.string (bytesOf t.text),.int .i64 t.n] 58)=WA:=⟨_,rfl⟩;have bA:Below wr.heap.size wr WA:=by rw[←hWA];exact(Below.refl _ _).alloc (Nat.le_refl _) _
   have rA:RowAt WA wr.heap.size [.int .i64 t.kind,.string (bytesOf t.text),.int .i64 t.n]:=by rw[←hWA];exact RowAt.new _ _ _
   have hJA:=hJ.below bA;have PA:=Pw.below bA;have hbA:=hJA.bel;have hltA:=rA.1;have w1':IntKind.i64.wrap ((j:Int)+1)=(j:Int)+1:=by rw[IntKind.wrap_i64];omega
   obtain⟨a0,_⟩:=rA.2 0 _ rfl;obtain⟨a1,_⟩:=rA.2 1 _ rfl;obtain⟨a2,_⟩:=rA.2 2 _ rfl
   by_cases hsp:t.kind=1∨t.kind=15
   ·obtain⟨q1,q2⟩:=decls_sp (by rw[Hlen.out];exact hz) hlt ht hsp
    have hJ2:=hJA.to q1 (fun _=>q2);have Hsp:=Lib.hid hsp;clear q1 q2 hsp ht hJ hJA
    cases k1:(t.kind==1) with
    | true =>
     go_wp2_with fail
     go_roundw
     case rel=>exact⟨j+1,A1,n1,c1,A2,n2,c2,md,mm,by omega,by go_num,rfl,rfl,hnn,hJ2⟩
     case measure=>simp[intOf];omega
    | false =>
     have k15:(t.kind==15)=true:=by
      rcases Hsp.out with e|e
      ·rw[e] at k1;cases k1
      ·simpa using e
     go_wp2_with fail
     go_roundw
     case rel=>exact⟨j+1,A1,n1,c1,A2,n2,c2,md,mm,by omega,by go_num,rfl,rfl,hnn,hJ2⟩
     case measure=>simp[intOf];omega
   ·have n1k:t.kind≠1:=fun e=>hsp (.inl e)
    have n15k:t.kind≠15:=fun e=>hsp (.inr e)
    have k1:(t.kind==1)=false:=by simpa using n1k
    have k15:(t.kind==15)=false:=by simpa using n15k
    by_cases h4:t.kind=4
    ·have k4:(t.kind==4)=true:=by simpa using h4
     have hds:=decls_at (by rw[Hlen.out];exact hz) hlt ht h4;have hbd:=find_bounds (l:=l) eitherB (k:=j+1) (z:=z) (by rw[Hlen.out];exact hz) (by omega);have cF:=ru_find l eitherB 62 p _ n c A' c' (j+1) z WA PA (by omega) hz (fun t _ W _=>ru_either_block t W) ru_enter_block
     push_cast at cF
     obtain⟨e,he⟩:∃ e,findP l eitherB (j+1) z=e:=⟨_,rfl⟩;rw[he] at hds hbd cF;obtain⟨g,hg⟩:∃ g,marB l pg z j e t=g:=⟨_,rfl⟩;have hgB:g=(decide (e<z)&&((l[e]?.map braceB).getD false)&&pg&&decide (0≤boxP t.text)&&decide ((trimL (segP l (j+1) e)).length=0)):=hg.symm
     have hsk:skipP l e≤n+1∧e<skipP l e:=by
      by_cases hen:e<n
      ·have a:=skip_le (l:=l) (k:=e) (by rw[Hlen.out];exact hen)
       have b:=skip_gt (l:=l) (k:=e) (by rw[Hlen.out];exact hen);have:=Hlen.out
       omega
      ·rw[skip_past (by rw[Hlen.out];omega)];omega
     have Hds:=Lib.hid hds;have Hg:=Lib.hid hg;have HgB:=Lib.hid hgB;have Ht:=Lib.hid ht;have H4:=Lib.hid h4;have l1:=hJ.own1.lt;have l2:=hJ.own2.lt;have cX:=fun W (hW:Below WA.heap.size WA W)=>ru_box t.text W hst.1 (hB.below (hbA.trans (hW.mono hbA.size)))
     have cC:=fun W (hW:Below WA.heap.size WA W) (hej:j+1≤e)=>ru_cut l p _ n c A' c' (j+1) e W (PA.below hW) hej (by omega)
     push_cast at cC
     clear hds he hsp n1k n15k h4 ht hg hgB hJ
     go_wp2_with fail
     refine cF.mono ?_
     rintro e1 w1 ⟨rfl,hb1⟩;have hJ1:=hJA.below hb1;have P1:=PA.below hb1;have a0':=(hb1.cell (p:=⟨wr.heap.size,0,none⟩) hltA).trans a0;have a1':=(hb1.cell (p:=⟨wr.heap.size,1,none⟩) hltA).trans a1;have pc1:=P1.c0;clear cF hJA
     go_upto_region 17 with (fail)
     go_cut [92] (fun x wx=>x=.bool g∧Below w1.heap.size w1 wx)
     case first =>
      have hun:(undef:Value)=.tuple #[]:=rfl
      by_cases hez:e<z
      ·have dz:(e:Int)<(z:Int):=by omega
       have dn:(e:Int)<(n:Int):=by omega
       obtain⟨b',off',u,hA,_,hu,y0,y1,y2⟩:=P1.tk.tok (k:=e) (by omega)
       injection hA with hA
       injection hA with q1 q2
       subst q1 q2;have cB:=fun W=>ru_brace u W
       obtain⟨q,hq⟩:∃ q,braceB u=q:=⟨_,rfl⟩;simp only[hq] at cB
       have hg1:g=(q&&pg&&decide (0≤boxP t.text)&&decide ((trimL (segP l (j+1) e)).length=0)):=by
        rw[HgB.out,hu,decide_eq_true hez];simp[hq]
       have HG1:=Lib.hid hg1;clear hg1 hu hq hez
       go_wp2_with fail
       refine(cB _).mono ?_
       rintro e2 w2 ⟨rfl,hb2⟩
       cases q with
       | false =>
        have e0:g=false:=by rw[HG1.out];rfl
        have HE:=Lib.hid e0;clear e0
        go_wp2_with fail
        go_meet
        exact⟨by rw[HE.out],hb2⟩
       | true =>
        cases pg with
        | false =>
         have e0:g=false:=by rw[HG1.out];rfl
         have HE:=Lib.hid e0;clear e0
         go_wp2_with fail
         go_meet
         exact⟨by rw[HE.out],hb2⟩
        | true =>
         have hB2:Below WA.heap.size WA w2:=hb1.trans (hb2.mono hb1.size);have a1'':=(hb2.cell (p:=⟨wr.heap.size,1,none⟩) (Nat.lt_of_lt_of_le hltA hb1.size)).trans a1';have cX2:=cX w2 hB2;obtain⟨x,hx⟩:∃ x,boxP t.text=x:=⟨_,rfl⟩;rw[hx] at cX2;have hg2:g=(decide (0≤x)&&decide ((trimL (segP l (j+1) e)).length=0)):=by rw[HG1.out,hx];rfl
         have HG2:=Lib.hid hg2;clear hg2 hx cB
         go_wp2_with fail
         refine cX2.mono ?_
         rintro e3 w3 ⟨rfl,hb3⟩;have hb23:Below w1.heap.size w1 w3:=hb2.trans (hb3.mono hb2.size)
         by_cases hx0:0≤x
         ·have dx:(0:Int)≤x:=hx0
          have hg3:g=decide ((trimL (segP l (j+1) e)).length=0):=by rw[HG2.out,decide_eq_true hx0];simp
          have HG3:=Lib.hid hg3;have cC3:=cC w3 (hb1.trans (hb23.mono hb1.size)) hbd.1;obtain⟨m,hm⟩:∃ m,(trimL (segP l (j+1) e)).length=m:=⟨_,rfl⟩;have hg4:g=((m:Int)==0):=by rw[HG3.out,hm,Bool.eq_iff_iff];simp
          have HG4:=Lib.hid hg4;have Hm:=Lib.hid hm;clear hg3 hg4 hm cX2
          go_wp2_with fail
          refine cC3.mono ?_
          rintro e4 w4 ⟨⟨A5,c5,rfl,_,_⟩,hb4⟩;rw[Hm.out]
          go_wp2_with fail
          go_meet
          exact⟨by rw[HG4.out],hb23.trans (hb4.mono hb23.size)⟩
         ·have dx:¬ (0:Int)≤x:=hx0
          have e0:g=false:=by rw[HG2.out,decide_eq_false hx0];rfl
          have HE:=Lib.hid e0;clear e0 hx0
          go_wp2_with fail
          go_meet
          exact⟨by rw[HE.out],hb23⟩
      ·have dz:¬ (e:Int)<(z:Int):=by omega
       have e0:g=false:=by rw[HgB.out,decide_eq_false hez];rfl
       have HE:=Lib.hid e0;clear e0 hez
       go_wp2_with fail
       go_meet
       exact⟨by rw[HE.out],Below.refl _ _⟩
     case rest =>
      obtain⟨rfl,hbc⟩:=hcut;have hJc:=hJ1.below hbc;have Pc:=P1.below hbc;have pc2:=Pc.c1;have hbcw:=hJc.bel;have b1:=hb1.size;have b2:=hbc.size
      cases g with
      | false =>
       have hJf:=hJc.to (k':=skipP l e) Hds.out.1 (fun hp=>by subst hp;rw[Hds.out.2,margin_no Ht.out Hg.out];rfl);have cS:=nest_skip l (· < wc.heap.size) A' n c' e wc Pc.en hn (by omega);clear hJ1 hJc cX cC
       go_wp2_with fail
       refine cS.mono ?_
       rintro e5 w5 ⟨rfl,rfl⟩
       go_wp2_with fail
       go_roundw
       case rel=>exact⟨skipP l e,A1,n1,c1,A2,n2,c2,md,mm,hsk.1,rfl,rfl,rfl,hnn,hJf⟩
       case measure=>simp[intOf];omega
      | true =>
       obtain⟨hez,hbr,hpg⟩:=mar_end Hg.out;obtain⟨E,hE,hE1,hE2⟩:=brace_end hbr;obtain⟨b3,off3,hA3,_,y0⟩:=Pc.en.at_ (k:=e) (by omega);rw[hE] at y0;have hEn:E≤n:=by have:=Hlen.out;omega
       subst hpg;have cR:=Hrec.out rfl (e+1) (min E z) wc hbcw (by omega) (by omega);have w2':IntKind.i64.wrap ((e:Int)+1)=(e:Int)+1:=by rw[IntKind.wrap_i64];omega
       rw[show (((min E z:Nat):Int))=min (E:Int) (z:Int) by omega] at cR
       push_cast at cR
       have HE:=Lib.hid hE;have dn:(e:Int)<(n:Int):=by omega
       subst hA3;clear hbr hE
       go_wp2_with fail
       refine cR.mono ?_
       rintro e5 w5 ⟨ds,ms,B1,d1,B2,d2,rfl,hds5,_,hD5,_,hb5⟩;have hJ5:=hJc.below hb5;have b5:=hb5.size;have hA5:Below WA.heap.size WA w5:=hb1.trans ((hbc.trans (hb5.mono hbc.size)).mono hb1.size);have a15:=(hA5.cell (p:=⟨wr.heap.size,1,none⟩) hltA).trans a1;have cL:=fun W=>rn_lower (bytesOf t.text) W (by rw[bytesOf_size];exact hst.1)
       rw[show (bytesOf t.text).data.toList=t.text by simp[bytesOf]] at cL;have Hds5:=Lib.hid hds5;clear hds5 cR
       go_wp2_with fail
       refine(cL _).mono ?_
       rintro e6 w6 ⟨rfl,hb6⟩;have hJ6:=hJ5.below hb6;have b6:=hb6.size;have hm:DeclsS w6 (BS w w6 (.slice A1 n1 c1) (.slice A2 n2 c2)) B1 ds.length ds:=(hD5.keep (Kept.of_below hb6 (fun b hb=>hb.2))).more (fun b hb=>⟨by have:=hb.1;omega,by have:=hb.2;omega,fun e=>by have:=(l1 b e).2;have:=hb.1;omega,fun e=>by have:=(l2 b e).2;have:=hb.1;omega⟩)
       have hnl:mm.length≤1000000:=by
        have h1:=congrArg List.length hJ6.e2;simp only[if_true] at h1;rw[List.length_append,List.length_map] at h1;have h2:=margins_len l k z
        omega
       have hwB:w.heap.size≤w6.heap.size:=hJ6.bel.size;have hJ6':=Lib.hid hJ6;have hds1:=Hds.out.1;have hds2:=Hds.out.2;rw[margin_yes Ht.out H4.out Hg.out] at hds2;have hmE:(⟨lowerP t.text,declsP l (e+1) (min (endP l e).toNat z)⟩:Margin)=⟨lowerP t.text,ds⟩:=by rw[Hds5.out,HE.out];rfl
       rw[hmE] at hds2;have HD1:=Lib.hid hds1;have HD2:=Lib.hid hds2;have ho2:=hJ6.own2;clear hds1 hds2 hmE hJ1 hJc hJ5 hD5 hJ6
       go_wp2_with (at_builtin;refine wpList_append_own_at _ rfl _ _ 37 rfl w.heap.size 41 mi0 _ 2 40 Tryz.underlying37 mi mz0 mz1 mz2 rfl (by decide) _ mm.length (cellsM mm) rfl (ho2.alloc _) ⟨w6.heap.size,0,none⟩ 1 1 [.string (bytesOf (lowerP t.text)),.slice B1 ds.length d1] rfl rfl (cells_new2 _ _ _ _) ?f2 ?f3 ?f4 ?f5 ?_)
       case f2=>intro u hu;simp at hu;rcases hu with rfl | rfl<;>rfl
       case f3=>unfold maxLen;omega
       case f4=>omega
       case f5=>simp;omega
       intro v' w7 hown7 hg7 _ hat;have hJ7:=hJ6'.out.pushM (m:=⟨⟨lowerP t.text,ds⟩,B1,d1⟩) (k':=skipP l e) hm hwB hown7 hg7 hat HD1.out (by rw[HD2.out];rfl);obtain⟨A4,c4,rfl,_,_⟩:=own_form hown7;have P7:=h.below hJ7.bel;have pc7:=P7.c1;have cS:=nest_skip l (· < w7.heap.size) _ n c' e w7 P7.en hn (by omega);clear hown7 hg7 hat hm ho2 hJ6'
       go_wp2_with fail
       refine cS.mono ?_
       rintro e8 w8 ⟨rfl,rfl⟩
       go_wp2_with fail
       go_roundw
       case rel=>exact⟨skipP l e,A1,n1,c1,A4,mm.length+1,c4,md,_,hsk.1,rfl,rfl,rfl,⟨hnn.out.1,by simp⟩,hJ7⟩
       case measure=>simp[intOf];omega
    ·have k4:(t.kind==4)=false:=by simpa using h4
     have hds:=decls_else (by rw[Hlen.out];exact hz) hlt ht n1k n15k h4;have hgt:=semi_gt (l:=l) (by rw[Hlen.out];exact hz) hlt ht n15k;have hbd:=find_bounds (l:=l) semiB (k:=j) (z:=z) (by rw[Hlen.out];exact hz) (by omega);have cF:=ru_find l semiB 25 p _ n c A' c' j z WA PA (by omega) hz (fun t _ W _=>ru_semi t W) ru_enter_semi;obtain⟨e,he⟩:∃ e,findP l semiB j z=e:=⟨_,rfl⟩;rw[he] at hds hgt hbd cF;have Hds:=Lib.hid hds;clear hds he hsp n1k n15k h4 ht
     go_wp2_with fail
     refine cF.mono ?_
     rintro e1 w1 ⟨rfl,hb1⟩;have hJ1:=hJA.below hb1;have P1:=PA.below hb1;have cD:=ru_decl l p _ n c A' c' j e w1 P1 (by omega) (by omega) (hT.below (hbA.trans (hb1.mono hbA.size)));clear cF
     go_wp2_with fail
     refine cD.mono ?_
     rintro e2 w2 ⟨hret,hb2⟩;have hJ2:=hJ1.below hb2;have hs1:wr.heap.size<w1.heap.size:=Nat.lt_of_lt_of_le hltA hb1.size;have hs2:=hb2.size;have l1:=hJ.own1.lt;have l2:=hJ.own2.lt;obtain⟨od,hod⟩:∃ od,declP (segP l j e)=od:=⟨_,rfl⟩;rw[hod] at hret;have Hod:=Lib.hid hod;clear hod cD hJ hJA hJ1
     cases od with
     | none =>
      obtain⟨xs,A3,n3,c3,b3,rfl⟩:=hret;obtain⟨WB,hWB⟩:∃ WB,w2.alloc (.cells #[.string xs,.slice A3 n3 c3,.bool b3] 34)=WB:=⟨_,rfl⟩;have bB:Below w2.heap.size w2 WB:=by rw[←hWB];exact(Below.refl _ _).alloc (Nat.le_refl _) _
      have hJB:=(hJ2.below bB).to (k':=e) (by rw[Hds.out.1,Hod.out];rfl) (fun _=>Hds.out.2);clear hJ2
      go_wp2_with fail
      go_roundw
      case rel=>exact⟨e,A1,n1,c1,A2,n2,c2,md,mm,by omega,rfl,rfl,rfl,hnn,hJB⟩
      case measure=>simp[intOf];omega
     | some d =>
      obtain⟨A3,c3,rfl,hR⟩:=hret;obtain⟨dn,dv,dim⟩:=d;simp only[] at *
      obtain⟨WB,hWB⟩:∃ WB,w2.alloc (.cells #[.string (bytesOf dn),.slice A3 dv.length c3,.bool dim] 34)=WB:=⟨_,rfl⟩;have bB:Below w2.heap.size w2 WB:=by rw[←hWB];exact(Below.refl _ _).alloc (Nat.le_refl _) _
      have rB:RowAt WB w2.heap.size [.string (bytesOf dn),.slice A3 dv.length c3,.bool dim]:=by rw[←hWB];exact RowAt.new _ _ _
      obtain⟨y0,_⟩:=rB.2 0 _ rfl;obtain⟨y1,_⟩:=rB.2 1 _ rfl;obtain⟨y2,_⟩:=rB.2 2 _ rfl;have hJB:=hJ2.below bB;have hsB:=bB.size;have hm:ReadsS WB (BS w WB (.slice A1 n1 c1) (.slice A2 n2 c2)) 3 A3 dv.length (cellsG dv):=(hR.keep (Kept.of_below bB (fun b hb=>hb.2))).more (fun b hb=>⟨by have:=hb.1;omega,by have:=hb.2;omega,fun e=>by have:=(l1 b e).2;have:=hb.1;omega,fun e=>by have:=(l2 b e).2;have:=hb.1;omega⟩)
      have hnl:md.length≤1000000:=by
       have h1:=congrArg List.length hJB.e1;rw[List.length_append,List.length_map] at h1;have h2:=decls_len l k z
       omega
      have hn1:=hnn.out.1;have hwB:w.heap.size≤WB.heap.size:=hJB.bel.size;have Hn1:=Lib.hid hn1;clear hn1 hJ2 rB
      go_wp2_with (at_builtin;refine wpList_append_own_at _ rfl _ _ 31 rfl w.heap.size 34 di0 _ 3 48 Tryz.underlying31 di dz0 dz1 dz2 rfl (by decide) _ md.length (cellsD md) rfl (hJB.own1.alloc _) ⟨WB.heap.size,0,none⟩ 1 1 [.string (bytesOf dn),.slice A3 dv.length c3,.bool dim] rfl rfl (cells_new3 _ _ _ _ _) ?e2 ?e3 ?e4 ?e5 ?_)
      case e2=>intro u hu;simp at hu;rcases hu with rfl | rfl | rfl<;>rfl
      case e3=>unfold maxLen;omega
      case e4=>omega
      case e5=>simp;omega
      intro v' w3 hown3 hg3 _ hat;have hJ4:=hJB.pushD (m:=⟨⟨dn,dv,dim⟩,A3,c3⟩) (k':=e) hm hwB hown3 hg3 hat (by rw[Hds.out.1,Hod.out];rfl) (fun _=>Hds.out.2);obtain⟨A4,c4,rfl,_,_⟩:=own_form hown3;clear hown3 hg3 hat hm hJB hR
      go_wp2_with fail
      go_roundw
      case rel=>exact⟨e,A4,md.length+1,c4,A2,n2,c2,_,mm,by omega,rfl,rfl,rfl,⟨by simp,hnn.out.2⟩,hJ4⟩
      case measure=>simp[intOf];omega
  ·have dj:¬ (j:Int)<(z:Int):=by omega
   have hfin:=hJ.done hnn.out.1 hnn.out.2 (by omega);have HF:=Lib.hid hfin;clear hfin hJ
   go_wp2_with fail
   go_ret2
   exact HF.out
theorem ru_block_false (l:List GTok) (p:Nat) (A:Option Addr) (n c:Nat) (A':Option Addr) (c' k z:Nat) (w:World) (h:Par w p l A n c A' c') (hk:k≤z) (hz:z≤n) (hT:Tabs w) (hB:Boxed w) :
  Calls Tryz.prog 30 #[.pointer (some ⟨p,0,none⟩),.int .i64 (k:Int),.int .i64 (z:Int),.bool false] w (BlockRet l k z false w) :=
 ru_block_core false l p A n c A' c' k z w h hk hz hT hB (fun e=>by cases e)
theorem ru_block (pg:Bool) (l:List GTok) (p:Nat) (A:Option Addr) (n c:Nat) (A':Option Addr) (c' k z:Nat) (w:World) (h:Par w p l A n c A' c') (hk:k≤z) (hz:z≤n) (hT:Tabs w) (hB:Boxed w) :
  Calls Tryz.prog 30 #[.pointer (some ⟨p,0,none⟩),.int .i64 (k:Int),.int .i64 (z:Int),.bool pg] w (BlockRet l k z pg w) :=
 ru_block_core pg l p A n c A' c' k z w h hk hz hT hB (fun _ j i W hW hj hi=>ru_block_false l p A n c A' c' j i W (h.below hW) hj hi (hT.below hW) (hB.below hW))
theorem ruleAt_len (l:List GTok) (t:GTok) (k e:Nat):(ruleAt l t k e).toList.length≤1:=by cases ruleAt l t k e<;>simp
theorem rulesF_len (l:List GTok):∀ f k,(rulesF l f k).length≤f
 | 0,k=>by simp[rulesF]
 | f+1,k=>by
  have ih:=rulesF_len l f;unfold rulesF
  split
  ·simp
  ·split
   ·exact Nat.le_succ_of_le (ih _)
   ·rename_i t _ _
    have h1:=ruleAt_len l t k (ruleEnd l t k);have h2:=ih (skipP l (ruleEnd l t k));rw[List.length_append];omega
theorem rules_len (l:List GTok):(rulesP l 0).length≤l.length:=by have:=rulesF_len l (l.length-0) 0;unfold rulesP;omega
def ruleG (l:List GTok) (t:GTok) (e:Nat):Bool:=decide (e<l.length)&&((l[e]?.map braceB).getD false)&&!(decide (t.kind=4)&&!decide (lowerP t.text=pageS))
def fromP (t:GTok) (k:Nat):Nat:=if t.kind=4 then k+1 else k
theorem rule_no {l:List GTok} {t:GTok} {k e:Nat} (h:ruleG l t e=false):ruleAt l t k e=none:=by
 unfold ruleAt;simp only[];rw[if_neg];rintro⟨h1,h2,h3⟩
 have:ruleG l t e=true:=by
  unfold ruleG;rw[h2];simp only[decide_eq_true_eq] at h3
  by_cases h4:t.kind=4
  ·simp[h1,h4,h3 h4]
  ·simp[h1,h4]
 rw[this] at h;cases h
theorem rule_yes {l:List GTok} {t:GTok} {k e:Nat} (h:ruleG l t e=true):e<l.length∧(l[e]?.map braceB)=some true∧ruleAt l t k e=if soundP (trimL (segP l (fromP t k) e))=true then some ⟨if t.kind=4 then 2 else 1,trimL (segP l (fromP t k) e),declsP l (e+1) (endP l e).toNat,if t.kind=4 then marginsP l (e+1) (endP l e).toNat else []⟩ else none:=by
 unfold ruleG at h;simp only[Bool.and_eq_true,decide_eq_true_eq,Bool.not_eq_true'] at h;obtain⟨⟨h1,h2⟩,h3⟩:=h
 have hb:(l[e]?.map braceB)=some true:=by
  cases hx:l[e]?.map braceB with
  | none=>rw[hx] at h2;cases h2
  | some b=>rw[hx] at h2;simp at h2;rw[h2]
 refine⟨h1,hb,?_⟩
 unfold ruleAt fromP;simp only[decide_eq_true_eq];rw[if_pos]
 refine⟨h1,hb,fun h4=>?_⟩
 rw[Bool.and_eq_false_iff] at h3
 rcases h3 with h3|h3
 ·simp[h4] at h3
 ·simpa using h3
def RS (w wr:World) (v:Value):Nat→Prop:=fun b=>w.heap.size≤b∧b<wr.heap.size∧v.ownBlock≠some b
structure RJ (l:List GTok) (w wr:World) (k:Nat) (v:Value) (mr:List MRule):Prop where
 bel:Below w.heap.size w wr
 own:wr.ownsRow w.heap.size 39 4 v mr.length (cellsR mr)
 rd:RulesM wr (RS w wr v) mr
 e1:rulesP l 0=mr.map (·.r)++rulesP l k
section
variable {l:List GTok} {k k':Nat} {w wr W w3:World} {v v':Value} {mr:List MRule} {o:Obj}
theorem RJ.start (l:List GTok) (w:World):RJ l w w 0 (.slice none 0 0) []:=⟨Below.refl _ _,World.ownsRow_nil _ _ _ _,(fun m hm=>by cases hm),(by simp)⟩
theorem RJ.to (h:RJ l w wr k v mr) (h1:rulesP l k=rulesP l k'):RJ l w wr k' v mr:=⟨h.bel,h.own,h.rd,by rw[h.e1,h1]⟩
theorem RJ.below (h:RJ l w wr k v mr) (hb:Below wr.heap.size wr W):RJ l w W k v mr :=
 ⟨h.bel.trans (hb.mono h.bel.size),own_below h.own hb,(h.rd.keep (Kept.of_below hb (fun b h=>h.2.1))).more (fun b hb'=>⟨hb'.1,Nat.lt_of_lt_of_le hb'.2.1 hb.size,hb'.2.2⟩),h.e1⟩
theorem RJ.push {m:MRule} (h:RJ l w W k v mr) (hm:m.Reads W (RS w W v)) (hw:w.heap.size≤W.heap.size)
  (hown:w3.ownsRow w.heap.size 39 4 v' (mr.length+1) (cellsR mr++m.cells)) (hg:(W.alloc o).grownBy w3 v.ownBlock) (hat:v'.ownBlock=v.ownBlock∨v'.ownBlock=some (W.heap.size+1))
  (h1:rulesP l k=m.r::rulesP l k'):RJ l w w3 k' v' (mr++[m]):=by
 have hsz:W.heap.size+1≤w3.heap.size:=by have:=hg.size;simpa using this
 have hS:∀ b,RS w W v b→RS w w3 v' b:=fun b hb=>⟨hb.1,by have:=hb.2.1;omega,by
  rcases hat with e|e
  ·rw[e];exact hb.2.2
  ·rw[e];intro e2;injection e2 with e2;have:=hb.2.1;omega⟩
 have hkA:Kept (RS w W v) W (W.alloc o):=Kept.of_alloc o (fun b hb=>hb.2.1);have hkG:Kept (RS w W v) (W.alloc o) w3:=Kept.of_grown hg (fun b hb=>⟨by have:=hb.2.1;simp;omega,fun e=>hb.2.2 e.symm⟩);have hk:=hkA.trans hkG
 refine⟨push_below h.bel hw h.own hg,by rw[List.length_append,cellsR_snoc];exact hown,?_,?_⟩
 ·exact((h.rd.keep hk).more hS).snoc ((hm.keep hk).more hS)
 ·rw[h.e1,h1];simp
theorem RJ.done {A:Option Addr} {n c:Nat} (h:RJ l w wr k (.slice A n c) mr) (hn:n=mr.length) (hk:l.length≤k):n=(rulesP l 0).length∧RulesS wr (Fresh w wr) A (rulesP l 0).length (rulesP l 0):=by
 subst hn;have he:rulesP l 0=mr.map (·.r):=by rw[h.e1,rules_end hk,List.append_nil]
 refine⟨by rw[he,List.length_map],mr,he.symm,?_,h.rd.more (fun b hb=>⟨hb.1,hb.2.1⟩)⟩
 rw[he,List.length_map]
 exact ReadsS.of_own h.own (fun b hb=>h.own.lt b hb)
end
def ParseRet (n0:Nat) (T:List Tk.Tok) (w:World) (e:Ending) (w':World):Prop :=
 Below w.heap.size w w' ∧
 if 65536<n0∨16384<T.length then e=.returned (.tuple #[.slice none 0 0,.int .i64 2])
 else if (parseT (T.map Tk.Tok.g)).1=0 then ∃ A c,e=.returned (.tuple #[.slice A (parseT (T.map Tk.Tok.g)).2.length c,.int .i64 0])∧RulesS w' (Fresh w w') A (parseT (T.map Tk.Tok.g)).2.length (parseT (T.map Tk.Tok.g)).2
 else e=.returned (.tuple #[.slice none 0 0,.int .i64 (parseT (T.map Tk.Tok.g)).1])
theorem ru_rule_info:(Tryz.prog.info? 39).map (fun i=>(i.zero,i.size,i.bytes))=some (some (.agg #[.int .i64 0,.slice none 0 0,.slice none 0 0,.slice none 0 0]),4,80):=by kernel_rfl
theorem cells_new4 (w:World) (e:TypeId) (a b c d:Value):∀ j u,[a,b,c,d][j]?=some u→(w.alloc (.cells #[a,b,c,d] e)).cell? ((⟨w.heap.size,0,none⟩:Addr).add j)=some u:=by
 intro j u hu;have h:=((RowAt.new w e #[a,b,c,d]).2 j u hu).1;have ha:(⟨w.heap.size,0,none⟩:Addr).add j=⟨w.heap.size,j,none⟩:=by unfold Addr.add;split<;>simp_all
 rw[ha];exact h
def RegRet (l:List GTok) (k z:Nat) (pg:Bool) (g:Nat) (kd:Int) (pre:Value) (w w':World):Prop :=
 ∃ (ds:List Decl) (ms:List Margin) (B1:Option Addr) (d1:Nat) (B2:Option Addr) (d2:Nat),RowAt w' g [.int .i64 kd,pre,.slice B1 ds.length d1,.slice B2 ms.length d2]∧ds=declsP l k z∧ms=(if pg=true then marginsP l k z else [])
  ∧ DeclsS w' (Fresh w w') B1 ds.length ds∧MarginsS w' (Fresh w w') B2 ms.length ms∧Below g w w'
theorem reg_fin {l:List GTok} {k z:Nat} {pg:Bool} {g:Nat} {kd:Int} {pre:Value} {w w9:World} {ds:List Decl} {ms:List Margin} {B1:Option Addr} {d1:Nat} {B2:Option Addr} {d2:Nat} (hg:g<w.heap.size)
  (hds:ds=declsP l k z) (hms:ms=(if pg=true then marginsP l k z else [])) (hD:DeclsS w9 (Fresh w w9) B1 ds.length ds) (hM:MarginsS w9 (Fresh w w9) B2 ms.length ms) (hb:Below w.heap.size w w9) (r9:RowAt w9 g [.int .i64 kd,pre,.slice none 0 0,.slice none 0 0]) :
  RegRet l k z pg g kd pre w ((w9.setCell ⟨g,2,none⟩ (.slice B1 ds.length d1)).setCell ⟨g,3,none⟩ (.slice B2 ms.length d2)):=by
 have hne:∀ x,Fresh w w9 x→x≠g:=fun x hx=>by have:=hx.1;omega
 have hbg:Below g w w9:=hb.mono (Nat.le_of_lt hg);have hk:Kept (Fresh w w9) w9 ((w9.setCell ⟨g,2,none⟩ (.slice B1 ds.length d1)).setCell ⟨g,3,none⟩ (.slice B2 ms.length d2)):=(Kept.setCell (p:=⟨g,2,none⟩) _ hne).trans (fun b hb=>Below.heap_setCell _ _ _ _ (hne b hb))
 exact⟨ds,ms,B1,d1,B2,d2,(r9.store 2 _).store 3 _,hds,hms,(hD.keep hk).more (fun b hb=>⟨hb.1,by have:=hb.2;simp[World.setCell];omega⟩),(hM.keep hk).more (fun b hb=>⟨hb.1,by have:=hb.2;simp[World.setCell];omega⟩),(hbg.setCell (p:=⟨g,2,none⟩) (Nat.le_refl _) _).setCell (p:=⟨g,3,none⟩) (Nat.le_refl _) _⟩
def regionR (r:Nat):Code→Option Code
 | .seq a b=>match regionR r a with
  | some c=>some c
  | none=>regionR r b
 | .block _ c=>regionR r c
 | .loop c=>regionR r c
 | .scope c=>regionR r c
 | .cond _ a b=>match regionR r a with
  | some c=>some c
  | none=>regionR r b
 | .region k x y=>if k=r then some (.region k x y) else none
 | _=>none
noncomputable def parseFill:Code:=(regionR 23 (Tryz.f9.body.getD .skip)).getD .skip
theorem ru_fill {l:List GTok} {pg:Bool} {wX:World} {p g g1 e E n:Nat} {kd:Int} {pre:Value} (u0 u1 u2 u3 u4 u5 u8 u9 u10 u11 u12 u15 u16 u17 u18 u19 u20 u21 u22 u23 u24 u25 u26 u27 u28 u29 u30 u31 u32 u33 u34 u35 u36 u37 u38 u39 u40 u41 u42 u43 u44 u45 u46 u47 u48 u49 u50 u51 u52 u53 u54 u55 u56 u57 u58 u59 u60 u61 u62 u63 u64 u65 u66 u67 u68 u69 u70 u71 u72 u73 u74 u75 u76 u77 u78 u79 u80 u81 u82 u83 u84 u85 u86 u87 u88 u89 u90 u91 u92 u93 u94 u95 u96 u97 u98 u99 u100 u101 u102 u103 u104 u105 u106 u107 u108 u109 u110 u111 u112 u113 u114 u115 u116 u117 u118 u119 u120 u121:Value)
  (y3:wX.cell? ⟨g1,e,none⟩=some (.int .i64 (E:Int))) (de:(e:Int)<(n:Int)) (de0:(0:Int)≤(e:Int)) (we1:IntKind.i64.wrap ((e:Int)+1)=(e:Int)+1) (hgl:g<wX.heap.size)
  (rX:RowAt wX g [.int .i64 kd,pre,.slice none 0 0,.slice none 0 0])
  (cR:Calls Tryz.prog 30 #[.pointer (some ⟨p,0,none⟩),.int .i64 ((e:Int)+1),.int .i64 (E:Int),.bool (kd==2)] wX.drew (BlockRet l (e+1) E pg wX.drew)) :
  Code.wp Tryz.prog parseFill (fun e' a W=>match e' with
   | .normal=>(∃ v95 v96 v97 v98 v99 v100 v101 v102 v103 v104 v105 v106 v107 v108 v109 v110:Value,a=⟨(List.toArray (u0::u1::u2::u3::u4::u5::Value.slice (some ⟨g1,0,none⟩) n n::Value.pointer (some ⟨p,0,none⟩)::u8::u9::u10::u11::u12::Value.int .i64 (e:Int)::Value.pointer (some ⟨g,0,none⟩)::u15::u16::u17::u18::u19::u20::u21::u22::u23::u24::u25::u26::u27::u28::u29::u30::u31::u32::u33::u34::u35::u36::u37::u38::u39::u40::u41::u42::u43::u44::u45::u46::u47::u48::u49::u50::u51::u52::u53::u54::u55::u56::u57::u58::u59::u60::u61::u62::u63::u64::u65::u66::u67::u68::u69::u70::u71::u72::u73::u74::u75::u76::u77::u78::u79::u80::u81::u82::u83::u84::u85::u86::u87::u88::u89::u90::u91::u92::u93::u94::v95::v96::v97::v98::v99::v100::v101::v102::v103::v104::v105::v106::v107::v108::v109::v110::u111::u112::u113::u114::u115::u116::u117::u118::u119::u120::u121::[])),[]⟩)∧RegRet l (e+1) E pg g kd pre wX W
   | _=>False) ⟨(List.toArray (u0::u1::u2::u3::u4::u5::Value.slice (some ⟨g1,0,none⟩) n n::Value.pointer (some ⟨p,0,none⟩)::u8::u9::u10::u11::u12::Value.int .i64 (e:Int)::Value.pointer (some ⟨g,0,none⟩)::u15::u16::u17::u18::u19::u20::u21::u22::u23::u24::u25::u26::u27::u28::u29::u30::u31::u32::u33::u34::u35::u36::u37::u38::u39::u40::u41::u42::u43::u44::u45::u46::u47::u48::u49::u50::u51::u52::u53::u54::u55::u56::u57::u58::u59::u60::u61::u62::u63::u64::u65::u66::u67::u68::u69::u70::u71::u72::u73::u74::u75::u76::u77::u78::u79::u80::u81::u82::u83::u84::u85::u86::u87::u88::u89::u90::u91::u92::u93::u94::u95::u96::u97::u98::u99::u100::u101::u102::u103::u104::u105::u106::u107::u108::u109::u110::u111::u112::u113::u114::u115::u116::u117::u118::u119::u120::u121::[])),[]⟩ wX:=by
 conv=>arg 2;whnf
 have r0:RowAt wX.drew g [.int .i64 kd,pre,.slice none 0 0,.slice none 0 0]:=rX;have y3d:wX.drew.cell? ⟨g1,e,none⟩=some (.int .i64 (E:Int)):=y3;obtain⟨k0,kf0⟩:=r0.2 0 _ rfl
 refine wp_region_any (by kernel_rfl) ?_
 try(change wpAny _ _ _ _ _ _ _ (World.drew _))
 refine wpAny_take (i:=0) (v:=?_) rfl (by kernel_rfl) (by kernel_rfl) (by kernel_rfl) (fun _ _ _ h=>h) (Or.inl ⟨by kernel_rfl,?_⟩) ?_
 rotate_left
 ·intro w;go_simp;(try with_reducible rfl)
 refine wpAny_take (i:=1) (v:=?_) rfl (by kernel_rfl) (by kernel_rfl) (by kernel_rfl) (fun _ _ _ h=>h) (Or.inl ⟨by kernel_rfl,?_⟩) ?_
 rotate_left
 ·intro w;go_simp;(try with_reducible rfl)
 refine wpAny_take (i:=2) (v:=?_) rfl (by kernel_rfl) (by kernel_rfl) (by kernel_rfl) (fun _ _ _ h=>h) (Or.inl ⟨by kernel_rfl,?_⟩) ?_
 rotate_left
 ·intro w;go_simp;(try with_reducible rfl)
 refine wpAny_take (i:=3) (v:=?_) rfl (by kernel_rfl) (by kernel_rfl) (by kernel_rfl) (fun _ _ _ h=>h) (Or.inl ⟨by kernel_rfl,?_⟩) ?_
 rotate_left
 ·intro w;go_simp;(try with_reducible rfl)
 refine wpAny_take (i:=4) (v:=?_) rfl (by kernel_rfl) (by kernel_rfl) (by kernel_rfl) (fun _ _ _ h=>h) (Or.inl ⟨by kernel_rfl,?_⟩) ?_
 rotate_left
 ·intro w;go_simp;(try with_reducible rfl)
 refine wpAny_take (i:=5) (v:=?_) rfl (by kernel_rfl) (by kernel_rfl) (by kernel_rfl) (fun _ _ _ h=>h) (Or.inl ⟨by kernel_rfl,?_⟩) ?_
 rotate_left
 ·intro w;go_simp;(try with_reducible rfl)
 refine wpAny_take (i:=7) (v:=?_) rfl (by kernel_rfl) (by kernel_rfl) (by kernel_rfl) (fun _ _ _ h=>h) (Or.inl ⟨by kernel_rfl,?_⟩) ?_
 rotate_left
 ·intro w;go_simp;(try with_reducible rfl)
 refine wpAny_ready (rs:=[6,8]) (by kernel_rfl) (by simp) ?_
 refine AllReady.cons rfl (fun K hK=>?_) ?_
 ·go_simp
  (try(refine hK _ _ ?_;clear hK K))
  refine wpAny_ready (rs:=[8]) (by kernel_rfl) (by simp) ?_
  refine AllReady.cons rfl (fun K hK=>?_) ?_
  ·go_simp
   (try(refine hK _ _ ?_;clear hK K))
   refine wpAny_take (i:=9) (v:=?_) rfl (by kernel_rfl) (by kernel_rfl) (by kernel_rfl) (fun _ _ _ h=>h) (Or.inl ⟨by kernel_rfl,?_⟩) ?_
   rotate_left
   ·intro w;go_simp;(try with_reducible rfl)
   refine wpAny_ready (rs:=[10]) (by kernel_rfl) (by simp) ?_
   refine AllReady.cons rfl (fun K hK=>?_) ?_
   ·go_simp
    go_wp2_with (first | (go_at_call 30;refine cR.mono ?_;rintro e9 w9 ⟨ds,ms,B1,d1,B2,d2,rfl,hds,hms,hD,hM,hb9⟩;have r9:=r0.below hb9 hgl;obtain⟨z2,f2⟩:=r9.2 2 _ rfl;obtain⟨z3,f3⟩:=r9.2 3 _ rfl;have Hds:=Lib.hid hds;have Hms:=Lib.hid hms;clear hds hms))
    (try(refine hK _ _ ?_;clear hK K))
    refine wpAny_take (i:=11) (v:=?_) rfl (by kernel_rfl) (by kernel_rfl) (by kernel_rfl) (fun _ _ _ h=>h) (Or.inl ⟨by kernel_rfl,?_⟩) ?_
    rotate_left
    ·intro w;go_simp;(try with_reducible rfl)
    refine wpAny_take (i:=12) (v:=?_) rfl (by kernel_rfl) (by kernel_rfl) (by kernel_rfl) (fun _ _ _ h=>h) (Or.inl ⟨by kernel_rfl,?_⟩) ?_
    rotate_left
    ·intro w;go_simp;(try with_reducible rfl)
    refine wpAny_take (i:=13) (v:=?_) rfl (by kernel_rfl) (by kernel_rfl) (by kernel_rfl) (fun _ _ _ h=>h) (Or.inl ⟨by kernel_rfl,?_⟩) ?_
    rotate_left
    ·intro w;go_simp;(try with_reducible rfl)
    refine wpAny_take (i:=14) (v:=?_) rfl (by kernel_rfl) (by kernel_rfl) (by kernel_rfl) (fun _ _ _ h=>h) (Or.inl ⟨by kernel_rfl,?_⟩) ?_
    rotate_left
    ·intro w;go_simp;(try with_reducible rfl)
    refine wpAny_ready (rs:=[15]) (by kernel_rfl) (by simp) ?_
    refine AllReady.cons rfl (fun K hK=>?_) ?_
    ·go_simp
     (try(refine hK _ _ ?_;clear hK K))
     refine wpAny_take (i:=16) (v:=?_) rfl (by kernel_rfl) (by kernel_rfl) (by kernel_rfl) (fun _ _ _ h=>h) (Or.inl ⟨by kernel_rfl,?_⟩) ?_
     rotate_left
     ·intro w;go_simp;(try with_reducible rfl)
     refine wpAny_ready (rs:=[17]) (by kernel_rfl) (by simp) ?_
     refine AllReady.cons rfl (fun K hK=>?_) ?_
     ·go_simp
      (try(refine hK _ _ ?_;clear hK K))
      refine wpAny_done (by kernel_rfl) ?_ _
      exact⟨⟨_,_,_,_,_,_,_,_,_,_,_,_,_,_,_,_,rfl⟩,reg_fin (w:=wX) hgl Hds.out Hms.out hD hM ((Below.refl _ _).drew.trans hb9) r9⟩
     ·exact AllReady.nil
    ·exact AllReady.nil
   ·exact AllReady.nil
  ·exact AllReady.nil
 ·refine AllReady.cons rfl (fun K hK=>?_) ?_
  ·go_simp
   (try(refine hK _ _ ?_;clear hK K))
   refine wpAny_take (i:=9) (v:=?_) rfl (by kernel_rfl) (by kernel_rfl) (by kernel_rfl) (fun _ _ _ h=>h) (Or.inl ⟨by kernel_rfl,?_⟩) ?_
   rotate_left
   ·intro w;go_simp;(try with_reducible rfl)
   refine wpAny_ready (rs:=[6]) (by kernel_rfl) (by simp) ?_
   refine AllReady.cons rfl (fun K hK=>?_) ?_
   ·go_simp
    (try(refine hK _ _ ?_;clear hK K))
    refine wpAny_ready (rs:=[10]) (by kernel_rfl) (by simp) ?_
    refine AllReady.cons rfl (fun K hK=>?_) ?_
    ·go_simp
     go_wp2_with (first | (go_at_call 30;refine cR.mono ?_;rintro e9 w9 ⟨ds,ms,B1,d1,B2,d2,rfl,hds,hms,hD,hM,hb9⟩;have r9:=r0.below hb9 hgl;obtain⟨z2,f2⟩:=r9.2 2 _ rfl;obtain⟨z3,f3⟩:=r9.2 3 _ rfl;have Hds:=Lib.hid hds;have Hms:=Lib.hid hms;clear hds hms))
     (try(refine hK _ _ ?_;clear hK K))
     refine wpAny_take (i:=11) (v:=?_) rfl (by kernel_rfl) (by kernel_rfl) (by kernel_rfl) (fun _ _ _ h=>h) (Or.inl ⟨by kernel_rfl,?_⟩) ?_
     rotate_left
     ·intro w;go_simp;(try with_reducible rfl)
     refine wpAny_take (i:=12) (v:=?_) rfl (by kernel_rfl) (by kernel_rfl) (by kernel_rfl) (fun _ _ _ h=>h) (Or.inl ⟨by kernel_rfl,?_⟩) ?_
     rotate_left
     ·intro w;go_simp;(try with_reducible rfl)
     refine wpAny_take (i:=13) (v:=?_) rfl (by kernel_rfl) (by kernel_rfl) (by kernel_rfl) (fun _ _ _ h=>h) (Or.inl ⟨by kernel_rfl,?_⟩) ?_
     rotate_left
     ·intro w;go_simp;(try with_reducible rfl)
     refine wpAny_take (i:=14) (v:=?_) rfl (by kernel_rfl) (by kernel_rfl) (by kernel_rfl) (fun _ _ _ h=>h) (Or.inl ⟨by kernel_rfl,?_⟩) ?_
     rotate_left
     ·intro w;go_simp;(try with_reducible rfl)
     refine wpAny_ready (rs:=[15]) (by kernel_rfl) (by simp) ?_
     refine AllReady.cons rfl (fun K hK=>?_) ?_
     ·go_simp
      (try(refine hK _ _ ?_;clear hK K))
      refine wpAny_take (i:=16) (v:=?_) rfl (by kernel_rfl) (by kernel_rfl) (by kernel_rfl) (fun _ _ _ h=>h) (Or.inl ⟨by kernel_rfl,?_⟩) ?_
      rotate_left
      ·intro w;go_simp;(try with_reducible rfl)
      refine wpAny_ready (rs:=[17]) (by kernel_rfl) (by simp) ?_
      refine AllReady.cons rfl (fun K hK=>?_) ?_
      ·go_simp
       (try(refine hK _ _ ?_;clear hK K))
       refine wpAny_done (by kernel_rfl) ?_ _
       exact⟨⟨_,_,_,_,_,_,_,_,_,_,_,_,_,_,_,_,rfl⟩,reg_fin (w:=wX) hgl Hds.out Hms.out hD hM ((Below.refl _ _).drew.trans hb9) r9⟩
      ·exact AllReady.nil
     ·exact AllReady.nil
    ·exact AllReady.nil
   ·exact AllReady.nil
  ·exact AllReady.nil
theorem ru_parse (bs:List UInt8) (A0:Option Addr) (n0 cap0:Nat) (w:World) (hr:Reads w w.heap.size 1 A0 n0 (bs.map b8)) (hm:n0≤cap0) (hcap:cap0≤maxLen) (hT:Tabs w) (hE:Env w) (hB:Boxed w) :
  Calls Tryz.prog 9 #[.slice A0 n0 cap0] w (ParseRet n0 (Tk.scanT (readP bs)) w):=by
 have hlen0:bs.length=n0:=by simpa using hr.len
 have cS:=tk_scan bs A0 n0 cap0 w hr hm hcap hT hE;obtain⟨T,hTT⟩:∃ T,Tk.scanT (readP bs)=T:=⟨_,rfl⟩;rw[hTT] at cS ⊢;have HTT:=Lib.hid hTT;have Hlen0:=Lib.hid hlen0;clear hTT hlen0
 go_enter Tryz.func9,Tryz.ntmps9
 go_wp2_with fail
 refine cS.mono ?_
 rintro e w1 ⟨hb1,hret⟩;clear cS;unfold ScanRet at hret
 by_cases hbig:65536<n0∨16384<T.length
 ·rw[if_pos hbig] at hret
  subst hret;have Hbig:=Lib.hid hbig;clear hbig
  go_wp2_with fail
  go_ret2
  unfold ParseRet;rw[if_pos Hbig.out]
  exact⟨hb1,rfl⟩
 ·rw[if_neg hbig] at hret
  obtain⟨v,rfl,hown⟩:=hret;obtain⟨A,c,rfl,hnc,hcm⟩:=own_form hown;obtain⟨l,hl⟩:∃ l,T.map Tk.Tok.g=l:=⟨_,rfl⟩;have hnl:T.length=l.length:=by rw[←hl,List.length_map]
  have hR:ReadsS w1 (· < w1.heap.size) 3 A l.length (cellsG l):=by
   have:=ReadsS.of_own hown (S:=(· < w1.heap.size)) (fun b hb=>(hown.lt b hb).2);rw[←hnl,←hl];exact this
  rw[hnl] at hown hnc hbig ⊢
  have hsm:∀ t∈l,smallT t:=by
   rw[←hl,←HTT.out]
   exact sheet_small (by rw[Hlen0.out];omega)
  have hret:∀ e w',Below w.heap.size w w'→(if (parseT l).1=0 then ∃ A c,e=.returned (.tuple #[.slice A (parseT l).2.length c,.int .i64 0])∧RulesS w' (Fresh w w') A (parseT l).2.length (parseT l).2 else e=.returned (.tuple #[.slice none 0 0,.int .i64 (parseT l).1]))→ParseRet n0 T w e w':=fun e w' h1 h2=>by
   unfold ParseRet;rw[if_neg (by rw[hnl];exact hbig),hl]
   exact⟨h1,h2⟩
  have Hret:=Lib.hid hret;obtain⟨n,hn⟩:∃ n,l.length=n:=⟨_,rfl⟩;rw[hn] at hown hR hnc hbig ⊢;have hn16:n≤16384:=by omega
  have Hn:=Lib.hid hn;have Hhl:=Lib.hid hl;have Hbig:=Lib.hid hbig;clear hnl hn hl hret hown HTT hbig
  go_wp2_with fail
  refine(nest_ends l A n c w1 hR (by omega)).mono ?_
  rintro e w2 ⟨hb2,hret2⟩;have hB2:Below w.heap.size w w2:=hb1.trans (hb2.mono hb1.size);unfold EndsRet at hret2
  cases hd:deepB l with
  | false =>
   rw[hd,if_neg (by decide)] at hret2;subst hret2;have hf:parseT l=(3,[]):=by unfold parseT;rw[if_pos hd]
   have HF:=Lib.hid hf;clear hf hd
   go_wp2_with fail
   go_ret2
   refine Hret.out _ _ hB2 ?_
   rw[HF.out,if_neg (by decide)]
   rfl
  | true =>
   rw[hd,if_pos rfl] at hret2;obtain⟨rfl,he2,hlt2⟩:=hret2;have Hd:=Lib.hid hd;clear hd
   go_wp2_with fail
   have b1:=hb1.size;have b2:=hb2.size;obtain⟨w3,hw3⟩:∃ w3,w2.alloc (.cells #[.slice A n c,.slice (some ⟨w1.heap.size,0,none⟩) n n] 56)=w3:=⟨_,rfl⟩;have b23:Below w2.heap.size w2 w3:=by rw[←hw3];exact(Below.refl _ _).alloc (Nat.le_refl _) _
   have r3:RowAt w3 w2.heap.size [.slice A n c,.slice (some ⟨w1.heap.size,0,none⟩) n n]:=by rw[←hw3];exact RowAt.new _ _ _
   have hB3:Below w.heap.size w w3:=hB2.trans (b23.mono hB2.size)
   have hP:Par w3 w2.heap.size l A n c (some ⟨w1.heap.size,0,none⟩) n :=
    ⟨r3.1,(r3.2 0 _ rfl).1,(r3.2 1 _ rfl).1,(hR.below hb2).below b23,(he2.keep (Kept.of_below b23 (fun b hb=>by rw[hb];exact hlt2))).more (fun b hb=>by rw[hb];exact Nat.lt_trans hlt2 r3.1),by omega,hnc,hsm⟩
   rw[hw3];clear hw3 r3 he2 hR
   go_loopw [8,9] (fun v i wr=>∃ (k:Nat) (A1:Option Addr) (n1 c1:Nat) (mr:List MRule),k≤n+1∧i=.int .i64 (k:Int)∧v=.slice A1 n1 c1∧Hid (n1=mr.length)∧RJ l w3 wr k (.slice A1 n1 c1) mr) (fun _ i _=>n-(intOf i).toNat)
   case atStart=>exact⟨0,none,0,0,[],by omega,rfl,rfl,rfl,RJ.start l w3⟩
   case round =>
    obtain⟨k,A1,n1,c1,mr,hk,rfl,rfl,hnn,hJ⟩:=hrel;have hb:=hJ.bel;have Pw:=hP.below hb;have hbs:=hb.size
    by_cases hlt:k<n
    ·obtain⟨b,off,t,hA,hbl,ht,x0,x1,x2⟩:=Pw.tk.tok (k:=k) hlt
     subst hA;have dk:(k:Int)<(n:Int):=by omega
     have hst:=hsm t (List.mem_of_getElem? ht);obtain⟨WA,hWA⟩:∃ WA,wr.alloc (.cells #[.int .i64 t.kind,.string (bytesOf t.text),.int .i64 t.n] 58)=WA:=⟨_,rfl⟩;have bA:Below wr.heap.size wr WA:=by rw[←hWA];exact(Below.refl _ _).alloc (Nat.le_refl _) _
     have rA:RowAt WA wr.heap.size [.int .i64 t.kind,.string (bytesOf t.text),.int .i64 t.n]:=by rw[←hWA];exact RowAt.new _ _ _
     have hJA:=hJ.below bA;have PA:=Pw.below bA;have hbA:=hJA.bel;have hltA:=rA.1;have w1':IntKind.i64.wrap ((k:Int)+1)=(k:Int)+1:=by rw[IntKind.wrap_i64];omega
     obtain⟨a0,_⟩:=rA.2 0 _ rfl;obtain⟨a1,_⟩:=rA.2 1 _ rfl;obtain⟨a2,_⟩:=rA.2 2 _ rfl
     by_cases h1k:t.kind=1
     ·have k1:(t.kind==1)=true:=by simpa using h1k
      have hJ2:=hJA.to (rules_sp ht h1k);clear h1k ht hJ hJA
      go_wp2_with fail
      go_roundw
      case rel=>exact⟨k+1,A1,n1,c1,mr,by omega,by go_num,rfl,hnn,hJ2⟩
      case measure=>simp[intOf];omega
     ·have k1:(t.kind==1)=false:=by simpa using h1k
      have hitem:=rules_item ht h1k;have hln:=Hn.out;obtain⟨e,he⟩:∃ e,ruleEnd l t k=e:=⟨_,rfl⟩;have hbd:=end_ge (l:=l) (t:=t) (k:=k) (by omega);have hnx:=rule_next (l:=l) (t:=t) (k:=k) (by omega);rw[he] at hitem hbd hnx;have hle:e≤n:=by omega
      have hsk:skipP l e≤n+1:=by
       by_cases hen:e<n
       ·have a:=skip_le (l:=l) (k:=e) (by omega)
        omega
       ·rw[skip_past (by omega)];omega
      obtain⟨F,isF,hF4,hF0,hAs,hen,hfe⟩:∃ (F:Nat) (isF:GTok→Bool),(t.kind=4→F=24)∧(t.kind≠4→F=23)∧(∀ t (W:World),Calls Tryz.prog F #[gtokV t] W fun e W'=>e=.returned (.bool (isF t))∧Below W.heap.size W W')∧(∀ (args:Array Value) (W:World),(callFunc F args).run Tryz.prog W=.ok (.enter F args) W)∧e=findP l isF (fromP t k) n:=by
       by_cases h4:t.kind=4
       ·refine⟨24,eitherB,fun _=>rfl,fun h=>absurd h4 h,fun t W=>ru_either_parse t W,ru_enter_parse,?_⟩
        rw[←he,←hln];unfold ruleEnd fromP;rw[if_pos h4,if_pos h4]
       ·refine⟨23,braceB,fun h=>absurd h h4,fun _=>rfl,fun t W=>ru_brace t W,ru_enter_brace,?_⟩
        rw[←he,←hln];unfold ruleEnd fromP;rw[if_neg h4,if_neg h4]
      have hfr:fromP t k≤n:=by unfold fromP;split<;>omega
      have cF:=ru_find l isF F w2.heap.size _ n c _ n (fromP t k) n WA PA hfr (Nat.le_refl _) (fun t _ W _=>hAs t W) hen;rw[←hfe] at cF
      have hfe2:fromP t k≤e:=by
       rw[hfe];exact(find_bounds (l:=l) isF (k:=fromP t k) (z:=n) (by omega) hfr).1
      obtain⟨fr,hfr0⟩:∃ fr,fromP t k=fr:=⟨_,rfl⟩;rw[hfr0] at cF hfr hfe2;have Hitem:=Lib.hid hitem;have Hfr0:=Lib.hid hfr0;have HF4:=Lib.hid hF4;have HF0:=Lib.hid hF0;have Ht:=Lib.hid ht;clear hitem he hfe hAs hen hfr0 hF4 hF0 ht h1k hJ hln
      go_upto_if 51 with (fail)
      go_cut [11,12] (fun f s wx=>f=.int .i64 (fr:Int)∧s=.func (.func F) #[] #[]∧WA=wx)
      case first =>
       by_cases h4:t.kind=4
       ·have k4:(t.kind==4)=true:=by simpa using h4
        have e1:F=24:=HF4.out h4;have e2:(fr:Int)=(k:Int)+1:=by rw[←Hfr0.out];unfold fromP;rw[if_pos h4];omega
        have E1:=Lib.hid e1;have E2:=Lib.hid e2;clear e1 e2 h4 cF
        go_wp2_with fail
        go_meet
        exact⟨by rw[E2.out],by rw[E1.out],rfl⟩
       ·have k4:(t.kind==4)=false:=by simpa using h4
        have e1:F=23:=HF0.out h4;have e2:(fr:Int)=(k:Int):=by rw[←Hfr0.out];unfold fromP;rw[if_neg h4]
        have E1:=Lib.hid e1;have E2:=Lib.hid e2;clear e1 e2 h4 cF
        go_wp2_with fail
        go_meet
        exact⟨by rw[E2.out],by rw[E1.out],rfl⟩
      case rest =>
       obtain⟨rfl,rfl,rfl⟩:=hcut
       go_wp2_with fail
       refine cF.mono ?_
       rintro e1 w5 ⟨rfl,hb5⟩;have hJ5:=hJA.below hb5;have P5:=PA.below hb5;clear cF hJA
       go_wp2_with fail
       refine(nest_skip l (· < w5.heap.size) _ n n e w5 P5.en (by omega) (by omega)).mono ?_
       rintro e2 w6 ⟨rfl,rfl⟩;have a0':=(hb5.cell (p:=⟨wr.heap.size,0,none⟩) hltA).trans a0;have a1':=(hb5.cell (p:=⟨wr.heap.size,1,none⟩) hltA).trans a1;have b5:=hb5.size;obtain⟨g,hg⟩:∃ g,ruleG l t e=g:=⟨_,rfl⟩;have Hg:=Lib.hid hg;have hgB:g=(decide (e<n)&&((l[e]?.map braceB).getD false)&&!(decide (t.kind=4)&&!decide (lowerP t.text=pageS))):=by rw[←hg,←Hn.out];rfl
       have HgB:=Lib.hid hgB;clear hg hgB
       go_upto_region 19 with (fail)
       go_cut [85] (fun x wx=>x=.bool (!g)∧Below w6.heap.size w6 wx)
       case first =>
        have hun:(undef:Value)=.tuple #[]:=rfl;have cL:=fun W=>rn_lower (bytesOf t.text) W (by rw[bytesOf_size];exact hst.1)
        rw[show (bytesOf t.text).data.toList=t.text by simp[bytesOf]] at cL
        by_cases hen:e=n
        ·have dn:((e:Int)==(n:Int))=true:=by simp[hen]
         have e0:g=false:=by rw[HgB.out,decide_eq_false (by omega)];rfl
         have HE:=Lib.hid e0;clear e0 hen cL
         go_wp2_with fail
         go_meet
         exact⟨by rw[HE.out];rfl,Below.refl _ _⟩
        ·have dn:((e:Int)==(n:Int))=false:=by simp;omega
         have dn2:(e:Int)<(n:Int):=by omega
         obtain⟨b',off',u,hA,_,hu,y0,y1,y2⟩:=P5.tk.tok (k:=e) (by omega)
         injection hA with hA
         injection hA with q1 q2
         subst q1 q2;have cB:=fun W=>ru_brace u W
         obtain⟨q,hq⟩:∃ q,braceB u=q:=⟨_,rfl⟩;simp only[hq] at cB
         have hg1:g=(q&&!(decide (t.kind=4)&&!decide (lowerP t.text=pageS))):=by
          rw[HgB.out,hu,decide_eq_true (show e<n by omega)];simp[hq]
         have HG1:=Lib.hid hg1;clear hg1 hu hq hen
         go_wp2_with fail
         refine(cB _).mono ?_
         rintro e2 w7 ⟨rfl,hb7⟩;have a0'':=(hb7.cell (p:=⟨wr.heap.size,0,none⟩) (Nat.lt_of_lt_of_le hltA b5)).trans a0';have a1'':=(hb7.cell (p:=⟨wr.heap.size,1,none⟩) (Nat.lt_of_lt_of_le hltA b5)).trans a1';clear cB
         cases q with
         | false =>
          have e0:g=false:=by rw[HG1.out];rfl
          have HE:=Lib.hid e0;clear e0
          go_wp2_with fail
          go_meet
          exact⟨by rw[HE.out];rfl,hb7⟩
         | true =>
          cases k4:(t.kind==4) with
          | false =>
           have h4:¬ t.kind=4:=by simpa using k4
           have e0:g=true:=by rw[HG1.out,decide_eq_false h4];rfl
           have HE:=Lib.hid e0;clear e0 h4
           go_wp2_with fail
           go_meet
           exact⟨by rw[HE.out];rfl,hb7⟩
          | true =>
           have h4:t.kind=4:=by simpa using k4
           by_cases hpg:lowerP t.text=pageS
           ·have e0:g=true:=by rw[HG1.out,decide_eq_true hpg];simp
            have HE:=Lib.hid e0;obtain⟨s1,s2⟩:=txt_is (c:=[112,97,103,101]) hpg;clear e0 h4 hpg
            go_wp2_with fail
            refine(cL _).mono ?_
            rintro e3 w8 ⟨rfl,hb8⟩
            go_wp2_with fail
            go_meet
            exact⟨by rw[HE.out];rfl,hb7.trans (hb8.mono hb7.size)⟩
           ·have e0:g=false:=by rw[HG1.out,decide_eq_true h4,decide_eq_false hpg];rfl
            have HE:=Lib.hid e0;obtain⟨s1,s2⟩:=txt_not (c:=[112,97,103,101]) hpg;have s3:(!((bytesOf (lowerP t.text)).toList==[112,97,103,101]))=true:=by rw[s2];rfl
            clear e0 h4 hpg
            go_wp2_with fail
            refine(cL _).mono ?_
            rintro e3 w8 ⟨rfl,hb8⟩
            go_wp2_with fail
            go_meet
            exact⟨by rw[HE.out];rfl,hb7.trans (hb8.mono hb7.size)⟩
       case rest =>
        obtain⟨rfl,hbc⟩:=hcut;obtain⟨u6,hu6⟩:∃ x,x=wc:=⟨_,rfl⟩;subst hu6;have hJc:=hJ5.below hbc;have Pc:=P5.below hbc;have bc:=hbc.size
        cases g with
        | false =>
         have hJf:=hJc.to (k':=skipP l e) (by rw[Hitem.out,rule_no Hg.out];rfl);clear hJ5 hJc
         go_wp2_with fail
         go_roundw
         case rel=>exact⟨skipP l e,A1,n1,c1,mr,hsk,rfl,rfl,hnn,hJf⟩
         case measure=>simp[intOf];omega
        | true =>
         obtain⟨hen,hbr,hrl⟩:=rule_yes (k:=k) Hg.out;obtain⟨E,hE,hE1,hE2⟩:=brace_end hbr;have hln:=Hn.out;have hen2:e<n:=by omega
         have hEn:E≤n:=by omega
         have cC:=ru_cut l w2.heap.size _ n c _ n fr e u6 Pc hfe2 (by omega);rw[Hfr0.out] at hrl;obtain⟨pv,hpv⟩:∃ pv,trimL (segP l fr e)=pv:=⟨_,rfl⟩
         have hpl:pv.length≤n:=by
          have h2:(trimL (segP l fr e)).length≤(segP l fr e).length:=by
           unfold trimL rtrim;rw[List.length_reverse]
           exact Nat.le_trans (dropS_len _) (by rw[List.length_reverse];exact dropS_len _)
          rw[seg_length] at h2;rw[←hpv];omega
         have hps:∀ x∈pv,smallT x:=fun x hx=>hsm x (seg_mem (trim_mem (by rw[hpv];exact hx)))
         rw[hpv] at cC hrl;rw[hE] at hrl;rw[show ((E:Int)).toNat=E by omega] at hrl;have Hrl:=Lib.hid hrl;have HE:=Lib.hid hE;have hlt6:wr.heap.size<w6.heap.size:=Nat.lt_of_lt_of_le hltA b5;have a0c:=(hbc.cell (p:=⟨wr.heap.size,0,none⟩) hlt6).trans a0';clear hrl hE hbr hpv hln hJ5
         go_wp2_with fail
         refine cC.mono ?_
         rintro e3 w7 ⟨⟨A6,c6,rfl,hc6,hR6⟩,hb7⟩;have b7:=hb7.size;have a0d:=(hb7.cell (p:=⟨wr.heap.size,0,none⟩) (Nat.lt_of_lt_of_le hlt6 bc)).trans a0c;obtain⟨Wz,hWz⟩:∃ Wz,w7.alloc (.cells #[.int .i64 0,.slice none 0 0,.slice none 0 0,.slice none 0 0] 39)=Wz:=⟨_,rfl⟩;have bWz:Below w7.heap.size w7 Wz:=by rw[←hWz];exact(Below.refl _ _).alloc (Nat.le_refl _) _
         have rWz:RowAt Wz w7.heap.size [.int .i64 0,.slice none 0 0,.slice none 0 0,.slice none 0 0]:=by rw[←hWz];exact RowAt.new _ _ _
         obtain⟨v0,g0⟩:=rWz.2 0 _ rfl;obtain⟨v1,g1⟩:=rWz.2 1 _ rfl;obtain⟨v2,g2⟩:=rWz.2 2 _ rfl;obtain⟨v3,g3⟩:=rWz.2 3 _ rfl;obtain⟨W7,hW7⟩:∃ W7,(((Wz.setCell ⟨w7.heap.size,0,none⟩ (.int .i64 1)).setCell ⟨w7.heap.size,1,none⟩ (.slice A6 pv.length c6)).setCell ⟨w7.heap.size,2,none⟩ (.slice none 0 0)).setCell ⟨w7.heap.size,3,none⟩ (.slice none 0 0)=W7:=⟨_,rfl⟩
         have bW7:Below w7.heap.size w7 W7:=by
          rw[←hW7]
          exact(((bWz.setCell (p:=⟨w7.heap.size,0,none⟩) (Nat.le_refl _) _).setCell (p:=⟨w7.heap.size,1,none⟩) (Nat.le_refl _) _).setCell (p:=⟨w7.heap.size,2,none⟩) (Nat.le_refl _) _).setCell (p:=⟨w7.heap.size,3,none⟩) (Nat.le_refl _) _
         have rW7:RowAt W7 w7.heap.size [.int .i64 1,.slice A6 pv.length c6,.slice none 0 0,.slice none 0 0]:=by
          rw[←hW7]
          exact(((rWz.store 0 (.int .i64 1)).store 1 (.slice A6 pv.length c6)).store 2 (.slice none 0 0)).store 3 (.slice none 0 0)
         clear cC;obtain⟨kd,hkd⟩:∃ kd:Int,(if t.kind=4 then (2:Int) else 1)=kd:=⟨_,rfl⟩;have Hkd:=Lib.hid hkd;clear hkd;have hlt7:wr.heap.size<w7.heap.size:=Nat.lt_of_lt_of_le hlt6 (Nat.le_trans bc b7);have a0e:=(bW7.cell (p:=⟨wr.heap.size,0,none⟩) hlt7).trans a0d;obtain⟨z0,f0⟩:=rW7.2 0 _ rfl
         go_upto_if 93 with (fail)
         go_cut [14] (fun x wx=>x=.pointer (some ⟨w7.heap.size,0,none⟩)∧RowAt wx w7.heap.size [.int .i64 kd,.slice A6 pv.length c6,.slice none 0 0,.slice none 0 0]∧Below w7.heap.size w7 wx)
         case first =>
          by_cases h4:t.kind=4
          ·have k4:(t.kind==4)=true:=by simpa using h4
           have rX:=rW7.store 0 (.int .i64 2);have bX:=bW7.setCell (p:=⟨w7.heap.size,0,none⟩) (Nat.le_refl _) (.int .i64 2);have e2:kd=2:=by rw[←Hkd.out,if_pos h4]
           have E2:=Lib.hid e2;clear e2 h4
           go_wp2_with fail
           go_meet
           exact⟨rfl,by rw[E2.out];exact rX,bX⟩
          ·have k4:(t.kind==4)=false:=by simpa using h4
           have e2:kd=1:=by rw[←Hkd.out,if_neg h4]
           have E2:=Lib.hid e2;clear e2 h4
           go_wp2_with fail
           go_meet
           exact⟨rfl,by rw[E2.out];exact rW7,bW7⟩
         case rest =>
          obtain⟨rfl,rX,bX⟩:=hcut;obtain⟨wX,huX⟩:∃ x,x=wc:=⟨_,rfl⟩;subst huX;have hB7:Below u6.heap.size u6 wX:=hb7.trans (bX.mono b7);have PX:=Pc.below hB7;obtain⟨b3,off3,hA3,hl3,y3⟩:=PX.en.at_ (k:=e) (by omega)
          injection hA3 with hA3
          injection hA3 with q1 q2
          subst q1 q2;rw[HE.out] at y3;have hln:=Hn.out;have hbXw:Below w3.heap.size w3 wX:=hJc.bel.trans (hB7.mono hJc.bel.size);have cR:=ru_block (kd==2) l w2.heap.size _ n c _ n (e+1) E wX.drew (PX.below (Below.refl _ _).drew) (by omega) (by omega) (((hT.below hB3).below hbXw).below (Below.refl _ _).drew) (((hB.below hB3).below hbXw).below (Below.refl _ _).drew);have we1:IntKind.i64.wrap ((e:Int)+1)=(e:Int)+1:=by rw[IntKind.wrap_i64];omega
          have de:(e:Int)<(n:Int):=by omega
          have de0:(0:Int)≤(e:Int):=by omega
          push_cast at cR
          obtain⟨r0,rf0⟩:=rX.2 0 _ rfl;have hgX:=rX.1;have rXd:RowAt wX.drew w7.heap.size [.int .i64 kd,.slice A6 pv.length c6,.slice none 0 0,.slice none 0 0]:=rX;rw[Nat.zero_add] at y3;clear hln
          go_upto_region 23 with (fail)
          go_cut [14] (fun x wx=>x=.pointer (some ⟨w7.heap.size,0,none⟩)∧RegRet l (e+1) E (kd==2) w7.heap.size kd (.slice A6 pv.length c6) wX wx)
          case first =>
           rename_i hKK
           refine Code.wp_mono ?_ (ru_fill _ _ _ _ _ _ _ _ _ _ _ _ _ _ _ _ _ _ _ _ _ _ _ _ _ _ _ _ _ _ _ _ _ _ _ _ _ _ _ _ _ _ _ _ _ _ _ _ _ _ _ _ _ _ _ _ _ _ _ _ _ _ _ _ _ _ _ _ _ _ _ _ _ _ _ _ _ _ _ _ _ _ _ _ _ _ _ _ _ _ _ _ _ _ _ _ _ _ _ _ _ _ _ _ _ _ _ _ _ _ _ _ _ _ _ _ _ _ y3 de de0 we1 hgX rX cR)
           intro e' a W hQ
           cases e'<;>first | exact hQ.elim | skip
           obtain⟨⟨v95,v96,v97,v98,v99,v100,v101,v102,v103,v104,v105,v106,v107,v108,v109,v110,rfl⟩,hRR⟩:=hQ
           refine hKK _ _ ?_
           go_meet
           exact⟨rfl,hRR⟩
          case rest =>
           obtain⟨rfl,hRR⟩:=hcut;obtain⟨wF,huF⟩:∃ x,x=wc:=⟨_,rfl⟩;subst huF;obtain⟨ds,ms,B1,d1,B2,d2,rF,hds,hms,hD,hM,hbF⟩:=hRR;have l0:=hJc.own.lt;have s3:=hJc.bel.size;have sX:=bX.size;have sF:=hbF.size;have hBF:Below u6.heap.size u6 wF:=hB7.trans (hbF.mono b7);have hJF:=hJc.below hBF;have hbFw:Below w3.heap.size w3 wF:=hJF.bel;have hRX:=hR6.keep (Kept.of_below bX (fun b hb=>hb.2));have hRF:=hRX.keep (Kept.of_below hbF (fun b hb=>hb.2));have hRS:ReadsS wF (· < wF.heap.size) 3 A6 pv.length (cellsG pv):=hRF.more (fun b hb=>by have:=hb.2;omega);have cSo:=ru_sound pv A6 pv.length c6 wF hRS (by omega) hps ((hT.below hB3).below hbFw);obtain⟨y1,yf1⟩:=rF.2 1 _ rfl;have hgF:=rF.1;have Hds:=Lib.hid hds;have Hms:=Lib.hid hms;clear hds hms hJc cR hRX
           go_wp2_with fail
           refine cSo.mono ?_
           rintro e9 w9 ⟨rfl,hb9⟩;have hJ9:=hJF.below hb9;have s9:=hb9.size;have r9:=rF.below hb9 hgF;have hR9:=hRF.keep (Kept.of_below hb9 (fun b hb=>by have:=hb.2;omega));have hD9:=hD.keep (Kept.of_below hb9 (fun b hb=>hb.2));have hM9:=hM.keep (Kept.of_below hb9 (fun b hb=>hb.2));obtain⟨z0',_⟩:=r9.2 0 _ rfl;obtain⟨z1',_⟩:=r9.2 1 _ rfl;obtain⟨z2',_⟩:=r9.2 2 _ rfl;obtain⟨z3',_⟩:=r9.2 3 _ rfl;clear hJF cSo rF hRF hD hM
           cases hso:soundP pv with
           | false =>
            have hJf:=hJ9.to (k':=skipP l e) (by rw[Hitem.out,Hrl.out,hso];rfl);clear hJ9
            go_wp2_with fail
            go_roundw
            case rel=>exact⟨skipP l e,A1,n1,c1,mr,hsk,rfl,rfl,hnn,hJf⟩
            case measure=>simp[intOf];omega
           | true =>
            have hru:rulesP l k=(⟨kd,pv,ds,ms⟩:Rule)::rulesP l (skipP l e):=by
             rw[Hitem.out,Hrl.out,hso,if_pos rfl]
             have hk2:((kd==2)=true)=(t.kind=4):=by
              rw[←Hkd.out]
              by_cases h4:t.kind=4<;>simp[h4]
             rw[Hkd.out,Hds.out,Hms.out]
             by_cases h4:t.kind=4
             ·rw[if_pos h4,if_pos (by rw[hk2];exact h4)];rfl
             ·rw[if_neg h4,if_neg (by rw[hk2];exact h4)];rfl
            have hnl:mr.length≤1000000:=by
             have h1:=congrArg List.length hJ9.e1;rw[List.length_append,List.length_map] at h1;have h2:=rules_len l;have:=Hn.out
             omega
            have hwB:w3.heap.size≤w9.heap.size:=hJ9.bel.size
            have hm:MRule.Reads w9 (RS w3 w9 (.slice A1 n1 c1)) ⟨⟨kd,pv,ds,ms⟩,A6,c6,B1,d1,B2,d2⟩ :=
             ⟨hR9.more (fun b hb=>⟨by have:=hb.1;omega,by have:=hb.2;omega,fun e=>by have:=(l0 b e).2;have:=hb.1;omega⟩),
              hD9.more (fun b hb=>⟨by have:=hb.1;omega,by have:=hb.2;omega,fun e=>by have:=(l0 b e).2;have:=hb.1;omega⟩),
              hM9.more (fun b hb=>⟨by have:=hb.1;omega,by have:=hb.2;omega,fun e=>by have:=(l0 b e).2;have:=hb.1;omega⟩)⟩
            obtain⟨ri0,ri,rz0,rz1,rz2⟩:=info_take ru_rule_info;have ho9:=hJ9.own;have HJ9:=Lib.hid hJ9;have Hru:=Lib.hid hru;clear hru hR9 hD9 hM9 hJ9 r9 hso
            go_wp2_with (at_builtin;refine wpList_append_own_at _ rfl _ _ 24 rfl w3.heap.size 39 ri0 _ 4 80 Tryz.underlying24 ri rz0 rz1 rz2 rfl (by decide) _ mr.length (cellsR mr) rfl (ho9.alloc _) ⟨w9.heap.size,0,none⟩ 1 1 [.int .i64 kd,.slice A6 pv.length c6,.slice B1 ds.length d1,.slice B2 ms.length d2] rfl rfl (cells_new4 _ _ _ _ _ _) ?h2 ?h3 ?h4 ?h5 ?_)
            case h2=>intro u hu;simp at hu;rcases hu with rfl | rfl | rfl | rfl<;>rfl
            case h3=>unfold maxLen;omega
            case h4=>omega
            case h5=>simp;omega
            intro v' w10 hown10 hg10 _ hat;have hJ10:=HJ9.out.push (m:=⟨⟨kd,pv,ds,ms⟩,A6,c6,B1,d1,B2,d2⟩) (k':=skipP l e) hm hwB hown10 hg10 hat Hru.out;obtain⟨A4,c4,rfl,_,_⟩:=own_form hown10;clear hown10 hg10 hat hm ho9 HJ9
            go_wp2_with fail
            go_roundw
            case rel=>exact⟨skipP l e,A4,mr.length+1,c4,_,hsk,rfl,rfl,by show _=_;simp,hJ10⟩
            case measure=>simp[intOf];omega
    ·have dk:¬ (k:Int)<(n:Int):=by omega
     obtain⟨hl1,hl2⟩:=hJ.done hnn.out (by rw[Hn.out];omega);have hbF:=hB3.trans (hb.mono hB3.size)
     by_cases hgt:1024<n1
     ·have hf:parseT l=(2,[]):=by unfold parseT;rw[Hd.out,if_neg (by decide),if_pos (by omega)]
      have HF:=Lib.hid hf;have dg:(1024:Int)<(n1:Int):=by omega
      clear hf hl1 hl2 hJ
      go_wp2_with fail
      go_ret2
      refine Hret.out _ _ hbF ?_
      rw[HF.out,if_neg (by decide)]
      rfl
     ·have hf:parseT l=(0,rulesP l 0):=by unfold parseT;rw[Hd.out,if_neg (by decide),if_neg (by omega)]
      have HF:=Lib.hid hf;have dg:¬ (1024:Int)<(n1:Int):=by omega
      have hfin:Hid (RulesS wr (Fresh w wr) A1 (rulesP l 0).length (rulesP l 0)):=hl2.more (fun b hb=>⟨by have:=hb.1;have:=hB3.size;omega,hb.2⟩);have Hl1:=Lib.hid hl1;clear hf hl1 hl2 hJ
      go_wp2_with fail
      go_ret2
      refine Hret.out _ _ hbF ?_
      rw[HF.out,if_pos rfl]
      exact⟨A1,c1,by rw[Hl1.out];rfl,hfin.out⟩
theorem ru_trimmed (l:List GTok) (is:GTok→Bool) (F:Nat) (A:Option Addr) (n c:Nat) (w:World) (h:ReadsS w (· < w.heap.size) 3 A n (cellsG l)) (hn:n≤1000000) (hs:∀ t∈l,smallT t) (hT:Tabs w)
  (hf:∀ (t:GTok) (W:World),Calls Tryz.prog F #[gtokV t] W fun e W'=>e=.returned (.bool (is t))∧Below W.heap.size W W') (hen:∀ (args:Array Value) (W:World),(callFunc F args).run Tryz.prog W=.ok (.enter F args) W) :
  Calls Tryz.prog 79 #[.slice A n c,.func (.func F) #[] #[]] w fun e w'=>e=.returned (.bool (trimmedB l is))∧Below w.heap.size w w':=by
 have hlen:=h.toks_len;have Hlen:=Lib.hid hlen;have cT:=nest_trim l _ A n c 0 n w h hn (Nat.zero_le _) (Nat.le_refl _);have hall:segP l 0 n=l:=by rw[←hlen];exact seg_all l
 rw[hall] at cT;have Hf:Hid (∀ (t:GTok) (W:World),Calls Tryz.prog F #[gtokV t] W fun e W'=>e=.returned (.bool (is t))∧Below W.heap.size W W'):=hf;have Hen:Hid (∀ (args:Array Value) (W:World),(callFunc F args).run Tryz.prog W=.ok (.enter F args) W):=hen;clear hlen hall hf hen
 go_enter Tryz.func79,Tryz.ntmps79
 go_wp2_with fail
 refine cT.mono ?_
 rintro e w1 ⟨⟨j,i,rfl,_,hji,hiz,_,hd2⟩,rfl⟩;have cE:=nest_ends l A n c w1 h hn;have htl:(trimL l).length=i-j:=by rw[hd2,seg_length,Hlen.out];omega
 obtain⟨q1,hq1⟩:∃ q1,decide ((trimL l).length=l.length)=q1:=⟨_,rfl⟩
 have dq1:(((i:Int)-(j:Int))==(n:Int))=q1:=by
  rw[←hq1,htl,Hlen.out,Bool.eq_iff_iff];simp;omega
 have dw:IntKind.i64.wrap ((i:Int)-(j:Int))=(i:Int)-(j:Int):=by rw[IntKind.wrap_i64];omega
 have Hq1:=Lib.hid hq1;have hun:(undef:Value)=.tuple #[]:=rfl;clear hd2 htl hq1 cT
 go_wp2_with fail
 refine cE.mono ?_
 rintro e w2 ⟨hb2,hret⟩;unfold EndsRet at hret;clear cE
 cases hd:deepB l with
 | false =>
  rw[hd,if_neg (by decide)] at hret;subst hret;have hf:trimmedB l is=false:=by unfold trimmedB;rw[hd];simp
  have HF:=Lib.hid hf;clear hf hd
  cases q1 with
  | false =>
   go_wp2_with fail
   go_ret
   exact⟨ret_bool HF.out.symm,hb2⟩
  | true =>
   go_wp2_with fail
   go_ret
   exact⟨ret_bool HF.out.symm,hb2⟩
 | true =>
  rw[hd,if_pos rfl] at hret;obtain⟨rfl,he2,hlt2⟩:=hret;have hs2:=hb2.size;have he:EndsS w2 (· < w2.heap.size) (some ⟨w1.heap.size,0,none⟩) n l:=he2.more (fun b hb=>by rw[hb];exact hlt2);have cF:=nest_find l is F A _ n c n 0 n w2 (h.below hb2) he hn (Nat.zero_le _) (Nat.le_refl _) (fun t _ X _=>Hf.out t X) Hen.out;have hfb:=find_bounds (l:=l) is (k:=0) (z:=n) (by rw[Hlen.out];exact Nat.le_refl _) (Nat.zero_le _)
  have htb:trimmedB l is=(q1&&(decide (findP l is 0 n=n)&&soundP l)):=by
   unfold trimmedB;rw[hd,Hq1.out,Hlen.out,Bool.and_true,Bool.and_assoc]
  obtain⟨x,hx⟩:∃ x,findI l is 0 n=x:=⟨_,rfl⟩;rw[hx] at cF
  have hxx:(x<0∧findP l is 0 n=n)∨(¬ x<0∧findP l is 0 n≠n):=by
   unfold findI at hx
   by_cases e:findP l is 0 n<n
   ·rw[if_pos e] at hx;right;omega
   ·rw[if_neg e] at hx;left;omega
  have Htb:=Lib.hid htb;have Hxx:=Lib.hid hxx;have Hd:=Lib.hid hd;clear hd he2 hfb htb hx hxx
  cases q1 with
  | false =>
   have hf:trimmedB l is=false:=by rw[Htb.out];rfl
   have HF:=Lib.hid hf;clear hf cF
   go_wp2_with fail
   go_ret
   exact⟨ret_bool HF.out.symm,hb2⟩
  | true =>
   go_wp2_with fail
   refine cF.mono ?_
   rintro e w3 ⟨rfl,hb3⟩;have hB3:=hb2.trans (hb3.mono hs2);clear cF
   by_cases hx0:x<0
   ·have hsd:trimmedB l is=soundP l:=by
     rw[Htb.out,Bool.true_and,decide_eq_true (by have:=Hxx.out;omega),Bool.true_and]
    have HS:=Lib.hid hsd;have cS:=ru_sound l A n c w3 (h.below hB3) hn hs (hT.below hB3);clear hsd
    go_wp2_with fail
    refine cS.mono ?_
    rintro e w4 ⟨rfl,hb4⟩
    go_wp2_with fail
    go_ret
    exact⟨ret_bool HS.out.symm,hB3.trans (hb4.mono hB3.size)⟩
   ·have hf:trimmedB l is=false:=by
     rw[Htb.out,decide_eq_false (by have:=Hxx.out;omega)];rfl
    have HF:=Lib.hid hf;clear hf
    go_wp2_with fail
    go_ret
    exact⟨ret_bool HF.out.symm,hB3⟩
def Ru.okDecl (d:Decl):Prop:=d.name.length≤1000∧d.value.length≤1000∧∀ t∈d.value,smallT t
theorem ru_declares (ds:List Decl) (A:Option Addr) (n c:Nat) (w:World) (h:DeclsK w (· < w.heap.size) A n ds) (hn:n≤1000) (hs:∀ d∈ds,okDecl d) (hT:Tabs w) :
  Calls Tryz.prog 80 #[.slice A n c] w fun e w'=>e=.returned (.bool (ds.all declB))∧Below w.heap.size w w':=by
 have hlen:=h.toS.len;have Hlen:=Lib.hid hlen;have Hs:=Lib.hid hs;clear hlen hs
 go_enter Tryz.func80,Tryz.ntmps80
 go_wp2_with fail
 go_loopw [10] (fun i wr=>∃ k:Nat,k≤n∧i=.int .i64 (k:Int)∧Hid (∀ d∈ds.take k,declB d=true)∧Below w.heap.size w wr) (fun i _=>n-(intOf i).toNat)
 case atStart=>exact⟨0,by omega,rfl,(by show ∀ d∈_,_;simp),Below.refl _ _⟩
 case round =>
  obtain⟨k,hk,rfl,hall,hb⟩:=hrel;obtain⟨u,hu⟩:∃ x,x=wr:=⟨_,rfl⟩;subst hu;have hbs:=hb.size
  by_cases hlt:k<n
  ·obtain⟨b,off,A1,c1,d,hA,hbl,hdk,f0,f1,f2,hX,hcap⟩:=h.at_ hlt
   subst hA;have hki:(k:Int)<(n:Int):=by omega
   obtain⟨z1,z2,z3⟩:=Hs.out d (List.mem_of_getElem? hdk)
   replace f0:=(hb.cell (p:=⟨b,off+k * 3,none⟩) hbl).trans f0
   replace f1:=(hb.cell (p:=⟨b,off+k * 3+1,none⟩) hbl).trans f1
   replace f2:=(hb.cell (p:=⟨b,off+k * 3+2,none⟩) hbl).trans f2
   obtain⟨WA,hWA⟩:∃ WA,u.alloc (.cells #[.string (bytesOf d.name),.slice A1 d.value.length c1,.bool d.imp] 34)=WA:=⟨_,rfl⟩;have bA:Below u.heap.size u WA:=by rw[←hWA];exact(Below.refl _ _).alloc (Nat.le_refl _) _
   have rA:RowAt WA u.heap.size [.string (bytesOf d.name),.slice A1 d.value.length c1,.bool d.imp]:=by rw[←hWA];exact RowAt.new _ _ _
   have hBA:=hb.trans (bA.mono hbs);have hXA:ReadsS WA (· < WA.heap.size) 3 A1 d.value.length (cellsG d.value):=hX.below hBA;have cI:=ru_important d.value _ A1 d.value.length c1 WA hXA (fun b h=>h) (by omega) hcap z3;have hlA:=rA.1;obtain⟨a1,_⟩:=rA.2 1 _ rfl;have Hdk:=Lib.hid hdk;clear hX hdk
   go_wp2_with fail
   refine cI.mono ?_
   rintro e w3 ⟨y,bi,A3,c3,rfl,_,_,_,hbi,_,_,_,hb3⟩;have r3:=rA.below hb3 hlA;have hB3:=hBA.trans (hb3.mono hBA.size);have s3:=hb3.size;obtain⟨a0,_⟩:=r3.2 0 _ rfl;obtain⟨WB,hWB⟩:∃ WB,w3.alloc (.cells #[.int .i64 2,.string (bytesOf d.name),.int .i64 0] 58)=WB:=⟨_,rfl⟩;have bB:Below w3.heap.size w3 WB:=by rw[←hWB];exact(Below.refl _ _).alloc (Nat.le_refl _) _
   have rB:RowAt WB w3.heap.size [.int .i64 2,.string (bytesOf d.name),.int .i64 0]:=by rw[←hWB];exact RowAt.new _ _ _
   have rdB:Reads WB WB.heap.size 3 (some ⟨w3.heap.size,0,none⟩) 1 (cellsG [⟨2,d.name,0⟩]):=⟨rfl,fun _=>⟨_,0,rfl,rB.1,fun j u hu=>by rw[Nat.zero_add];exact(rB.2 j u hu).1⟩⟩;have hBB:=hB3.trans (bB.mono hB3.size);have r4:=r3.below bB r3.1;have x0:=bw_cell (B:=WB.heap.size) (r4.2 0 _ rfl).1 r4.1;have x1:=bw_cell (B:=WB.heap.size) (r4.2 1 _ rfl).1 r4.1;have x2:=bw_cell (B:=WB.heap.size) (r4.2 2 _ rfl).1 r4.1;have hXB:ReadsS WB (· < WB.heap.size) 3 A1 d.value.length (cellsG d.value):=hXA.below (hb3.trans (bB.mono s3));have hTB:=hT.below hBB;have cR:=fun W:BW WB.heap.size WB=>tp_rights [⟨2,d.name,0⟩] (some ⟨w3.heap.size,0,none⟩) 1 1 W.val ⟨(rdB.below W.is).more W.is.size,(by intro t ht;simp at ht;subst ht;exact⟨by simp only[];omega,by simp only[];omega,by simp only[];omega⟩),by omega⟩ (hTB.below W.is)
   have cL:=fun W:BW WB.heap.size WB=>rn_lower (bytesOf d.name) W.val (by rw[bytesOf_size];omega)
   rw[show (bytesOf d.name).data.toList=d.name by simp[bytesOf]] at cL;have cT:=fun W:BW WB.heap.size WB=>ru_trimmed d.value semiB 25 A1 d.value.length c1 W.val (hXB.below W.is) (by omega) z3 (hTB.below W.is) (fun t W=>ru_semi t W) ru_enter_semi
   have hcmp:=str_cmp (lowerP d.name) d.name;have hdB:declB d=(rightB [⟨2,d.name,0⟩]&&decide (lowerP d.name=d.name)&&trimmedB d.value semiB&&!((importantP d.value).isSome&&!d.imp)):=rfl;obtain⟨p1,hp1⟩:∃ p,rightB [⟨2,d.name,0⟩]=p:=⟨_,rfl⟩;obtain⟨p2,hp2⟩:∃ p,decide (lowerP d.name=d.name)=p:=⟨_,rfl⟩;obtain⟨p3,hp3⟩:∃ p,trimmedB d.value semiB=p:=⟨_,rfl⟩;obtain⟨p5,hp5⟩:∃ p,d.imp=p:=⟨_,rfl⟩;simp only[hp1] at cR;rw[hp2] at hcmp;simp only[hp3] at cT;rw[hp5] at x2;rw[hp1,hp2,hp3,hp5,←hbi] at hdB;obtain⟨g,hg⟩:∃ g,declB d=g:=⟨_,rfl⟩;rw[hg] at hdB;have HdB:=Lib.hid hdB;have Hg:=Lib.hid hg;clear hdB hg hp1 hp2 hp3 hp5 hbi rA r3 rB r4 rdB hXA hXB a1 f0 f1 f2
   go_upto_region 6 with (fail)
   go_cut [48] (fun x wx=>x=.bool (!g)∧Below WB.heap.size WB wx)
   case first =>
    rename_i hKK
    cases p1 with
    | false =>
     refine wp_region_bw WB.heap.size (by kernel_rfl) (by kernel_rfl) ?_
     repeat(go_big_quiet_step (first | (go_at_call 53;rename_i W;exact calls_bw (Nat.le_refl _) (cR W)) | (go_at_call 28;rename_i W;exact calls_bw (Nat.le_refl _) (cL W)) | (go_at_call 79;rename_i W;exact calls_bw (Nat.le_refl _) (cT W))))
     refine wpQuiet_nil ?_
     intro _ hw';obtain⟨W,rfl⟩:=hw'
     refine hKK _ _ ?_
     go_meet
     exact⟨by rw[HdB.out];first | rfl | simp,W.is⟩
    | true =>
     cases p2 with
     | false =>
      refine wp_region_bw WB.heap.size (by kernel_rfl) (by kernel_rfl) ?_
      repeat(go_big_quiet_step (first | (go_at_call 53;rename_i W;exact calls_bw (Nat.le_refl _) (cR W)) | (go_at_call 28;rename_i W;exact calls_bw (Nat.le_refl _) (cL W)) | (go_at_call 79;rename_i W;exact calls_bw (Nat.le_refl _) (cT W))))
      refine wpQuiet_nil ?_
      intro _ hw';obtain⟨W,rfl⟩:=hw'
      refine hKK _ _ ?_
      go_meet
      exact⟨by rw[HdB.out];first | rfl | simp,W.is⟩
     | true =>
      cases p3 with
      | false =>
       refine wp_region_bw WB.heap.size (by kernel_rfl) (by kernel_rfl) ?_
       repeat(go_big_quiet_step (first | (go_at_call 53;rename_i W;exact calls_bw (Nat.le_refl _) (cR W)) | (go_at_call 28;rename_i W;exact calls_bw (Nat.le_refl _) (cL W)) | (go_at_call 79;rename_i W;exact calls_bw (Nat.le_refl _) (cT W))))
       refine wpQuiet_nil ?_
       intro _ hw';obtain⟨W,rfl⟩:=hw'
       refine hKK _ _ ?_
       go_meet
       exact⟨by rw[HdB.out];first | rfl | simp,W.is⟩
      | true =>
       cases bi with
       | false =>
        refine wp_region_bw WB.heap.size (by kernel_rfl) (by kernel_rfl) ?_
        repeat(go_big_quiet_step (first | (go_at_call 53;rename_i W;exact calls_bw (Nat.le_refl _) (cR W)) | (go_at_call 28;rename_i W;exact calls_bw (Nat.le_refl _) (cL W)) | (go_at_call 79;rename_i W;exact calls_bw (Nat.le_refl _) (cT W))))
        refine wpQuiet_nil ?_
        intro _ hw';obtain⟨W,rfl⟩:=hw'
        refine hKK _ _ ?_
        go_meet
        exact⟨by rw[HdB.out];first | rfl | simp,W.is⟩
       | true =>
        refine wp_region_bw WB.heap.size (by kernel_rfl) (by kernel_rfl) ?_
        repeat(go_big_quiet_step (first | (go_at_call 53;rename_i W;exact calls_bw (Nat.le_refl _) (cR W)) | (go_at_call 28;rename_i W;exact calls_bw (Nat.le_refl _) (cL W)) | (go_at_call 79;rename_i W;exact calls_bw (Nat.le_refl _) (cT W))))
        refine wpQuiet_nil ?_
        intro _ hw';obtain⟨W,rfl⟩:=hw'
        refine hKK _ _ ?_
        go_meet
        exact⟨by rw[HdB.out];first | rfl | simp,W.is⟩
   case rest =>
    obtain⟨rfl,hbc⟩:=hcut;have hBc:=hBB.trans (hbc.mono hBB.size);clear cR cL cT hcmp x0 x1 x2
    cases g with
    | false =>
     have hf:ds.all declB=false:=by
      rw[List.all_eq_false]
      exact⟨d,List.mem_of_getElem? Hdk.out,by rw[Hg.out];decide⟩
     have HF:=Lib.hid hf;clear hf hall
     go_wp2_with fail
     go_ret
     exact⟨ret_bool HF.out.symm,hBc⟩
    | true =>
     have hnew:Hid (∀ d∈ds.take (k+1),declB d=true):=by
      show ∀ x∈_,_
      intro x hx;rw[List.take_add_one,Hdk.out,Option.toList_some] at hx
      rcases List.mem_append.1 hx with h1|h1
      ·exact hall.out x h1
      ·rw[List.mem_singleton.1 h1];exact Hg.out
     have wk:IntKind.i64.wrap ((k:Int)+1)=(k:Int)+1:=by rw[IntKind.wrap_i64];omega
     clear hall
     go_wp2_with fail
     go_roundw
     case rel=>exact⟨k+1,by omega,by go_num,hnew,hBc⟩
     case measure=>simp[intOf];omega
  ·obtain rfl:k=n:=by omega
   have dk:¬ (k:Int)<(k:Int):=by omega
   have hf:ds.all declB=true:=by
    have h2:=hall.out;rw[←Hlen.out,List.take_length] at h2
    exact List.all_eq_true.2 h2
   have HF:=Lib.hid hf;clear hf hall
   go_wp2_with fail
   go_ret
   exact⟨ret_bool HF.out.symm,hb⟩
section
variable {P:Program} (w:World)
theorem run_append_reads_at (base:Nat) (t ty e:TypeId) (i:TypeInfo) (z:Value) (size bytes:Nat) (ht:P.underlying t=some (.slice e)) (hi:P.info? e=some i) (hz:i.zero=some z)
  (hsize:i.size=size) (hby:i.bytes=bytes) (hzs:z.cells.size=size) (hsz:0<size)
  (v:Value) (n:Nat) (xs:List Value) (hown:w.ownsRow base e size v n xs)
  (B:Nat) (A:Option Addr) (m c:Nat) (news:List Value) (hr:Reads w B size A m news) (h1:∀ u∈news,u.oneCell'=true)
  (h63:n+m≤maxLen) (hbytes:(n+m) * bytes≤140737488355328) (hbase:base≤w.heap.size) :
  ∃ v' w',(Builtin.append_ #[t,t] ty #[v,.slice A m c]).run P w=.ok v' w'∧w'.ownsRow base e size v' (n+m) (xs++news)∧w.grownBy w' v.ownBlock∧(v'.ownBlock=v.ownBlock∨v'.ownBlock=some w.heap.size):=by
 cases A with
 | none =>
  have hm:m=0:=by
   rcases Nat.eq_zero_or_pos m with h0|h0
   ·exact h0
   ·obtain⟨b,off,h,_⟩:=hr.2 h0
    cases h
  subst hm;have hn:news=[]:=List.eq_nil_of_length_eq_zero (by simpa using hr.1);subst hn
  exact⟨v,w,run_append_nil_src w base t ty e i size ht hi v n xs hown c,by simpa using hown,World.grownBy.refl w _,.inl rfl⟩
 | some ad =>
  have hcells:∀ j u,news[j]?=some u→w.cell? (ad.add j)=some u:=by
   intro j u hu
   rcases Nat.eq_zero_or_pos m with h0|h0
   ·subst h0
    have hn:news=[]:=List.eq_nil_of_length_eq_zero (by simpa using hr.1);subst hn
    simp at hu
   ·obtain⟨b,off,h,_,hc⟩:=hr.2 h0
    injection h with h
    subst h;have ha:(⟨b,off,none⟩:Addr).add j=⟨b,off+j,none⟩:=by unfold Addr.add;split<;>simp_all
    rw[ha];exact hc j u hu
  obtain⟨v',w',hrun,h2,h3,_,h5⟩:=run_append_own_at (P:=P) w base t ty e i z size bytes ht hi hz hsize hby hzs hsz v n xs hown ad m c news hr.1 hcells h1 h63 hbytes hbase
  exact⟨v',w',hrun,h2,h3,h5⟩
theorem wp_append_reads_at {o:Oper} {a:Act} {K:Act→World→Prop} {Q:Exit→Act→World→Prop} (s x:Operand) (t:TypeId)
  (ho:o.op=.call { callee:=.builtin .append,args:=#[s,x],argTypes:=#[t,t] })
  (base:Nat) (e:TypeId) (i:TypeInfo) (z:Value) (size bytes:Nat) (ht:P.underlying t=some (.slice e)) (hi:P.info? e=some i) (hz:i.zero=some z)
  (hsize:i.size=size) (hby:i.bytes=bytes) (hzs:z.cells.size=size) (hsz:0<size)
  (v:Value) (n:Nat) (xs:List Value) (hs:a.eval s=v) (hown:w.ownsRow base e size v n xs)
  (B:Nat) (A:Option Addr) (m c:Nat) (news:List Value) (hx:a.eval x=.slice A m c) (hr:Reads w B size A m news) (h1:∀ u∈news,u.oneCell'=true)
  (h63:n+m≤maxLen) (hbytes:(n+m) * bytes≤140737488355328) (hbase:base≤w.heap.size)
  (h:∀ v' w',w'.ownsRow base e size v' (n+m) (xs++news)→w.grownBy w' v.ownBlock→(v'.ownBlock=v.ownBlock∨v'.ownBlock=some w.heap.size)→K (a.put o.dst v') w'):o.wp P a w K Q:=by
 obtain⟨v',w',hrun,h2,h3,h4⟩:=run_append_reads_at (P:=P) w base t o.type e i z size bytes ht hi hz hsize hby hzs hsz v n xs hown B A m c news hr h1 h63 hbytes hbase;unfold Oper.wp execOp;simp only[ho,resolve,invoke,builtin,Sem.run_bind,Sem.run_pure,Result.andThen_ok,List.map_toArray,List.map_cons,List.map_nil,hs,hx,hrun]
 exact h v' w' h2 h3 h4
theorem wpList_append_reads_at {ops:Array Oper} {rest:List Oper} {o:Oper} {a:Act} {Q:Exit→Act→World→Prop} (hgd:o.guard=none) (s x:Operand) (t:TypeId)
  (ho:o.op=.call { callee:=.builtin .append,args:=#[s,x],argTypes:=#[t,t] })
  (base:Nat) (e:TypeId) (i:TypeInfo) (z:Value) (size bytes:Nat) (ht:P.underlying t=some (.slice e)) (hi:P.info? e=some i) (hz:i.zero=some z)
  (hsize:i.size=size) (hby:i.bytes=bytes) (hzs:z.cells.size=size) (hsz:0<size)
  (v:Value) (n:Nat) (xs:List Value) (hs:a.eval s=v) (hown:w.ownsRow base e size v n xs)
  (B:Nat) (A:Option Addr) (m c:Nat) (news:List Value) (hx:a.eval x=.slice A m c) (hr:Reads w B size A m news) (h1:∀ u∈news,u.oneCell'=true)
  (h63:n+m≤maxLen) (hbytes:(n+m) * bytes≤140737488355328) (hbase:base≤w.heap.size)
  (h:∀ v' w',w'.ownsRow base e size v' (n+m) (xs++news)→w.grownBy w' v.ownBlock→(v'.ownBlock=v.ownBlock∨v'.ownBlock=some w.heap.size)→wpList P ops Q rest (a.put o.dst v') w'):wpList P ops Q (o::rest) a w :=
 wpList_plain hgd fun _ hK=>wp_append_reads_at w s x t ho base e i z size bytes ht hi hz hsize hby hzs hsz v n xs hs hown B A m c news hx hr h1 h63 hbytes hbase fun v' w' h2 h3 h4=>hK _ _ (h v' w' h2 h3 h4)
end
theorem cells_new_l (w:World) (e:TypeId) (l:List Value):∀ j u,l[j]?=some u→(w.alloc (.cells l.toArray e)).cell? ((⟨w.heap.size,0,none⟩:Addr).add j)=some u:=by
 intro j u hu;have h:=((RowAt.new w e l.toArray).2 j u (by simpa using hu)).1;have ha:(⟨w.heap.size,0,none⟩:Addr).add j=⟨w.heap.size,j,none⟩:=by unfold Addr.add;split<;>simp_all
 rw[ha];exact h
def Far (W w':World) (v v':Value):Prop:=W.heap.size≤w'.heap.size∧∀ b,b<W.heap.size→v.ownBlock≠some b→w'.heap[b]?=W.heap[b]?∧v'.ownBlock≠some b
theorem far_alloc {W w':World} {v v':Value} {o:Obj} (hg:(W.alloc o).grownBy w' v.ownBlock) (hat:v'.ownBlock=v.ownBlock∨v'.ownBlock=some (W.alloc o).heap.size):Far W w' v v':=by
 have hs:=hg.size
 refine⟨by simp at hs;omega,fun b hb hne=>⟨?_,?_⟩⟩
 ·exact(hg.block b (by simp;omega) (fun e=>hne e.symm)).trans (Below.heap_alloc W o b hb)
 ·rcases hat with e|e
  ·rw[e];exact hne
  ·rw[e];intro e2;injection e2 with e2;simp at e2;omega
theorem far_grown {W w':World} {v v':Value} (hg:W.grownBy w' v.ownBlock) (hat:v'.ownBlock=v.ownBlock∨v'.ownBlock=some W.heap.size):Far W w' v v':=by
 refine⟨hg.size,fun b hb hne=>⟨hg.block b hb (fun e=>hne e.symm),?_⟩⟩
 rcases hat with e|e
 ·rw[e];exact hne
 ·rw[e];intro e2;injection e2 with e2;omega
theorem RowAt.far {W w':World} {v v':Value} {g:Nat} {cs:List Value} (h:RowAt W g cs) (hf:Far W w' v v') (hne:v.ownBlock≠some g):RowAt w' g cs∧v'.ownBlock≠some g:=by
 obtain⟨h1,h2⟩:=hf.2 g h.1 hne
 exact⟨⟨Nat.lt_of_lt_of_le h.1 hf.1,fun j u hu=>⟨(World.cell?_of_block (w:=W) (a:=⟨g,j,none⟩) h1).trans (h.2 j u hu).1,(World.frozen?_of_block (w:=W) (a:=⟨g,j,none⟩) h1).trans (h.2 j u hu).2⟩⟩,h2⟩
structure TR (w W:World) (A:Option Addr) (c:Nat) (l:List GTok):Prop where
 bel:Below w.heap.size w W
 own:W.ownsRow w.heap.size 58 3 (.slice A l.length c) l.length (cellsG l)
theorem cellsG_app (a b:List GTok):cellsG (a++b)=cellsG a++cellsG b:=by unfold cellsG;rw[List.flatMap_append]
theorem TR.start (w:World):TR w w none 0 []:=⟨Below.refl _ _,World.ownsRow_nil _ _ _ _⟩
theorem TR.below {w W W':World} {A:Option Addr} {c:Nat} {l:List GTok} (h:TR w W A c l) (hb:Below W.heap.size W W'):TR w W' A c l:=⟨h.bel.trans (hb.mono h.bel.size),own_below h.own hb⟩
theorem TR.push {w W w':World} {A:Option Addr} {c m:Nat} {l ts:List GTok} {news:List Value} {v':Value} {o:Obj} (h:TR w W A c l) (hm:m=ts.length) (hn:news=cellsG ts)
  (hown:w'.ownsRow w.heap.size 58 3 v' (l.length+m) (cellsG l++news)) (hg:(W.alloc o).grownBy w' (Value.slice A l.length c).ownBlock):∃ A' c',v'=.slice A' (l++ts).length c'∧TR w w' A' c' (l++ts):=by
 subst hm hn;obtain⟨A',c',rfl,_,_⟩:=own_form hown
 refine⟨A',c',by rw[List.length_append],push_below h.bel h.bel.size h.own hg,?_⟩
 rw[List.length_append,cellsG_app];exact hown
theorem TR.push0 {w W w':World} {A:Option Addr} {c m:Nat} {l ts:List GTok} {news:List Value} {v':Value} (h:TR w W A c l) (hm:m=ts.length) (hn:news=cellsG ts)
  (hown:w'.ownsRow w.heap.size 58 3 v' (l.length+m) (cellsG l++news)) (hg:W.grownBy w' (Value.slice A l.length c).ownBlock):∃ A' c',v'=.slice A' (l++ts).length c'∧TR w w' A' c' (l++ts):=by
 subst hm hn;obtain⟨A',c',rfl,_,_⟩:=own_form hown
 refine⟨A',c',by rw[List.length_append],h.bel.grown hg h.bel.size (fun k hk=>(h.own.lt k hk).1),?_⟩
 rw[List.length_append,cellsG_app];exact hown
def TokOut (l:List GTok) (w:World) (e:Ending) (w':World):Prop:=∃ A c,e=.returned (.slice A l.length c)∧TR w w' A c l
theorem flat_succ {α:Type} (f:α→List GTok) {l:List α} {k:Nat} {x:α} (h:l[k]?=some x):(l.take (k+1)).flatMap f=(l.take k).flatMap f++f x:=by
 rw[List.take_add_one,h,Option.toList_some,List.flatMap_append];simp
theorem ru_declared (ds:List Decl) (A:Option Addr) (n c:Nat) (w:World) (h:DeclsS w (· < w.heap.size) A n ds) (hn:n≤1000) (hs:∀ d∈ds,d.value.length≤1000) :
  Calls Tryz.prog 82 #[.slice A n c] w (TokOut (ds.flatMap declT) w):=by
 have hlen:=h.len;have Hlen:=Lib.hid hlen;have Hs:=Lib.hid hs;obtain⟨hi0,hi,hz0,hz1,hz2⟩:=info_take ru_tok_info;clear hlen hs
 go_enter Tryz.func82,Tryz.ntmps82
 go_wp2_with fail
 go_loopw [3,8] (fun v i wr=>∃ (k:Nat) (A1:Option Addr) (c1:Nat) (l1:List GTok),k≤n∧i=.int .i64 (k:Int)∧v=.slice A1 l1.length c1∧Hid (l1=(ds.take k).flatMap declT)∧l1.length≤k * 1010∧TR w wr A1 c1 l1) (fun _ i _=>n-(intOf i).toNat)
 case atStart=>exact⟨0,none,0,[],by omega,rfl,rfl,rfl,by simp,TR.start w⟩
 case round =>
  obtain⟨k,A1,c1,l1,hk,rfl,rfl,hl1,hll,hT⟩:=hrel;have hb:=hT.bel;have hbs:=hb.size
  by_cases hlt:k<n
  ·obtain⟨b,off,A2,c2,d,hA,hbl,hdk,f0,f1,f2,hX⟩:=h.at_ hlt
   subst hA;have hki:(k:Int)<(n:Int):=by omega
   have hdl:=Hs.out d (List.mem_of_getElem? hdk)
   replace f0:=(hb.cell (p:=⟨b,off+k * 3,none⟩) hbl).trans f0
   replace f1:=(hb.cell (p:=⟨b,off+k * 3+1,none⟩) hbl).trans f1
   replace f2:=(hb.cell (p:=⟨b,off+k * 3+2,none⟩) hbl).trans f2
   obtain⟨WA,hWA⟩:∃ WA,wr.alloc (.cells #[.string (bytesOf d.name),.slice A2 d.value.length c2,.bool d.imp] 34)=WA:=⟨_,rfl⟩;have bA:Below wr.heap.size wr WA:=by rw[←hWA];exact(Below.refl _ _).alloc (Nat.le_refl _) _
   have rA:RowAt WA wr.heap.size [.string (bytesOf d.name),.slice A2 d.value.length c2,.bool d.imp]:=by rw[←hWA];exact RowAt.new _ _ _
   have hne:(Value.slice A1 l1.length c1).ownBlock≠some wr.heap.size:=fun e=>by have:=(hT.own.lt _ e).2;omega
   have hTA:=hT.below bA;obtain⟨a0,_⟩:=rA.2 0 _ rfl;have hone:=cells_one d.value;have Hdk:=Lib.hid hdk;have hoA:=hTA.own;have hsA:=hTA.bel.size;clear hT hdk
   go_upto_region 6 with (at_builtin;refine wpList_append_own_at _ rfl _ _ 32 rfl w.heap.size 58 hi0 _ 3 32 Tryz.underlying32 hi hz0 hz1 hz2 rfl (by decide) _ l1.length (cellsG l1) rfl (hoA.alloc _) ⟨WA.heap.size,0,none⟩ 2 2 [.int .i64 2,.string (bytesOf d.name),.int .i64 0,.int .i64 14,.string ⟨#[]⟩,.int .i64 0] rfl rfl (cells_new_l _ _ _) (by intro u hu;simp at hu;rcases hu with rfl | rfl | rfl | rfl | rfl | rfl<;>rfl) (by unfold maxLen;omega) (by omega) (by simp;omega) ?_;intro v' w3 hown3 hg3 _ hat3)
   have hF3:=far_alloc (v:=.slice A1 l1.length c1) hg3 hat3;obtain⟨A3,c3,rfl,hT3⟩:=hTA.push (ts:=[⟨2,d.name,0⟩,⟨14,[],0⟩]) rfl rfl hown3 hg3;obtain⟨r3,ne3⟩:=rA.far hF3 hne;obtain⟨y1,_⟩:=r3.2 1 _ rfl;have hR3:Reads w3 w.heap.size 3 A2 d.value.length (cellsG d.value):=Reads.below hX hT3.bel;obtain⟨l3,hl3⟩:∃ l3,l1++[⟨2,d.name,0⟩,⟨14,[],0⟩]=l3:=⟨_,rfl⟩;have hll3:l3.length≤k * 1010+2:=by rw[←hl3];simp;omega
   rw[hl3] at hT3 ne3 ⊢;have ho3:=hT3.own;have hs3:=hT3.bel.size;have Hl3:=Lib.hid hl3;clear hown3 hg3 hat3 hF3 hTA hoA hne rA hl3;have hq1:l3.length+d.value.length≤maxLen:=by unfold maxLen;omega
   have hq2:(l3.length+d.value.length) * 32≤140737488355328:=by omega
   go_upto_region 7 with (at_builtin;refine wpList_append_reads_at _ rfl _ _ 32 rfl w.heap.size 58 hi0 _ 3 32 Tryz.underlying32 hi hz0 hz1 hz2 rfl (by decide) _ l3.length (cellsG l3) rfl ho3 w.heap.size A2 d.value.length c2 (cellsG d.value) rfl hR3 hone hq1 hq2 hs3 ?_;intro v' w4 hown4 hg4 hat4)
   have hF4:=far_grown (v:=.slice A3 l3.length c3) hg4 hat4;obtain⟨A4,c4,rfl,hT4⟩:=hT3.push0 (ts:=d.value) rfl rfl hown4 hg4;obtain⟨r4,ne4⟩:=r3.far hF4 ne3;obtain⟨y2,_⟩:=r4.2 2 _ rfl;obtain⟨l4,hl4⟩:∃ l4,l3++d.value=l4:=⟨_,rfl⟩;have hll4:l4.length≤k * 1010+1002:=by rw[←hl4,List.length_append];omega
   rw[hl4] at hT4 ne4 ⊢;have ho4:=hT4.own;have hs4:=hT4.bel.size;have Hl4:=Lib.hid hl4;clear hown4 hg4 hat4 hF4 hT3 ho3 ne3 r3 hl4 hR3 y1;obtain⟨pi,hpi⟩:∃ pi,d.imp=pi:=⟨_,rfl⟩;rw[hpi] at y2;have Hpi:=Lib.hid hpi;clear hpi f0 f1 f2
   go_upto_if 24 with (fail)
   go_cut [3] (fun x wx=>∃ (A5:Option Addr) (c5:Nat),x=.slice A5 (l4++if pi=true then impT else []).length c5∧TR w wx A5 c5 (l4++if pi=true then impT else []))
   case first =>
    cases pi with
    | false =>
     have hfin:∃ (A5:Option Addr) (c5:Nat),Value.slice A4 l4.length c4=.slice A5 (l4++if false=true then impT else []).length c5∧TR w w4 A5 c5 (l4++if false=true then impT else []):=by
      rw[if_neg (by decide),List.append_nil];exact⟨A4,c4,rfl,hT4⟩
     have HF:=Lib.hid hfin;clear hfin
     go_wp2_with fail
     go_meet
     exact HF.out
    | true =>
     go_wp2_with (at_builtin;refine wpList_append_own_at _ rfl _ _ 32 rfl w.heap.size 58 hi0 _ 3 32 Tryz.underlying32 hi hz0 hz1 hz2 rfl (by decide) _ l4.length (cellsG l4) rfl (ho4.alloc _) ⟨w4.heap.size,0,none⟩ 2 2 [.int .i64 11,.string ⟨#[33]⟩,.int .i64 0,.int .i64 2,.string ⟨#[105,109,112,111,114,116,97,110,116]⟩,.int .i64 0] rfl rfl (cells_new_l _ _ _) (by intro u hu;simp at hu;rcases hu with rfl | rfl | rfl | rfl | rfl | rfl<;>rfl) (by unfold maxLen;omega) (by omega) (by simp;omega) ?_;intro v' w5 hown5 hg5 _ hat5)
     obtain⟨A5,c5,rfl,hT5⟩:=hT4.push (ts:=impT) rfl rfl hown5 hg5;clear hown5 hg5 hat5
     go_wp2_with fail
     go_meet
     first | rw[if_pos rfl] | simp only[if_true]
     exact⟨A5,c5,rfl,hT5⟩
   case rest =>
    obtain⟨A5,c5,rfl,hT5⟩:=hcut;obtain⟨w5,hw5⟩:∃ x,x=wc:=⟨_,rfl⟩;subst hw5;obtain⟨l5,hl5⟩:∃ l5,(l4++if pi=true then impT else [])=l5:=⟨_,rfl⟩;have hll5:l5.length≤k * 1010+1004:=by rw[←hl5,List.length_append];split<;>simp[impT]<;>omega
    rw[hl5] at hT5 ⊢;have ho5:=hT5.own;have hs5:=hT5.bel.size;have Hl5:=Lib.hid hl5;clear hl5 hT4 ho4 ne4 r4 y2
    go_wp2_with (at_builtin;refine wpList_append_own_at _ rfl _ _ 32 rfl w.heap.size 58 hi0 _ 3 32 Tryz.underlying32 hi hz0 hz1 hz2 rfl (by decide) _ l5.length (cellsG l5) rfl (ho5.alloc _) ⟨w5.heap.size,0,none⟩ 1 1 [.int .i64 15,.string ⟨#[]⟩,.int .i64 0] rfl rfl (cells_new_l _ _ _) (by intro u hu;simp at hu;rcases hu with rfl | rfl | rfl<;>rfl) (by unfold maxLen;omega) (by omega) (by simp;omega) ?_;intro v' w6 hown6 hg6 _ hat6)
    obtain⟨A6,c6,rfl,hT6⟩:=hT5.push (ts:=[semiT]) rfl rfl hown6 hg6
    have hnew:Hid (l5++[semiT]=(ds.take (k+1)).flatMap declT):=by
     show _=_
     rw[flat_succ declT Hdk.out,←hl1.out,←Hl5.out,←Hl4.out,←Hl3.out,←Hpi.out];unfold declT
     simp
    have hln:(l5++[semiT]).length≤(k+1) * 1010:=by rw[List.length_append];simp;omega
    have wk:IntKind.i64.wrap ((k:Int)+1)=(k:Int)+1:=by rw[IntKind.wrap_i64];omega
    clear hown6 hg6 hat6 hT5 ho5
    go_wp2_with fail
    go_roundw
    case rel=>exact⟨k+1,A6,c6,_,by omega,by go_num,rfl,hnew,hln,hT6⟩
    case measure=>simp[intOf];omega
  ·obtain rfl:k=n:=by omega
   have dk:¬ (k:Int)<(k:Int):=by omega
   have hfin:TokOut (ds.flatMap declT) w (.returned (.slice A1 l1.length c1)) wr:=by
    have h1:=hl1.out;rw[←Hlen.out,List.take_length] at h1;rw[←h1]
    exact⟨A1,c1,rfl,hT⟩
   have HF:=Lib.hid hfin;clear hfin hT
   go_wp2_with fail
   go_ret
   exact HF.out
theorem Below.one (w:World) (o:Obj):Below w.heap.size w (w.alloc o):=(Below.refl _ _).alloc (Nat.le_refl _) _
theorem Far.trans {a b c:World} {v v' v'':Value} (h:Far a b v v') (k:Far b c v' v''):Far a c v v'' :=
 ⟨Nat.le_trans h.1 k.1,fun x hx hne=>by
  obtain⟨h1,h2⟩:=h.2 x hx hne;obtain⟨k1,k2⟩:=k.2 x (Nat.lt_of_lt_of_le hx h.1) h2
  exact⟨k1.trans h1,k2⟩⟩
theorem far_below {W W':World} {v:Value} (hb:Below W.heap.size W W'):Far W W' v v:=⟨hb.size,fun b hb' hne=>⟨hb.block b hb',hne⟩⟩
theorem cells_of_row {w:World} {g:Nat} {l:List Value} (h:RowAt w g l):∀ j u,l[j]?=some u→w.cell? ((⟨g,0,none⟩:Addr).add j)=some u:=by
 intro j u hu;have ha:(⟨g,0,none⟩:Addr).add j=⟨g,j,none⟩:=by unfold Addr.add;split<;>simp_all
 rw[ha];exact(h.2 j u hu).1
theorem RowAt.drewR {w:World} {g:Nat} {cs:List Value} (h:RowAt w g cs):RowAt w.drew g cs:=h
theorem tok_step {ops:Array Oper} {o:Oper} {a:Act} {K:Act→World→Prop} {Q:Exit→Act→World→Prop} {E:Prop} {w W:World} {A A2:Option Addr} {c c2 B:Nat} {l ts:List GTok} (hgd:o.guard=none) (s x:Operand)
  (ho:o.op=.call { callee:=.builtin .append,args:=#[s,x],argTypes:=#[32,32] }) (hT:TR w W A c l) (hs:a.eval s=.slice A l.length c) (hx:a.eval x=.slice A2 ts.length c2)
  (hr:Reads W B 3 A2 ts.length (cellsG ts)) (hq:l.length+ts.length≤100000000)
  (h:∀ A' c' w' l',Hid (l'=l++ts)→TR w w' A' c' l'→Far W w' (.slice A l.length c) (.slice A' l'.length c')→K (a.put o.dst (.slice A' l'.length c')) w') :
  if Region.wanted o (yielded ops a.tmps)=true then Oper.wp Tryz.prog o a W K Q else E:=by
 obtain⟨hi0,hi,hz0,hz1,hz2⟩:=info_take ru_tok_info;have hw:Region.wanted o (yielded ops a.tmps)=true:=by simp[Region.wanted,hgd]
 rw[if_pos hw]
 refine wp_append_reads_at W s x 32 ho w.heap.size 58 hi0 _ 3 32 Tryz.underlying32 hi hz0 hz1 hz2 rfl (by decide) _ l.length (cellsG l) hs hT.own B A2 ts.length c2 (cellsG ts) hx hr (cells_one ts) (by unfold maxLen;omega) (by omega) hT.bel.size ?_
 intro v' w' hown hg hat;obtain⟨A',c',rfl,hT'⟩:=hT.push0 (ts:=ts) rfl rfl hown hg
 exact h A' c' w' _ (Lib.hid rfl) hT' (far_grown (v:=.slice A l.length c) hg hat)
theorem tok_stepc {ops:Array Oper} {o:Oper} {a:Act} {K:Act→World→Prop} {Q:Exit→Act→World→Prop} {E:Prop} {w W:World} {A:Option Addr} {ad:Addr} {c c2:Nat} {l ts:List GTok} (hgd:o.guard=none) (s x:Operand)
  (ho:o.op=.call { callee:=.builtin .append,args:=#[s,x],argTypes:=#[32,32] }) (hT:TR w W A c l) (hs:a.eval s=.slice A l.length c) (hx:a.eval x=.slice (some ad) ts.length c2)
  (hr:∀ j u,(cellsG ts)[j]?=some u→W.cell? (ad.add j)=some u) (hq:l.length+ts.length≤100000000)
  (h:∀ A' c' w' l',Hid (l'=l++ts)→TR w w' A' c' l'→Far W w' (.slice A l.length c) (.slice A' l'.length c')→K (a.put o.dst (.slice A' l'.length c')) w') :
  if Region.wanted o (yielded ops a.tmps)=true then Oper.wp Tryz.prog o a W K Q else E:=by
 obtain⟨hi0,hi,hz0,hz1,hz2⟩:=info_take ru_tok_info;have hw:Region.wanted o (yielded ops a.tmps)=true:=by simp[Region.wanted,hgd]
 rw[if_pos hw];obtain⟨v',w',hrun,h2,h3,_,h5⟩:=run_append_own_at (P:=Tryz.prog) W w.heap.size 32 o.type 58 hi0 _ 3 32 Tryz.underlying32 hi hz0 hz1 hz2 rfl (by decide) _ l.length (cellsG l) hT.own ad ts.length c2 (cellsG ts) (by rw[cellsG,flat_len cells1_len]) hr (cells_one ts) (by unfold maxLen;omega) (by omega) hT.bel.size;unfold Oper.wp execOp;simp only[ho,resolve,invoke,builtin,Sem.run_bind,Sem.run_pure,Result.andThen_ok,List.map_toArray,List.map_cons,List.map_nil,hs,hx,hrun];obtain⟨A',c',rfl,hT'⟩:=hT.push0 (ts:=ts) rfl rfl h2 h3
 exact h A' c' w' _ (Lib.hid rfl) hT' (far_grown (v:=.slice A l.length c) h3 h5)
noncomputable def tokHead:Code:=(regionR 8 (Tryz.f52.body.getD .skip)).getD .skip
noncomputable def tokMargin:Code:=(regionR 13 (Tryz.f52.body.getD .skip)).getD .skip
def TokRet (w wX:World) (v:Value) (l:List GTok) (v':Value) (W:World):Prop:=∃ A' c',v'=.slice A' l.length c'∧TR w W A' c' l∧Far wX W v v'
theorem ru_tok_head {w wX:World} {g gO:Nat} {l1:List GTok} {A1:Option Addr} {c1:Nat} {r:Rule} {A2 A3 A4:Option Addr} {c2 c3 c4:Nat} (u0 u1 u2 u5 u6 u8 u9 u10 u11 u12 u13 u14 u15 u16 u17 u18 u19 u20 u21 u22 u23 u24 u25 u26 u27 u28 u29 u30 u31 u32 u33 u34 u35 u36 u37 u38 u39 u40 u41 u42 u43 u44 u45 u46 u47 u48 u49 u50 u51 u52 u53 u54 u55 u56 u57 u58 u59 u60 u61 u62 u63 u64 u65:Value)
  (hT:TR w wX A1 c1 l1) (ne:(Value.slice A1 l1.length c1).ownBlock≠some g) (neO:(Value.slice A1 l1.length c1).ownBlock≠some gO) (rX:RowAt wX g [.int .i64 r.kind,.slice A2 r.prelude.length c2,.slice A3 r.decls.length c3,.slice A4 r.margins.length c4]) (oX:RowAt wX gO [.int .i64 12,.string ⟨#[123]⟩,.int .i64 0])
  (hP:ReadsS wX (· < wX.heap.size) 3 A2 r.prelude.length (cellsG r.prelude)) (hD:DeclsS w (· < w.heap.size) A3 r.decls.length r.decls) (hd:r.decls.length≤1000) (hds:∀ d∈r.decls,d.value.length≤1000)
  (hl:l1.length+r.prelude.length+1+(r.decls.flatMap declT).length≤100000000) :
  Code.wp Tryz.prog tokHead (fun e' a W=>match e' with
   | .normal=>∃ v3:Value,(∃ v26 v27 v28 v29 v30 v31 v32 v33 v34 v35 v36:Value,a=⟨(List.toArray (u0::u1::u2::v3::Value.pointer (some ⟨gO,0,none⟩)::u5::u6::Value.pointer (some ⟨g,0,none⟩)::u8::u9::u10::u11::u12::u13::u14::u15::u16::u17::u18::u19::u20::u21::u22::u23::u24::u25::v26::v27::v28::v29::v30::v31::v32::v33::v34::v35::v36::u37::u38::u39::u40::u41::u42::u43::u44::u45::u46::u47::u48::u49::u50::u51::u52::u53::u54::u55::u56::u57::u58::u59::u60::u61::u62::u63::u64::u65::[])),[]⟩)∧TokRet w wX (.slice A1 l1.length c1) (l1++r.prelude++[openT]++r.decls.flatMap declT) v3 W
   | _=>False) ⟨(List.toArray (u0::u1::u2::Value.slice A1 l1.length c1::Value.pointer (some ⟨gO,0,none⟩)::u5::u6::Value.pointer (some ⟨g,0,none⟩)::u8::u9::u10::u11::u12::u13::u14::u15::u16::u17::u18::u19::u20::u21::u22::u23::u24::u25::u26::u27::u28::u29::u30::u31::u32::u33::u34::u35::u36::u37::u38::u39::u40::u41::u42::u43::u44::u45::u46::u47::u48::u49::u50::u51::u52::u53::u54::u55::u56::u57::u58::u59::u60::u61::u62::u63::u64::u65::[])),[]⟩ wX:=by
 conv=>arg 2;whnf
 have hT0:TR w wX.drew A1 c1 l1:=⟨hT.bel.trans (Below.refl _ _).drew,hT.own⟩;have far0:Far wX wX.drew (.slice A1 l1.length c1) (.slice A1 l1.length c1):=far_below (Below.refl _ _).drew;have r0:=RowAt.drewR rX;have o0:=RowAt.drewR oX;have hgl:g<wX.heap.size:=rX.1;have hglO:gO<wX.heap.size:=oX.1;obtain⟨k1,_⟩:=r0.2 1 _ rfl;obtain⟨q0,_⟩:=o0.2 0 _ rfl;obtain⟨q1,_⟩:=o0.2 1 _ rfl;obtain⟨q2,_⟩:=o0.2 2 _ rfl;have bAd:Below wX.heap.size wX.drew (wX.alloc (.cells (List.toArray [.int .i64 12,.string ⟨#[123]⟩,.int .i64 0]) 58)).drew:=Below.one wX.drew _;have bAw:Below wX.heap.size wX (wX.alloc (.cells (List.toArray [.int .i64 12,.string ⟨#[123]⟩,.int .i64 0]) 58)).drew:=(Below.one wX _).trans (Below.refl _ _).drew;have hTA:TR w (wX.alloc (.cells (List.toArray [.int .i64 12,.string ⟨#[123]⟩,.int .i64 0]) 58)).drew A1 c1 l1:=hT.below bAw;have farA:Far wX (wX.alloc (.cells (List.toArray [.int .i64 12,.string ⟨#[123]⟩,.int .i64 0]) 58)).drew (.slice A1 l1.length c1) (.slice A1 l1.length c1):=far_below bAw;have rA:=rX.below bAw hgl;have oA:=oX.below bAw hglO;have nA:RowAt (wX.alloc (.cells (List.toArray [.int .i64 12,.string ⟨#[123]⟩,.int .i64 0]) 58)).drew wX.heap.size [.int .i64 12,.string ⟨#[123]⟩,.int .i64 0]:=RowAt.drewR (RowAt.new wX 58 (List.toArray [.int .i64 12,.string ⟨#[123]⟩,.int .i64 0]));have neN:(Value.slice A1 l1.length c1).ownBlock≠some wX.heap.size:=fun e=>by have:=(hT.own.lt _ e).2;omega
 obtain⟨k1A,_⟩:=rA.2 1 _ rfl;obtain⟨k2,_⟩:=r0.2 2 _ rfl;obtain⟨k2A,_⟩:=rA.2 2 _ rfl;have hR0:Reads wX.drew wX.heap.size 3 A2 r.prelude.length (cellsG r.prelude):=hP;have hRA:Reads (wX.alloc (.cells (List.toArray [.int .i64 12,.string ⟨#[123]⟩,.int .i64 0]) 58)).drew wX.heap.size 3 A2 r.prelude.length (cellsG r.prelude):=Reads.alloc hP (Nat.le_refl _) _;have cDec:=fun (W:World) (hb:Below w.heap.size w W)=>ru_declared r.decls A3 r.decls.length c3 W (hD.below hb) hd hds
 obtain⟨dt,hdt⟩:∃ dt,r.decls.flatMap declT=dt:=⟨_,rfl⟩;simp only[hdt] at cDec;rw[hdt] at hl ⊢;clear hdt;have hq1:l1.length+r.prelude.length≤100000000:=by omega
 have hl2:=hl;clear hP hl
 go_region_law (first
  | (refine tok_step rfl _ _ rfl hT0 rfl rfl hR0 hq1 ?_;intro A3' c3' w3 l3 H3 hT3 hF3';have hF3:=far0.trans hF3';obtain⟨r3,ne3⟩:=r0.far hF3' ne;obtain⟨o3,neO3⟩:=o0.far hF3' neO;obtain⟨y2,_⟩:=r3.2 2 _ rfl;have g3:=r3.1;obtain⟨p0,_⟩:=o3.2 0 _ rfl;obtain⟨p1,_⟩:=o3.2 1 _ rfl;obtain⟨p2,_⟩:=o3.2 2 _ rfl;obtain⟨y2A,_⟩:=(r3.below (Below.one w3 (.cells (List.toArray [.int .i64 12,.string ⟨#[123]⟩,.int .i64 0]) 58)) g3).2 2 _ rfl;clear hF3')
  | (refine tok_step rfl _ _ rfl hTA rfl rfl hRA hq1 ?_;intro A3' c3' w3 l3 H3 hT3 hF3';have hF3:=farA.trans hF3';obtain⟨r3,ne3⟩:=rA.far hF3' ne;obtain⟨o3,neO3⟩:=oA.far hF3' neO;obtain⟨y2,_⟩:=r3.2 2 _ rfl;obtain⟨n3,_⟩:=nA.far hF3' neN;clear hF3')
  | (refine tok_stepc (ts:=[openT]) rfl _ _ rfl (hT3.below (Below.one w3 _)) rfl rfl (cells_new_l _ _ _) (by have:=congrArg List.length H3.out;simp only[List.length_append,List.length_cons,List.length_nil] at this ⊢;omega) ?_;intro A6 c6 w6 l6 H6 hT6 hF6';have hF36:=(far_below (v:=.slice A3' l3.length c3') (Below.one w3 _)).trans hF6';have hF6:=hF3.trans hF36;obtain⟨r6,ne6⟩:=r3.far hF36 ne3;obtain⟨z2,_⟩:=r6.2 2 _ rfl;clear hF6' hF36)
  | (refine tok_stepc (ts:=[openT]) rfl _ _ rfl hT3 rfl rfl (cells_of_row n3) (by have:=congrArg List.length H3.out;simp only[List.length_append,List.length_cons,List.length_nil] at this ⊢;omega) ?_;intro A6 c6 w6 l6 H6 hT6 hF36;have hF6:=hF3.trans hF36;obtain⟨r6,ne6⟩:=r3.far hF36 ne3;obtain⟨z2,_⟩:=r6.2 2 _ rfl;clear hF36)
  | (refine tok_step rfl _ _ rfl hT69 rfl rfl hR9 (by have:=congrArg List.length H3.out;have:=congrArg List.length H6.out;simp only[List.length_append,List.length_cons,List.length_nil] at *;omega) ?_;intro A10 c10 w10 l10 H10 hT10 hF10';have hF10:=hF69.trans hF10';clear hF10')
  | (go_simp;go_at_call 82;refine(cDec w6 hT6.bel).mono ?_;rintro e9 w9 ⟨A9,c9,rfl,hT9⟩;have hb9:=hT9.bel;have hT69:=hT6.below hb9;have hF69:=hF6.trans (far_below hb9);have hR9:Reads w9 w9.heap.size 3 A9 dt.length (cellsG dt):=Reads.of_own hT9.own))
 all_goals (have e:l10=l1++r.prelude++[openT]++dt:=(by rw[H10.out,H6.out,H3.out]);exact⟨_,⟨_,_,_,_,_,_,_,_,_,_,_,rfl⟩,A10,c10,by rw[←e],by rw[←e];exact hT10,hF10⟩)
theorem ru_tok_margin {w wX:World} {g gO:Nat} {l1:List GTok} {A1:Option Addr} {c1:Nat} {m:Margin} {A3:Option Addr} {c3:Nat} (u0 u1 u2 u4 u6 u7 u8 u10 u11 u12 u13 u14 u15 u16 u17 u18 u19 u20 u21 u22 u23 u24 u25 u26 u27 u28 u29 u30 u31 u32 u33 u34 u35 u36 u37 u38 u39 u40 u41 u42 u43 u44 u45 u46 u47 u48 u49 u50 u51 u52 u53 u54 u55 u56 u57 u58 u59 u60 u61 u62 u63 u64 u65:Value)
  (hT:TR w wX A1 c1 l1) (ne:(Value.slice A1 l1.length c1).ownBlock≠some g) (neO:(Value.slice A1 l1.length c1).ownBlock≠some gO) (rX:RowAt wX g [.string (bytesOf m.name),.slice A3 m.decls.length c3]) (oX:RowAt wX gO [.int .i64 13,.string ⟨#[125]⟩,.int .i64 0])
  (hD:DeclsS w (· < w.heap.size) A3 m.decls.length m.decls) (hd:m.decls.length≤1000) (hds:∀ d∈m.decls,d.value.length≤1000)
  (hl:l1.length+(m.decls.flatMap declT).length+1≤100000000) :
  Code.wp Tryz.prog tokMargin (fun e' a W=>match e' with
   | .normal=>∃ v3:Value,(∃ v51 v52 v53 v54 v55 v56 v57 v58:Value,a=⟨(List.toArray (u0::u1::u2::v3::u4::Value.pointer (some ⟨gO,0,none⟩)::u6::u7::u8::Value.pointer (some ⟨g,0,none⟩)::u10::u11::u12::u13::u14::u15::u16::u17::u18::u19::u20::u21::u22::u23::u24::u25::u26::u27::u28::u29::u30::u31::u32::u33::u34::u35::u36::u37::u38::u39::u40::u41::u42::u43::u44::u45::u46::u47::u48::u49::u50::v51::v52::v53::v54::v55::v56::v57::v58::u59::u60::u61::u62::u63::u64::u65::[])),[]⟩)∧TokRet w wX (.slice A1 l1.length c1) (l1++m.decls.flatMap declT++[shutT]) v3 W
   | _=>False) ⟨(List.toArray (u0::u1::u2::Value.slice A1 l1.length c1::u4::Value.pointer (some ⟨gO,0,none⟩)::u6::u7::u8::Value.pointer (some ⟨g,0,none⟩)::u10::u11::u12::u13::u14::u15::u16::u17::u18::u19::u20::u21::u22::u23::u24::u25::u26::u27::u28::u29::u30::u31::u32::u33::u34::u35::u36::u37::u38::u39::u40::u41::u42::u43::u44::u45::u46::u47::u48::u49::u50::u51::u52::u53::u54::u55::u56::u57::u58::u59::u60::u61::u62::u63::u64::u65::[])),[]⟩ wX:=by
 conv=>arg 2;whnf
 have hT0:TR w wX.drew A1 c1 l1:=⟨hT.bel.trans (Below.refl _ _).drew,hT.own⟩;have far0:Far wX wX.drew (.slice A1 l1.length c1) (.slice A1 l1.length c1):=far_below (Below.refl _ _).drew;have r0:=RowAt.drewR rX;have o0:=RowAt.drewR oX;have hgl:g<wX.heap.size:=rX.1;have hglO:gO<wX.heap.size:=oX.1;obtain⟨k1,_⟩:=r0.2 1 _ rfl;obtain⟨q0,_⟩:=o0.2 0 _ rfl;obtain⟨q1,_⟩:=o0.2 1 _ rfl;obtain⟨q2,_⟩:=o0.2 2 _ rfl;have bAd:Below wX.heap.size wX.drew (wX.alloc (.cells (List.toArray [.int .i64 13,.string ⟨#[125]⟩,.int .i64 0]) 58)).drew:=Below.one wX.drew _;have bAw:Below wX.heap.size wX (wX.alloc (.cells (List.toArray [.int .i64 13,.string ⟨#[125]⟩,.int .i64 0]) 58)).drew:=(Below.one wX _).trans (Below.refl _ _).drew;have hTA:TR w (wX.alloc (.cells (List.toArray [.int .i64 13,.string ⟨#[125]⟩,.int .i64 0]) 58)).drew A1 c1 l1:=hT.below bAw;have farA:Far wX (wX.alloc (.cells (List.toArray [.int .i64 13,.string ⟨#[125]⟩,.int .i64 0]) 58)).drew (.slice A1 l1.length c1) (.slice A1 l1.length c1):=far_below bAw;have rA:=rX.below bAw hgl;have oA:=oX.below bAw hglO;have nA:RowAt (wX.alloc (.cells (List.toArray [.int .i64 13,.string ⟨#[125]⟩,.int .i64 0]) 58)).drew wX.heap.size [.int .i64 13,.string ⟨#[125]⟩,.int .i64 0]:=RowAt.drewR (RowAt.new wX 58 (List.toArray [.int .i64 13,.string ⟨#[125]⟩,.int .i64 0]));have neN:(Value.slice A1 l1.length c1).ownBlock≠some wX.heap.size:=fun e=>by have:=(hT.own.lt _ e).2;omega
 obtain⟨k1A,_⟩:=rA.2 1 _ rfl;have cDec:=fun (W:World) (hb:Below wX.heap.size wX.drew W)=>ru_declared m.decls A3 m.decls.length c3 W (hD.below (hT.bel.trans ((Below.trans (Below.refl _ _).drew hb).mono hT.bel.size))) hd hds
 obtain⟨dt,hdt⟩:∃ dt,m.decls.flatMap declT=dt:=⟨_,rfl⟩;simp only[hdt] at cDec;rw[hdt] at hl ⊢;clear hdt;have hq1:l1.length+dt.length≤100000000:=by omega
 have hl2:=hl;clear hl
 go_region_law (first
  | (refine tok_step rfl _ _ rfl hT09 rfl rfl hR9 hq1 ?_;intro A4' c4' w4 l4 H4 hT4 hF4';have hF4:=hF9.trans hF4';obtain⟨o4,neO4⟩:=o9.far hF4' neO9;obtain⟨z0,_⟩:=o4.2 0 _ rfl;obtain⟨z1,_⟩:=o4.2 1 _ rfl;obtain⟨z2,_⟩:=o4.2 2 _ rfl;(try obtain⟨n4,_⟩:=n9.far hF4' neN9);clear hF4')
  | (refine tok_step rfl _ _ rfl (hT09.below (Below.one w9 _)) rfl rfl (Reads.alloc hR9 (Nat.le_refl _) _) hq1 ?_;intro A4' c4' w4 l4 H4 hT4 hF4';have hF4:=hF9.trans ((far_below (Below.one w9 _)).trans hF4');obtain⟨n4,_⟩:=(RowAt.new w9 58 (List.toArray [.int .i64 13,.string ⟨#[125]⟩,.int .i64 0])).far hF4' (fun e=>Nat.lt_irrefl _ (hT09.own.lt _ e).2);clear hF4')
  | (refine tok_stepc (ts:=[shutT]) rfl _ _ rfl (hT4.below (Below.one w4 _)) rfl rfl (cells_new_l _ _ _) (by have:=congrArg List.length H4.out;simp only[List.length_append,List.length_cons,List.length_nil] at this ⊢;omega) ?_;intro A7 c7 w7 l7 H7 hT7 hF7';have hF7:=hF4.trans ((far_below (v:=.slice A4' l4.length c4') (Below.one w4 _)).trans hF7');clear hF7')
  | (refine tok_stepc (ts:=[shutT]) rfl _ _ rfl hT4 rfl rfl (cells_of_row n4) (by have:=congrArg List.length H4.out;simp only[List.length_append,List.length_cons,List.length_nil] at this ⊢;omega) ?_;intro A7 c7 w7 l7 H7 hT7 hF7';have hF7:=hF4.trans hF7';clear hF7')
  | (go_simp;go_at_call 82;refine(cDec _ (Below.refl _ _)).mono ?_;rintro e9 w9 ⟨A9,c9,rfl,hT9⟩;have hb9:=hT9.bel;have hT09:=hT0.below hb9;have hF9':=far_below (v:=.slice A1 l1.length c1) hb9;have hF9:=far0.trans hF9';have hR9:Reads w9 w9.heap.size 3 A9 dt.length (cellsG dt):=Reads.of_own hT9.own;obtain⟨o9,neO9⟩:=o0.far hF9' neO;obtain⟨p0,_⟩:=o9.2 0 _ rfl;obtain⟨p1,_⟩:=o9.2 1 _ rfl;obtain⟨p2,_⟩:=o9.2 2 _ rfl;clear hF9')
  | (go_simp;go_at_call 82;refine(cDec _ bAd).mono ?_;rintro e9 w9 ⟨A9,c9,rfl,hT9⟩;have hb9:=hT9.bel;have hT09:=hTA.below hb9;have hF9':=far_below (v:=.slice A1 l1.length c1) hb9;have hF9:=farA.trans hF9';have hR9:Reads w9 w9.heap.size 3 A9 dt.length (cellsG dt):=Reads.of_own hT9.own;obtain⟨o9,neO9⟩:=oA.far hF9' neO;obtain⟨n9,neN9⟩:=nA.far hF9' neN;clear hF9'))
 all_goals (have e:l7=l1++dt++[shutT]:=(by rw[H7.out,H4.out]);exact⟨_,⟨_,_,_,_,_,_,_,_,rfl⟩,A7,c7,by rw[←e],by rw[←e];exact hT7,hF7⟩)
end Go.Proofs.YtfhdihdafmahgaaGreatDoor
