import Derived.Test.YtfhdihdafmahgaaGreatDoorR37
import Derived.Test.YtfhdihdafmahgaaGreatDoorR36
set_option linter.unusedVariables false
set_option linter.unusedSimpArgs false
set_option maxRecDepth 100000
set_option maxHeartbeats 8000000
namespace Go.Proofs.YtfhdihdafmahgaaGreatDoor
open Go.RowKit Rn Tp Ru
structure Doc (w:World) (l:List GTok) (A:Option Addr) (n c:Nat) (A':Option Addr):Prop where
 tk:ReadsS w (· < w.heap.size) 3 A n (cellsG l)
 en:EndsS w (· < w.heap.size) A' n l
 hn:n≤1000000
 hc:n≤c
 sm:∀ t∈l,smallT t
theorem Doc.below {w w':World} {l:List GTok} {A:Option Addr} {n c:Nat} {A':Option Addr} (h:Doc w l A n c A') (hb:Below w.heap.size w w'):Doc w' l A n c A' :=
 ⟨h.tk.below hb,h.en.below hb,h.hn,h.hc,h.sm⟩
theorem kind_brace {u:GTok} (h:eitherB u=true):(u.kind==12)=braceB u:=by
 unfold eitherB semiB at h;unfold braceB at h ⊢
 by_cases h1:u.kind=12
 ·simp[h1] at h ⊢;exact h
 ·simp[h1]
theorem rr_block_core (pg:Bool) (l:List GTok) (A:Option Addr) (n c:Nat) (A':Option Addr) (c' k z:Nat) (w:World) (h:Doc w l A n c A') (hk:k≤z) (hz:z≤n)
  (hrec:pg=true→∀ (j i:Nat) (W:World),Below w.heap.size w W→j≤i→i≤n→Calls Tryz.prog 37 #[.slice A n c,.slice A' n c',.int .i64 (j:Int),.int .i64 (i:Int),.bool false] W (BlockRet l j i false W)) :
  Calls Tryz.prog 37 #[.slice A n c,.slice A' n c',.int .i64 (k:Int),.int .i64 (z:Int),.bool pg] w (BlockRet l k z pg w):=by
 have hn:=h.hn;have hlenl:=h.tk.toks_len;have Hlen:=Lib.hid hlenl;have Hrec:=Lib.hid hrec;obtain⟨di0,di,dz0,dz1,dz2⟩:=info_take ru_decl_info;obtain⟨mi0,mi,mz0,mz1,mz2⟩:=info_take ru_margin_info;clear hlenl hrec
 go_enter Tryz.func37,Tryz.ntmps37
 go_wp2_with fail
 go_loopw [12,13,14] (fun v1 v2 i wr=>∃ (j:Nat) (A1:Option Addr) (n1 c1:Nat) (A2:Option Addr) (n2 c2:Nat) (md:List MDecl) (mm:List MMargin),j≤n+1∧i=.int .i64 (j:Int)∧v1=.slice A1 n1 c1∧v2=.slice A2 n2 c2∧Hid (n1=md.length∧n2=mm.length)∧BJ l pg k z w wr j (.slice A1 n1 c1) (.slice A2 n2 c2) md mm) (fun _ _ i _=>z-(intOf i).toNat)
 case atStart=>exact⟨k,none,0,0,none,0,0,[],[],by omega,rfl,rfl,rfl,⟨rfl,rfl⟩,BJ.start l pg k z w⟩
 case round =>
  obtain⟨j,A1,n1,c1,A2,n2,c2,md,mm,hj,rfl,rfl,rfl,hnn,hJ⟩:=hrel;have hb:=hJ.bel;have Pw:=h.below hb;have hbs:=hb.size
  by_cases hlt:j<z
  ·obtain⟨b,off,t,hA,hbl,ht,x0,x1,x2⟩:=Pw.tk.tok (k:=j) (by omega)
   subst hA;have dj:(j:Int)<(z:Int):=by omega
   have dj2:(j:Int)<(n:Int):=by omega
   have hst:=h.sm t (List.mem_of_getElem? ht);have w1':IntKind.i64.wrap ((j:Int)+1)=(j:Int)+1:=by rw[IntKind.wrap_i64];omega
   by_cases hsp:t.kind=1∨t.kind=15
   ·obtain⟨q1,q2⟩:=decls_sp (by rw[Hlen.out];exact hz) hlt ht hsp
    have hJ2:=hJ.to q1 (fun _=>q2);have Hsp:=Lib.hid hsp;clear q1 q2 hsp ht hJ
    cases k1:(t.kind==1) with
    | true =>
     go_wp2_with fail
     go_roundw
     case rel=>exact⟨j+1,A1,n1,c1,A2,n2,c2,md,mm,by omega,by go_num,rfl,rfl,hnn,hJ2⟩
     case measure=>simp[intOf];omega
    | false =>
     have k15:(t.kind==15)=true:=by
      rcases Hsp.out with e|e
      ·rw[e] at k1;cases k1
      ·simpa using e
     go_wp2_with fail
     go_roundw
     case rel=>exact⟨j+1,A1,n1,c1,A2,n2,c2,md,mm,by omega,by go_num,rfl,rfl,hnn,hJ2⟩
     case measure=>simp[intOf];omega
   ·have n1k:t.kind≠1:=fun e=>hsp (.inl e)
    have n15k:t.kind≠15:=fun e=>hsp (.inr e)
    have k1:(t.kind==1)=false:=by simpa using n1k
    have k15:(t.kind==15)=false:=by simpa using n15k
    by_cases h4:t.kind=4
    ·have k4:(t.kind != 4)=false:=by simp[h4]
     have hds:=decls_at (by rw[Hlen.out];exact hz) hlt ht h4;have hbd:=find_bounds (l:=l) eitherB (k:=j+1) (z:=z) (by rw[Hlen.out];exact hz) (by omega);have cF:=rr_first l _ A' n c c' (j+1) z true wr Pw.tk Pw.en hn (by omega) hz;rw[if_pos rfl] at cF;have hfis:=fun (h:findP l eitherB (j+1) z<z)=>find_is (l:=l) (is:=eitherB) (z:=z) _ _ h
     push_cast at cF
     obtain⟨e,he⟩:∃ e,findP l eitherB (j+1) z=e:=⟨_,rfl⟩;have hfis2:e<z→(l[e]?.map eitherB)=some true:=fun h=>by rw[←he] at h ⊢;exact hfis h
     have Hfis:Hid (e<z→(l[e]?.map eitherB)=some true):=hfis2;rw[he] at hds hbd cF;obtain⟨g,hg⟩:∃ g,marB l pg z j e t=g:=⟨_,rfl⟩;have hgB:g=(decide (e<z)&&((l[e]?.map braceB).getD false)&&pg&&decide (0≤boxP t.text)&&decide ((trimL (segP l (j+1) e)).length=0)):=hg.symm
     have hsk:skipP l e≤n+1∧e<skipP l e:=by
      by_cases hen:e<n
      ·have a:=skip_le (l:=l) (k:=e) (by rw[Hlen.out];exact hen)
       have b:=skip_gt (l:=l) (k:=e) (by rw[Hlen.out];exact hen);have:=Hlen.out
       omega
      ·rw[skip_past (by rw[Hlen.out];omega)];omega
     have Hds:=Lib.hid hds;have Hg:=Lib.hid hg;have HgB:=Lib.hid hgB;have Ht:=Lib.hid ht;have H4:=Lib.hid h4;have l1:=hJ.own1.lt;have l2:=hJ.own2.lt;have cX:=fun W=>rr_box t.text W hst.1
     have cC:=fun W (hW:Below wr.heap.size wr W) (hej:j+1≤e)=>rr_cut l _ n c (j+1) e W (Pw.below hW).tk hn h.hc hej (by omega)
     push_cast at cC
     clear hds he hsp n1k n15k h4 ht hg hgB hfis hfis2
     go_wp2_with fail
     refine cF.mono ?_
     rintro e1 w1 ⟨rfl,hb1⟩;have hJ1:=hJ.below hb1;have P1:=Pw.below hb1;have x1':=(hb1.cell (p:=⟨b,off+j * 3+1,none⟩) hbl).trans x1;clear cF hJ
     go_upto_region 16 with (fail)
     go_cut [105] (fun x wx=>x=.bool g∧Below w1.heap.size w1 wx)
     case first =>
      have hun:(undef:Value)=.tuple #[]:=rfl
      by_cases hez:e<z
      ·have dz:(e:Int)<(z:Int):=by omega
       have dn:(e:Int)<(n:Int):=by omega
       obtain⟨b',off',u,hA,_,hu,y0,y1,y2⟩:=P1.tk.tok (k:=e) (by omega)
       injection hA with hA
       injection hA with q1 q2
       subst q1 q2;obtain⟨q,hq⟩:∃ q,braceB u=q:=⟨_,rfl⟩
       have k12:(u.kind==12)=q:=by
        have h1:=Hfis.out hez;rw[hu] at h1;have h2:eitherB u=true:=by simpa using h1
        rw[←hq]
        exact kind_brace h2
       have hg1:g=(q&&pg&&decide (0≤boxP t.text)&&decide ((trimL (segP l (j+1) e)).length=0)):=by
        rw[HgB.out,hu,decide_eq_true hez];simp[hq]
       have HG1:=Lib.hid hg1;clear hg1 hu hq hez
       cases q with
       | false =>
        have e0:g=false:=by rw[HG1.out];rfl
        have HE:=Lib.hid e0;clear e0
        go_wp2_with fail
        go_meet
        exact⟨by rw[HE.out],Below.refl _ _⟩
       | true =>
        cases pg with
        | false =>
         have e0:g=false:=by rw[HG1.out];rfl
         have HE:=Lib.hid e0;clear e0
         go_wp2_with fail
         go_meet
         exact⟨by rw[HE.out],Below.refl _ _⟩
        | true =>
         have cX2:=cX w1;obtain⟨x,hx⟩:∃ x,boxP t.text=x:=⟨_,rfl⟩;rw[hx] at cX2;have hg2:g=(decide (0≤x)&&decide ((trimL (segP l (j+1) e)).length=0)):=by rw[HG1.out,hx];rfl
         have HG2:=Lib.hid hg2;clear hg2 hx
         go_wp2_with fail
         refine cX2.mono ?_
         rintro e3 w3 ⟨rfl,hb3⟩;have hb23:Below w1.heap.size w1 w3:=hb3
         by_cases hx0:0≤x
         ·have dx:(0:Int)≤x:=hx0
          have hg3:g=decide ((trimL (segP l (j+1) e)).length=0):=by rw[HG2.out,decide_eq_true hx0];simp
          have HG3:=Lib.hid hg3;have cC3:=cC w3 (hb1.trans (hb23.mono hb1.size)) hbd.1;obtain⟨m,hm⟩:∃ m,(trimL (segP l (j+1) e)).length=m:=⟨_,rfl⟩;have hg4:g=((m:Int)==0):=by rw[HG3.out,hm,Bool.eq_iff_iff];simp
          have HG4:=Lib.hid hg4;have Hm:=Lib.hid hm;clear hg3 hg4 hm cX2
          go_wp2_with fail
          refine cC3.mono ?_
          rintro e4 w4 ⟨⟨A5,c5,rfl,_,_⟩,hb4⟩;rw[Hm.out]
          go_wp2_with fail
          go_meet
          exact⟨by rw[HG4.out],hb23.trans (hb4.mono hb23.size)⟩
         ·have dx:¬ (0:Int)≤x:=hx0
          have e0:g=false:=by rw[HG2.out,decide_eq_false hx0];rfl
          have HE:=Lib.hid e0;clear e0 hx0
          go_wp2_with fail
          go_meet
          exact⟨by rw[HE.out],hb23⟩
      ·have dz:¬ (e:Int)<(z:Int):=by omega
       have e0:g=false:=by rw[HgB.out,decide_eq_false hez];rfl
       have HE:=Lib.hid e0;clear e0 hez
       go_wp2_with fail
       go_meet
       exact⟨by rw[HE.out],Below.refl _ _⟩
     case rest =>
      obtain⟨rfl,hbc⟩:=hcut;have hJc:=hJ1.below hbc;have Pc:=P1.below hbc;have hbcw:=hJc.bel;have b1:=hb1.size;have b2:=hbc.size
      cases g with
      | false =>
       have hJf:=hJc.to (k':=skipP l e) Hds.out.1 (fun hp=>by subst hp;rw[Hds.out.2,margin_no Ht.out Hg.out];rfl);have cS:=rr_skip l (· < wc.heap.size) A' n c' e wc Pc.en hn (by omega);clear hJ1 hJc cX cC
       go_wp2_with fail
       refine cS.mono ?_
       rintro e5 w5 ⟨rfl,rfl⟩
       go_wp2_with fail
       go_roundw
       case rel=>exact⟨skipP l e,A1,n1,c1,A2,n2,c2,md,mm,hsk.1,rfl,rfl,rfl,hnn,hJf⟩
       case measure=>simp[intOf];omega
      | true =>
       obtain⟨hez,hbr,hpg⟩:=mar_end Hg.out;obtain⟨E,hE,hE1,hE2⟩:=brace_end hbr;obtain⟨b3,off3,hA3,_,y0⟩:=Pc.en.at_ (k:=e) (by omega);rw[hE] at y0;have hEn:E≤n:=by have:=Hlen.out;omega
       subst hpg;have cR:=Hrec.out rfl (e+1) (min E z) wc hbcw (by omega) (by omega);have w2':IntKind.i64.wrap ((e:Int)+1)=(e:Int)+1:=by rw[IntKind.wrap_i64];omega
       rw[show (((min E z:Nat):Int))=min (E:Int) (z:Int) by omega] at cR
       push_cast at cR
       have HE:=Lib.hid hE;have dn:(e:Int)<(n:Int):=by omega
       subst hA3;clear hbr hE
       go_wp2_with fail
       refine cR.mono ?_
       rintro e5 w5 ⟨ds,ms,B1,d1,B2,d2,rfl,hds5,_,hD5,_,hb5⟩;have hJ5:=hJc.below hb5;have b5:=hb5.size;have hA5:Below wr.heap.size wr w5:=hb1.trans ((hbc.trans (hb5.mono hbc.size)).mono hb1.size);have a15:=(hA5.cell (p:=⟨b,off+j * 3+1,none⟩) hbl).trans x1;have cL:=fun W=>rr_lower t.text W hst.1
       have Hds5:=Lib.hid hds5;clear hds5 cR
       go_wp2_with fail
       refine(cL _).mono ?_
       rintro e6 w6 ⟨rfl,hb6⟩;have hJ6:=hJ5.below hb6;have b6:=hb6.size;have hm:DeclsS w6 (BS w w6 (.slice A1 n1 c1) (.slice A2 n2 c2)) B1 ds.length ds:=(hD5.keep (Kept.of_below hb6 (fun b hb=>hb.2))).more (fun b hb=>⟨by have:=hb.1;omega,by have:=hb.2;omega,fun e=>by have:=(l1 b e).2;have:=hb.1;omega,fun e=>by have:=(l2 b e).2;have:=hb.1;omega⟩)
       have hnl:mm.length≤1000000:=by
        have h1:=congrArg List.length hJ6.e2;simp only[if_true] at h1;rw[List.length_append,List.length_map] at h1;have h2:=margins_len l k z
        omega
       have hwB:w.heap.size≤w6.heap.size:=hJ6.bel.size;have hJ6':=Lib.hid hJ6;have hds1:=Hds.out.1;have hds2:=Hds.out.2;rw[margin_yes Ht.out H4.out Hg.out] at hds2;have hmE:(⟨lowerP t.text,declsP l (e+1) (min (endP l e).toNat z)⟩:Margin)=⟨lowerP t.text,ds⟩:=by rw[Hds5.out,HE.out];rfl
       rw[hmE] at hds2;have HD1:=Lib.hid hds1;have HD2:=Lib.hid hds2;have ho2:=hJ6.own2;clear hds1 hds2 hmE hJ1 hJc hJ5 hD5 hJ6
       go_wp2_with (at_builtin;refine wpList_append_own_at _ rfl _ _ 37 rfl w.heap.size 41 mi0 _ 2 40 Tryz.underlying37 mi mz0 mz1 mz2 rfl (by decide) _ mm.length (cellsM mm) rfl (ho2.alloc _) ⟨w6.heap.size,0,none⟩ 1 1 [.string (bytesOf (lowerP t.text)),.slice B1 ds.length d1] rfl rfl (cells_new2 _ _ _ _) ?f2 ?f3 ?f4 ?f5 ?_)
       case f2=>intro u hu;simp at hu;rcases hu with rfl | rfl<;>rfl
       case f3=>unfold maxLen;omega
       case f4=>omega
       case f5=>simp;omega
       intro v' w7 hown7 hg7 _ hat;have hJ7:=hJ6'.out.pushM (m:=⟨⟨lowerP t.text,ds⟩,B1,d1⟩) (k':=skipP l e) hm hwB hown7 hg7 hat HD1.out (by rw[HD2.out];rfl);obtain⟨A4,c4,rfl,_,_⟩:=own_form hown7;have P7:=h.below hJ7.bel;have cS:=rr_skip l (· < w7.heap.size) _ n c' e w7 P7.en hn (by omega);clear hown7 hg7 hat hm ho2 hJ6'
       go_wp2_with fail
       refine cS.mono ?_
       rintro e8 w8 ⟨rfl,rfl⟩
       go_wp2_with fail
       go_roundw
       case rel=>exact⟨skipP l e,A1,n1,c1,A4,mm.length+1,c4,md,_,hsk.1,rfl,rfl,rfl,⟨hnn.out.1,by simp⟩,hJ7⟩
       case measure=>simp[intOf];omega
    ·have k4:(t.kind != 4)=true:=by simp[h4]
     have hds:=decls_else (by rw[Hlen.out];exact hz) hlt ht n1k n15k h4;have hgt:=semi_gt (l:=l) (by rw[Hlen.out];exact hz) hlt ht n15k;have hbd:=find_bounds (l:=l) semiB (k:=j) (z:=z) (by rw[Hlen.out];exact hz) (by omega);have cF:=rr_find l 15 [] _ A' n c c' j z wr Pw.tk Pw.en hn (by omega) hz;rw[kindT_semi,findI_of] at cF;obtain⟨e,he⟩:∃ e,findP l semiB j z=e:=⟨_,rfl⟩;rw[he] at hds hgt hbd cF;have Hds:=Lib.hid hds;have h1k:∀ x,l[j]?=some x→x.kind≠1:=fun x hx=>by rw[ht] at hx;injection hx with hx;rw[←hx];exact n1k
     obtain⟨ei,hei⟩:∃ ei:Int,(if e<z then (e:Int) else -1)=ei:=⟨_,rfl⟩;rw[hei] at cF
     have hei2:(0≤ei∧ei=(e:Int))∨(ei<0∧e=z):=by
      by_cases q:e<z
      ·rw[if_pos q] at hei;left;omega
      ·rw[if_neg q] at hei;right;omega
     have Hei:=Lib.hid hei2;clear hds he hsp n1k n15k h4 ht hei hei2
     go_wp2_with fail
     refine cF.mono ?_
     rintro e1 w1 ⟨rfl,hb1⟩;have hJ1:=hJ.below hb1;have P1:=Pw.below hb1;have cD:=rr_decl l _ n c j e w1 P1.tk hn h.hc hgt (by omega) h.sm h1k;clear cF
     go_upto_if 53 with (fail)
     go_cut [15] (fun x wx=>x=.int .i64 (e:Int)∧w1=wx)
     case first =>
      by_cases hn0:ei<0
      ·have hez:e=z:=by have:=Hei.out;omega
       have HZ:=Lib.hid hez;clear hez cD
       go_wp2_with fail
       go_meet
       exact⟨by rw[HZ.out],rfl⟩
      ·have hez:ei=(e:Int):=by have:=Hei.out;omega
       have HZ:=Lib.hid hez;clear hez cD
       go_wp2_with fail
       go_meet
       exact⟨by rw[HZ.out],rfl⟩
     case rest =>
     obtain⟨rfl,rfl⟩:=hcut
     go_wp2_with fail
     refine cD.mono ?_
     rintro e2 w2 ⟨hret,hb2⟩;have hJ2:=hJ1.below hb2;have hs1:=hb1.size;have hs2:=hb2.size;have l1:=hJ.own1.lt;have l2:=hJ.own2.lt;obtain⟨od,hod⟩:∃ od,declP (segP l j e)=od:=⟨_,rfl⟩;rw[hod] at hret;have Hod:=Lib.hid hod;clear hod cD hJ hJ1
     cases od with
     | none =>
      obtain⟨xs,A3,n3,c3,b3,rfl⟩:=hret;obtain⟨WB,hWB⟩:∃ WB,w2.alloc (.cells #[.string xs,.slice A3 n3 c3,.bool b3] 34)=WB:=⟨_,rfl⟩;have bB:Below w2.heap.size w2 WB:=by rw[←hWB];exact(Below.refl _ _).alloc (Nat.le_refl _) _
      have hJB:=(hJ2.below bB).to (k':=e) (by rw[Hds.out.1,Hod.out];rfl) (fun _=>Hds.out.2);clear hJ2
      go_wp2_with fail
      go_roundw
      case rel=>exact⟨e,A1,n1,c1,A2,n2,c2,md,mm,by omega,rfl,rfl,rfl,hnn,hJB⟩
      case measure=>simp[intOf];omega
     | some d =>
      obtain⟨A3,c3,rfl,hR⟩:=hret;obtain⟨dn,dv,dim⟩:=d;simp only[] at *
      obtain⟨WB,hWB⟩:∃ WB,w2.alloc (.cells #[.string (bytesOf dn),.slice A3 dv.length c3,.bool dim] 34)=WB:=⟨_,rfl⟩;have bB:Below w2.heap.size w2 WB:=by rw[←hWB];exact(Below.refl _ _).alloc (Nat.le_refl _) _
      have rB:RowAt WB w2.heap.size [.string (bytesOf dn),.slice A3 dv.length c3,.bool dim]:=by rw[←hWB];exact RowAt.new _ _ _
      obtain⟨y0,_⟩:=rB.2 0 _ rfl;obtain⟨y1,_⟩:=rB.2 1 _ rfl;obtain⟨y2,_⟩:=rB.2 2 _ rfl;have hJB:=hJ2.below bB;have hsB:=bB.size;have hm:ReadsS WB (BS w WB (.slice A1 n1 c1) (.slice A2 n2 c2)) 3 A3 dv.length (cellsG dv):=(hR.keep (Kept.of_below bB (fun b hb=>hb.2))).more (fun b hb=>⟨by have:=hb.1;omega,by have:=hb.2;omega,fun e=>by have:=(l1 b e).2;have:=hb.1;omega,fun e=>by have:=(l2 b e).2;have:=hb.1;omega⟩)
      have hnl:md.length≤1000000:=by
       have h1:=congrArg List.length hJB.e1;rw[List.length_append,List.length_map] at h1;have h2:=decls_len l k z
       omega
      have hn1:=hnn.out.1;have hwB:w.heap.size≤WB.heap.size:=hJB.bel.size;have Hn1:=Lib.hid hn1;clear hn1 hJ2 rB
      go_wp2_with (at_builtin;refine wpList_append_own_at _ rfl _ _ 31 rfl w.heap.size 34 di0 _ 3 48 Tryz.underlying31 di dz0 dz1 dz2 rfl (by decide) _ md.length (cellsD md) rfl (hJB.own1.alloc _) ⟨WB.heap.size,0,none⟩ 1 1 [.string (bytesOf dn),.slice A3 dv.length c3,.bool dim] rfl rfl (cells_new3 _ _ _ _ _) ?e2 ?e3 ?e4 ?e5 ?_)
      case e2=>intro u hu;simp at hu;rcases hu with rfl | rfl | rfl<;>rfl
      case e3=>unfold maxLen;omega
      case e4=>omega
      case e5=>simp;omega
      intro v' w3 hown3 hg3 _ hat;have hJ4:=hJB.pushD (m:=⟨⟨dn,dv,dim⟩,A3,c3⟩) (k':=e) hm hwB hown3 hg3 hat (by rw[Hds.out.1,Hod.out];rfl) (fun _=>Hds.out.2);obtain⟨A4,c4,rfl,_,_⟩:=own_form hown3;clear hown3 hg3 hat hm hJB hR
      go_wp2_with fail
      go_roundw
      case rel=>exact⟨e,A4,md.length+1,c4,A2,n2,c2,_,mm,by omega,rfl,rfl,rfl,⟨by simp,hnn.out.2⟩,hJ4⟩
      case measure=>simp[intOf];omega
  ·have dj:¬ (j:Int)<(z:Int):=by omega
   have hfin:=hJ.done hnn.out.1 hnn.out.2 (by omega);have HF:=Lib.hid hfin;clear hfin hJ
   go_wp2_with fail
   go_ret2
   exact HF.out
theorem rr_block_false (l:List GTok) (A:Option Addr) (n c:Nat) (A':Option Addr) (c' k z:Nat) (w:World) (h:Doc w l A n c A') (hk:k≤z) (hz:z≤n) :
  Calls Tryz.prog 37 #[.slice A n c,.slice A' n c',.int .i64 (k:Int),.int .i64 (z:Int),.bool false] w (BlockRet l k z false w) :=
 rr_block_core false l A n c A' c' k z w h hk hz (fun e=>by cases e)
theorem rr_block (pg:Bool) (l:List GTok) (A:Option Addr) (n c:Nat) (A':Option Addr) (c' k z:Nat) (w:World) (h:Doc w l A n c A') (hk:k≤z) (hz:z≤n) :
  Calls Tryz.prog 37 #[.slice A n c,.slice A' n c',.int .i64 (k:Int),.int .i64 (z:Int),.bool pg] w (BlockRet l k z pg w) :=
 rr_block_core pg l A n c A' c' k z w h hk hz (fun _ j i W hW hj hi=>rr_block_false l A n c A' c' j i W (h.below hW) hj hi)
theorem rr_parse (bs:List UInt8) (A0:Option Addr) (n0 cap0:Nat) (w:World) (hr:Reads w w.heap.size 1 A0 n0 (bs.map b8)) (hm:n0≤cap0) (hcap:cap0≤maxLen) :
  Calls Tryz.prog 10 #[.slice A0 n0 cap0] w (ParseRet n0 (Tk.scanT (readP bs)) w):=by
 have hlen0:bs.length=n0:=by simpa using hr.len
 have cS:=rt_scan bs A0 n0 cap0 w hr hm hcap;obtain⟨T,hTT⟩:∃ T,Tk.scanT (readP bs)=T:=⟨_,rfl⟩;rw[hTT] at cS ⊢;have HTT:=Lib.hid hTT;have Hlen0:=Lib.hid hlen0;clear hTT hlen0
 go_enter Tryz.func10,Tryz.ntmps10
 go_wp2_with fail
 refine cS.mono ?_
 rintro e w1 ⟨hb1,hret⟩;clear cS;unfold ScanRet at hret
 by_cases hbig:65536<n0∨16384<T.length
 ·rw[if_pos hbig] at hret
  subst hret;have Hbig:=Lib.hid hbig;clear hbig
  go_wp2_with fail
  go_ret2
  unfold ParseRet;rw[if_pos Hbig.out]
  exact⟨hb1,rfl⟩
 ·rw[if_neg hbig] at hret
  obtain⟨v,rfl,hown⟩:=hret;obtain⟨A,c,rfl,hnc,hcm⟩:=own_form hown;obtain⟨l,hl⟩:∃ l,T.map Tk.Tok.g=l:=⟨_,rfl⟩;have hnl:T.length=l.length:=by rw[←hl,List.length_map]
  have hR:ReadsS w1 (· < w1.heap.size) 3 A l.length (cellsG l):=by
   have:=ReadsS.of_own hown (S:=(· < w1.heap.size)) (fun b hb=>(hown.lt b hb).2);rw[←hnl,←hl];exact this
  rw[hnl] at hown hnc hbig ⊢
  have hsm:∀ t∈l,smallT t:=by
   rw[←hl,←HTT.out]
   exact sheet_small (by rw[Hlen0.out];omega)
  have hret:∀ e w',Below w.heap.size w w'→(if (parseT l).1=0 then ∃ A c,e=.returned (.tuple #[.slice A (parseT l).2.length c,.int .i64 0])∧RulesS w' (Fresh w w') A (parseT l).2.length (parseT l).2 else e=.returned (.tuple #[.slice none 0 0,.int .i64 (parseT l).1]))→ParseRet n0 T w e w':=fun e w' h1 h2=>by
   unfold ParseRet;rw[if_neg (by rw[hnl];exact hbig),hl]
   exact⟨h1,h2⟩
  have Hret:=Lib.hid hret;obtain⟨n,hn⟩:∃ n,l.length=n:=⟨_,rfl⟩;rw[hn] at hown hR hnc hbig ⊢;have hn16:n≤16384:=by omega
  have Hn:=Lib.hid hn;have Hhl:=Lib.hid hl;have Hbig:=Lib.hid hbig;have cE:=rr_ends l A n c w1 hR (by omega);clear hnl hn hl hret hown HTT hbig
  go_wp2_with fail
  refine cE.mono ?_
  rintro e w2 ⟨hb2,hret2⟩;have hB2:Below w.heap.size w w2:=hb1.trans (hb2.mono hb1.size);clear cE
  cases hd:deepB l with
  | false =>
   rw[hd,if_neg (by decide)] at hret2;subst hret2;have hf:parseT l=(3,[]):=by unfold parseT;rw[if_pos hd]
   have HF:=Lib.hid hf;clear hf hd
   go_wp2_with fail
   go_ret2
   refine Hret.out _ _ hB2 ?_
   rw[HF.out,if_neg (by decide)]
   rfl
  | true =>
   rw[hd,if_pos rfl] at hret2;obtain⟨A2,c2,rfl,he2⟩:=hret2;have Hd:=Lib.hid hd;have hD:Doc w2 l A n c A2:=⟨hR.below hb2,he2.more (fun b h=>h.2),by omega,hnc,hsm⟩;clear hd he2 hR
   go_wp2_with fail
   go_loopw [8,9] (fun v i wr=>∃ (k:Nat) (A1:Option Addr) (n1 c1:Nat) (mr:List MRule),k≤n+1∧i=.int .i64 (k:Int)∧v=.slice A1 n1 c1∧Hid (n1=mr.length)∧RJ l w2 wr k (.slice A1 n1 c1) mr) (fun _ i _=>n-(intOf i).toNat)
   case atStart=>exact⟨0,none,0,0,[],by omega,rfl,rfl,rfl,RJ.start l w2⟩
   case round =>
    obtain⟨k,A1,n1,c1,mr,hk,rfl,rfl,hnn,hJ⟩:=hrel;obtain⟨u,hu⟩:∃ x,x=wr:=⟨_,rfl⟩;subst hu;have hb:=hJ.bel;have Dw:=hD.below hb;have hbs:=hb.size
    by_cases hlt:k<n
    ·obtain⟨b,off,t,hA,hbl,ht,x0,x1,x2⟩:=Dw.tk.tok (k:=k) hlt
     subst hA;have dk:(k:Int)<(n:Int):=by omega
     have hst:=hsm t (List.mem_of_getElem? ht);have w1':IntKind.i64.wrap ((k:Int)+1)=(k:Int)+1:=by rw[IntKind.wrap_i64];omega
     by_cases h1k:t.kind=1
     ·have k1:(t.kind==1)=true:=by simpa using h1k
      have hJ2:=hJ.to (rules_sp ht h1k);clear h1k ht hJ
      go_wp2_with fail
      go_roundw
      case rel=>exact⟨k+1,A1,n1,c1,mr,by omega,by go_num,rfl,hnn,hJ2⟩
      case measure=>simp[intOf];omega
     ·have k1:(t.kind==1)=false:=by simpa using h1k
      have hitem:=rules_item ht h1k;have hln:=Hn.out;obtain⟨e,he⟩:∃ e,ruleEnd l t k=e:=⟨_,rfl⟩;have hbd:=end_ge (l:=l) (t:=t) (k:=k) (by omega);have hnx:=rule_next (l:=l) (t:=t) (k:=k) (by omega);rw[he] at hitem hbd hnx;have hle:e≤n:=by omega
      have hsk:skipP l e≤n+1:=by
       by_cases hen:e<n
       ·have a:=skip_le (l:=l) (k:=e) (by omega)
        omega
       ·rw[skip_past (by omega)];omega
      have hfr:fromP t k≤n:=by unfold fromP;split<;>omega
      obtain⟨pg,hpg⟩:∃ pg,(t.kind==4)=pg:=⟨_,rfl⟩;have hpg4:(pg=true)=(t.kind=4):=by rw[←hpg];simp
      have hfe:(if pg=true then findP l eitherB (fromP t k) n else findP l braceB (fromP t k) n)=e:=by
       rw[←he,←hln];unfold ruleEnd fromP
       by_cases h4:t.kind=4
       ·rw[if_pos (by rw[hpg4];exact h4),if_pos h4,if_pos h4]
       ·rw[if_neg (by rw[hpg4];exact h4),if_neg h4,if_neg h4]
      have cF:=rr_first l _ A2 n c c2 (fromP t k) n pg u Dw.tk Dw.en (by omega) hfr (Nat.le_refl _);rw[hfe] at cF
      have hfe2:fromP t k≤e:=by
       rw[←hfe];have h1:=(find_bounds (l:=l) eitherB (k:=fromP t k) (z:=n) (by omega) hfr).1;have h2:=(find_bounds (l:=l) braceB (k:=fromP t k) (z:=n) (by omega) hfr).1
       split<;>assumption
      have hfis:e<n→(l[e]?.map eitherB)=some true:=fun h=>by
       rw[←hfe] at h ⊢
       by_cases h4:pg=true
       ·rw[if_pos h4] at h ⊢;exact find_is _ _ h
       ·rw[if_neg h4] at h ⊢
        have h5:=find_is (l:=l) (is:=braceB) (z:=n) _ _ h;unfold findP at h5 ⊢
        revert h5
        cases l[findF l braceB n (n-fromP t k) (fromP t k)]? with
        | none=>intro h5;cases h5
        | some x=>intro h5;simp at h5 ⊢;unfold eitherB;rw[h5];simp
      obtain⟨fr,hfr0⟩:∃ fr,fromP t k=fr:=⟨_,rfl⟩;rw[hfr0] at cF hfr hfe2
      have hfv:(fr:Int)=if pg=true then (k:Int)+1 else (k:Int):=by
       rw[←hfr0];unfold fromP
       by_cases h4:t.kind=4
       ·rw[if_pos h4,if_pos (by rw[hpg4];exact h4)];omega
       ·rw[if_neg h4,if_neg (by rw[hpg4];exact h4)]
      have Hitem:=Lib.hid hitem;have Hfr0:=Lib.hid hfr0;have Hfv:=Lib.hid hfv;have Hpg4:=Lib.hid hpg4;have Hfis:Hid (e<n→(l[e]?.map eitherB)=some true):=hfis;have Ht:=Lib.hid ht;have HJ:=Lib.hid hJ;clear hitem he hfe hfr0 ht h1k hJ hln hfis hfv hpg4
      go_upto_if 51 with (fail)
      go_cut [10,11] (fun f s wx=>f=.bool pg∧s=.int .i64 (fr:Int)∧u=wx)
      case first =>
       have e2:=Hfv.out
       cases pg with
       | true =>
        rw[if_pos rfl] at e2;have E2:=Lib.hid e2;clear e2 cF
        go_wp2_with fail
        go_meet
        exact⟨rfl,by rw[E2.out],rfl⟩
       | false =>
        rw[if_neg (by decide)] at e2;have E2:=Lib.hid e2;clear e2 cF
        go_wp2_with fail
        go_meet
        exact⟨rfl,by rw[E2.out],rfl⟩
      case rest =>
       obtain⟨rfl,rfl,rfl⟩:=hcut
       go_wp2_with fail
       refine cF.mono ?_
       rintro e1 w5 ⟨rfl,hb5⟩;have hJ5:=HJ.out.below hb5;have D5:=Dw.below hb5;have x1':=(hb5.cell (p:=⟨b,off+k * 3+1,none⟩) hbl).trans x1;have b5:=hb5.size;clear cF;obtain⟨g,hg⟩:∃ g,ruleG l t e=g:=⟨_,rfl⟩;have Hg:=Lib.hid hg
       have hgB:g=(decide (e<n)&&((l[e]?.map braceB).getD false)&&!(pg&&!decide (lowerP t.text=pageS))):=by
        rw[←hg,←Hn.out,←hpg];unfold ruleG
        congr 3
       have HgB:=Lib.hid hgB;have Hpg:=Lib.hid hpg;clear hg hgB hpg
       go_upto_region 17 with (fail)
       go_cut [85] (fun x wx=>x=.bool g∧Below w5.heap.size w5 wx)
       case first =>
        have hun:(undef:Value)=.tuple #[]:=rfl;have cL:=fun W=>rr_lower t.text W hst.1
        by_cases hen:e<n
        ·have dn2:(e:Int)<(n:Int):=by omega
         obtain⟨b',off',v,hA,_,hv,y0,y1,y2⟩:=D5.tk.tok (k:=e) (by omega)
         injection hA with hA
         injection hA with q1 q2
         subst q1 q2;obtain⟨q,hq⟩:∃ q,braceB v=q:=⟨_,rfl⟩
         have k12:(v.kind==12)=q:=by
          have h1:=Hfis.out hen;rw[hv] at h1;have h2:eitherB v=true:=by simpa using h1
          rw[←hq]
          exact kind_brace h2
         have hg1:g=(q&&!(pg&&!decide (lowerP t.text=pageS))):=by
          rw[HgB.out,hv,decide_eq_true hen];simp[hq]
         have HG1:=Lib.hid hg1;clear hg1 hv hq hen
         cases q with
         | false =>
          have e0:g=false:=by rw[HG1.out];rfl
          have HE:=Lib.hid e0;clear e0
          go_wp2_with fail
          go_meet
          exact⟨by rw[HE.out],Below.refl _ _⟩
         | true =>
          cases pg with
          | false =>
           have e0:g=true:=by rw[HG1.out];rfl
           have HE:=Lib.hid e0;clear e0
           go_wp2_with fail
           go_meet
           exact⟨by rw[HE.out],Below.refl _ _⟩
          | true =>
           by_cases hpgS:lowerP t.text=pageS
           ·have e0:g=true:=by rw[HG1.out,decide_eq_true hpgS];rfl
            have HE:=Lib.hid e0;obtain⟨s1,s2⟩:=txt_is (c:=[112,97,103,101]) hpgS;clear e0 hpgS
            go_wp2_with fail
            refine(cL _).mono ?_
            rintro e3 w8 ⟨rfl,hb8⟩
            go_wp2_with fail
            go_meet
            exact⟨by rw[HE.out],hb8⟩
           ·have e0:g=false:=by rw[HG1.out,decide_eq_false hpgS];rfl
            have HE:=Lib.hid e0;obtain⟨s1,s2⟩:=txt_not (c:=[112,97,103,101]) hpgS;clear e0 hpgS
            go_wp2_with fail
            refine(cL _).mono ?_
            rintro e3 w8 ⟨rfl,hb8⟩
            go_wp2_with fail
            go_meet
            exact⟨by rw[HE.out],hb8⟩
        ·have dn:¬ (e:Int)<(n:Int):=by omega
         have e0:g=false:=by rw[HgB.out,decide_eq_false hen];rfl
         have HE:=Lib.hid e0;clear e0 hen cL
         go_wp2_with fail
         go_meet
         exact⟨by rw[HE.out],Below.refl _ _⟩
       case rest =>
        obtain⟨rfl,hbc⟩:=hcut;obtain⟨u6,hu6⟩:∃ x,x=wc:=⟨_,rfl⟩;subst hu6;have hJc:=hJ5.below hbc;have Dc:=D5.below hbc;have bc:=hbc.size
        cases g with
        | false =>
         have hJf:=hJc.to (k':=skipP l e) (by rw[Hitem.out,rule_no Hg.out];rfl);have cS:=rr_skip l (· < u6.heap.size) A2 n c2 e u6 Dc.en (by omega) (by omega);clear hJ5 hJc
         go_wp2_with fail
         refine cS.mono ?_
         rintro e2 w6 ⟨rfl,rfl⟩
         go_wp2_with fail
         go_roundw
         case rel=>exact⟨skipP l e,A1,n1,c1,mr,hsk,rfl,rfl,hnn,hJf⟩
         case measure=>simp[intOf];omega
        | true =>
         obtain⟨hen,hbr,hrl⟩:=rule_yes (k:=k) Hg.out;obtain⟨E,hE,hE1,hE2⟩:=brace_end hbr;have hln:=Hn.out;have hen2:e<n:=by omega
         have hEn:E≤n:=by omega
         have cC:=rr_cut l _ n c fr e u6 Dc.tk (by omega) hnc hfe2 (by omega);rw[Hfr0.out] at hrl;obtain⟨pv,hpv⟩:∃ pv,trimL (segP l fr e)=pv:=⟨_,rfl⟩
         have hpl:pv.length≤n:=by
          have h2:=trim_len (segP l fr e);rw[seg_length] at h2;rw[←hpv];omega
         have hps:∀ x∈pv,smallT x:=fun x hx=>hsm x (seg_mem (trim_mem (by rw[hpv];exact hx)))
         rw[hpv] at cC hrl;rw[hE] at hrl;rw[show ((E:Int)).toNat=E by omega] at hrl;have Hrl:=Lib.hid hrl;have HE:=Lib.hid hE;clear hrl hE hbr hpv hln hJ5
         go_wp2_with fail
         refine cC.mono ?_
         rintro e3 w7 ⟨⟨A6,c6,rfl,hc6,hR6⟩,hb7⟩;have b7:=hb7.size;obtain⟨Wz,hWz⟩:∃ Wz,w7.alloc (.cells #[.int .i64 0,.slice none 0 0,.slice none 0 0,.slice none 0 0] 39)=Wz:=⟨_,rfl⟩;have bWz:Below w7.heap.size w7 Wz:=by rw[←hWz];exact(Below.refl _ _).alloc (Nat.le_refl _) _
         have rWz:RowAt Wz w7.heap.size [.int .i64 0,.slice none 0 0,.slice none 0 0,.slice none 0 0]:=by rw[←hWz];exact RowAt.new _ _ _
         obtain⟨v0,g0⟩:=rWz.2 0 _ rfl;obtain⟨v1,g1⟩:=rWz.2 1 _ rfl;obtain⟨v2,g2⟩:=rWz.2 2 _ rfl;obtain⟨v3,g3⟩:=rWz.2 3 _ rfl;obtain⟨W7,hW7⟩:∃ W7,(((Wz.setCell ⟨w7.heap.size,0,none⟩ (.int .i64 1)).setCell ⟨w7.heap.size,1,none⟩ (.slice A6 pv.length c6)).setCell ⟨w7.heap.size,2,none⟩ (.slice none 0 0)).setCell ⟨w7.heap.size,3,none⟩ (.slice none 0 0)=W7:=⟨_,rfl⟩
         have bW7:Below w7.heap.size w7 W7:=by
          rw[←hW7]
          exact(((bWz.setCell (p:=⟨w7.heap.size,0,none⟩) (Nat.le_refl _) _).setCell (p:=⟨w7.heap.size,1,none⟩) (Nat.le_refl _) _).setCell (p:=⟨w7.heap.size,2,none⟩) (Nat.le_refl _) _).setCell (p:=⟨w7.heap.size,3,none⟩) (Nat.le_refl _) _
         have rW7:RowAt W7 w7.heap.size [.int .i64 1,.slice A6 pv.length c6,.slice none 0 0,.slice none 0 0]:=by
          rw[←hW7]
          exact(((rWz.store 0 (.int .i64 1)).store 1 (.slice A6 pv.length c6)).store 2 (.slice none 0 0)).store 3 (.slice none 0 0)
         clear cC;obtain⟨kd,hkd⟩:∃ kd:Int,(if pg=true then (2:Int) else 1)=kd:=⟨_,rfl⟩;have Hkd:=Lib.hid hkd;clear hkd;obtain⟨z0,f0⟩:=rW7.2 0 _ rfl
         go_upto_if 91 with (fail)
         go_cut [13] (fun x wx=>x=.pointer (some ⟨w7.heap.size,0,none⟩)∧RowAt wx w7.heap.size [.int .i64 kd,.slice A6 pv.length c6,.slice none 0 0,.slice none 0 0]∧Below w7.heap.size w7 wx)
         case first =>
          cases pg with
          | true =>
           have rX:=rW7.store 0 (.int .i64 2);have bX:=bW7.setCell (p:=⟨w7.heap.size,0,none⟩) (Nat.le_refl _) (.int .i64 2);have e2:kd=2:=by rw[←Hkd.out,if_pos rfl]
           have E2:=Lib.hid e2;clear e2
           go_wp2_with fail
           go_meet
           exact⟨rfl,by rw[E2.out];exact rX,bX⟩
          | false =>
           have e2:kd=1:=by rw[←Hkd.out,if_neg (by decide)]
           have E2:=Lib.hid e2;clear e2
           go_wp2_with fail
           go_meet
           exact⟨rfl,by rw[E2.out];exact rW7,bW7⟩
         case rest =>
          obtain⟨rfl,rX,bX⟩:=hcut;obtain⟨wX,huX⟩:∃ x,x=wc:=⟨_,rfl⟩;subst huX;have hB7:Below u6.heap.size u6 wX:=hb7.trans (bX.mono b7);have DX:=Dc.below hB7;obtain⟨b3,off3,hA3,hl3,y3⟩:=DX.en.at_ (k:=e) (by omega);subst hA3;rw[HE.out] at y3;have cR:=rr_block pg l _ n c _ c2 (e+1) E wX DX (by omega) (by omega);have we1:IntKind.i64.wrap ((e:Int)+1)=(e:Int)+1:=by rw[IntKind.wrap_i64];omega
          have de:(e:Int)<(n:Int):=by omega
          have de0:(0:Int)≤(e:Int):=by omega
          push_cast at cR
          have hgX:=rX.1;have sX:=bX.size
          go_wp2_with fail
          refine cR.mono ?_
          rintro e8 w8 ⟨ds,ms,B1,d1,B2,d2,rfl,hds,hms,hD8,hM8,hb8⟩;have b8':=hb8.size;have r8:=rX.below hb8 hgX;obtain⟨z2,f2⟩:=r8.2 2 _ rfl;obtain⟨z3,f3⟩:=r8.2 3 _ rfl;have rF:=(r8.store 2 (.slice B1 ds.length d1)).store 3 (.slice B2 ms.length d2)
          have bF0:Below w7.heap.size w7 ((w8.setCell ⟨w7.heap.size,2,none⟩ (.slice B1 ds.length d1)).setCell ⟨w7.heap.size,3,none⟩ (.slice B2 ms.length d2)) :=
           ((bX.trans (hb8.mono sX)).setCell (p:=⟨w7.heap.size,2,none⟩) (Nat.le_refl _) _).setCell (p:=⟨w7.heap.size,3,none⟩) (Nat.le_refl _) _
          have hne:∀ x,Fresh wX w8 x→x≠w7.heap.size:=fun x hx=>by have:=hx.1;omega
          have hkp:Kept (Fresh wX w8) w8 ((w8.setCell ⟨w7.heap.size,2,none⟩ (.slice B1 ds.length d1)).setCell ⟨w7.heap.size,3,none⟩ (.slice B2 ms.length d2)):=(Kept.setCell (p:=⟨w7.heap.size,2,none⟩) _ hne).trans (fun b hb=>Below.heap_setCell _ _ _ _ (hne b hb));have hDF:=hD8.keep hkp;have hMF:=hM8.keep hkp;have szF:w8.heap.size≤((w8.setCell ⟨w7.heap.size,2,none⟩ (.slice B1 ds.length d1)).setCell ⟨w7.heap.size,3,none⟩ (.slice B2 ms.length d2)).heap.size:=by simp[World.setCell]
          obtain⟨wF,hwF⟩:∃ wF,(w8.setCell ⟨w7.heap.size,2,none⟩ (.slice B1 ds.length d1)).setCell ⟨w7.heap.size,3,none⟩ (.slice B2 ms.length d2)=wF:=⟨_,rfl⟩;rw[hwF] at rF bF0 hDF hMF szF;have l0:=hJc.own.lt;have s3:=hJc.bel.size;have sF:=bF0.size;have hBF:Below u6.heap.size u6 wF:=hb7.trans (bF0.mono b7);have hJF:=hJc.below hBF;have hRF:=hR6.keep (Kept.of_below bF0 (fun b hb=>hb.2));have hRS:ReadsS wF (· < wF.heap.size) 3 A6 pv.length (cellsG pv):=hRF.more (fun b hb=>by have:=hb.2;omega);have cSo:=rr_sound pv A6 pv.length c6 wF hRS (by omega) hps;obtain⟨y1,yf1⟩:=rF.2 1 _ rfl;have hgF:=rF.1;have Hds:=Lib.hid hds;have Hms:=Lib.hid hms;clear hds hms hJc cR hkp hD8 hM8 r8
          go_wp2_with fail
          refine cSo.mono ?_
          rintro e9 w9 ⟨rfl,hb9⟩;have hJ9:=hJF.below hb9;have s9:=hb9.size;have r9:=rF.below hb9 hgF;have hR9:=hRF.keep (Kept.of_below hb9 (fun b hb=>by have:=hb.2;omega));have hD9:=hDF.keep (Kept.of_below hb9 (fun b hb=>by have:=hb.2;omega));have hM9:=hMF.keep (Kept.of_below hb9 (fun b hb=>by have:=hb.2;omega));obtain⟨z0',_⟩:=r9.2 0 _ rfl;obtain⟨z1',_⟩:=r9.2 1 _ rfl;obtain⟨z2',_⟩:=r9.2 2 _ rfl;obtain⟨z3',_⟩:=r9.2 3 _ rfl;have Dj:=hD.below hJ9.bel;clear hJF cSo rF hRF hDF hMF
          cases hso:soundP pv with
          | false =>
           have hJf:=hJ9.to (k':=skipP l e) (by rw[Hitem.out,Hrl.out,hso];rfl);have cS:=rr_skip l (· < w9.heap.size) _ n c2 e w9 Dj.en (by omega) (by omega);clear hJ9
           go_wp2_with fail
           refine cS.mono ?_
           rintro e2 w10 ⟨rfl,rfl⟩
           go_wp2_with fail
           go_roundw
           case rel=>exact⟨skipP l e,A1,n1,c1,mr,hsk,rfl,rfl,hnn,hJf⟩
           case measure=>simp[intOf];omega
          | true =>
           have hru:rulesP l k=(⟨kd,pv,ds,ms⟩:Rule)::rulesP l (skipP l e):=by
            rw[Hitem.out,Hrl.out,hso,if_pos rfl];have h4:=Hpg4.out;rw[←Hkd.out,Hds.out,Hms.out]
            by_cases hp:pg=true
            ·rw[if_pos hp,if_pos (by rw[←h4];exact hp),if_pos hp,if_pos (by rw[←h4];exact hp)];rfl
            ·rw[if_neg hp,if_neg (by rw[←h4];exact hp),if_neg hp,if_neg (by rw[←h4];exact hp)];rfl
           have hnl:mr.length≤1000000:=by
            have h1:=congrArg List.length hJ9.e1;rw[List.length_append,List.length_map] at h1;have h2:=rules_len l;have:=Hn.out
            omega
           have hwB:w2.heap.size≤w9.heap.size:=hJ9.bel.size
           have hm:MRule.Reads w9 (RS w2 w9 (.slice A1 n1 c1)) ⟨⟨kd,pv,ds,ms⟩,A6,c6,B1,d1,B2,d2⟩ :=
            ⟨hR9.more (fun b hb=>⟨by have:=hb.1;omega,by have:=hb.2;omega,fun e=>by have:=(l0 b e).2;have:=hb.1;omega⟩),
             hD9.more (fun b hb=>⟨by have:=hb.1;omega,by have:=hb.2;omega,fun e=>by have:=(l0 b e).2;have:=hb.1;omega⟩),
             hM9.more (fun b hb=>⟨by have:=hb.1;omega,by have:=hb.2;omega,fun e=>by have:=(l0 b e).2;have:=hb.1;omega⟩)⟩
           obtain⟨ri0,ri,rz0,rz1,rz2⟩:=info_take ru_rule_info;have ho9:=hJ9.own;have HJ9:=Lib.hid hJ9;have Hru:=Lib.hid hru;clear hru hR9 hD9 hM9 hJ9 r9 hso
           go_wp2_with (at_builtin;refine wpList_append_own_at _ rfl _ _ 24 rfl w2.heap.size 39 ri0 _ 4 80 Tryz.underlying24 ri rz0 rz1 rz2 rfl (by decide) _ mr.length (cellsR mr) rfl (ho9.alloc _) ⟨w9.heap.size,0,none⟩ 1 1 [.int .i64 kd,.slice A6 pv.length c6,.slice B1 ds.length d1,.slice B2 ms.length d2] rfl rfl (cells_new4 _ _ _ _ _ _) (by intro u hu;simp at hu;rcases hu with rfl | rfl | rfl | rfl<;>rfl) (by unfold maxLen;omega) (by omega) (by simp;omega) ?_;intro v' w10 hown10 hg10 _ hat)
           have hJ10:=HJ9.out.push (m:=⟨⟨kd,pv,ds,ms⟩,A6,c6,B1,d1,B2,d2⟩) (k':=skipP l e) hm hwB hown10 hg10 (hat.imp (fun e=>e) (fun e=>e.trans (by simp))) Hru.out;obtain⟨A4,c4,rfl,_,_⟩:=own_form hown10;have D10:=hD.below hJ10.bel;have cS:=rr_skip l (· < w10.heap.size) _ n c2 e w10 D10.en (by omega) (by omega);clear hown10 hg10 hat hm ho9 HJ9
           go_wp2_with fail
           refine cS.mono ?_
           rintro e2 w11 ⟨rfl,rfl⟩
           go_wp2_with fail
           go_roundw
           case rel=>exact⟨skipP l e,A4,mr.length+1,c4,_,hsk,rfl,rfl,by show _=_;simp,hJ10⟩
           case measure=>simp[intOf];omega
    ·have dk:¬ (k:Int)<(n:Int):=by omega
     obtain⟨hl1,hl2⟩:=hJ.done hnn.out (by rw[Hn.out];omega);have hbF:=hB2.trans (hb.mono hB2.size)
     by_cases hgt:1024<n1
     ·have hf:parseT l=(2,[]):=by unfold parseT;rw[Hd.out,if_neg (by decide),if_pos (by omega)]
      have HF:=Lib.hid hf;have dg:(1024:Int)<(n1:Int):=by omega
      clear hf hl1 hl2 hJ
      go_wp2_with fail
      go_ret2
      refine Hret.out _ _ hbF ?_
      rw[HF.out,if_neg (by decide)]
      rfl
     ·have hf:parseT l=(0,rulesP l 0):=by unfold parseT;rw[Hd.out,if_neg (by decide),if_neg (by omega)]
      have HF:=Lib.hid hf;have dg:¬ (1024:Int)<(n1:Int):=by omega
      have hfin:Hid (RulesS u (Fresh w u) A1 (rulesP l 0).length (rulesP l 0)):=hl2.more (fun b hb=>⟨by have:=hb.1;have:=hB2.size;omega,hb.2⟩);have Hl1:=Lib.hid hl1;clear hf hl1 hl2 hJ
      go_wp2_with fail
      go_ret2
      refine Hret.out _ _ hbF ?_
      rw[HF.out,if_pos rfl]
      exact⟨A1,c1,by rw[Hl1.out];rfl,hfin.out⟩
def Ru.parseOut (n0:Nat) (T:List Tk.Tok):List Rule×Int :=
 if 65536<n0∨16384<T.length then ([],2) else if (parseT (T.map Tk.Tok.g)).1=0 then ((parseT (T.map Tk.Tok.g)).2,0) else ([],(parseT (T.map Tk.Tok.g)).1)
theorem RulesS.nil_ {w:World} {S:Nat→Prop} {A:Option Addr}:RulesS w S A 0 []:=⟨[],rfl,ReadsS.nil,fun x hx=>by cases hx⟩
theorem ParseRet.out {n0:Nat} {T:List Tk.Tok} {w:World} {e:Ending} {w':World} (h:ParseRet n0 T w e w') :
  Below w.heap.size w w'∧∃ A c,e=.returned (.tuple #[.slice A (parseOut n0 T).1.length c,.int .i64 (parseOut n0 T).2])∧RulesS w' (Fresh w w') A (parseOut n0 T).1.length (parseOut n0 T).1:=by
 obtain⟨hb,h⟩:=h
 refine⟨hb,?_⟩
 unfold parseOut
 split at h
 ·rename_i h1
  rw[if_pos h1]
  exact⟨none,0,h,RulesS.nil_⟩
 ·rename_i h1
  rw[if_neg h1]
  split at h
  ·rename_i h2
   rw[if_pos h2]
   exact h
  ·rename_i h2
   rw[if_neg h2]
   exact⟨none,0,h,RulesS.nil_⟩
end Go.Proofs.YtfhdihdafmahgaaGreatDoor
