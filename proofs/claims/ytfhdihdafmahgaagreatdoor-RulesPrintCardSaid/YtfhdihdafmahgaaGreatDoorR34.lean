import Derived.Test.YtfhdihdafmahgaaGreatDoorR31
import Derived.Test.YtfhdihdafmahgaaGreatDoorR29
set_option linter.unusedVariables false
set_option linter.unusedSimpArgs false
set_option maxRecDepth 100000
set_option maxHeartbeats 8000000
namespace Go.Proofs.YtfhdihdafmahgaaGreatDoor
open Go.RowKit Rn Tp Tk Fx
def clashB (t u:GTok):Bool:=((t.kind==1)&&(u.kind==1))||((t.kind==7)&&!(u.kind==1))||((t.kind==11)&&decide (t.text=[92])&&!(u.kind==1))
theorem stand_some (t u:GTok):standB t (some u)=(oneB t&&!clashB t u):=by
 have ed:∀ a b:Int,(a==b)=decide (a=b):=fun a b=>by rw[Bool.eq_iff_iff];simp
 unfold standB clashB;simp only[ed,decide_not,ne_eq];generalize oneB t=one;generalize decide (t.kind=1)=p1;generalize decide (t.kind=7)=p7;generalize decide (t.kind=11)=p11;generalize decide (t.text=[92])=pt;generalize decide (u.kind=1)=pu
 cases one<;>cases p1<;>cases p7<;>cases p11<;>cases pt<;>cases pu<;>rfl
theorem rp_rights (l:List GTok) (A:Option Addr) (n cap:Nat) (w:World) (hr:TokRow w w.heap.size A n l) :
  Calls Tryz.prog 73 #[.slice A n cap] w fun e w'=>e=.returned (.bool (rightB l))∧Below w.heap.size w w':=by
 have hlen:l.length=n:=hr.rd.len;have hn:=hr.hn;have Hlen:=Lib.hid hlen;clear hlen
 go_enter Tryz.func73,Tryz.ntmps73
 go_wp2_with fail
 go_loopw [3] (fun i wr=>∃ k:Nat,k≤n∧i=.int .i64 k∧Hid (pairsB l=pairsB (l.drop k))∧Below w.heap.size w wr) (fun i _=>n-(intOf i).toNat)
 case atStart=>exact⟨0,by omega,rfl,rfl,Below.refl _ _⟩
 case round =>
  obtain⟨k,hk,rfl,hrun,hb⟩:=hrel;have hbs:=hb.size;have hrw:=hr.below hb
  by_cases hlt:k<n
  ·obtain⟨b,off,t,hA,hbw,ht,c0,c1,c2⟩:=hrw.rd.at_ hlt
   subst hA;have hsm:=hr.small t (List.mem_of_getElem? ht);have hstep:=pairs_drop ht;have dk:decide ((k:Int)<(n:Int))=true:=by simp;omega
   have hO:=rp_one t wr hsm.1 ⟨hsm.2.1,hsm.2.2⟩;have hwk:IntKind.i64.wrap ((k:Int)+1)=(k:Int)+1:=by rw[IntKind.wrap_i64];omega
   have cells:∀ {W:World},Below wr.heap.size wr W→W.cell? ⟨b,off+k * 3,none⟩=some (.int .i64 t.kind)∧W.cell? ⟨b,off+k * 3+1,none⟩=some (.string (bytesOf t.text)):=fun h=>⟨(h.cell (p:=⟨b,off+k * 3,none⟩) (Nat.lt_of_lt_of_le hbw hbs)).trans c0,(h.cell (p:=⟨b,off+k * 3+1,none⟩) (Nat.lt_of_lt_of_le hbw hbs)).trans c1⟩
   have base:∀ {W:World},Below wr.heap.size wr W→Below w.heap.size w W:=fun h=>hb.trans (h.mono hbs)
   obtain⟨kind,text,num⟩:=t;simp only[] at *
   obtain⟨one,hone⟩:∃ o,oneB ⟨kind,text,num⟩=o:=⟨_,rfl⟩;rw[hone] at hO
   cases one with
   | false =>
    have hfin:rightB l=false:=by
     unfold rightB;rw[hrun.out,hstep];unfold standB;rw[hone];simp
    have HF:=Lib.hid hfin;clear hfin hrun hstep hone ht
    go_wp2_with fail
    refine hO.mono ?_
    rintro e w1 ⟨rfl,hb1⟩
    go_wp2
    go_ret
    exact⟨ret_bool HF.out.symm,base hb1⟩
   | true =>
    by_cases h1:k+1<n
    ·obtain⟨b',off',u,hA',_,hu,d0,_,_⟩:=hr.rd.at_ h1
     injection hA' with hA'
     injection hA' with e1 e2
     subst e1 e2;rw[hu,stand_some,hone,Bool.true_and] at hstep;obtain⟨cl,hcl⟩:∃ cl,clashB ⟨kind,text,num⟩ u=cl:=⟨_,rfl⟩;rw[hcl] at hstep;unfold clashB at hcl;simp only[] at hcl;have HS:=Lib.hid hstep;have Hcl:=Lib.hid hcl;have dl:((k:Int)+1==(n:Int))=false:=by simp;omega
     have d0':∀ {W:World},Below wr.heap.size wr W→W.cell? ⟨b,off+(k+1) * 3,none⟩=some (.int .i64 u.kind):=fun h=>((base h).cell (p:=⟨b,off+(k+1) * 3,none⟩) hbw).trans d0
     clear hstep hcl hu ht hone d0
     go_wp2_with fail
     refine hO.mono ?_
     rintro e w1 ⟨rfl,hb1⟩;obtain⟨y0,y1⟩:=cells hb1;have y2:=d0' hb1;have hb1s:=hb1.size;have hblt:b<w1.heap.size:=Nat.lt_of_lt_of_le (Nat.lt_of_lt_of_le hbw hbs) hb1s
     go_upto_region 10 with (fail)
     go_cut [77] (fun x wx=>x=.bool cl∧Below w1.heap.size w1 wx)
     case first =>
      rename_i JJ KK hJJ hKK;have z0:=bw_cell (B:=w1.heap.size) y0 hblt;have z1:=bw_cell (B:=w1.heap.size) y1 hblt;have hcl:=Hcl.out;have hkn:(k:Int)<(n:Int):=by omega
      cases t1:(kind==1) with
      | true =>
       have t7:(kind==7)=false:=by rw[show kind=1 by simpa using t1];rfl
       have t11:(kind==11)=false:=by rw[show kind=1 by simpa using t1];rfl
       rw[t1,t7,t11] at hcl
       cases tu:(u.kind==1) with
       | true =>
        have HB:=Lib.hid (show cl=true by rw[←hcl,tu];rfl);clear hcl Hcl HS
        refine wp_region_bw w1.heap.size (by kernel_rfl) (by kernel_rfl) ?_
        repeat(go_big_quiet_step (fail))
        refine wpQuiet_nil ?_
        intro _ hw';obtain⟨W,rfl⟩:=hw'
        go_wp2_with fail
        go_meet
        exact⟨by rw[HB.out],W.is⟩
       | false =>
        have HB:=Lib.hid (show cl=false by rw[←hcl,tu];rfl);clear hcl Hcl HS
        refine wp_region_bw w1.heap.size (by kernel_rfl) (by kernel_rfl) ?_
        repeat(go_big_quiet_step (fail))
        refine wpQuiet_nil ?_
        intro _ hw';obtain⟨W,rfl⟩:=hw'
        go_wp2_with fail
        go_meet
        exact⟨by rw[HB.out],W.is⟩
      | false =>
       cases t7:(kind==7) with
       | true =>
        have t11:(kind==11)=false:=by rw[show kind=7 by simpa using t7];rfl
        rw[t1,t7,t11] at hcl
        cases tu:(u.kind==1) with
        | true =>
         have tu2:(u.kind != 1)=false:=by simp only[bne,tu];rfl
         have HB:=Lib.hid (show cl=false by rw[←hcl,tu];rfl);clear hcl Hcl HS
         refine wp_region_bw w1.heap.size (by kernel_rfl) (by kernel_rfl) ?_
         repeat(go_big_quiet_step (fail))
         refine wpQuiet_nil ?_
         intro _ hw';obtain⟨W,rfl⟩:=hw'
         go_wp2_with fail
         go_meet
         exact⟨by rw[HB.out],W.is⟩
        | false =>
         have tu2:(u.kind != 1)=true:=by simp only[bne,tu];rfl
         have HB:=Lib.hid (show cl=true by rw[←hcl,tu];rfl);clear hcl Hcl HS
         refine wp_region_bw w1.heap.size (by kernel_rfl) (by kernel_rfl) ?_
         repeat(go_big_quiet_step (fail))
         refine wpQuiet_nil ?_
         intro _ hw';obtain⟨W,rfl⟩:=hw'
         go_wp2_with fail
         go_meet
         exact⟨by rw[HB.out],W.is⟩
       | false =>
        cases t11:(kind==11) with
        | false =>
         rw[t1,t7,t11] at hcl;have HB:=Lib.hid (show cl=false by rw[←hcl];simp);clear hcl Hcl HS
         refine wp_region_bw w1.heap.size (by kernel_rfl) (by kernel_rfl) ?_
         repeat(go_big_quiet_step (fail))
         refine wpQuiet_nil ?_
         intro _ hw';obtain⟨W,rfl⟩:=hw'
         go_wp2_with fail
         go_meet
         exact⟨by rw[HB.out],W.is⟩
        | true =>
         rw[t1,t7,t11] at hcl;simp only[Bool.false_and,Bool.false_or,Bool.true_and] at hcl;have HB:=Lib.hid hcl;clear hcl Hcl HS
         refine Code.wp_mono ?_ (rp_test _ _ _ _ _ _ _ _ _ _ _ _ _ _ _ _ _ _ _ _ _ _ _ _ _ _ _ _ _ _ _ _ _ _ _ _ _ _ _ _ _ _ _ _ _ _ _ _ _ _ _ _ _ _ _ _ _ _ _ _ _ _ _ _ _ _ _ _ _ _ _ _ _ _ _ _ _ _ hblt hlt hn y0 y1 t1 t7 t11)
         intro e a W hQ
         cases e<;>first | exact hQ.elim | skip
         obtain⟨⟨v34,v35,v36,v37,v38,v39,v40,v41,v42,v43,v44,v45,v46,v47,v48,v49,v50,v51,v52,v53,v54,v55,v56,v57,v58,v59,v60,v61,v62,v63,v64,v65,v66,v67,v68,v69,v70,v71,v72,v73,v74,v75,v76,rfl⟩,hbW⟩:=hQ;rw[HB.out]
         refine hKK _ _ ?_
         go_meet
         exact⟨rfl,hbW⟩
     case rest =>
      obtain⟨rfl,hbc⟩:=hcut;have hbx:Below w.heap.size w wc:=base (hb1.trans (hbc.mono hb1s))
      cases cl with
      | true =>
       have hfin:rightB l=false:=by
        unfold rightB;rw[hrun.out,HS.out];simp
       have HF:=Lib.hid hfin;clear hfin HS Hcl hrun
       go_wp2
       go_ret
       exact⟨ret_bool HF.out.symm,hbx⟩
      | false =>
       have hnew:Hid (pairsB l=pairsB (l.drop (k+1))):=by
        show _=_
        rw[hrun.out,HS.out];simp
       clear HS Hcl hrun
       go_wp2_with fail
       go_roundw
       case rel=>exact⟨k+1,by omega,by go_num,hnew,hbx⟩
       case measure=>simp[intOf];omega
    ·have hnx:l[k+1]?=none:=List.getElem?_eq_none (by rw[Hlen.out];omega)
     rw[hnx] at hstep;have dl:((k:Int)+1==(n:Int))=true:=by simp;omega
     unfold standB at hstep;rw[hone] at hstep;simp only[Bool.true_and] at hstep;have HS:=Lib.hid hstep;clear hstep hnx hone ht
     cases k7:(kind==7) with
     | true =>
      have hfin:rightB l=false:=by
       unfold rightB;rw[hrun.out,HS.out];have:kind=7:=by simpa using k7
       simp[this]
      have HF:=Lib.hid hfin;clear hfin hrun HS
      go_wp2_with fail
      refine hO.mono ?_
      rintro e w1 ⟨rfl,hb1⟩;obtain⟨y0,y1⟩:=cells hb1
      go_wp2
      go_ret
      exact⟨ret_bool HF.out.symm,base hb1⟩
     | false =>
      have hnew:Hid (pairsB l=pairsB (l.drop (k+1))):=by
       show _=_
       rw[hrun.out,HS.out];have:¬ kind=7:=by simpa using k7
       simp[this]
      clear hrun HS
      go_wp2_with fail
      refine hO.mono ?_
      rintro e w1 ⟨rfl,hb1⟩;obtain⟨y0,y1⟩:=cells hb1
      go_wp2_with fail
      go_roundw
      case rel=>exact⟨k+1,by omega,by go_num,hnew,base hb1⟩
      case measure=>simp[intOf];omega
  ·obtain rfl:k=n:=by omega
   have dk:decide ((k:Int)<(k:Int))=false:=by simp
   have hfin:rightB l=decide ((k:Int)≤16384):=by
    unfold rightB;rw[hrun.out,←Hlen.out,List.drop_length]
    simp[pairsB];omega
   have HB:=Lib.hid hfin;clear hfin hrun hlt hk
   go_wp2
   go_ret
   exact⟨ret_bool HB.out.symm,hb⟩
end Go.Proofs.YtfhdihdafmahgaaGreatDoor
