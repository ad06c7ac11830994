import Derived.Test.YtfhdihdafmahgaaGreatDoorR27
set_option linter.unusedVariables false
set_option linter.unusedSimpArgs false
set_option maxRecDepth 100000
set_option maxHeartbeats 8000000
namespace Go.Proofs.YtfhdihdafmahgaaGreatDoor
open Go.RowKit Rn Tp Tk Fx
theorem one_none {t:GTok} (h:utfP t.text=none):oneB t=false:=by unfold oneB;rw[h]
theorem one_some {t:GTok} {cs:List Int} (h:utfP t.text=some cs):oneB t=(decide ((0:Int)∉cs)&&numOk t.kind t.n&&kindB t.kind cs):=by unfold oneB;rw[h]
def badS:List Int:=[9,10,12,13,32,34,39,40,41,91,93,123,125,58,59,44]
theorem delim_bad (c:Int):delimB c=(!beginsB c&&!(decide (48≤c)&&decide (c≤57))&&!decide (c∈badS)):=by
 unfold delimB digitB whiteB badS
 cases beginsB c
 ·rw[Bool.eq_iff_iff]
  simp
  omega
 ·simp
theorem rp_one (t:GTok) (w:World) (hl:t.text.length≤1000000) (hn:-9223372036854775808≤t.n∧t.n≤9223372036854775807) :
  Calls Tryz.prog 109 #[tokG t] w fun e w'=>e=.returned (.bool (oneB t))∧Below w.heap.size w w':=by
 obtain⟨kind,text,n⟩:=t;simp only[] at hl hn;obtain⟨wA,hwA⟩:∃ wA,w.alloc (.cells #[.int .i64 kind,.string (bytesOf text),.int .i64 n] 58)=wA:=⟨_,rfl⟩;have bA:Below w.heap.size w wA:=by rw[←hwA];exact(Below.refl _ _).alloc (Nat.le_refl _) _
 have rA:RowAt wA w.heap.size [.int .i64 kind,.string (bytesOf text),.int .i64 n]:=by rw[←hwA];exact RowAt.new _ _ _
 obtain⟨x0,_⟩:=rA.2 0 _ rfl;obtain⟨x1,_⟩:=rA.2 1 _ rfl;obtain⟨x2,_⟩:=rA.2 2 _ rfl;obtain⟨R,hR⟩:∃ R,oneB ⟨kind,text,n⟩=R:=⟨_,rfl⟩;rw[hR];have hC:=rp_chars text wA hl;have base:∀ {W1:World},Below wA.heap.size wA W1→Below w.heap.size w W1:=fun h=>bA.trans (h.mono bA.size)
 have cells:∀ {W1:World},Below wA.heap.size wA W1→W1.cell? ⟨w.heap.size,0,none⟩=some (.int .i64 kind)∧W1.cell? ⟨w.heap.size,1,none⟩=some (.string (bytesOf text))∧W1.cell? ⟨w.heap.size,2,none⟩=some (.int .i64 n):=fun h=>⟨(h.cell (p:=⟨w.heap.size,0,none⟩) rA.1).trans x0,(h.cell (p:=⟨w.heap.size,1,none⟩) rA.1).trans x1,(h.cell (p:=⟨w.heap.size,2,none⟩) rA.1).trans x2⟩
 cases hu:utfP text with
 | none =>
  rw[hu] at hC;obtain rfl:R=false:=by rw[←hR];exact one_none hu
  clear hR hu
  go_enter Tryz.func109,Tryz.ntmps109
  go_wp2_with fail
  refine hC.mono ?_
  rintro e w1 ⟨⟨v,rfl⟩,hb⟩
  go_wp2
  go_ret
  exact⟨rfl,base hb⟩
 | some cs =>
  rw[hu] at hC;have hO:=one_some (t:=⟨kind,text,n⟩) hu;rw[hR] at hO;simp only[] at hO hC
  have hcl:cs.length≤1000000:=by
   obtain⟨e3,hv⟩:=utf_some hu;have:=posU_ge cs cs.length (Nat.le_refl _);rw[posU_end,←e3] at this;omega
  have hvr:∀ c∈cs,isB c=true:=(utf_some hu).2;have HO:=Lib.hid hO;have Hv:=Lib.hid hvr;clear hR hu hO hvr
  go_enter Tryz.func109,Tryz.ntmps109
  go_wp2_with fail
  refine hC.mono ?_
  rintro e w1 ⟨⟨v,rfl,hown⟩,hb⟩;obtain⟨A,co,rfl,hco,hcm⟩:=own_form hown;have hrd:=Reads.of_own hown;obtain⟨y0,y1,y2⟩:=cells hb;have hI0:=rp_in cs A cs.length co 0 w1 hrd hcl;have hlt:w.heap.size<w1.heap.size:=Nat.lt_of_lt_of_le rA.1 hb.size;clear hC x0 x1 x2 hwA
  by_cases h0:(0:Int)∈cs
  ·have hI:decide ((0:Int)∈cs)=true:=by simp[h0]
   rw[hI] at hI0;obtain rfl:R=false:=by rw[HO.out];simp[h0]
   clear h0 HO hI
   go_wp2_with fail
   refine hI0.mono ?_
   rintro e w2 ⟨rfl,rfl⟩
   go_wp2
   go_ret
   exact⟨rfl,base hb⟩
  ·have hI:decide ((0:Int)∈cs)=false:=by simp[h0]
   rw[hI] at hI0;have hO2:R=(numOk kind n&&kindB kind cs):=by rw[HO.out];simp[h0]
   have HO2:=Lib.hid hO2;clear h0 HO hI hO2;have hst:=fun W=>rfx_stop n W hn.1 hn.2
   obtain⟨s,hs⟩:∃ s,stopZ n=s:=⟨_,rfl⟩;rw[hs] at hst;have hnum:numOk kind n=decide (s=n∧((8≤kind∧kind≤10)∨n=0)):=by unfold numOk;rw[hs]
   have hs0:n=0→s=0:=fun h=>by rw[←hs,h];rfl
   have HN:=Lib.hid hnum;have HS:=Lib.hid hs0;clear hnum hs0 hs
   by_cases hgood:numOk kind n=true
   ·have hK:kind≤0∨kind=1∨kind=2∨kind=3∨kind=4∨kind=5∨kind=6∨kind=7∨kind=8∨kind=9∨kind=10∨kind=11∨kind=12∨kind=13∨kind=14∨kind=15∨kind=16∨17≤kind:=by omega
    have hg:=hgood;rw[HN.out] at hg;simp only[decide_eq_true_eq] at hg;have hz1:=bw_cell (B:=w1.heap.size) y2 hlt
    rcases hK with hK|rfl|rfl|rfl|rfl|rfl|rfl|rfl|rfl|rfl|rfl|rfl|rfl|rfl|rfl|rfl|rfl|hK
    case inl =>
     have n0:n=0:=by omega
     have t0:(n != 0)=false:=by simp[n0]
     obtain rfl:R=false:=by
      rw[HO2.out]
      have:kindB kind cs=false:=by
       unfold kindB;rw[if_neg (by omega),if_neg (by omega),if_neg (by omega),if_neg (by omega),if_neg (by omega)]
       simp;omega
      rw[this];simp
     have q1:decide (kind<8)=true:=by simp;omega
     have q2:decide (2≤kind)=false:=by simp;omega
     have q3:decide (1≤kind)=false:=by simp;omega
     have r6:(kind==6)=false:=by simp;omega
     have r7:(kind==7)=false:=by simp;omega
     have r10:(kind==10)=false:=by simp;omega
     have r11:(kind==11)=false:=by simp;omega
     have r12:(kind==12)=false:=by simp;omega
     have r13:(kind==13)=false:=by simp;omega
     clear HO2 HN hK hg hgood n0
     go_wp2_with fail
     refine hI0.mono ?_
     rintro e w2 ⟨rfl,rfl⟩
     go_wp2
     go_ret
     exact⟨rfl,base hb⟩
    case inr.inl =>
     have n0:n=0:=by omega
     have t0:(n != 0)=false:=by simp[n0]
     have HK:=Lib.hid (show numOk 1 n=true by rw[HN.out];simp[n0,HS.out n0])
     by_cases hcs:cs=[]
     ·obtain rfl:R=true:=by rw[HO2.out,HK.out];simp[kindB,hcs]
      have hl0:((cs.length:Int)==0)=true:=by simp[hcs]
      clear hcs HO2 HN HK hg hgood n0
      go_wp2_with fail
      refine hI0.mono ?_
      rintro e w2 ⟨rfl,rfl⟩
      go_wp2
      go_ret
      exact⟨rfl,base hb⟩
     ·have hpos:=List.length_pos_iff.2 hcs
      obtain rfl:R=false:=by rw[HO2.out,HK.out];simp[kindB,hcs]
      have hl0:((cs.length:Int)==0)=false:=by simp;omega
      clear hcs HO2 HN HK hg hgood n0
      go_wp2_with fail
      refine hI0.mono ?_
      rintro e w2 ⟨rfl,rfl⟩
      go_wp2
      go_ret
      exact⟨rfl,base hb⟩
    case inr.inr.inl =>
     have n0:n=0:=by omega
     have t0:(n != 0)=false:=by simp[n0]
     have HK:=Lib.hid (show numOk 2 n=true by rw[HN.out];simp[n0,HS.out n0])
     by_cases hcs:cs=[]
     ·obtain rfl:R=false:=by rw[HO2.out,HK.out];simp[kindB,hcs]
      have hl0:decide ((0:Int)<(cs.length:Int))=false:=by simp[hcs]
      have hl1:decide (0<cs.length)=false:=by simp[hcs]
      clear hcs HO2 HN HK hg hgood n0
      go_wp2_with fail
      refine hI0.mono ?_
      rintro e w2 ⟨rfl,rfl⟩
      go_wp2
      go_ret
      exact⟨rfl,base hb⟩
     ·have hpos:=List.length_pos_iff.2 hcs
      obtain rfl:R=true:=by rw[HO2.out,HK.out];simp[kindB,hcs]
      have hl0:decide ((0:Int)<(cs.length:Int))=true:=by simp;omega
      have hl1:decide (0<cs.length)=true:=by simp;omega
      clear hcs HO2 HN HK hg hgood n0
      go_wp2_with fail
      refine hI0.mono ?_
      rintro e w2 ⟨rfl,rfl⟩
      go_wp2
      go_ret
      exact⟨rfl,base hb⟩
    case inr.inr.inr.inl =>
     have n0:n=0:=by omega
     have t0:(n != 0)=false:=by simp[n0]
     have HK:=Lib.hid (show numOk 3 n=true by rw[HN.out];simp[n0,HS.out n0])
     by_cases hcs:cs=[]
     ·obtain rfl:R=false:=by rw[HO2.out,HK.out];simp[kindB,hcs]
      have hl0:decide ((0:Int)<(cs.length:Int))=false:=by simp[hcs]
      have hl1:decide (0<cs.length)=false:=by simp[hcs]
      clear hcs HO2 HN HK hg hgood n0
      go_wp2_with fail
      refine hI0.mono ?_
      rintro e w2 ⟨rfl,rfl⟩
      go_wp2
      go_ret
      exact⟨rfl,base hb⟩
     ·have hpos:=List.length_pos_iff.2 hcs
      obtain rfl:R=true:=by rw[HO2.out,HK.out];simp[kindB,hcs]
      have hl0:decide ((0:Int)<(cs.length:Int))=true:=by simp;omega
      have hl1:decide (0<cs.length)=true:=by simp;omega
      clear hcs HO2 HN HK hg hgood n0
      go_wp2_with fail
      refine hI0.mono ?_
      rintro e w2 ⟨rfl,rfl⟩
      go_wp2
      go_ret
      exact⟨rfl,base hb⟩
    case inr.inr.inr.inr.inl =>
     have n0:n=0:=by omega
     have t0:(n != 0)=false:=by simp[n0]
     have HK:=Lib.hid (show numOk 4 n=true by rw[HN.out];simp[n0,HS.out n0])
     by_cases hcs:cs=[]
     ·obtain rfl:R=false:=by rw[HO2.out,HK.out];simp[kindB,hcs]
      have hl0:decide ((0:Int)<(cs.length:Int))=false:=by simp[hcs]
      have hl1:decide (0<cs.length)=false:=by simp[hcs]
      clear hcs HO2 HN HK hg hgood n0
      go_wp2_with fail
      refine hI0.mono ?_
      rintro e w2 ⟨rfl,rfl⟩
      go_wp2
      go_ret
      exact⟨rfl,base hb⟩
     ·have hpos:=List.length_pos_iff.2 hcs
      obtain rfl:R=true:=by rw[HO2.out,HK.out];simp[kindB,hcs]
      have hl0:decide ((0:Int)<(cs.length:Int))=true:=by simp;omega
      have hl1:decide (0<cs.length)=true:=by simp;omega
      clear hcs HO2 HN HK hg hgood n0
      go_wp2_with fail
      refine hI0.mono ?_
      rintro e w2 ⟨rfl,rfl⟩
      go_wp2
      go_ret
      exact⟨rfl,base hb⟩
    case inr.inr.inr.inr.inr.inl =>
     have n0:n=0:=by omega
     have t0:(n != 0)=false:=by simp[n0]
     have HK:=Lib.hid (show numOk 5 n=true by rw[HN.out];simp[n0,HS.out n0])
     by_cases hcs:cs=[]
     ·obtain rfl:R=false:=by rw[HO2.out,HK.out];simp[kindB,hcs]
      have hl0:decide ((0:Int)<(cs.length:Int))=false:=by simp[hcs]
      have hl1:decide (0<cs.length)=false:=by simp[hcs]
      clear hcs HO2 HN HK hg hgood n0
      go_wp2_with fail
      refine hI0.mono ?_
      rintro e w2 ⟨rfl,rfl⟩
      go_wp2
      go_ret
      exact⟨rfl,base hb⟩
     ·have hpos:=List.length_pos_iff.2 hcs
      obtain rfl:R=true:=by rw[HO2.out,HK.out];simp[kindB,hcs]
      have hl0:decide ((0:Int)<(cs.length:Int))=true:=by simp;omega
      have hl1:decide (0<cs.length)=true:=by simp;omega
      clear hcs HO2 HN HK hg hgood n0
      go_wp2_with fail
      refine hI0.mono ?_
      rintro e w2 ⟨rfl,rfl⟩
      go_wp2
      go_ret
      exact⟨rfl,base hb⟩
    case inr.inr.inr.inr.inr.inr.inl =>
     have n0:n=0:=by omega
     have t0:(n != 0)=false:=by simp[n0]
     have HK:=Lib.hid (show numOk 6 n=true by rw[HN.out];simp[n0,HS.out n0]);obtain rfl:R=true:=by rw[HO2.out,HK.out];rfl
     clear HO2 HN HK hg hgood n0
     go_wp2_with fail
     refine hI0.mono ?_
     rintro e w2 ⟨rfl,rfl⟩
     go_wp2
     go_ret
     exact⟨rfl,base hb⟩
    case inr.inr.inr.inr.inr.inr.inr.inl =>
     have n0:n=0:=by omega
     have t0:(n != 0)=false:=by simp[n0]
     have HK:=Lib.hid (show numOk 7 n=true by rw[HN.out];simp[n0,HS.out n0]);obtain rfl:R=true:=by rw[HO2.out,HK.out];rfl
     clear HO2 HN HK hg hgood n0
     go_wp2_with fail
     refine hI0.mono ?_
     rintro e w2 ⟨rfl,rfl⟩
     go_wp2
     go_ret
     exact⟨rfl,base hb⟩
    case inr.inr.inr.inr.inr.inr.inr.inr.inl =>
     have ns:s=n:=hg.1;have t0:(n != s)=false:=by simp[ns]
     have HK:=Lib.hid (show numOk 8 n=true by rw[HN.out];simp[ns])
     by_cases hcs:cs=[]
     ·obtain rfl:R=true:=by rw[HO2.out,HK.out];simp[kindB,hcs]
      have hl0:((cs.length:Int)==0)=true:=by simp[hcs]
      clear hcs HO2 HN HK hg hgood ns
      go_wp2_with fail
      refine hI0.mono ?_
      rintro e w2 ⟨rfl,rfl⟩
      go_wp2_with fail
      refine wp_region_bw w1.heap.size (by kernel_rfl) (by kernel_rfl) ?_
      repeat(go_big_quiet_step (first | (go_at_call 136;exact calls_bw_same (hst _))))
      refine wpQuiet_nil ?_
      intro _ hw';obtain⟨W,rfl⟩:=hw';obtain⟨y0,y1,y2⟩:=cells (hb.trans (W.is.mono hb.size))
      go_wp2
      go_ret
      exact⟨rfl,base (hb.trans (W.is.mono hb.size))⟩
     ·have hpos:=List.length_pos_iff.2 hcs
      obtain rfl:R=false:=by rw[HO2.out,HK.out];simp[kindB,hcs]
      have hl0:((cs.length:Int)==0)=false:=by simp;omega
      clear hcs HO2 HN HK hg hgood ns
      go_wp2_with fail
      refine hI0.mono ?_
      rintro e w2 ⟨rfl,rfl⟩
      go_wp2_with fail
      refine wp_region_bw w1.heap.size (by kernel_rfl) (by kernel_rfl) ?_
      repeat(go_big_quiet_step (first | (go_at_call 136;exact calls_bw_same (hst _))))
      refine wpQuiet_nil ?_
      intro _ hw';obtain⟨W,rfl⟩:=hw';obtain⟨y0,y1,y2⟩:=cells (hb.trans (W.is.mono hb.size))
      go_wp2
      go_ret
      exact⟨rfl,base (hb.trans (W.is.mono hb.size))⟩
    case inr.inr.inr.inr.inr.inr.inr.inr.inr.inl =>
     have ns:s=n:=hg.1;have t0:(n != s)=false:=by simp[ns]
     have HK:=Lib.hid (show numOk 9 n=true by rw[HN.out];simp[ns])
     by_cases hcs:cs=[]
     ·obtain rfl:R=true:=by rw[HO2.out,HK.out];simp[kindB,hcs]
      have hl0:((cs.length:Int)==0)=true:=by simp[hcs]
      clear hcs HO2 HN HK hg hgood ns
      go_wp2_with fail
      refine hI0.mono ?_
      rintro e w2 ⟨rfl,rfl⟩
      go_wp2_with fail
      refine wp_region_bw w1.heap.size (by kernel_rfl) (by kernel_rfl) ?_
      repeat(go_big_quiet_step (first | (go_at_call 136;exact calls_bw_same (hst _))))
      refine wpQuiet_nil ?_
      intro _ hw';obtain⟨W,rfl⟩:=hw';obtain⟨y0,y1,y2⟩:=cells (hb.trans (W.is.mono hb.size))
      go_wp2
      go_ret
      exact⟨rfl,base (hb.trans (W.is.mono hb.size))⟩
     ·have hpos:=List.length_pos_iff.2 hcs
      obtain rfl:R=false:=by rw[HO2.out,HK.out];simp[kindB,hcs]
      have hl0:((cs.length:Int)==0)=false:=by simp;omega
      clear hcs HO2 HN HK hg hgood ns
      go_wp2_with fail
      refine hI0.mono ?_
      rintro e w2 ⟨rfl,rfl⟩
      go_wp2_with fail
      refine wp_region_bw w1.heap.size (by kernel_rfl) (by kernel_rfl) ?_
      repeat(go_big_quiet_step (first | (go_at_call 136;exact calls_bw_same (hst _))))
      refine wpQuiet_nil ?_
      intro _ hw';obtain⟨W,rfl⟩:=hw';obtain⟨y0,y1,y2⟩:=cells (hb.trans (W.is.mono hb.size))
      go_wp2
      go_ret
      exact⟨rfl,base (hb.trans (W.is.mono hb.size))⟩
    case inr.inr.inr.inr.inr.inr.inr.inr.inr.inr.inl =>
     have ns:s=n:=hg.1;have t0:(n != s)=false:=by simp[ns]
     have HK:=Lib.hid (show numOk 10 n=true by rw[HN.out];simp[ns])
     by_cases hcs:cs=[]
     ·obtain rfl:R=false:=by rw[HO2.out,HK.out];simp[kindB,hcs]
      have hl0:decide ((0:Int)<(cs.length:Int))=false:=by simp[hcs]
      have hl1:decide (0<cs.length)=false:=by simp[hcs]
      clear hcs HO2 HN HK hg hgood ns
      go_wp2_with fail
      refine hI0.mono ?_
      rintro e w2 ⟨rfl,rfl⟩
      go_wp2_with fail
      refine wp_region_bw w1.heap.size (by kernel_rfl) (by kernel_rfl) ?_
      repeat(go_big_quiet_step (first | (go_at_call 136;exact calls_bw_same (hst _))))
      refine wpQuiet_nil ?_
      intro _ hw';obtain⟨W,rfl⟩:=hw';obtain⟨y0,y1,y2⟩:=cells (hb.trans (W.is.mono hb.size))
      go_wp2
      go_ret
      exact⟨rfl,base (hb.trans (W.is.mono hb.size))⟩
     ·have hpos:=List.length_pos_iff.2 hcs
      obtain rfl:R=true:=by rw[HO2.out,HK.out];simp[kindB,hcs]
      have hl0:decide ((0:Int)<(cs.length:Int))=true:=by simp;omega
      have hl1:decide (0<cs.length)=true:=by simp;omega
      clear hcs HO2 HN HK hg hgood ns
      go_wp2_with fail
      refine hI0.mono ?_
      rintro e w2 ⟨rfl,rfl⟩
      go_wp2_with fail
      refine wp_region_bw w1.heap.size (by kernel_rfl) (by kernel_rfl) ?_
      repeat(go_big_quiet_step (first | (go_at_call 136;exact calls_bw_same (hst _))))
      refine wpQuiet_nil ?_
      intro _ hw';obtain⟨W,rfl⟩:=hw';obtain⟨y0,y1,y2⟩:=cells (hb.trans (W.is.mono hb.size))
      go_wp2
      go_ret
      exact⟨rfl,base (hb.trans (W.is.mono hb.size))⟩
    case inr.inr.inr.inr.inr.inr.inr.inr.inr.inr.inr.inl =>
     have n0:n=0:=by omega
     have t0:(n != 0)=false:=by simp[n0]
     have HK:=Lib.hid (show numOk 11 n=true by rw[HN.out];simp[n0,HS.out n0])
     by_cases h1:cs.length=1
     ·obtain⟨c,hcs⟩:∃ c,cs=[c]:=by
       cases cs with
       | nil=>simp at h1
       | cons c r=>cases r with
        | nil=>exact⟨c,rfl⟩
        | cons d r=>simp at h1
      obtain⟨b,off,u,hA,hbw,hu,hcell⟩:=hrd.at_ (k:=0) (by omega);subst hA;have hun:u=.int .i64 c:=by rw[hcs] at hu;simpa [n64] using hu.symm
      subst hun;rw[Nat.add_zero] at hcell;have hl1:((cs.length:Int)==1)=true:=by simp[h1]
      have hle:1≤cs.length∧cs.length≤1:=by omega
      have hcB:=Hv.out c (by rw[hcs];simp);have hcr:=isB_range' hcB;obtain⟨W2,hW2⟩:∃ W2,w1.alloc (.cells #[.int .i64 9,.int .i64 10,.int .i64 12,.int .i64 13,.int .i64 32,.int .i64 34,.int .i64 39,.int .i64 40,.int .i64 41,.int .i64 91,.int .i64 93,.int .i64 123,.int .i64 125,.int .i64 58,.int .i64 59,.int .i64 44] 3)=W2:=⟨_,rfl⟩;have b2:Below w1.heap.size w1 W2:=by rw[←hW2];exact(Below.refl _ _).alloc (Nat.le_refl _) _
      have hrow:RowAt W2 w1.heap.size ((badS:List Int).map n64):=by rw[←hW2];exact RowAt.new _ _ _
      have hin:=rp_in badS (some ⟨w1.heap.size,0,none⟩) 16 16 c W2 (hrow.reads hrow.1) (by omega);have hce2:=(b2.cell (p:=⟨b,off,none⟩) hbw).trans hcell;have hR2:R=(!beginsB c&&!(decide (48≤c)&&decide (c≤57))&&!decide (c∈badS)):=by rw[HO2.out,HK.out,hcs,←delim_bad];rfl
      have HR2:=Lib.hid hR2;have cB:=fun W=>ref_begins c W (by omega) (by omega)
      generalize decide (c∈badS)=mm at *
      clear hR2 h1 hcs HO2 HN HK hg hgood n0 hu;generalize beginsB c=b1 at *
      cases b1 with
      | true =>
       obtain rfl:R=false:=by rw[HR2.out];rfl
       go_wp2_with fail
       refine hI0.mono ?_
       rintro e w2 ⟨rfl,rfl⟩
       go_wp2_with (first | (go_at_call 134;refine(cB _).mono ?_;rintro e w2 ⟨rfl,rfl⟩))
       go_ret
       exact⟨rfl,base hb⟩
      | false =>
       by_cases hd:48≤c∧c≤57
       ·have d1:decide (48≤c)=true:=by simp;omega
        have d2:decide (c≤57)=true:=by simp;omega
        obtain rfl:R=false:=by rw[HR2.out,d1,d2];rfl
        clear hd HR2
        go_wp2_with fail
        refine hI0.mono ?_
        rintro e w2 ⟨rfl,rfl⟩
        go_wp2_with (first | (go_at_call 134;refine(cB _).mono ?_;rintro e w2 ⟨rfl,rfl⟩))
        go_ret
        exact⟨rfl,base hb⟩
       ·have hR3:R=!mm:=by
         rw[HR2.out];have:(decide (48≤c)&&decide (c≤57))=false:=by simp;omega
         rw[this];simp
        have HR3:=Lib.hid hR3;clear HR2 hR3
        by_cases h48:48≤c
        ·have d1:decide (48≤c)=true:=by simp;omega
         have d2:decide (c≤57)=false:=by simp;omega
         clear hd
         go_wp2_with fail
         refine hI0.mono ?_
         rintro e w2 ⟨rfl,rfl⟩
         go_wp2_with (first | (go_at_call 134;refine(cB _).mono ?_;rintro e w2 ⟨rfl,rfl⟩) | (go_at_call 140;refine hin.mono ?_;rintro e w2 ⟨rfl,rfl⟩))
         go_ret
         exact⟨ret_bool HR3.out.symm,base (hb.trans (b2.mono hb.size))⟩
        ·have d1:decide (48≤c)=false:=by simp;omega
         clear hd
         go_wp2_with fail
         refine hI0.mono ?_
         rintro e w2 ⟨rfl,rfl⟩
         go_wp2_with (first | (go_at_call 134;refine(cB _).mono ?_;rintro e w2 ⟨rfl,rfl⟩) | (go_at_call 140;refine hin.mono ?_;rintro e w2 ⟨rfl,rfl⟩))
         go_ret
         exact⟨ret_bool HR3.out.symm,base (hb.trans (b2.mono hb.size))⟩
     ·have hl1:((cs.length:Int)==1)=false:=by simp;omega
      obtain rfl:R=false:=by
       rw[HO2.out,HK.out]
       have:kindB 11 cs=false:=by
        unfold kindB
        cases cs with
        | nil=>rfl
        | cons c r=>cases r with
         | nil=>simp at h1
         | cons d r=>simp
       rw[this];rfl
      clear h1 HO2 HN HK hg hgood n0
      go_wp2_with fail
      refine hI0.mono ?_
      rintro e w2 ⟨rfl,rfl⟩
      go_wp2
      go_ret
      exact⟨rfl,base hb⟩
    case inr.inr.inr.inr.inr.inr.inr.inr.inr.inr.inr.inr.inl =>
     have n0:n=0:=by omega
     have t0:(n != 0)=false:=by simp[n0]
     have HK:=Lib.hid (show numOk 12 n=true by rw[HN.out];simp[n0,HS.out n0])
     by_cases h1:cs.length=1
     ·obtain⟨c,hcs⟩:∃ c,cs=[c]:=by
       cases cs with
       | nil=>simp at h1
       | cons c r=>cases r with
        | nil=>exact⟨c,rfl⟩
        | cons d r=>simp at h1
      obtain⟨b,off,u,hA,hbw,hu,hcell⟩:=hrd.at_ (k:=0) (by omega);subst hA;have hun:u=.int .i64 c:=by rw[hcs] at hu;simpa [n64] using hu.symm
      subst hun;rw[Nat.add_zero] at hcell;have hl1:((cs.length:Int)==1)=true:=by simp[h1]
      have hle:1≤cs.length∧cs.length≤1:=by omega
      have hcB:=Hv.out c (by rw[hcs];simp);have hcr:=isB_range' hcB;obtain⟨W2,hW2⟩:∃ W2,w1.alloc (.cells #[.int .i64 40,.int .i64 91,.int .i64 123] 3)=W2:=⟨_,rfl⟩;have b2:Below w1.heap.size w1 W2:=by rw[←hW2];exact(Below.refl _ _).alloc (Nat.le_refl _) _
      have hrow:RowAt W2 w1.heap.size (([40,91,123]:List Int).map n64):=by rw[←hW2];exact RowAt.new _ _ _
      have hin:=rp_in [40,91,123] (some ⟨w1.heap.size,0,none⟩) 3 3 c W2 (hrow.reads hrow.1) (by omega);have hce2:=(b2.cell (p:=⟨b,off,none⟩) hbw).trans hcell
      have hR2:R=(decide (c=40)||(decide (c=91)||decide (c=123))):=by
       rw[HO2.out,HK.out,hcs];unfold kindB;rw[Bool.eq_iff_iff];simp
      have HR2:=Lib.hid hR2;clear hR2 h1 hcs HO2 HN HK hg hgood n0 hu hcell
      go_wp2_with fail
      refine hI0.mono ?_
      rintro e w2 ⟨rfl,rfl⟩
      go_wp2_with (first | (go_at_call 140;refine hin.mono ?_;rintro e w2 ⟨rfl,rfl⟩))
      go_ret
      exact⟨ret_bool HR2.out.symm,base (hb.trans (b2.mono hb.size))⟩
     ·have hl1:((cs.length:Int)==1)=false:=by simp;omega
      obtain rfl:R=false:=by
       rw[HO2.out,HK.out]
       have:kindB 12 cs=false:=by
        unfold kindB
        cases cs with
        | nil=>rfl
        | cons c r=>cases r with
         | nil=>simp at h1
         | cons d r=>simp
       rw[this];rfl
      clear h1 HO2 HN HK hg hgood n0
      go_wp2_with fail
      refine hI0.mono ?_
      rintro e w2 ⟨rfl,rfl⟩
      go_wp2
      go_ret
      exact⟨rfl,base hb⟩
    case inr.inr.inr.inr.inr.inr.inr.inr.inr.inr.inr.inr.inr.inl =>
     have n0:n=0:=by omega
     have t0:(n != 0)=false:=by simp[n0]
     have HK:=Lib.hid (show numOk 13 n=true by rw[HN.out];simp[n0,HS.out n0])
     by_cases h1:cs.length=1
     ·obtain⟨c,hcs⟩:∃ c,cs=[c]:=by
       cases cs with
       | nil=>simp at h1
       | cons c r=>cases r with
        | nil=>exact⟨c,rfl⟩
        | cons d r=>simp at h1
      obtain⟨b,off,u,hA,hbw,hu,hcell⟩:=hrd.at_ (k:=0) (by omega);subst hA;have hun:u=.int .i64 c:=by rw[hcs] at hu;simpa [n64] using hu.symm
      subst hun;rw[Nat.add_zero] at hcell;have hl1:((cs.length:Int)==1)=true:=by simp[h1]
      have hle:1≤cs.length∧cs.length≤1:=by omega
      have hcB:=Hv.out c (by rw[hcs];simp);have hcr:=isB_range' hcB;obtain⟨W2,hW2⟩:∃ W2,w1.alloc (.cells #[.int .i64 41,.int .i64 93,.int .i64 125] 3)=W2:=⟨_,rfl⟩;have b2:Below w1.heap.size w1 W2:=by rw[←hW2];exact(Below.refl _ _).alloc (Nat.le_refl _) _
      have hrow:RowAt W2 w1.heap.size (([41,93,125]:List Int).map n64):=by rw[←hW2];exact RowAt.new _ _ _
      have hin:=rp_in [41,93,125] (some ⟨w1.heap.size,0,none⟩) 3 3 c W2 (hrow.reads hrow.1) (by omega);have hce2:=(b2.cell (p:=⟨b,off,none⟩) hbw).trans hcell
      have hR2:R=(decide (c=41)||(decide (c=93)||decide (c=125))):=by
       rw[HO2.out,HK.out,hcs];unfold kindB;rw[Bool.eq_iff_iff];simp
      have HR2:=Lib.hid hR2;clear hR2 h1 hcs HO2 HN HK hg hgood n0 hu hcell
      go_wp2_with fail
      refine hI0.mono ?_
      rintro e w2 ⟨rfl,rfl⟩
      go_wp2_with (first | (go_at_call 140;refine hin.mono ?_;rintro e w2 ⟨rfl,rfl⟩))
      go_ret
      exact⟨ret_bool HR2.out.symm,base (hb.trans (b2.mono hb.size))⟩
     ·have hl1:((cs.length:Int)==1)=false:=by simp;omega
      obtain rfl:R=false:=by
       rw[HO2.out,HK.out]
       have:kindB 13 cs=false:=by
        unfold kindB
        cases cs with
        | nil=>rfl
        | cons c r=>cases r with
         | nil=>simp at h1
         | cons d r=>simp
       rw[this];rfl
      clear h1 HO2 HN HK hg hgood n0
      go_wp2_with fail
      refine hI0.mono ?_
      rintro e w2 ⟨rfl,rfl⟩
      go_wp2
      go_ret
      exact⟨rfl,base hb⟩
    case inr.inr.inr.inr.inr.inr.inr.inr.inr.inr.inr.inr.inr.inr.inl =>
     have n0:n=0:=by omega
     have t0:(n != 0)=false:=by simp[n0]
     have HK:=Lib.hid (show numOk 14 n=true by rw[HN.out];simp[n0,HS.out n0])
     by_cases hcs:cs=[]
     ·obtain rfl:R=true:=by rw[HO2.out,HK.out];simp[kindB,hcs]
      have hl0:((cs.length:Int)==0)=true:=by simp[hcs]
      clear hcs HO2 HN HK hg hgood n0
      go_wp2_with fail
      refine hI0.mono ?_
      rintro e w2 ⟨rfl,rfl⟩
      go_wp2
      go_ret
      exact⟨rfl,base hb⟩
     ·have hpos:=List.length_pos_iff.2 hcs
      obtain rfl:R=false:=by rw[HO2.out,HK.out];simp[kindB,hcs]
      have hl0:((cs.length:Int)==0)=false:=by simp;omega
      clear hcs HO2 HN HK hg hgood n0
      go_wp2_with fail
      refine hI0.mono ?_
      rintro e w2 ⟨rfl,rfl⟩
      go_wp2
      go_ret
      exact⟨rfl,base hb⟩
    case inr.inr.inr.inr.inr.inr.inr.inr.inr.inr.inr.inr.inr.inr.inr.inl =>
     have n0:n=0:=by omega
     have t0:(n != 0)=false:=by simp[n0]
     have HK:=Lib.hid (show numOk 15 n=true by rw[HN.out];simp[n0,HS.out n0])
     by_cases hcs:cs=[]
     ·obtain rfl:R=true:=by rw[HO2.out,HK.out];simp[kindB,hcs]
      have hl0:((cs.length:Int)==0)=true:=by simp[hcs]
      clear hcs HO2 HN HK hg hgood n0
      go_wp2_with fail
      refine hI0.mono ?_
      rintro e w2 ⟨rfl,rfl⟩
      go_wp2
      go_ret
      exact⟨rfl,base hb⟩
     ·have hpos:=List.length_pos_iff.2 hcs
      obtain rfl:R=false:=by rw[HO2.out,HK.out];simp[kindB,hcs]
      have hl0:((cs.length:Int)==0)=false:=by simp;omega
      clear hcs HO2 HN HK hg hgood n0
      go_wp2_with fail
      refine hI0.mono ?_
      rintro e w2 ⟨rfl,rfl⟩
      go_wp2
      go_ret
      exact⟨rfl,base hb⟩
    case inr.inr.inr.inr.inr.inr.inr.inr.inr.inr.inr.inr.inr.inr.inr.inr.inl =>
     have n0:n=0:=by omega
     have t0:(n != 0)=false:=by simp[n0]
     have HK:=Lib.hid (show numOk 16 n=true by rw[HN.out];simp[n0,HS.out n0])
     by_cases hcs:cs=[]
     ·obtain rfl:R=true:=by rw[HO2.out,HK.out];simp[kindB,hcs]
      have hl0:((cs.length:Int)==0)=true:=by simp[hcs]
      clear hcs HO2 HN HK hg hgood n0
      go_wp2_with fail
      refine hI0.mono ?_
      rintro e w2 ⟨rfl,rfl⟩
      go_wp2
      go_ret
      exact⟨rfl,base hb⟩
     ·have hpos:=List.length_pos_iff.2 hcs
      obtain rfl:R=false:=by rw[HO2.out,HK.out];simp[kindB,hcs]
      have hl0:((cs.length:Int)==0)=false:=by simp;omega
      clear hcs HO2 HN HK hg hgood n0
      go_wp2_with fail
      refine hI0.mono ?_
      rintro e w2 ⟨rfl,rfl⟩
      go_wp2
      go_ret
      exact⟨rfl,base hb⟩
    case inr.inr.inr.inr.inr.inr.inr.inr.inr.inr.inr.inr.inr.inr.inr.inr.inr =>
     have n0:n=0:=by omega
     have t0:(n != 0)=false:=by simp[n0]
     obtain rfl:R=false:=by
      rw[HO2.out]
      have:kindB kind cs=false:=by
       unfold kindB;rw[if_neg (by omega),if_neg (by omega),if_neg (by omega),if_neg (by omega),if_neg (by omega)]
       simp;omega
      rw[this];simp
     have q1:decide (kind<8)=false:=by simp;omega
     have q1b:decide (10<kind)=true:=by simp;omega
     have q2:decide (2≤kind)=true:=by simp;omega
     have q2b:decide (kind≤5)=false:=by simp;omega
     have q3:decide (1≤kind)=true:=by simp;omega
     have q3b:decide (kind≤16)=false:=by simp;omega
     have r6:(kind==6)=false:=by simp;omega
     have r7:(kind==7)=false:=by simp;omega
     have r10:(kind==10)=false:=by simp;omega
     have r11:(kind==11)=false:=by simp;omega
     have r12:(kind==12)=false:=by simp;omega
     have r13:(kind==13)=false:=by simp;omega
     clear HO2 HN hK hg hgood n0
     go_wp2_with fail
     refine hI0.mono ?_
     rintro e w2 ⟨rfl,rfl⟩
     go_wp2
     go_ret
     exact⟨rfl,base hb⟩
   ·have hbad:numOk kind n=false:=by simpa using hgood
    obtain rfl:R=false:=by rw[HO2.out,hbad];rfl
    rw[HN.out] at hbad;simp only[decide_eq_false_iff_not,not_and,not_or] at hbad;have hz1:=bw_cell (B:=w1.heap.size) y2 hlt
    by_cases k8:kind<8
    ·have q1:decide (kind<8)=true:=by simp;omega
     have t0:(n != 0)=true:=by
      simp;intro h;have:=HS.out h;exact absurd h (hbad (by omega)).2
     clear HO2 HN hgood hbad k8
     go_wp2_with fail
     refine hI0.mono ?_
     rintro e w2 ⟨rfl,rfl⟩
     go_wp2
     go_ret
     exact⟨rfl,base hb⟩
    ·have q1:decide (kind<8)=false:=by simp;omega
     by_cases k10:10<kind
     ·have q2:decide (10<kind)=true:=by simp;omega
      have t0:(n != 0)=true:=by
       simp;intro h;have:=HS.out h;exact absurd h (hbad (by omega)).2
      clear HO2 HN hgood hbad k8 k10
      go_wp2_with fail
      refine hI0.mono ?_
      rintro e w2 ⟨rfl,rfl⟩
      go_wp2
      go_ret
      exact⟨rfl,base hb⟩
     ·have q2:decide (10<kind)=false:=by simp;omega
      have t0:(n != s)=true:=by
       simp;intro h;exact absurd (show 8≤kind∧kind≤10 by omega) (fun hh=>(hbad h.symm).1 hh.1 hh.2)
      clear HO2 HN hgood hbad k8 k10
      go_wp2_with fail
      refine hI0.mono ?_
      rintro e w2 ⟨rfl,rfl⟩
      go_wp2_with fail
      refine wp_region_bw w1.heap.size (by kernel_rfl) (by kernel_rfl) ?_
      repeat(go_big_quiet_step (first | (go_at_call 136;exact calls_bw_same (hst _))))
      refine wpQuiet_nil ?_
      intro _ hw';obtain⟨W,rfl⟩:=hw';obtain⟨y0,y1,y2⟩:=cells (hb.trans (W.is.mono hb.size))
      go_wp2
      go_ret
      exact⟨rfl,base (hb.trans (W.is.mono hb.size))⟩
end Go.Proofs.YtfhdihdafmahgaaGreatDoor
