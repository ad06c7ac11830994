import Derived.Test.YtfhdihdafmahgaaGreatDoorR08
set_option linter.unusedVariables false
set_option linter.unusedSimpArgs false
set_option maxRecDepth 100000
set_option maxHeartbeats 2000000
namespace Go.Proofs.YtfhdihdafmahgaaGreatDoor
open Go.RowKit Rn Tk
theorem pk0 (l:List Int) (j:Nat):pk l j=pk (l.drop j) 0:=by rw[pk_drop];rfl
theorem pk1 (l:List Int) (j:Nat):pk l (j+1)=pk (l.drop j) 1:=by rw[pk_drop]
theorem rt_meant {w:World} {B n cap:Nat} {A:Option Addr} {l:List Int} (h:RL w B A n cap l) (m:Nat) (i0:Int) (hi0:i0=m) (hm:m+1<n) :
  Calls Tryz.prog 133 #[.slice A n cap,.int .i64 i0] w fun e w'=>(∃ k':Nat,m+1<k'∧k'≤n∧l.drop k'=(meantT (l.drop (m+1))).2∧e=.returned (.tuple #[.int .i64 (meantT (l.drop (m+1))).1,.int .i64 (k':Int)]))∧w=w':=by
 have hlen:=h.len;have hn:=h.hn;obtain⟨M,hM⟩:∃ M,meantT (l.drop (m+1))=M:=⟨_,rfl⟩;rw[hM];have HM:=Lib.hid hM;have y1:(0:Int)≤i0:=by omega
 have y2:i0≤1000000:=by omega
 have Hi0:=Lib.hid hi0;clear hM hi0
 go_enter Tryz.func133,Tryz.ntmps133
 go_upto_block 0 with (fail)
 go_cut [1,6,7] (fun z x y wx=>∃ (i N j:Nat),i≤6∧j≤n∧Hid (j=m+1+i)∧Hid (hexes 6 0 (l.drop (m+1))=(N,l.drop j))∧N≤16777215∧(0<i→0≤hexI (pk (l.drop (m+1)) 0))∧(i=0→hexI (pk (l.drop (m+1)) 0)<0)∧w=wx∧x=.int .i64 (N:Int)∧y=.int .i64 (i:Int)∧z=.int .i64 (j:Int))
 case first =>
  go_wp2_with fail
  go_loopw [1,6,7] (fun z x y wr=>∃ (i N j:Nat),i≤6∧j≤n∧Hid (j=m+1+i)∧Hid (hexes (6-i) N (l.drop j)=hexes 6 0 (l.drop (m+1)))∧N<16 ^ i∧(0<i→0≤hexI (pk (l.drop (m+1)) 0))∧w=wr∧x=.int .i64 (N:Int)∧y=.int .i64 (i:Int)∧z=.int .i64 (j:Int)) (fun _ _ y _=>6-(intOf y).toNat)
  case atStart =>
   have:=Hi0.out
   exact⟨0,0,m+1,by omega,by omega,rfl,rfl,by omega,by omega,rfl,rfl,rfl,congrArg (Value.int IntKind.i64) (by omega)⟩
  case round =>
   obtain⟨i,N,j,hi,hjn,hj,hrun,hN,hpos,rfl,rfl,rfl,rfl⟩:=hrel
   by_cases hi6:i<6
   ·have hp:=rt_at h j j rfl (by omega)
    obtain⟨c,hc⟩:∃ c,pk (l.drop j) 0=c:=⟨_,rfl⟩;rw[pk0,hc] at hp;have hcr:=h.range j;rw[pk0,hc] at hcr;have hxr:=hexI_range c;have hN5:N<1048576:=Nat.lt_of_lt_of_le hN (Nat.pow_le_pow_right (n:=16) (by omega) (show i≤5 by omega));have hhx:=fun w'=>ref_hex c w' (by omega) (by omega)
    by_cases hx:0≤hexI c
    ·have hjn:j<n:=by
      have h48:=hexI_pos hx;have:=pk_pos (l:=l.drop j) (m:=0) (by rw[hc];omega);rw[List.length_drop] at this;omega
     have hfirst:0≤hexI (pk (l.drop (m+1)) 0):=by
      by_cases h0:i=0
      ·have:j=m+1:=by have:=hj.out;omega
       rw[←this,hc];exact hx
      ·exact hpos (by omega)
     have hnew:hexes (6-(i+1)) (16 * N+(hexI c).toNat) (l.drop (j+1))=hexes 6 0 (l.drop (m+1)):=by
      rw[←hrun.out,show 6-i=(6-(i+1))+1 by omega,hexes_yes (by rw[hc];exact hx),hc,List.tail_drop]
     obtain⟨x,hxe⟩:∃ x:Nat,hexI c=(x:Int):=⟨(hexI c).toNat,by omega⟩;have hxx:(hexI c).toNat=x:=by omega
     rw[hxx] at hnew;rw[hxe] at hhx;have Hnew:=Lib.hid hnew;have hx15:x≤15:=by omega
     have hNn:16 * N+x<16 ^ (i+1):=by rw[Nat.pow_succ];omega
     have hdx:decide ((0:Int)≤(x:Int))=true:=by simp
     clear hnew hxe hxx hx hc
     go_wp2_with (first | (go_at_call 97;with_reducible refine hp.mono ?_;rintro e w' ⟨rfl,rfl⟩) | (go_at_call 160;refine(hhx _).mono ?_;rintro e w' ⟨rfl,rfl⟩))
     go_roundw
     case rel=>exact⟨i+1,16 * N+x,j+1,by omega,by omega,(by have:=hj.out;show _=_;omega),Hnew,hNn,fun _=>hfirst,trivial,congrArg (Value.int IntKind.i64) (by omega),congrArg (Value.int IntKind.i64) (by omega),congrArg (Value.int IntKind.i64) (by omega)⟩
     case measure=>simp[intOf];omega
    ·have hneg:hexI c<0:=by omega
     have hdx:decide ((0:Int)≤hexI c)=false:=by simpa using hneg
     have hend:hexes 6 0 (l.drop (m+1))=(N,l.drop j):=by rw[←hrun.out,hexes_no (by rw[hc];exact hneg)]
     have Hend:=Lib.hid hend;have hN9:N≤16777215:=by omega
     have hz:i=0→hexI (pk (l.drop (m+1)) 0)<0:=by
      intro h0;have:j=m+1:=by have:=hj.out;omega
      rw[←this,hc];exact hneg
     clear hend hc
     go_wp2_with (first | (go_at_call 97;with_reducible refine hp.mono ?_;rintro e w' ⟨rfl,rfl⟩) | (go_at_call 160;refine(hhx _).mono ?_;rintro e w' ⟨rfl,rfl⟩))
     go_meet
     exact⟨i,N,j,hi,hjn,hj,Hend,hN9,hpos,hz,rfl,rfl,rfl,rfl⟩
   ·obtain rfl:i=6:=by omega
    have hend:hexes 6 0 (l.drop (m+1))=(N,l.drop j):=by rw[←hrun.out];rfl
    have Hend:=Lib.hid hend;have hN9:N≤16777215:=by omega
    clear hend
    go_wp2_with fail
    go_meet
    exact⟨6,N,j,by omega,hjn,hj,Hend,hN9,hpos,by omega,rfl,rfl,rfl,rfl⟩
 case rest =>
  obtain⟨i,N,j,hi,hjn,hj,Hend,hN,hpos,hz,rfl,rfl,rfl,rfl⟩:=hcut
  by_cases h0:i=0
  ·obtain rfl:j=m+1:=by have:=hj.out;omega
   clear hj;have hneg:=hz h0;have hm':M=(pk (l.drop (m+1)) 0,(l.drop (m+1)).tail):=by rw[←HM.out];unfold meantT;rw[if_pos hneg]
   have hbz:((i:Int)==0)=true:=by simp;omega
   obtain⟨b,off,rfl,hcell⟩:=h.cell hm;rw[pk0] at hcell;have hM1:M.1=pk (l.drop (m+1)) 0:=by rw[hm']
   have hM2:M.2=l.drop (m+2):=by rw[hm',List.tail_drop]
   have HM1:=Lib.hid hM1;have HM2:=Lib.hid hM2;have x1:(0:Int)≤((m+1:Nat):Int):=by omega
   have x2:((m+1:Nat):Int)<(n:Int):=by omega
   have x3:(((m+1:Nat):Int)).toNat=m+1:=by omega
   clear hm' hM1 hM2 h0 hneg hz hpos Hend HM;generalize pk (l.drop (m+1)) 0=c at *
   obtain⟨J,hJ⟩:∃ J,m+1=J:=⟨_,rfl⟩;rw[hJ] at x1 x2 x3 hcell ⊢;have HJ:=Lib.hid hJ;clear hJ
   go_wp2
   go_ret2
   refine⟨⟨J+1,by have:=HJ.out;omega,by have:=HJ.out;omega,?_,?_⟩,rfl⟩
   ·rw[HM2.out,←HJ.out]
   ·rw[HM1.out];push_cast;rfl
  ·have hfst:=hpos (by omega)
   obtain⟨c,hc⟩:∃ c,pk (l.drop j) 0=c:=⟨_,rfl⟩;have hp:=rt_at h j j rfl (by omega);rw[pk0,hc] at hp;have hM1:M.1=numC' N:=by rw[←HM.out];unfold meantT;rw[if_neg (by omega),Hend.out]
   have hM2:M.2=if whiteB c=true then l.drop (j+1) else l.drop j:=by
    rw[←HM.out];unfold meantT;rw[if_neg (by omega),Hend.out];simp only[hc,List.tail_drop]
   have hjk:m+1<j:=by have:=hj.out;omega
   have hbz:((i:Int)==0)=false:=by simp;omega
   have HM1:=Lib.hid hM1;have HM2:=Lib.hid hM2;have Hc:=Lib.hid hc;have hwh:=rt_white c;have hib:=fun w'=>ref_is (N:Int) w' (by omega) (by omega)
   obtain⟨k',hk',hk'n,hd,hkv⟩:∃ k':Nat,m+1<k'∧k'≤n∧Hid (l.drop k'=M.2)∧(if whiteB c=true then j+1 else j)=k':=by
    cases hwt:whiteB c with
    | true =>
     have hjl:j<n:=by
      have hpos:-1<pk (l.drop j) 0:=by
       rw[Hc.out];unfold whiteB at hwt;simp at hwt;omega
      have:=pk_pos hpos;rw[List.length_drop] at this;omega
     exact⟨j+1,by omega,by omega,(by show _=_;rw[HM2.out,if_pos hwt]),by simp⟩
    | false=>exact⟨j,hjk,hjn,(by show _=_;rw[HM2.out,if_neg (by rw[hwt];simp)]),by simp⟩
   clear hM1 hM2 hfst hz hpos Hend HM hc;have hV:M.1=if N=0∨isB (N:Int)=false then 65533 else (N:Int):=by rw[HM1.out];rfl
   have HV:=Lib.hid hV;clear hV
   cases hwt:whiteB c with
   | true =>
    rw[hwt] at hwh hkv;rw[if_pos rfl] at hkv;have Hk:=Lib.hid hkv;clear hkv hwt
    by_cases hN0:N=0
    ·have H1:Hid (M.1=65533):=by show _=_;rw[HV.out,if_pos (.inl hN0)]
     have hz0:((N:Int)==0)=true:=by simp;omega
     clear hN0
     go_wp2_with (first | (go_at_call 97;with_reducible refine hp.mono ?_;rintro e w' ⟨rfl,rfl⟩) | (go_at_call 96;refine(hwh _).mono ?_;rintro e w' ⟨rfl,rfl⟩) | (go_at_call 161;refine(hib _).mono ?_;rintro e w' ⟨rfl,rfl⟩))
     go_ret2
     exact⟨⟨k',hk',hk'n,hd.out,by rw[H1.out,←Hk.out];push_cast;rfl⟩,rfl⟩
    ·have hz0:((N:Int)==0)=false:=by simp;omega
     cases hB:isB (N:Int) with
     | true =>
      rw[hB] at hib;have H1:Hid (M.1=N):=by show _=_;rw[HV.out,if_neg (by simp[hN0,hB])]
      clear hN0
      go_wp2_with (first | (go_at_call 97;with_reducible refine hp.mono ?_;rintro e w' ⟨rfl,rfl⟩) | (go_at_call 96;refine(hwh _).mono ?_;rintro e w' ⟨rfl,rfl⟩) | (go_at_call 161;refine(hib _).mono ?_;rintro e w' ⟨rfl,rfl⟩))
      go_ret2
      exact⟨⟨k',hk',hk'n,hd.out,by rw[H1.out,←Hk.out];push_cast;rfl⟩,rfl⟩
     | false =>
      rw[hB] at hib;have H1:Hid (M.1=65533):=by show _=_;rw[HV.out,if_pos (.inr hB)]
      clear hN0
      go_wp2_with (first | (go_at_call 97;with_reducible refine hp.mono ?_;rintro e w' ⟨rfl,rfl⟩) | (go_at_call 96;refine(hwh _).mono ?_;rintro e w' ⟨rfl,rfl⟩) | (go_at_call 161;refine(hib _).mono ?_;rintro e w' ⟨rfl,rfl⟩))
      go_ret2
      exact⟨⟨k',hk',hk'n,hd.out,by rw[H1.out,←Hk.out];push_cast;rfl⟩,rfl⟩
   | false =>
    rw[hwt] at hwh hkv;rw[if_neg (by simp)] at hkv;have Hk:=Lib.hid hkv;clear hkv hwt
    by_cases hN0:N=0
    ·have H1:Hid (M.1=65533):=by show _=_;rw[HV.out,if_pos (.inl hN0)]
     have hz0:((N:Int)==0)=true:=by simp;omega
     clear hN0
     go_wp2_with (first | (go_at_call 97;with_reducible refine hp.mono ?_;rintro e w' ⟨rfl,rfl⟩) | (go_at_call 96;refine(hwh _).mono ?_;rintro e w' ⟨rfl,rfl⟩) | (go_at_call 161;refine(hib _).mono ?_;rintro e w' ⟨rfl,rfl⟩))
     go_ret2
     exact⟨⟨k',hk',hk'n,hd.out,by rw[H1.out,←Hk.out];rfl⟩,rfl⟩
    ·have hz0:((N:Int)==0)=false:=by simp;omega
     cases hB:isB (N:Int) with
     | true =>
      rw[hB] at hib;have H1:Hid (M.1=N):=by show _=_;rw[HV.out,if_neg (by simp[hN0,hB])]
      clear hN0
      go_wp2_with (first | (go_at_call 97;with_reducible refine hp.mono ?_;rintro e w' ⟨rfl,rfl⟩) | (go_at_call 96;refine(hwh _).mono ?_;rintro e w' ⟨rfl,rfl⟩) | (go_at_call 161;refine(hib _).mono ?_;rintro e w' ⟨rfl,rfl⟩))
      go_ret2
      exact⟨⟨k',hk',hk'n,hd.out,by rw[H1.out,←Hk.out];rfl⟩,rfl⟩
     | false =>
      rw[hB] at hib;have H1:Hid (M.1=65533):=by show _=_;rw[HV.out,if_pos (.inr hB)]
      clear hN0
      go_wp2_with (first | (go_at_call 97;with_reducible refine hp.mono ?_;rintro e w' ⟨rfl,rfl⟩) | (go_at_call 96;refine(hwh _).mono ?_;rintro e w' ⟨rfl,rfl⟩) | (go_at_call 161;refine(hib _).mono ?_;rintro e w' ⟨rfl,rfl⟩))
      go_ret2
      exact⟨⟨k',hk',hk'n,hd.out,by rw[H1.out,←Hk.out];rfl⟩,rfl⟩
abbrev OutR (w:World) (base:Nat) (A:Option Addr) (c:Nat) (outs:List Int):Prop:=w.ownsRow base 3 1 (.slice A outs.length c) outs.length (outs.map n64)
theorem rt_text {w:World} {base:Nat} {A:Option Addr} {c:Nat} {outs:List Int} (h:OutR w base A c outs) (hch:Chars outs) (hl:outs.length≤1000000) :
  Calls Tryz.prog 106 #[.slice A outs.length c] w fun e w'=>e=.returned (.string (bytesOf (writeP outs)))∧Below w.heap.size w w':=by
 have hrd:=Reads.of_own h;have hr:∀ c∈outs,-2147483648≤c∧c≤2147483647:=fun c hc=>by have:=isB_range (hch c hc);omega
 have Hr:=Lib.hid hr;clear hr
 go_enter Tryz.func106,Tryz.ntmps106
 go_wp2_with fail
 refine(ref_write outs A _ c w hrd Hr.out hl).mono ?_
 rintro e w1 ⟨v,rfl,hown,hb1⟩;obtain⟨A1,c1,rfl,_,_⟩:=own_form hown;have hrd1:=Reads.of_own hown;have hstr:=run_str (P:=Tryz.prog) (src:=22) (dst:=9) Tryz.underlying22 Tryz.underlying5 Tryz.underlying9 c1 hrd1;clear hrd hrd1 hown
 go_wp2
 go_ret
 exact⟨rfl,hb1⟩
theorem below_push {w w1 w2:World} {o:Obj} {e:TypeId} {size n:Nat} {v:Value} {xs:List Value} (h:Below w.heap.size w w1) (hown:w1.ownsRow w.heap.size e size v n xs) (hg:(w1.alloc o).grownBy w2 v.ownBlock):Below w.heap.size w w2 :=
 (h.grown (World.grownBy_alloc w1 o none) h.size (by simp)).grown hg (by have:=h.size;simp;omega) (fun g hgr=>(hown.lt g hgr).1)
theorem cell_new1 (w:World) (e:TypeId) (a:Value):∀ j u,[a][j]?=some u→(w.alloc (.cells #[a] e)).cell? ((⟨w.heap.size,0,none⟩:Addr).add j)=some u:=by
 intro j u hu;have h:=((RowAt.new w e #[a]).2 j u hu).1;have ha:(⟨w.heap.size,0,none⟩:Addr).add j=⟨w.heap.size,j,none⟩:=by unfold Addr.add;split<;>simp_all
 rw[ha];exact h
theorem rt_name {w:World} {B n cap:Nat} {A:Option Addr} {l:List Int} (h:RL w B A n cap l) (m:Nat) (i0:Int) (hi0:i0=m) (hm:m≤n) :
  Calls Tryz.prog 101 #[.slice A n cap,.int .i64 i0] w fun e w'=>(∃ k':Nat,m≤k'∧k'≤n∧l.drop k'=(nameT (l.drop m)).2∧e=.returned (.tuple #[.string (bytesOf (writeP (nameT (l.drop m)).1)),.int .i64 (k':Int)]))∧Below w.heap.size w w':=by
 have hlen:=h.len;have hn:=h.hn;have hnis:=nameT_is (l.drop m) (h.ch.drop m);obtain⟨T,hT⟩:∃ T,nameT (l.drop m)=T:=⟨_,rfl⟩;rw[hT] at hnis ⊢;have HT:=Lib.hid hT;have Hch:=Lib.hid hnis.1;clear hT hnis;have Hi0:=Lib.hid hi0;clear hi0;obtain⟨j0,hi,hz0,hz1,hz2⟩:=info_got int_info
 go_enter Tryz.func101,Tryz.ntmps101
 go_wp2_with fail
 go_loopw [1,6] (fun z x wr=>∃ (j:Nat) (outs:List Int) (Ao:Option Addr) (co:Nat),m≤j∧j≤n∧outs.length+m≤j∧Hid (outs++(nameT (l.drop j)).1=T.1)∧Hid ((nameT (l.drop j)).2=T.2)∧OutR wr w.heap.size Ao co outs∧Below w.heap.size w wr∧z=.int .i64 (j:Int)∧x=.slice Ao outs.length co) (fun z _ _=>n-(intOf z).toNat)
 case atStart =>
  have:=Hi0.out
  exact⟨m,[],none,0,Nat.le_refl _,hm,by simp,(by show _=_;rw[HT.out];rfl),(by show _=_;rw[HT.out]),World.ownsRow_nil _ _ _ _,Below.refl _ _,congrArg (Value.int IntKind.i64) (by omega),rfl⟩
 case round =>
  obtain⟨j,outs,Ao,co,hmj,hjn,hol,ho1,ho2,hown,hb,rfl,rfl⟩:=hrel;have hR:=h.mv hb;obtain⟨c,hc⟩:∃ c,pk (l.drop j) 0=c:=⟨_,rfl⟩;have hp:=rt_at hR j j rfl (by omega);rw[pk0,hc] at hp;have hcr:=hR.range j;rw[pk0,hc] at hcr;have he:=rt_escape hR j j rfl (by omega);have hw:=ref_within c wr (by omega) (by omega);have hbs:=hb.size
  cases hesc:esc (l.drop j) with
  | true =>
   have h92:c=92∧j+1<n:=by
    unfold esc at hesc;simp only[decide_eq_true_eq] at hesc;have:=pk_pos (l:=l.drop j) (m:=1) (by omega);rw[List.length_drop] at this
    exact⟨by rw[←hc];exact hesc.1,by omega⟩
   obtain⟨hc92,hj1⟩:=h92;have t92:=eq_t hc92;have hme:=rt_meant hR j j rfl hj1;have hnm:=nameT_esc hesc;rw[List.tail_drop] at hnm;rw[hnm] at ho1 ho2;have hmc:=isB_range (meantT_is (h.ch.drop (j+1)) (by intro h0;have:=congrArg List.length h0;rw[List.length_drop] at this;simp at this;omega));generalize meantT (l.drop (j+1))=M at *
   rw[hesc] at he;clear hc92 hc hesc hnm
   go_wp2_with (first
    | (go_at_call 97;with_reducible refine hp.mono ?_;rintro e w' ⟨rfl,rfl⟩)
    | (go_at_call 100;with_reducible refine he.mono ?_;rintro e w' ⟨rfl,rfl⟩)
    | (go_at_call 133;with_reducible refine hme.mono ?_;rintro e w' ⟨⟨k2,hk2,hk2n,hd2,rfl⟩,rfl⟩)
    | (at_builtin;refine wpList_append_own _ rfl _ _ 51 rfl w.heap.size 3 j0 (.int .i64 0) 1 8 Tryz.underlying51 hi hz0 hz1 hz2 rfl (by decide) (.slice Ao outs.length co) outs.length (outs.map n64) rfl (hown.alloc _) ⟨wr.heap.size,0,none⟩ 1 1 [.int .i64 M.1] rfl rfl (cell_new1 _ _ _) (by intro u hu;simp at hu;subst hu;rfl) (by unfold maxLen;omega) (by omega) (by simp;omega) ?_;intro v' w2 hown2 hg2 _))
   have hb2:=below_push hb hown hg2;obtain⟨A2,c2,rfl,_,_⟩:=own_form hown2;clear hp he hme hw
   go_wp2_with fail
   go_roundw
   case rel=>exact⟨k2,outs++[M.1],A2,c2,by omega,hk2n,by simp;omega,(by show _=_;rw[←ho1.out,hd2];simp),(by show _=_;rw[←ho2.out,hd2]),by simpa [OutR,n64] using hown2,hb2,rfl,by simp⟩
   case measure=>simp[intOf];omega
  | false =>
   rw[hesc] at he
   cases hwi:withinB c with
   | true =>
    have hj1:j<n:=by
     have h0:l.drop j≠[]:=within_ne (by rw[hc];exact hwi);have:=List.length_pos_iff.2 h0;rw[List.length_drop] at this;omega
    have hnm:=nameT_in hesc (by rw[hc];exact hwi);rw[List.tail_drop,hc] at hnm;rw[hnm] at ho1 ho2;rw[hwi] at hw
    have t92:(c==92)=false:=by
     simp;intro h9;rw[h9] at hwi;revert hwi;decide
    clear hc hesc hnm hwi
    go_wp2_with (first
     | (go_at_call 97;with_reducible refine hp.mono ?_;rintro e w' ⟨rfl,rfl⟩)
     | (go_at_call 100;with_reducible refine he.mono ?_;rintro e w' ⟨rfl,rfl⟩)
     | (go_at_call 99;with_reducible refine hw.mono ?_;rintro e w' ⟨rfl,rfl⟩)
     | (at_builtin;refine wpList_append_own _ rfl _ _ 51 rfl w.heap.size 3 j0 (.int .i64 0) 1 8 Tryz.underlying51 hi hz0 hz1 hz2 rfl (by decide) (.slice Ao outs.length co) outs.length (outs.map n64) rfl (hown.alloc _) ⟨wr.heap.size,0,none⟩ 1 1 [.int .i64 c] rfl rfl (cell_new1 _ _ _) (by intro u hu;simp at hu;subst hu;rfl) (by unfold maxLen;omega) (by omega) (by simp;omega) ?_;intro v' w2 hown2 hg2 _))
    have hb2:=below_push hb hown hg2;obtain⟨A2,c2,rfl,_,_⟩:=own_form hown2;clear hp he hw
    go_wp2_with fail
    go_roundw
    case rel=>exact⟨j+1,outs++[c],A2,c2,by omega,by omega,by simp;omega,(by show _=_;rw[←ho1.out];simp),(by show _=_;rw[←ho2.out]),by simpa [OutR,n64] using hown2,hb2,rfl,by simp⟩
    case measure=>simp[intOf];omega
   | false =>
    have hnm:=nameT_end hesc (by rw[hc];exact hwi);rw[hnm] at ho1 ho2;rw[hwi] at hw;have hT1:T.1=outs:=by rw[←ho1.out];simp
    have HT1:=Lib.hid hT1;clear hc hesc hnm hwi hT1;have htx:=rt_text hown (by rw[←HT1.out];exact Hch.out) (by omega)
    go_wp2_with (first
     | (go_at_call 97;with_reducible refine hp.mono ?_;rintro e w' ⟨rfl,rfl⟩)
     | (go_at_call 100;with_reducible refine he.mono ?_;rintro e w' ⟨rfl,rfl⟩)
     | (go_at_call 99;with_reducible refine hw.mono ?_;rintro e w' ⟨rfl,rfl⟩)
     | (go_at_call 106;with_reducible refine htx.mono ?_;rintro e w2 ⟨rfl,hb2⟩))
    go_ret2
    refine⟨⟨j,hmj,hjn,ho2.out,?_⟩,hb.trans (hb2.mono hbs)⟩
    rw[HT1.out];rfl
theorem rt_spaces {w:World} {B n cap:Nat} {A:Option Addr} {l:List Int} (h:RL w B A n cap l) (m:Nat) (i0:Int) (hi0:i0=m) (hm:m≤n) :
  Calls Tryz.prog 65 #[.slice A n cap,.int .i64 i0] w fun e w'=>(∃ k':Nat,m≤k'∧k'≤n∧l.drop k'=(spacesT (l.drop m)).2∧e=.returned (.tuple #[.int .i64 (k':Int),.bool (spacesT (l.drop m)).1]))∧Below w.heap.size w w':=by
 have hlen:=h.len;have hn:=h.hn;obtain⟨T,hT⟩:∃ T,spacesT (l.drop m)=T:=⟨_,rfl⟩;rw[hT];have HT:=Lib.hid hT;have Hi0:=Lib.hid hi0;clear hT hi0
 go_enter Tryz.func65,Tryz.ntmps65
 go_wp2_with fail
 go_loopw [1,6] (fun z x wr=>∃ (j:Nat) (b:Bool),m≤j∧j≤n∧Hid ((b||(spacesT (l.drop j)).1,(spacesT (l.drop j)).2)=T)∧Below w.heap.size w wr∧z=.int .i64 (j:Int)∧x=.bool b) (fun z _ _=>n-(intOf z).toNat)
 case atStart =>
  have:=Hi0.out
  exact⟨m,false,Nat.le_refl _,hm,(by show _=_;rw[HT.out];simp),Below.refl _ _,congrArg (Value.int IntKind.i64) (by omega),rfl⟩
 case round =>
  obtain⟨j,b,hmj,hjn,hrun,hb,rfl,rfl⟩:=hrel;have hR:=h.mv hb;obtain⟨c,hc⟩:∃ c,pk (l.drop j) 0=c:=⟨_,rfl⟩;obtain⟨d,hd⟩:∃ d,pk (l.drop j) 1=d:=⟨_,rfl⟩;have hp:=rt_at hR j j rfl (by omega);rw[pk0,hc] at hp;have hp1:=rt_at hR (j+1) ((j:Int)+1) (by omega) (by omega);rw[pk1,hd] at hp1;have hwh:=rt_white c wr
  cases hw:whiteB c with
  | true =>
   rw[hw] at hwh
   have hj1:j<n:=by
    have h0:l.drop j≠[]:=white_ne (by rw[hc];exact hw);have:=List.length_pos_iff.2 h0;rw[List.length_drop] at this;omega
   have hnew:((true||(spacesT (l.drop (j+1))).1,(spacesT (l.drop (j+1))).2)=T):=by
    rw[←hrun.out,spacesT_white (r:=l.drop j) (by rw[hc];exact hw),List.tail_drop];simp
   have Hnew:=Lib.hid hnew;clear hnew hrun hc hd hw
   go_wp2_with (first
    | (go_at_call 97;with_reducible refine hp.mono ?_;rintro e w' ⟨rfl,rfl⟩)
    | (go_at_call 96;with_reducible refine hwh.mono ?_;rintro e w' ⟨rfl,rfl⟩))
   go_roundw
   case rel=>exact⟨j+1,true,by omega,by omega,Hnew,hb,rfl,rfl⟩
   case measure=>simp[intOf];omega
  | false =>
   rw[hw] at hwh
   by_cases hcd:c=47∧d=42
   ·have hk1:j+1<n:=by
     have:=pk_pos (l:=l.drop j) (m:=1) (by rw[hd];omega);rw[List.length_drop] at this;omega
    have hnew:((b||(spacesT (skipC (l.drop (j+2)))).1,(spacesT (skipC (l.drop (j+2)))).2)=T):=by
     rw[←hrun.out,spacesT_comment (r:=l.drop j) (by rw[hc];exact hw) (by rw[hc,hd];exact hcd),List.tail_drop,List.tail_drop]
    have Hnew:=Lib.hid hnew;have t47:=eq_t hcd.1;have t42:=eq_t hcd.2;clear hnew hrun hcd hc hd hw
    go_upto_block 2 with (first
     | (go_at_call 97;(first | with_reducible refine hp.mono ?_ | with_reducible refine hp1.mono ?_);rintro e w' ⟨rfl,rfl⟩)
     | (go_at_call 96;with_reducible refine hwh.mono ?_;rintro e w' ⟨rfl,rfl⟩))
    go_cut [1] (fun z wx=>∃ j2:Nat,j+2≤j2∧j2≤n∧Hid (skipC (l.drop (j+2))=skipC (l.drop j2))∧Hid (j2=n∨(j2<n∧pk (l.drop j2) 0=42∧pk (l.drop j2) 1=47))∧wr=wx∧z=.int .i64 (j2:Int))
    case first =>
     go_wp2_with fail
     go_loopw [1] (fun z wi=>∃ j2:Nat,j+2≤j2∧j2≤n∧Hid (skipC (l.drop (j+2))=skipC (l.drop j2))∧wr=wi∧z=.int .i64 (j2:Int)) (fun z _=>n-(intOf z).toNat)
     case atStart=>exact⟨j+2,Nat.le_refl _,by omega,rfl,rfl,rfl⟩
     case round =>
      obtain⟨j2,hj2,hj2n,hrj,rfl,rfl⟩:=hrel;have x1:(0:Int)≤(j2:Int):=by omega
      by_cases hjl:j2<n
      ·obtain⟨bb,off,hA,hcell⟩:=hR.cell hjl
       rw[pk0] at hcell;have x2:(j2:Int)<(n:Int):=by omega
       have x4:decide ((j2:Int)<(n:Int))=true:=by simp;omega
       have hq1:=rt_at hR (j2+1) ((j2:Int)+1) (by omega) (by omega);rw[pk1] at hq1;obtain⟨e0,he0⟩:∃ c,pk (l.drop j2) 0=c:=⟨_,rfl⟩;obtain⟨e1,he1⟩:∃ c,pk (l.drop j2) 1=c:=⟨_,rfl⟩;rw[he0] at hcell;rw[he1] at hq1;subst hA
       by_cases h42:e0=42
       ·by_cases h47:e1=47
        ·have hst:Hid (j2=n∨(j2<n∧pk (l.drop j2) 0=42∧pk (l.drop j2) 1=47)):=.inr ⟨hjl,by rw[he0];exact h42,by rw[he1];exact h47⟩
         have u42:=eq_t h42;have u47:=eq_t h47;clear h42 h47 he0 he1
         go_wp2_with (go_at_call 97;with_reducible refine hq1.mono ?_;rintro e w' ⟨rfl,rfl⟩)
         go_meet
         exact⟨j2,hj2,hj2n,hrj,hst,rfl,rfl⟩
        ·have hnx:Hid (skipC (l.drop (j+2))=skipC (l.drop (j2+1))):=by
          show _=_;rw[hrj.out,skipC_on (by omega) (by rw[he1];exact fun h=>h47 h.2)]
         have u42:=eq_t h42;have u47:=eq_f h47;clear h42 h47 he0 he1
         go_wp2_with (go_at_call 97;with_reducible refine hq1.mono ?_;rintro e w' ⟨rfl,rfl⟩)
         go_roundw
         case rel=>exact⟨j2+1,by omega,by omega,hnx,trivial,rfl⟩
         case measure=>simp[intOf];omega
       ·have hnx:Hid (skipC (l.drop (j+2))=skipC (l.drop (j2+1))):=by
         show _=_;rw[hrj.out,skipC_on (by omega) (by rw[he0];exact fun h=>h42 h.1)]
        have u42:=eq_f h42;clear h42 he0 he1
        go_wp2_with fail
        go_roundw
        case rel=>exact⟨j2+1,by omega,by omega,hnx,trivial,rfl⟩
        case measure=>simp[intOf];omega
      ·have x4:decide ((j2:Int)<(n:Int))=false:=by simp;omega
       have hst:Hid (j2=n∨(j2<n∧pk (l.drop j2) 0=42∧pk (l.drop j2) 1=47)):=.inl (by omega)
       go_wp2_with fail
       go_meet
       exact⟨j2,hj2,hj2n,hrj,hst,rfl,rfl⟩
    case rest =>
     obtain⟨j2,hj2,hj2n,hrj,hstop,rfl,rfl⟩:=hcut;obtain⟨j',hj'⟩:∃ j',min (j2+2) n=j':=⟨_,rfl⟩;have hmin:min ((j2:Int)+2) (n:Int)=(j':Int):=by omega
     have hj'n:j'≤n:=by omega
     have hdrop:skipC (l.drop (j+2))=l.drop j':=by
      rw[hrj.out]
      rcases hstop.out with h|⟨h1,h2⟩
      ·have e1:j'=n:=by omega
       have e2:l.drop j2=[]:=List.drop_eq_nil_of_le (by omega);have e3:l.drop j'=[]:=List.drop_eq_nil_of_le (by omega);rw[e2,e3];rfl
      ·rw[skipC_stop (by omega) h2]
       have:=pk_pos (l:=l.drop j2) (m:=1) (by rw[h2.2];omega);rw[List.length_drop] at this;have e1:j'=j2+2:=by omega
       rw[e1]
     have hnew2:=Hnew.out;rw[hdrop] at hnew2;have HN:=Lib.hid hnew2;have hjj:j+1<j':=by omega
     clear hnew2 hdrop hj' hp hp1 hwh
     go_wp2_with fail
     go_roundw
     case rel=>exact⟨j',b,by omega,hj'n,HN,hb,congrArg (Value.int IntKind.i64) (by omega),rfl⟩
     case measure=>simp[intOf];omega
   ·have hend:(b,l.drop j)=T:=by
     rw[←hrun.out,spacesT_end (r:=l.drop j) (by rw[hc];exact hw) (by rw[hc,hd];exact hcd)];simp
    have HE1:Hid (T.1=b):=by show _=_;rw[←hend]
    have HE2:Hid (l.drop j=T.2):=by show _=_;rw[←hend]
    obtain⟨q0,t0⟩:∃ q,(c==47)=q:=⟨_,rfl⟩;obtain⟨q1,t1⟩:∃ q,(d==42)=q:=⟨_,rfl⟩
    have hqq:q0=false∨q1=false:=by
     cases q0<;>cases q1<;>simp at t0 t1 ⊢
     exact hcd ⟨t0,t1⟩
    clear hend hrun hcd hc hd hw
    cases q0 with
    | false =>
     go_wp2_with (first
      | (go_at_call 97;(first | with_reducible refine hp.mono ?_ | with_reducible refine hp1.mono ?_);rintro e w' ⟨rfl,rfl⟩)
      | (go_at_call 96;with_reducible refine hwh.mono ?_;rintro e w' ⟨rfl,rfl⟩))
     go_ret2
     exact⟨⟨j,hmj,hjn,HE2.out,by rw[HE1.out];rfl⟩,hb⟩
    | true =>
     obtain rfl:q1=false:=hqq.resolve_left (by intro h;cases h)
     go_wp2_with (first
      | (go_at_call 97;(first | with_reducible refine hp.mono ?_ | with_reducible refine hp1.mono ?_);rintro e w' ⟨rfl,rfl⟩)
      | (go_at_call 96;with_reducible refine hwh.mono ?_;rintro e w' ⟨rfl,rfl⟩))
     go_ret2
     exact⟨⟨j,hmj,hjn,HE2.out,by rw[HE1.out];rfl⟩,hb⟩
end Go.Proofs.YtfhdihdafmahgaaGreatDoor
