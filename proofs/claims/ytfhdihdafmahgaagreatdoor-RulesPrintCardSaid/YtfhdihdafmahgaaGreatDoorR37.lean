import Derived.Test.YtfhdihdafmahgaaGreatDoorR32
import Derived.Test.YtfhdihdafmahgaaGreatDoorR34
set_option linter.unusedVariables false
set_option linter.unusedSimpArgs false
set_option maxRecDepth 100000
set_option maxHeartbeats 8000000
namespace Go.Proofs.YtfhdihdafmahgaaGreatDoor
open Go.RowKit Rn Tp Ru
def OpenRet (l:List GTok) (k:Nat) (w:World) (e:Ending) (w':World):Prop:=(∃ A c,e=.returned (.slice A (stackP l k).length c)∧w'.ownsRow w.heap.size 3 1 (.slice A (stackP l k).length c) (stackP l k).length (stackV l k))∧Below w.heap.size w w'
theorem rr_open (l:List GTok) (A:Option Addr) (n c z:Nat) (w:World) (h:ReadsS w (· < w.heap.size) 3 A n (cellsG l)) (hn:n≤1000000) (hz:z≤n) :
  Calls Tryz.prog 67 #[.slice A n c,.int .i64 (z:Int)] w (OpenRet l z w):=by
 have hlen:=h.toks_len;have Hlen:=Lib.hid hlen;obtain⟨hi0,hi,hz0,hz1,hz2⟩:=info_take ru_int_info;clear hlen
 go_enter Tryz.func67,Tryz.ntmps67
 go_wp2_with fail
 go_loopw [5,6] (fun v i wr=>∃ (k:Nat) (A1:Option Addr) (m c1:Nat),k≤z∧i=.int .i64 (k:Int)∧v=.slice A1 m c1∧Hid (m=(stackP l k).length)∧wr.ownsRow w.heap.size 3 1 (.slice A1 m c1) m (stackV l k)∧Below w.heap.size w wr) (fun _ i _=>z-(intOf i).toNat)
 case atStart=>exact⟨0,none,0,0,by omega,rfl,rfl,rfl,World.ownsRow_nil _ _ _ _,Below.refl _ _⟩
 case round =>
  obtain⟨k,A2,m,c2,hj,rfl,rfl,hm,hown,hb⟩:=hrel;have hrow:=hown.lt;have hbs:=hb.size;have hsl:=stack_len l k;have hmk:m≤k:=by rw[hm.out];exact hsl
  clear hsl
  by_cases hlt:k<z
  ·obtain⟨b,off,t,rfl,hbl,ht,c0,c1,c2'⟩:=h.tok (show k<n by omega)
   have dz:(k:Int)<(z:Int):=by omega
   have dn:(k:Int)<(n:Int):=by omega
   replace c0:=(hb.cell (p:=⟨b,off+k * 3,none⟩) hbl).trans c0
   replace c1:=(hb.cell (p:=⟨b,off+k * 3+1,none⟩) hbl).trans c1
   replace c2':=(hb.cell (p:=⟨b,off+k * 3+2,none⟩) hbl).trans c2'
   have cC:=rr_close t wr;have ht1:=Lib.hid ht;clear ht
   by_cases ho:opensP t=[]
   ·have Ho:=Lib.hid ho
    obtain⟨s1,s2⟩:=txt_is ho;clear ho
    go_wp2_with fail
    refine cC.mono ?_
    rintro e w2 ⟨rfl,hb2⟩;have bC:Below w.heap.size w w2:=hb.trans (hb2.mono hbs);have ownC:=own_below hown hb2;have hs2:=hb2.size
    replace c0:=(hb2.cell (p:=⟨b,off+k * 3,none⟩) (by show b<_;omega)).trans c0
    replace c1:=(hb2.cell (p:=⟨b,off+k * 3+1,none⟩) (by show b<_;omega)).trans c1
    have hbl2:b<w2.heap.size:=by omega
    have hw1:IntKind.i64.wrap ((k:Int)+1)=(k:Int)+1:=by rw[IntKind.wrap_i64];omega
    clear hown hb hb2 c2' cC
    have hstay:stackP l (k+1)=stackP l k→Hid (∀ W,Below w2.heap.size w2 W→W.ownsRow w.heap.size 3 1 (.slice A2 m c2) m (stackV l (k+1))∧Below w.heap.size w W∧m=(stackP l (k+1)).length):=fun hs W hW =>
     ⟨by
      have:=own_below ownC hW;unfold stackV at this ⊢;rw[hs];exact this,bC.trans (hW.mono (by omega)),by rw[hs];exact hm.out⟩
    by_cases hk13:t.kind=13
    ·have k13:(t.kind==13)=true:=by simpa using hk13
     obtain⟨S,hS⟩:∃ S,stackP l k=S:=⟨_,rfl⟩
     cases S with
     | nil =>
      have hJ2:=hstay (step_stay ht1.out Ho.out (fun p r hpr=>by rw[hS] at hpr;cases hpr));have hm0:m=0:=by rw[hm.out,hS];rfl
      have d64:decide ((0:Int)<(m:Int))=false:=by rw[hm0];rfl
      have d65:decide (0<m)=false:=by rw[hm0];rfl
      clear hstay ownC bC hS hk13 hm hm0
      go_wp2_with fail
      go_quiet (fail)
      go_wp2_with fail
      go_roundw
      case rel =>
       obtain⟨q1,q2,q3⟩:=hJ2.out _ (below_drewN (Below.refl _ _) _)
       exact⟨k+1,_,_,_,by omega,by go_num,rfl,q3,q1,q2⟩
      case measure=>simp[intOf];omega
     | cons p r =>
      have hmr:m=r.length+1:=by rw[hm.out,hS];rfl
      have hp:p<k:=stack_lt l k p (by rw[hS];simp);obtain⟨b',off',tp,hA',_,htp,e0,e1,e2⟩:=h.tok (k:=p) (by omega)
      injection hA' with hA'
      injection hA' with q1 q2
      subst q1 q2
      replace e0:=(bC.cell (p:=⟨b,off+p * 3,none⟩) hbl).trans e0
      replace e1:=(bC.cell (p:=⟨b,off+p * 3+1,none⟩) hbl).trans e1
      replace e2:=(bC.cell (p:=⟨b,off+p * 3+2,none⟩) hbl).trans e2
      have hVm:(stackV l k)[m-1]?=some (.int .i64 (p:Int)):=by
       unfold stackV;rw[hS,List.map_reverse,List.map_cons,List.reverse_cons,show m-1=(List.map (fun j:Nat=>Value.int .i64 (j:Int)) r).reverse.length by simp;omega,List.getElem?_append_right (Nat.le_refl _)]
       simp
      obtain⟨g2,off2,hA2,hg2,hcell2⟩:=(Reads.of_own ownC).2 (by omega);have e3:=hcell2 _ _ hVm;have hop:(l[p]?.map opensP)=some (opensP tp):=by rw[htp];rfl
      have dm:decide ((0:Int)<(m:Int))=true:=by simp;omega
      have dm2:decide (0<m)=true:=by simp;omega
      have dw:IntKind.i64.wrap ((m:Int)-1)=(m:Int)-1:=by rw[IntKind.wrap_i64];omega
      have dn1:((m:Int)-1).toNat=m-1:=by omega
      have d5:(0:Int)≤(m:Int)-1:=by omega
      have d6:(m:Int)-1<(m:Int):=by omega
      have d7:(p:Int)<(n:Int):=by omega
      obtain⟨q,hq⟩:∃ q,decide (opensP tp=t.text)=q:=⟨_,rfl⟩;have dq:((bytesOf (opensP tp)).toList==(bytesOf t.text).toList)=q:=by rw[bytesOf_toList,bytesOf_toList,←hq];rw[Bool.eq_iff_iff];simp
      subst hA2;have x0:=bw_cell (B:=w2.heap.size) c0 hbl2;have x1:=bw_cell (B:=w2.heap.size) c1 hbl2;have x2:=bw_cell (B:=w2.heap.size) e0 hbl2;have x3:=bw_cell (B:=w2.heap.size) e1 hbl2;have x4:=bw_cell (B:=w2.heap.size) e2 hbl2;have x5:=bw_cell (B:=w2.heap.size) e3 hg2;have hS1:=Lib.hid hS;have hop1:=Lib.hid hop;have hq1:=Lib.hid hq;have hk1:=Lib.hid hk13;have hmr1:=Lib.hid hmr;clear hS hop hq hk13 hmr hVm htp c0 c1 e0 e1 e2 hcell2 e3
      go_wp2_with fail
      refine wp_region_bw w2.heap.size (by kernel_rfl) (by kernel_rfl) ?_
      repeat(go_big_quiet_step (first | (go_at_call 68;rename_i W;exact calls_bw (Nat.le_refl _) (rr_close tp W.val))))
      refine wpQuiet_nil ?_
      intro _ hw';obtain⟨W,rfl⟩:=hw';have hWb:=W.is
      cases q with
      | true =>
       have hpop:=step_pop ht1.out Ho.out hS1.out hk1.out (by rw[hop1.out];congr 1;exact of_decide_eq_true hq1.out)
       have HS:Hid (stackV l k=stackV l (k+1)++[.int .i64 (p:Int)]):=by
        show _=_
        unfold stackV;rw[hpop,hS1.out];simp
       have HL:Hid (m-1=(stackP l (k+1)).length):=by
        show _=_
        rw[hpop,hmr1.out];simp
       have ownW:=own_below ownC hWb;have bW:Below w.heap.size w W.val:=bC.trans (hWb.mono (by omega))
       have hoff:off2=0:=by
        obtain⟨g3,cap3,hv,_,_⟩:=ownW.form (by omega)
        injection hv with hv
        injection hv with hv
        injection hv
       have ownY:Hid (W.val.ownsRow w.heap.size 3 1 (.slice (some ⟨g2,off2,none⟩) (m-1) c2) (m-1) (stackV l (k+1))):=by
        show World.ownsRow _ _ _ _ _ _ _
        rw[hoff] at ownW ⊢;rw[HS.out] at ownW;have e:m-1+1=m:=by omega
        refine ownsRow_pop (n:=m-1) (last:=[.int .i64 (p:Int)]) (by rw[stackV_len,←HL.out];omega) ?_
        rw[e];exact ownW
       have hcap:m≤c2:=by
        obtain⟨_,_,q1,q2,_⟩:=own_form ownC
        injection q1 with _ _ q1
        rw[q1];exact q2
       have dcap:(m:Int)-1≤(c2:Int):=by omega
       clear hpop hstay ownC bC ownW hoff hm
       go_wp2_with fail
       go_roundw
       case rel=>exact⟨k+1,_,m-1,_,by omega,by go_num,by first | rfl | go_num,HL,ownY.out,bW⟩
       case measure=>simp[intOf];omega
      | false =>
       have hJ2:=hstay (step_stay ht1.out Ho.out (fun p' r' hpr hh=>by
        rw[hS1.out] at hpr
        injection hpr with e1 e2
        subst e1;rw[hop1.out] at hh;have:=of_decide_eq_false hq1.out
        exact this (by have:=hh.2;injection this)))
       clear hstay ownC bC hm
       go_wp2_with fail
       go_roundw
       case rel =>
        obtain⟨q1,q2,q3⟩:=hJ2.out _ hWb
        exact⟨k+1,_,_,_,by omega,by go_num,rfl,q3,q1,q2⟩
       case measure=>simp[intOf];omega
    ·have k13:(t.kind==13)=false:=by simpa using hk13
     have hJ2:=hstay (step_stay ht1.out Ho.out (fun p r _ hpr=>hk13 hpr.1));clear hstay ownC bC hk13 hm
     go_wp2_with fail
     go_quiet (fail)
     go_wp2_with fail
     go_roundw
     case rel =>
      obtain⟨q1,q2,q3⟩:=hJ2.out _ (below_drewN (Below.refl _ _) _)
      exact⟨k+1,_,_,_,by omega,by go_num,rfl,q3,q1,q2⟩
     case measure=>simp[intOf];omega
   ·obtain⟨s1,s2⟩:=txt_not ho
    have hpush:=step_push ht1.out ho;have hV:stackV l k++[Value.int .i64 (k:Int)]=stackV l (k+1):=by unfold stackV;rw[hpush];simp
    have hL:m+1=(stackP l (k+1)).length:=by rw[hpush,hm.out];rfl
    have HV:=Lib.hid hV;have HL:=Lib.hid hL;have hw1:IntKind.i64.wrap ((k:Int)+1)=(k:Int)+1:=by rw[IntKind.wrap_i64];omega
    clear hV hL hpush ho
    go_wp2_with fail
    refine cC.mono ?_
    rintro e w2 ⟨rfl,hb2⟩;have bC:Below w.heap.size w w2:=hb.trans (hb2.mono hbs);have ownC:=own_below hown hb2;have hs2:=hb2.size;clear hown hb c0 c1 c2' cC hm hb2
    go_wp2_with (at_builtin;refine wpList_append_own_at _ rfl _ _ 51 rfl w.heap.size 3 hi0 _ 1 8 Tryz.underlying51 hi hz0 hz1 hz2 rfl (by decide) _ _ _ rfl (ownC.alloc _) ⟨w2.heap.size,0,none⟩ 1 1 [.int .i64 (k:Int)] rfl rfl ?e1 ?e2 ?e3 ?e4 ?e5 ?_)
    case e1=>exact cell_one_new _ _ _
    case e2=>intro u hu;simp at hu;subst hu;rfl
    case e3=>unfold maxLen;omega
    case e4=>omega
    case e5=>simp;omega
    intro v' w3 hown3 hg3 _ hat;rw[HV.out] at hown3;have bD:Below w.heap.size w w3:=push_below bC (by omega) ownC hg3;obtain⟨A3,c3,rfl,_,_⟩:=own_form hown3;clear ownC hg3 hat
    go_wp2_with fail
    go_roundw
    case rel=>exact⟨k+1,_,m+1,_,by omega,by go_num,rfl,HL,hown3,bD⟩
    case measure=>simp[intOf];omega
  ·obtain rfl:k=z:=by omega
   have dz:¬ (k:Int)<(k:Int):=by omega
   have hfin:OpenRet l k w (.returned (.slice A2 m c2)) wr:=by
    have e:=hm.out;subst e
    exact⟨⟨A2,c2,rfl,hown⟩,hb⟩
   have HF:=Lib.hid hfin;clear hfin hown
   go_wp2_with fail
   go_ret
   exact HF.out
def EndsOut (l:List GTok) (n:Nat) (w:World) (e:Ending) (w':World):Prop:=Below w.heap.size w w' ∧
 if deepB l=true then ∃ A c,e=.returned (.tuple #[.slice A n c,.int .i64 0])∧EndsS w' (Fresh w w') A n l
 else e=.returned (.tuple #[.slice none 0 0,.int .i64 3])
theorem close_succ (l:List GTok) {k n j:Nat} (hj:j<n):closeP l k (n-j) j=if k∉stackP l (j+1) then j else closeP l k (n-(j+1)) (j+1):=by
 obtain⟨f,hf⟩:∃ f,n-j=f+1:=⟨n-j-1,by omega⟩;rw[hf,show n-(j+1)=f by omega];rfl
theorem ends_test (l:List GTok) {k j:Nat} {t:GTok} (ht:l[k]?=some t) (ho:opensP t≠[]) (hj:k<j) :
  (stackP l (j+1)).length<(stackP l (k+1)).length∧k∉stackP l (j+1) ∨
  ∃ q:Nat,¬ (stackP l (j+1)).length<(stackP l (k+1)).length∧q≤j∧(stackV l (j+1))[(stackP l (k+1)).length-1]?=some (.int .i64 (q:Int))∧(q=k↔k∈stackP l (j+1)):=by
 have hs:=stack_test l ht ho (j-k);rw[show k+1+(j-k)=j+1 by omega] at hs;have hp:=step_push ht ho;have hL:(stackP l (k+1)).length=(stackP l k).length+1:=by rw[hp];rfl
 rw[hL]
 by_cases hlt:(stackP l (j+1)).length<(stackP l k).length+1
 ·refine .inl ⟨hlt,fun h=>?_⟩
  have:=hs.1 h;rw[List.getElem?_eq_none (by simp;omega)] at this
  cases this
 ·obtain⟨q,hq⟩:∃ q,(stackP l (j+1)).reverse[(stackP l k).length]?=some q:=⟨_,List.getElem?_eq_getElem (by simp;omega)⟩
  refine .inr ⟨q,hlt,?_,?_,?_⟩
  ·have h1:=List.mem_of_getElem? hq
   have:=stack_lt l (j+1) q (by simpa using h1)
   omega
  ·unfold stackV
   rw[List.getElem?_map,show (stackP l k).length+1-1=(stackP l k).length by omega,hq];rfl
  ·rw[hs,hq]
   constructor
   ·rintro rfl;rfl
   ·intro h;injection h
theorem rr_ends (l:List GTok) (A:Option Addr) (n c:Nat) (w:World) (h:ReadsS w (· < w.heap.size) 3 A n (cellsG l)) (hn:n≤1000000) :
  Calls Tryz.prog 33 #[.slice A n c] w (EndsOut l n w):=by
 have hlen:=h.toks_len;have Hlen:=Lib.hid hlen;obtain⟨hi0,hi,hz0,hz1,hz2⟩:=info_take ru_int_info;clear hlen
 go_enter Tryz.func33,Tryz.ntmps33
 go_wp2_with fail
 go_loopw [4,5] (fun v i wr=>∃ (k:Nat) (A1:Option Addr) (m c1:Nat),k≤n∧i=.int .i64 (k:Int)∧v=.slice A1 m c1∧m=k∧wr.ownsRow w.heap.size 3 1 (.slice A1 m c1) m ((endsV l).take k)∧Below w.heap.size w wr∧Hid (∀ i,i≤k→(stackP l i).length≤64)) (fun _ i _=>n-(intOf i).toNat)
 case atStart=>exact⟨0,none,0,0,by omega,rfl,rfl,rfl,World.ownsRow_nil _ _ _ _,Below.refl _ _,fun i hi=>by rw[Nat.le_zero.1 hi];simp[stackP]⟩
 case round =>
  obtain⟨k,A2,m,c2,hj,rfl,rfl,rfl,hown,hb,hdp⟩:=hrel;have hrow:=hown.lt;have hbs:=hb.size
  by_cases hlt:m<n
  ·have dz:(m:Int)<(n:Int):=by omega
   have hw1:IntKind.i64.wrap ((m:Int)+1)=((m+1:Nat):Int):=by rw[IntKind.wrap_i64];omega
   have cO:=rr_open l A n c (m+1) wr (h.below hb) hn (by omega);obtain⟨b,off,t,rfl,hbl,ht,c0,c1,c2'⟩:=h.tok (show m<n by omega);have ht1:=Lib.hid ht;have hm1:stackP l (m+1)=stackP l (m+1):=rfl;obtain⟨z,hz⟩:∃ z,(stackP l (m+1)).length=z:=⟨_,rfl⟩;have hzk:=stack_len l (m+1);rw[hz] at hzk;have Hz:=Lib.hid hz;clear ht hz hm1
   go_wp2_with fail
   refine cO.mono ?_
   rintro e w1 ⟨⟨A3,c3,rfl,hown1⟩,hb1⟩;have bC:Below w.heap.size w w1:=hb.trans (hb1.mono hbs);have ownC:=own_below hown hb1;have hs1:=hb1.size;have hR:ReadsS w1 (· < w1.heap.size) 3 (some ⟨b,off,none⟩) n (cellsG l):=(h.below hb).below hb1
   replace c0:=(bC.cell (p:=⟨b,off+m * 3,none⟩) hbl).trans c0
   replace c1:=(bC.cell (p:=⟨b,off+m * 3+1,none⟩) hbl).trans c1
   replace c2':=(bC.cell (p:=⟨b,off+m * 3+2,none⟩) hbl).trans c2'
   rw[Hz.out];clear hown hb hb1 cO hown1
   by_cases hdeep:64<z
   ·have dd:decide ((64:Int)<(z:Int))=true:=by simp;omega
    have hfin:deepB l=false:=by
     unfold deepB;rw[List.all_eq_false]
     exact⟨m+1,List.mem_range.2 (by rw[Hlen.out];omega),by simp;rw[Hz.out];omega⟩
    have HF:=Lib.hid hfin;clear hfin hdp hR ownC
    go_wp2_with fail
    go_ret2
    refine⟨bC,?_⟩
    rw[HF.out,if_neg (by decide)]
    rfl
   ·have dd:decide ((64:Int)<(z:Int))=false:=by simp;omega
    have hdp':Hid (∀ i,i≤m+1→(stackP l i).length≤64):=fun i hi=>by
     rcases Nat.lt_or_ge i (m+1) with h1|h1
     ·exact hdp.out i (by omega)
     ·rw[show i=m+1 by omega,Hz.out];omega
    have cC:=rr_close t w1;obtain⟨o,hoo⟩:∃ o,opensP t=o:=⟨_,rfl⟩;obtain⟨g0,hg0⟩:∃ g0,((bytesOf o).toList==[])=g0:=⟨_,rfl⟩;rw[hoo] at cC;have Hoo:=Lib.hid hoo;have Hg0:=Lib.hid hg0;clear hdp hoo
    go_wp2_with fail
    refine cC.mono ?_
    rintro e w2 ⟨rfl,hb2⟩;have hs2:=hb2.size
    go_upto_if 28 with (fail)
    go_cut [7] (fun x wx=>x=.int .i64 (endP l m)∧Below w1.heap.size w1 wx)
    case first =>
     clear hg0
     cases g0 with
     | true =>
      have ho:opensP t=[]:=by
       refine Classical.byContradiction fun hh=>?_
       have:=(txt_not hh).2;rw[Hoo.out,Hg0.out] at this
       cases this
      have he:endP l m=-1:=no_open ht1.out ho;have HE:=Lib.hid he;clear ho he hR ownC
      go_wp2_with fail
      go_meet
      exact⟨by rw[HE.out],hb2⟩
     | false =>
      have ho:opensP t≠[]:=fun hh=>by
       have:=(txt_is hh).2;rw[Hoo.out,Hg0.out] at this
       cases this
      have Ho:=Lib.hid ho;simp only[Bool.not_false];have hwn:IntKind.i64.wrap ((n:Int)-1)=((n-1:Nat):Int):=by rw[IntKind.wrap_i64];omega
      clear ho ownC cC c0 c1 c2'
      go_wp2_with fail
      go_loopw [7,8] (fun v i wx=>∃ j:Nat,m≤j∧j<n∧i=.int .i64 (j:Int)∧v=.int .i64 ((closeP l m (n-(j+1)) (j+1):Nat):Int)∧Below w1.heap.size w1 wx) (fun _ i _=>(intOf i).toNat)
      case atStart =>
       refine⟨n-1,by omega,by omega,rfl,?_,hb2⟩
       rw[show n-(n-1+1)=0 by omega]
       show _=Value.int .i64 ((l.length:Nat):Int)
       rw[Hlen.out]
      case round =>
       obtain⟨j,hmj,hjn,rfl,rfl,hbx⟩:=hrel;obtain⟨wy,hwy⟩:∃ x,x=wr:=⟨_,rfl⟩;subst hwy;have hsx:=hbx.size
       by_cases hgt:m<j
       ·have dj:(m:Int)<(j:Int):=by omega
        have hwj:IntKind.i64.wrap ((j:Int)+1)=((j+1:Nat):Int):=by rw[IntKind.wrap_i64];omega
        have hwj1:IntKind.i64.wrap ((j:Int)-1)=((j-1:Nat):Int):=by rw[IntKind.wrap_i64];omega
        have cO:=rr_open l (some ⟨b,off,none⟩) n c (j+1) wy (hR.below hbx) hn (by omega);have hte:=ends_test l ht1.out Ho.out hgt;have hcs:=close_succ l (k:=m) hjn;obtain⟨y,hy⟩:∃ y,(stackP l (j+1)).length=y:=⟨_,rfl⟩;have hyk:=stack_len l (j+1);rw[Hz.out,hy] at hte;rw[hy] at hyk;have Hy:=Lib.hid hy;have Hcs:=Lib.hid hcs;clear hy hcs;obtain⟨g,hg⟩:∃ g,decide (m∉stackP l (j+1))=g:=⟨_,rfl⟩;have Hg:=Lib.hid hg;clear hg
        go_wp2_with fail
        refine cO.mono ?_
        rintro e w3 ⟨⟨A4,c4,rfl,hown4⟩,hb3⟩;have hs3:=hb3.size;have b3:Below w1.heap.size w1 w3:=hbx.trans (hb3.mono hsx);rw[Hy.out] at hown4 ⊢
        have hz1':1≤z:=by
         have:=step_push ht1.out Ho.out;rw[←Hz.out,this];simp
        have dwz:IntKind.i64.wrap ((z:Int)-1)=(z:Int)-1:=by rw[IntKind.wrap_i64];omega
        have hj1:Hid (j-1+1=j):=by show _=_;clear hte Hcs Hg Hy;omega
        clear cO
        go_upto_region 15 with (fail)
        go_cut [57] (fun x wx=>x=.bool g∧w3=wx)
        case first =>
         have hun:(undef:Value)=.tuple #[]:=rfl
         rcases hte with⟨hyz,hnot⟩|⟨q,hyz,hqj,hcq,hiff⟩
         ·have dyz:(y:Int)<(z:Int):=by omega
          have eg:g=true:=by rw[←Hg.out];simpa using hnot
          have EG:=Lib.hid eg;clear eg hnot hown4
          go_wp2_with fail
          go_meet
          exact⟨by rw[EG.out],rfl⟩
         ·have dyz:¬ (y:Int)<(z:Int):=by omega
          have eg:g=!((q:Int)==(m:Int)):=by
           rw[←Hg.out,Bool.eq_iff_iff];simp only[decide_eq_true_eq,Bool.not_eq_true',beq_eq_false_iff_ne,ne_eq];rw[←hiff];omega
          have EG:=Lib.hid eg;obtain⟨g2,off2,hA4,hg2,hcell2⟩:=(Reads.of_own hown4).2 (by omega);have e3:=hcell2 _ _ hcq;subst hA4;have d5:(0:Int)≤(z:Int)-1:=by omega
          have d6:(z:Int)-1<(y:Int):=by omega
          have dn1:((z:Int)-1).toNat=z-1:=by omega
          clear eg hiff hown4 hcell2 hcq
          go_wp2_with fail
          go_meet
          exact⟨by rw[EG.out];rfl,rfl⟩
        case rest =>
         obtain⟨rfl,rfl⟩:=hcut
         cases g with
         | true =>
          have hc2:Hid (closeP l m (n-(j-1+1)) (j-1+1)=j):=by
           show _=_
           rw[hj1.out,Hcs.out,if_pos (of_decide_eq_true Hg.out)]
          clear hte hown4
          go_wp2_with fail
          go_roundw
          case rel=>exact⟨j-1,by omega,by omega,rfl,by rw[hc2.out],b3⟩
          case measure=>simp[intOf];omega
         | false =>
          have hc2:Hid (closeP l m (n-(j-1+1)) (j-1+1)=closeP l m (n-(j+1)) (j+1)):=by
           show _=_
           rw[hj1.out,Hcs.out,if_neg (of_decide_eq_false Hg.out)]
          clear hte hown4
          go_wp2_with fail
          go_roundw
          case rel=>exact⟨j-1,by omega,by omega,rfl,by rw[hc2.out],b3⟩
          case measure=>simp[intOf];omega
       ·obtain rfl:m=j:=by omega
        have dj:¬ (m:Int)<(m:Int):=by omega
        have he:endP l m=((closeP l m (n-(m+1)) (m+1):Nat):Int):=by
         unfold endP;rw[ht1.out];simp only[if_neg Ho.out];rw[Hlen.out]
        have HE:=Lib.hid he;clear he
        go_wp2_with fail
        go_meet
        exact⟨by rw[HE.out],hbx⟩
    case rest =>
     clear hg0;obtain⟨rfl,hbc⟩:=hcut;obtain⟨w4,hw4⟩:∃ x,x=wc:=⟨_,rfl⟩;subst hw4;have hs4:=hbc.size;have ownD:=own_below ownC hbc;have bD:Below w.heap.size w w4:=bC.trans (hbc.mono (by omega))
     have hV:(endsV l).take m++[Value.int .i64 (endP l m)]=(endsV l).take (m+1):=by
      rw[List.take_add_one,endsV_at l (by rw[Hlen.out];exact hlt)];rfl
     have HV:=Lib.hid hV;have hlt2:=ownD.lt;clear ownC hV cC c0 c1 c2' hR
     go_wp2_with (at_builtin;refine wpList_append_own_at _ rfl _ _ 51 rfl w.heap.size 3 hi0 _ 1 8 Tryz.underlying51 hi hz0 hz1 hz2 rfl (by decide) _ _ _ rfl (ownD.alloc _) ⟨w4.heap.size,0,none⟩ 1 1 [.int .i64 (endP l m)] rfl rfl ?e1 ?e2 ?e3 ?e4 ?e5 ?_)
     case e1=>exact cell_one_new _ _ _
     case e2=>intro u hu;simp at hu;subst hu;rfl
     case e3=>unfold maxLen;omega
     case e4=>omega
     case e5=>simp;omega
     intro v' w5 hown5 hg5 _ hat;rw[HV.out] at hown5;have bE:Below w.heap.size w w5:=push_below bD (by omega) ownD hg5;obtain⟨A5,c5,rfl,_,_⟩:=own_form hown5;clear ownD hg5 hat
     go_wp2_with fail
     go_roundw
     case rel=>exact⟨m+1,_,m+1,_,by omega,by go_num,rfl,rfl,hown5,bE,hdp'⟩
     case measure=>simp[intOf];omega
  ·obtain rfl:m=n:=by omega
   have dz:¬ (m:Int)<(m:Int):=by omega
   have hfin:EndsOut l m w (.returned (.tuple #[.slice A2 m c2,.int .i64 0])) wr:=by
    have hd:deepB l=true:=by
     unfold deepB;rw[List.all_eq_true];intro i hi;have:=List.mem_range.1 hi;rw[Hlen.out] at this
     exact decide_eq_true (hdp.out i (by omega))
    rw[List.take_of_length_le (by rw[endsV_len,Hlen.out];omega)] at hown
    refine⟨hb,?_⟩
    rw[hd,if_pos rfl]
    exact⟨A2,c2,rfl,ReadsS.of_own hown (fun b hb=>hown.lt b hb)⟩
   have HF:=Lib.hid hfin;clear hfin hown
   go_wp2_with fail
   go_ret2
   exact HF.out
namespace Ru
def placesF (l:List GTok) (z:Nat):Nat→Nat→List Nat
 | 0,_=>[]
 | f+1,k=>if k<z then k::placesF l z f (skipP l k) else []
def placesP (l:List GTok) (k z:Nat):List Nat:=placesF l z (z-k) k
def isAt (l:List GTok) (is:GTok→Bool) (p:Nat):Bool:=(l[p]?.map is).getD false
def kindT (kd:Int) (tx:List UInt8) (t:GTok):Bool:=decide (t.kind=kd)&&(decide (tx=[])||decide (t.text=tx))
end Ru
theorem places_fuel (l:List GTok) {z:Nat} (hz:z≤l.length):∀ f g k,z≤k+f→z≤k+g→placesF l z f k=placesF l z g k
 | 0,0,k,_,_=>rfl
 | 0,g+1,k,hf,_=>by unfold placesF;rw[if_neg (by omega)]
 | f+1,0,k,_,hg=>by unfold placesF;rw[if_neg (by omega)]
 | f+1,g+1,k,hf,hg=>by
  unfold placesF
  split
  ·have:=skip_gt (l:=l) (k:=k) (by omega)
   rw[places_fuel l hz f g _ (by omega) (by omega)]
  ·rfl
theorem places_step {l:List GTok} {k z:Nat} (hz:z≤l.length) (hk:k<z):placesP l k z=k::placesP l (skipP l k) z:=by
 have:=skip_gt (l:=l) (k:=k) (by omega);unfold placesP;obtain⟨f,hf⟩:∃ f,z-k=f+1:=⟨z-k-1,by omega⟩;rw[hf]
 conv=>lhs;unfold placesF
 rw[if_pos hk,places_fuel l hz f (z-skipP l k) _ (by omega) (by omega)]
theorem places_end {l:List GTok} {k z:Nat} (h:z≤k):placesP l k z=[]:=by unfold placesP;rw[show z-k=0 by omega];rfl
theorem places_len (l:List GTok) (z:Nat):∀ f k,(placesF l z f k).length≤f
 | 0,k=>by simp[placesF]
 | f+1,k=>by
  unfold placesF
  split
  ·rw[List.length_cons];exact Nat.succ_le_succ (places_len l z f _)
  ·simp
theorem places_lt (l:List GTok) (z:Nat):∀ f k,∀ p∈placesF l z f k,p<z
 | 0,k,p,h=>by cases h
 | f+1,k,p,h=>by
  unfold placesF at h
  split at h
  ·rcases List.mem_cons.1 h with rfl|h
   ·assumption
   ·exact places_lt l z f _ p h
  ·cases h
theorem find_places {l:List GTok} {is:GTok→Bool} {z:Nat} (hz:z≤l.length):∀ f k,findF l is z f k=((placesF l z f k).find? (isAt l is)).getD z
 | 0,k=>rfl
 | f+1,k=>by
  unfold findF placesF
  split
  ·rename_i hk
   obtain⟨t,ht⟩:∃ t,l[k]?=some t:=⟨_,List.getElem?_eq_getElem (by omega)⟩;rw[ht];simp only[];have ha:isAt l is k=is t:=by unfold isAt;rw[ht];rfl
   rw[List.find?_cons,ha]
   cases is t with
   | true=>rfl
   | false=>simp only[Bool.false_eq_true,if_false];exact find_places hz f _
  ·rfl
def PlacesRet (ps:List Nat) (w:World) (e:Ending) (w':World):Prop:=(∃ A c,e=.returned (.slice A ps.length c)∧ReadsS w' (Fresh w w') 1 A ps.length (ps.map fun p=>Value.int .i64 ((p:Nat):Int)))∧Below w.heap.size w w'
theorem rr_places (l:List GTok) (A:Option Addr) (n c k z:Nat) (w:World) (h:EndsS w (· < w.heap.size) A n l) (hn:n≤1000000) (hk:k≤z) (hz:z≤n) :
  Calls Tryz.prog 107 #[.slice A n c,.int .i64 (k:Int),.int .i64 (z:Int)] w (PlacesRet (placesP l k z) w):=by
 have hlen:=h.len;have Hlen:=Lib.hid hlen;obtain⟨ii0,ii,iz0,iz1,iz2⟩:=info_take ru_int_info;clear hlen
 go_enter Tryz.func107,Tryz.ntmps107
 go_wp2_with fail
 go_loopw [7,8] (fun v i wr=>∃ (j:Nat) (A1:Option Addr) (n1 c1:Nat) (ps:List Nat),j≤n+1∧i=.int .i64 (j:Int)∧v=.slice A1 n1 c1∧Hid (n1=ps.length∧placesP l k z=ps++placesP l j z)∧wr.ownsRow w.heap.size 3 1 (.slice A1 n1 c1) ps.length (ps.map fun p=>Value.int .i64 ((p:Nat):Int))∧Below w.heap.size w wr) (fun _ i _=>z-(intOf i).toNat)
 case atStart=>exact⟨k,none,0,0,[],by omega,rfl,rfl,⟨rfl,rfl⟩,World.ownsRow_nil _ _ _ _,Below.refl _ _⟩
 case round =>
  obtain⟨j,A1,n1,c1,ps,hj,rfl,rfl,hps,hown,hb⟩:=hrel
  by_cases hlt:j<z
  ·have dj:(j:Int)<(z:Int):=by omega
   have hbs:=hb.size;have hsg:=skip_gt (l:=l) (k:=j) (by rw[Hlen.out];omega);have hsl:=skip_le (l:=l) (k:=j) (by rw[Hlen.out];omega);rw[Hlen.out] at hsl
   have hpl:ps.length≤1000000:=by
    have h1:=congrArg List.length hps.out.2;rw[List.length_append] at h1;have h2:=places_len l z (z-k) k;unfold placesP at h1
    omega
   have hlt2:=hown.lt
   go_wp2_with (at_builtin;refine wpList_append_own_at _ rfl _ _ 51 rfl w.heap.size 3 ii0 _ 1 8 Tryz.underlying51 ii iz0 iz1 iz2 rfl (by decide) _ ps.length _ rfl (hown.alloc _) ⟨wr.heap.size,0,none⟩ 1 1 [.int .i64 (j:Int)] rfl rfl ?e1 ?e2 ?e3 ?e4 ?e5 ?_)
   case e1=>exact cell_one_new _ _ _
   case e2=>intro u hu;simp at hu;subst hu;rfl
   case e3=>unfold maxLen;omega
   case e4=>omega
   case e5=>simp;omega
   intro v' w3 hown3 hg3 _ hat;have hb3:=push_below hb hbs hown hg3
   have hown4:w3.ownsRow w.heap.size 3 1 v' (ps++[j]).length ((ps++[j]).map fun p=>Value.int .i64 ((p:Nat):Int)):=by
    rw[List.length_append,List.map_append];exact hown3
   obtain⟨A4,c4,rfl,_,_⟩:=own_form hown3;have cS:=rr_skip l (· < w.heap.size) A n c j w3 (h.keep (Kept.of_below hb3 (fun b h=>h))) hn (by omega)
   have hnew:Hid (ps.length+1=(ps++[j]).length∧placesP l k z=(ps++[j])++placesP l (skipP l j) z):=by
    refine⟨by simp,?_⟩
    rw[hps.out.2,places_step (by rw[Hlen.out];exact hz) hlt];simp
   clear hown hg3 hat hown3
   go_wp2_with fail
   refine cS.mono ?_
   rintro e5 w5 ⟨rfl,rfl⟩
   go_wp2_with fail
   go_roundw
   case rel=>exact⟨skipP l j,A4,ps.length+1,c4,_,by omega,rfl,rfl,hnew,hown4,hb3⟩
   case measure=>simp[intOf];omega
  ·have dj:¬ (j:Int)<(z:Int):=by omega
   have hfin:PlacesRet (placesP l k z) w (.returned (.slice A1 n1 c1)) wr:=by
    obtain⟨q1,q2⟩:=hps.out;rw[places_end (show z≤j by omega),List.append_nil] at q2;rw[q2,q1]
    refine⟨⟨A1,c1,rfl,?_⟩,hb⟩
    rw[q1] at hown
    exact ReadsS.of_own hown (fun b hb=>hown.lt b hb)
   have HF:=Lib.hid hfin;clear hfin hown
   go_wp2_with fail
   go_ret
   exact HF.out
theorem str_cmp' (a b:List UInt8):((bytesOf a).toList==(bytesOf b).toList)=decide (a=b):=by rw[bytesOf_toList,bytesOf_toList,Bool.eq_iff_iff];simp
def Ru.pickI:Option Nat→Int
 | some p=>(p:Int)
 | none=>-1
theorem findI_places {l:List GTok} {is:GTok→Bool} {k z:Nat} (hz:z≤l.length) (hk:k≤z):findI l is k z=pickI ((placesP l k z).find? (isAt l is)):=by
 have h:=find_places (is:=is) hz (z-k) k;unfold findI findP;rw[h];unfold placesP
 cases hf:(placesF l z (z-k) k).find? (isAt l is) with
 | none=>simp[pickI]
 | some p =>
  have hp:=places_lt l z (z-k) k p (List.mem_of_find?_eq_some hf);simp only[Option.getD_some,pickI];rw[if_pos hp]
theorem rr_find (l:List GTok) (kd:Int) (tx:List UInt8) (A A':Option Addr) (n c c' k z:Nat) (w:World) (h:ReadsS w (· < w.heap.size) 3 A n (cellsG l)) (he:EndsS w (· < w.heap.size) A' n l) (hn:n≤1000000) (hk:k≤z) (hz:z≤n) :
  Calls Tryz.prog 69 #[.slice A n c,.slice A' n c',.int .i64 (k:Int),.int .i64 (z:Int),.int .i64 kd,.string (bytesOf tx)] w fun e w'=>e=.returned (.int .i64 (findI l (kindT kd tx) k z))∧Below w.heap.size w w':=by
 have hlen:=h.toks_len;have Hlen:=Lib.hid hlen;have hF:=findI_places (is:=kindT kd tx) (k:=k) (z:=z) (by rw[hlen];exact hz) hk;have cP:=rr_places l A' n c' k z w he hn hk hz;have hlt:=places_lt l z (z-k) k;have hpl:=places_len l z (z-k) k;obtain⟨ps,hps⟩:∃ ps,placesP l k z=ps:=⟨_,rfl⟩;have hps':placesF l z (z-k) k=ps:=hps;rw[hps'] at hlt hpl;rw[hps] at cP hF;rw[hF];clear hlen hF hps hps'
 go_enter Tryz.func69,Tryz.ntmps69
 go_wp2_with fail
 refine cP.mono ?_
 rintro e w1 ⟨⟨A1,c1,rfl,hR⟩,hb1⟩;have hs1:=hb1.size;obtain⟨m,hm⟩:∃ m,ps.length=m:=⟨_,rfl⟩;rw[hm] at hR hpl ⊢;have Hm:=Lib.hid hm;clear cP hm
 go_wp2_with fail
 go_loopw [14] (fun i wr=>∃ j:Nat,j≤m∧i=.int .i64 (j:Int)∧Hid (ps.find? (isAt l (kindT kd tx))=(ps.drop j).find? (isAt l (kindT kd tx)))∧w1=wr) (fun i _=>m-(intOf i).toNat)
 case atStart=>exact⟨0,by omega,rfl,rfl,rfl⟩
 case round =>
  obtain⟨j,hj,rfl,hfd,rfl⟩:=hrel
  by_cases hjm:j<m
  ·obtain⟨q,hq⟩:∃ q,ps[j]?=some q:=⟨_,List.getElem?_eq_getElem (by rw[Hm.out];exact hjm)⟩
   have hqz:=hlt q (List.mem_of_getElem? hq)
   have hdr:ps.drop j=q::ps.drop (j+1):=by
    have hl:=(List.getElem?_eq_some_iff.1 hq).1;rw[List.drop_eq_getElem_cons hl];rw[List.getElem?_eq_getElem hl] at hq
    injection hq with hq
    rw[hq]
   obtain⟨b1,off1,hA1,_,hc1⟩:=hR.2 (by omega);have hcq:=hc1 j (.int .i64 (q:Int)) (by rw[List.getElem?_map,hq];rfl);subst hA1;obtain⟨b,off,t,hA,hbl,ht,f0,f1,f2⟩:=h.tok (k:=q) (by omega);subst hA;have dj:(j:Int)<(m:Int):=by omega
   have dq:(q:Int)<(n:Int):=by omega
   have dq0:(0:Int)≤(q:Int):=by omega
   have g0:=(hb1.cell (p:=⟨b,off+q * 3,none⟩) hbl).trans f0;have g1:=(hb1.cell (p:=⟨b,off+q * 3+1,none⟩) hbl).trans f1;obtain⟨g,hg⟩:∃ g,kindT kd tx t=g:=⟨_,rfl⟩;have hia:isAt l (kindT kd tx) q=g:=by unfold isAt;rw[ht];exact hg
   have hge:g=((t.kind==kd)&&(decide (tx=[])||decide (t.text=tx))):=by
    rw[←hg];unfold kindT
    congr 1
   have hst:(ps.drop j).find? (isAt l (kindT kd tx))=if g=true then some q else (ps.drop (j+1)).find? (isAt l (kindT kd tx)):=by
    rw[hdr,List.find?_cons,hia];cases g<;>rfl
   have Hge:=Lib.hid hge;have Hst:=Lib.hid hst;have hs:=str_cmp' t.text tx;obtain⟨r,hr⟩:∃ r,decide (t.text=tx)=r:=⟨_,rfl⟩;rw[hr] at hs;have Hr:=Lib.hid hr;clear hq hdr hc1 ht hg hia hge hst hr f0 f1 f2
   go_upto_region 5 with (fail)
   go_cut [50] (fun x wx=>x=.bool g∧w1=wx)
   case first =>
    have hun:(undef:Value)=.tuple #[]:=rfl
    cases hk1:(t.kind==kd) with
    | false =>
     have eg:g=false:=by rw[Hge.out,hk1];rfl
     have EG:=Lib.hid eg;clear eg
     go_wp2_with fail
     go_meet
     exact⟨by rw[EG.out],rfl⟩
    | true =>
     by_cases htx:tx=[]
     ·obtain⟨s1,s2⟩:=txt_is htx
      have eg:g=true:=by rw[Hge.out,hk1,htx];simp
      have EG:=Lib.hid eg;clear eg htx
      go_wp2_with fail
      go_meet
      exact⟨by rw[EG.out],rfl⟩
     ·obtain⟨s1,s2⟩:=txt_not htx
      have eg:g=r:=by rw[Hge.out,hk1,Hr.out,decide_eq_false htx];simp
      have EG:=Lib.hid eg;clear eg htx
      go_wp2_with fail
      go_meet
      exact⟨by rw[EG.out],rfl⟩
   case rest =>
    obtain⟨rfl,rfl⟩:=hcut
    cases g with
    | true =>
     have hf:ps.find? (isAt l (kindT kd tx))=some q:=by rw[hfd.out,Hst.out,if_pos rfl]
     have HF:=Lib.hid hf;clear hf hfd
     go_wp2_with fail
     go_ret
     exact⟨by rw[HF.out];rfl,hb1⟩
    | false =>
     have hnew:Hid (ps.find? (isAt l (kindT kd tx))=(ps.drop (j+1)).find? (isAt l (kindT kd tx))):=by show _=_;rw[hfd.out,Hst.out,if_neg (by decide)]
     have wj:IntKind.i64.wrap ((j:Int)+1)=(j:Int)+1:=by rw[IntKind.wrap_i64];omega
     clear hfd
     go_wp2_with fail
     go_roundw
     case rel=>exact⟨j+1,by omega,by go_num,hnew,by first | rfl | trivial⟩
     case measure=>simp[intOf];omega
  ·obtain rfl:j=m:=by omega
   have dj:¬ (j:Int)<(j:Int):=by omega
   have hf:ps.find? (isAt l (kindT kd tx))=none:=by rw[hfd.out,←Hm.out,List.drop_length];rfl
   have HF:=Lib.hid hf;clear hf hfd
   go_wp2_with fail
   go_ret
   exact⟨by rw[HF.out];rfl,hb1⟩
end Go.Proofs.YtfhdihdafmahgaaGreatDoor
namespace Go.Proofs.YtfhdihdafmahgaaGreatDoor
open Go.RowKit Rn Tp Ru
theorem rr_u8_info:(Tryz.prog.info? 5).map (fun i=>(i.zero,i.size,i.bytes))=some (some (.int .u8 0),1,1):=by kernel_rfl
theorem rr_lower (s:List UInt8) (w:World) (hs:s.length≤1000000) :
  Calls Tryz.prog 35 #[.string (bytesOf s)] w fun e w'=>e=.returned (.string (bytesOf (lowerP s)))∧Below w.heap.size w w':=by
 have hsz:=bytesOf_size s;obtain⟨ui0,ui,uz0,uz1,uz2⟩:=info_take rr_u8_info;obtain⟨n,hn⟩:∃ n,s.length=n:=⟨_,rfl⟩;rw[hn] at hs hsz;have Hn:=Lib.hid hn;clear hn
 go_enter Tryz.func35,Tryz.ntmps35
 go_wp2_with fail
 go_loopw [3,4] (fun v i wr=>∃ (k:Nat) (A1:Option Addr) (c1:Nat),k≤n∧i=.int .i64 (k:Int)∧v=.slice A1 k c1∧wr.ownsRow w.heap.size 5 1 (.slice A1 k c1) k ((lowerP (s.take k)).map b8)∧Below w.heap.size w wr) (fun _ i _=>n-(intOf i).toNat)
 case atStart=>exact⟨0,none,0,by omega,rfl,rfl,World.ownsRow_nil _ _ _ _,Below.refl _ _⟩
 case round =>
  obtain⟨k,A1,c1,hk,rfl,rfl,hown,hb⟩:=hrel;have hbs:=hb.size
  by_cases hlt:k<n
  ·have dk:(k:Int)<(n:Int):=by omega
   obtain⟨x,hx⟩:∃ x,s[k]?=some x:=⟨_,List.getElem?_eq_getElem (by rw[Hn.out];exact hlt)⟩;have hix:=str_at (P:=Tryz.prog) Tryz.underlying9 s .i64 k x hx
   have hnew:(lowerP (s.take k)).map b8++[b8 (low8 x)]=(lowerP (s.take (k+1))).map b8:=by
    rw[take_snoc _ k x hx];simp[lowerP]
   have Hnew:=Lib.hid hnew;have hlt2:=hown.lt;obtain⟨z,hz⟩:∃ z:Int,(x.toNat:Int)=z:=⟨_,rfl⟩;have hz0:0≤z:=by omega
   have hz1:z<256:=by have:=x.toNat_lt;omega
   obtain⟨y,hy⟩:∃ y:Int,((low8 x).toNat:Int)=y:=⟨_,rfl⟩
   have hyz:(65≤z∧z≤90∧y=z+32)∨(65≤z∧90<z∧y=z)∨(z<65∧y=z):=by
    have hx256:x.toNat<256:=x.toNat_lt;unfold low8 at hy
    by_cases hup:65≤x.toNat∧x.toNat≤90
    ·rw[if_pos hup] at hy
     have:(x+32).toNat=x.toNat+32:=by rw[UInt8.toNat_add];simp;omega
     rw[this] at hy
     left;omega
    ·rw[if_neg hup] at hy
     right;omega
   have hb8:b8 (low8 x)=.int .u8 y:=by unfold b8;rw[hy]
   rw[hz] at hix;rw[hb8] at Hnew;have Hb8:=Lib.hid hb8;have wk:IntKind.i64.wrap ((k:Int)+1)=(k:Int)+1:=by rw[IntKind.wrap_i64];omega
   clear hz hy hnew hb8 hx
   go_upto_region 5 with (fail)
   go_cut [5] (fun x wx=>x=.int .u8 z∧wr=wx)
   case first =>
    go_wp2_with fail
    go_meet
    exact⟨rfl,rfl⟩
   case rest =>
    obtain⟨rfl,rfl⟩:=hcut;clear hix
    rcases hyz with⟨u1,u2,rfl⟩|⟨u1,u2,rfl⟩|⟨u1,rfl⟩
    ·have wz:IntKind.u8.wrap (z+32)=z+32:=by unfold IntKind.wrap;simp[IntKind.signed,IntKind.bits];omega
     go_wp2_with (at_builtin;refine wpList_append_own_at _ rfl _ _ 22 rfl w.heap.size 5 ui0 _ 1 1 Tryz.underlying22 ui uz0 uz1 uz2 rfl (by decide) _ k _ rfl (hown.alloc _) ⟨wr.heap.size,0,none⟩ 1 1 [.int .u8 (z+32)] rfl rfl (cell_one_new _ _ _) (by intro u hu;simp at hu;subst hu;rfl) (by unfold maxLen;omega) (by omega) (by simp;omega) ?_;intro v' w3 hown3 hg3 _ hat)
     have hb3:=push_below hb hbs hown hg3;rw[Hnew.out] at hown3;obtain⟨A3,c3,rfl,_,_⟩:=own_form hown3;clear hown hg3 hat
     go_wp2_with fail
     go_roundw
     case rel=>exact⟨k+1,A3,c3,by omega,by go_num,rfl,hown3,hb3⟩
     case measure=>simp[intOf];omega
    ·go_wp2_with (at_builtin;refine wpList_append_own_at _ rfl _ _ 22 rfl w.heap.size 5 ui0 _ 1 1 Tryz.underlying22 ui uz0 uz1 uz2 rfl (by decide) _ k _ rfl (hown.alloc _) ⟨wr.heap.size,0,none⟩ 1 1 [.int .u8 y] rfl rfl (cell_one_new _ _ _) (by intro u hu;simp at hu;subst hu;rfl) (by unfold maxLen;omega) (by omega) (by simp;omega) ?_;intro v' w3 hown3 hg3 _ hat)
     have hb3:=push_below hb hbs hown hg3;rw[Hnew.out] at hown3;obtain⟨A3,c3,rfl,_,_⟩:=own_form hown3;clear hown hg3 hat
     go_wp2_with fail
     go_roundw
     case rel=>exact⟨k+1,A3,c3,by omega,by go_num,rfl,hown3,hb3⟩
     case measure=>simp[intOf];omega
    ·go_wp2_with (at_builtin;refine wpList_append_own_at _ rfl _ _ 22 rfl w.heap.size 5 ui0 _ 1 1 Tryz.underlying22 ui uz0 uz1 uz2 rfl (by decide) _ k _ rfl (hown.alloc _) ⟨wr.heap.size,0,none⟩ 1 1 [.int .u8 y] rfl rfl (cell_one_new _ _ _) (by intro u hu;simp at hu;subst hu;rfl) (by unfold maxLen;omega) (by omega) (by simp;omega) ?_;intro v' w3 hown3 hg3 _ hat)
     have hb3:=push_below hb hbs hown hg3;rw[Hnew.out] at hown3;obtain⟨A3,c3,rfl,_,_⟩:=own_form hown3;clear hown hg3 hat
     go_wp2_with fail
     go_roundw
     case rel=>exact⟨k+1,A3,c3,by omega,by go_num,rfl,hown3,hb3⟩
     case measure=>simp[intOf];omega
  ·obtain rfl:k=n:=by omega
   have dk:¬ (k:Int)<(k:Int):=by omega
   have hrd:Reads wr wr.heap.size 1 A1 k ((lowerP s).map b8):=by
    have h:=Reads.of_own hown;rw[List.take_of_length_le (by rw[Hn.out];omega)] at h
    exact h
   have hback:=run_str (P:=Tryz.prog) (src:=22) (dst:=9) Tryz.underlying22 Tryz.underlying5 Tryz.underlying9 c1 hrd;clear hown hrd
   go_wp2_with fail
   go_ret
   exact⟨rfl,hb⟩
theorem rbox_hit {s:List UInt8} {k:Nat} (h:boxes[k]?=some (lowerP s)):boxP s=(k:Int):=by
 have hk:k<16:=(List.getElem?_eq_some_iff.1 h).1;have hd:∀ k<16,boxes.idxOf (boxes[k]?.getD [])=k:=by decide
 have h1:=hd k hk;rw[h] at h1;unfold boxP;rw[if_pos (List.mem_of_getElem? h)];simp only[Option.getD_some] at h1;rw[h1]
theorem rbox_miss {s:List UInt8} (h:∀ j<16,boxes[j]?≠some (lowerP s)):boxP s=-1:=by
 unfold boxP;rw[if_neg];intro hm;obtain⟨j,hj⟩:=List.mem_iff_getElem?.1 hm
 exact h j (List.getElem?_eq_some_iff.1 hj).1 hj
theorem rr_box (s:List UInt8) (w:World) (hs:s.length≤1000000) :
  Calls Tryz.prog 72 #[.string (bytesOf s)] w fun e w'=>e=.returned (.int .i64 (boxP s))∧Below w.heap.size w w':=by
 obtain⟨WA,hWA⟩:∃ WA,w.alloc (.cells #[Value.string { data:=#[116,111,112,45,108,101,102,116,45,99,111,114,110,101,114] },Value.string { data:=#[116,111,112,45,108,101,102,116] },Value.string { data:=#[116,111,112,45,99,101,110,116,101,114] },Value.string { data:=#[116,111,112,45,114,105,103,104,116] },Value.string { data:=#[116,111,112,45,114,105,103,104,116,45,99,111,114,110,101,114] },Value.string { data:=#[114,105,103,104,116,45,116,111,112] },Value.string { data:=#[114,105,103,104,116,45,109,105,100,100,108,101] },Value.string { data:=#[114,105,103,104,116,45,98,111,116,116,111,109] },Value.string { data:=#[98,111,116,116,111,109,45,114,105,103,104,116,45,99,111,114,110,101,114] },Value.string { data:=#[98,111,116,116,111,109,45,114,105,103,104,116] },Value.string { data:=#[98,111,116,116,111,109,45,99,101,110,116,101,114] },Value.string { data:=#[98,111,116,116,111,109,45,108,101,102,116] },Value.string { data:=#[98,111,116,116,111,109,45,108,101,102,116,45,99,111,114,110,101,114] },Value.string { data:=#[108,101,102,116,45,98,111,116,116,111,109] },Value.string { data:=#[108,101,102,116,45,109,105,100,100,108,101] },Value.string { data:=#[108,101,102,116,45,116,111,112] }] 9)=WA:=⟨_,rfl⟩;have bA:Below w.heap.size w WA:=by rw[←hWA];exact(Below.refl _ _).alloc (Nat.le_refl _) _
 have rA:RowAt WA w.heap.size (boxes.map fun b=>.string (bytesOf b)):=by rw[←hWA];exact RowAt.new _ _ _
 have hbx:∀ k,k<16→∃ b,boxes[k]?=some b:=fun k hk=>⟨_,List.getElem?_eq_getElem hk⟩
 have hcl:∀ (k:Nat) (b:List UInt8),boxes[k]?=some b→WA.cell? ⟨w.heap.size,k,none⟩=some (.string (bytesOf b)):=fun k b hk=>(rA.2 k _ (by rw[List.getElem?_map,hk];rfl)).1
 have hlA:=rA.1;have Hcl:=Lib.hid hcl;have Hbx:=Lib.hid hbx;clear hcl hbx rA
 go_enter Tryz.func72,Tryz.ntmps72
 go_wp2_with fail
 go_loopw [4] (fun i wr=>∃ k:Nat,k≤16∧i=.int .i64 (k:Int)∧Hid (∀ j<k,boxes[j]?≠some (lowerP s))∧Below WA.heap.size WA wr) (fun i _=>16-(intOf i).toNat)
 case atStart=>exact⟨0,by omega,rfl,(fun j hj=>absurd hj (Nat.not_lt_zero _)),Below.refl _ _⟩
 case round =>
  obtain⟨k,hk,rfl,hno,hb⟩:=hrel;have hbs:=hb.size;have hB:=bA.trans (hb.mono bA.size)
  by_cases hlt:k<16
  ·have dk:(k:Int)<(16:Int):=by omega
   have dk0:(0:Int)≤(k:Int):=by omega
   obtain⟨b,hbk⟩:=Hbx.out k hlt;have x0:=bw_cell (B:=wr.heap.size) ((hb.cell (p:=⟨w.heap.size,k,none⟩) hlA).trans (Hcl.out k b hbk)) (Nat.lt_of_lt_of_le hlA hbs);have cL:=fun W:BW wr.heap.size wr=>rr_lower s W.val hs
   have hq:=str_cmp' b (lowerP s);obtain⟨q,hqq⟩:∃ q,decide (b=lowerP s)=q:=⟨_,rfl⟩;rw[hqq] at hq;have Hq:=Lib.hid hqq;have Hbk:=Lib.hid hbk;have wk:IntKind.i64.wrap ((k:Int)+1)=(k:Int)+1:=by rw[IntKind.wrap_i64];omega
   clear hqq hbk
   go_wp2_with fail
   refine wp_region_bw wr.heap.size (by kernel_rfl) (by kernel_rfl) ?_
   repeat(go_big_quiet_step (first | (go_at_call 35;rename_i W;exact calls_bw (Nat.le_refl _) (cL W))))
   refine wpQuiet_nil ?_
   intro _ hw';obtain⟨W,rfl⟩:=hw';have hWb:=W.is;have hBW:=hB.trans (hWb.mono hB.size)
   cases q with
   | true =>
    have hr:boxP s=(k:Int):=rbox_hit (by rw[Hbk.out,of_decide_eq_true Hq.out]);have HR:=Lib.hid hr;clear hr hno x0
    go_wp2_with fail
    go_ret
    exact⟨ret_int HR.out.symm,hBW⟩
   | false =>
    have hno':Hid (∀ j<k+1,boxes[j]?≠some (lowerP s)):=fun j hj e=>by
     by_cases hjk:j<k
     ·exact hno.out j hjk e
     ·obtain rfl:j=k:=by omega
      rw[Hbk.out] at e
      injection e with e
      exact of_decide_eq_false Hq.out e
    clear hno x0
    go_wp2_with fail
    go_roundw
    case rel=>exact⟨k+1,by omega,by go_num,hno',hb.trans (hWb.mono hbs)⟩
    case measure=>simp[intOf];omega
  ·obtain rfl:k=16:=by omega
   have hr:boxP s=-1:=rbox_miss hno.out;have HR:=Lib.hid hr;clear hr hno
   go_wp2_with fail
   go_ret
   exact⟨ret_int HR.out.symm,hB⟩
theorem rr_cut (l:List GTok) (A:Option Addr) (n c k z:Nat) (w:World) (h:ReadsS w (· < w.heap.size) 3 A n (cellsG l)) (hn:n≤1000000) (hc:n≤c) (hk:k≤z) (hz:z≤n) :
  Calls Tryz.prog 36 #[.slice A n c,.int .i64 (k:Int),.int .i64 (z:Int)] w (CutRet (trimL (segP l k z)) w):=by
 have cT:=rr_trim l (· < w.heap.size) A n c k z w h hn hk hz;have hel:Tryz.prog.elem 32=58:=by kernel_rfl
 obtain⟨hi0,hi,hz0,hz1,hz2⟩:=info_take ru_tok_info;have hsz:∀ W,(sizeOf 58).run Tryz.prog W=.ok 3 W:=fun W=>by simp[sizeOf,typeInfo,hi,hz1]
 go_enter Tryz.func36,Tryz.ntmps36
 go_wp2_with fail
 refine cT.mono ?_
 rintro e w1 ⟨⟨j,i,rfl,h1,h2,h3,_,hseg⟩,rfl⟩;have hp:=fun W=>run_part (P:=Tryz.prog) Tryz.underlying32 hel hsz A n c .i64 .i64 j i h2 (by omega) W
 have hR:=h.seg (c:=c) h2 (by omega) hc;rw[←hseg] at hR;have hlen:(trimL (segP l k z)).length=i-j:=by rw[hseg,seg_len _ (by have:=h.toks_len;omega)]
 obtain⟨m,hm⟩:∃ m,trimL (segP l k z)=m:=⟨_,rfl⟩;rw[hm] at hR hlen ⊢;have hR2:Reads (w1.alloc (.cells #[] 58)) w1.heap.size 3 (cutAt A c j 3) (i-j) (cellsG m):=Reads.alloc hR (Nat.le_refl _) _;have own0:=World.ownsRow_made (base:=w1.heap.size) (e:=58) (size:=3) w1 #[] 0 (Nat.le_refl _) (Nat.zero_le _) rfl;have b0:Below w1.heap.size w1 (w1.alloc (.cells #[] 58)):=(Below.refl _ _).alloc (Nat.le_refl _) _;have hone:=cells_one m;have Hlen:=Lib.hid hlen;have Hel:=Lib.hid hel;have Hm:=Lib.hid hm;clear hseg hlen hR cT h hel hsz hm
 go_wp2_with (at_builtin;refine wpList_append_reads _ rfl _ _ 32 rfl w1.heap.size 58 hi0 _ 3 32 Tryz.underlying32 hi hz0 hz1 hz2 rfl (by decide) _ 0 [] rfl own0 w1.heap.size (cutAt A c j 3) (i-j) (c-j) (cellsG m) rfl hR2 hone ?e3 ?e4 ?e5 ?_)
 case e3=>unfold maxLen;omega
 case e4=>omega
 case e5=>simp
 intro v' w3 hown hg
 try simp only[Nat.zero_add,List.nil_append] at hown
 obtain⟨A3,c3,rfl,hcc,_⟩:=own_form hown;have lt3:=hown.lt;have hB3:Below w1.heap.size w1 w3:=b0.grown hg (by simp) (fun k hk=>(own0.lt k hk).1);have hR3:ReadsS w3 (Fresh w1 w3) 3 A3 (i-j) (cellsG m):=ReadsS.of_own hown lt3;clear hown hg
 go_wp2_with fail
 go_ret
 have hfin:CutRet m w1 (.returned (.slice A3 (i-j) c3)) w3:=by
  unfold CutRet;rw[Hlen.out]
  exact⟨⟨A3,c3,rfl,hcc,hR3⟩,hB3⟩
 rw[Hm.out]
 exact hfin
theorem kindT_brace:kindT 12 [123]=braceB:=by
 funext t;unfold kindT braceB;simp
theorem kindT_semi:kindT 15 []=semiB:=by
 funext t;unfold kindT semiB;simp
theorem find_either {l:List GTok} {z:Nat} (hz:z≤l.length):∀ f k,findF l eitherB z f k=min (findF l semiB z f k) (findF l braceB z f k)
 | 0,k=>by simp[findF]
 | f+1,k=>by
  unfold findF
  split
  ·rename_i hk
   obtain⟨t,ht⟩:∃ t,l[k]?=some t:=⟨_,List.getElem?_eq_getElem (by omega)⟩;rw[ht];simp only[];have hsk:=skip_gt (l:=l) (k:=k) (by omega)
   have hge:∀ is,k≤findF l is z f (skipP l k):=fun is=>by
    by_cases h2:skipP l k≤z
    ·have:=(find_ge (l:=l) (is:=is) hz f (skipP l k) h2).1;omega
    ·have h3:findF l is z f (skipP l k)=z:=by
      cases f with
      | zero=>rfl
      | succ f=>unfold findF;rw[if_neg (by omega)]
     omega
   have h1:=hge semiB;have h2:=hge braceB;have ih:=find_either hz f (skipP l k);unfold eitherB at ih ⊢
   cases hs:semiB t with
   | true =>
    cases hb:braceB t with
    | true=>simp
    | false=>simp;omega
   | false =>
    cases hb:braceB t with
    | true=>simp;omega
    | false=>simpa using ih
  ·simp
theorem findI_of (l:List GTok) (is:GTok→Bool) (k z:Nat):findI l is k z=if findP l is k z<z then (findP l is k z:Int) else -1:=rfl
theorem rr_first (l:List GTok) (A A':Option Addr) (n c c' k z:Nat) (sm:Bool) (w:World) (h:ReadsS w (· < w.heap.size) 3 A n (cellsG l)) (he:EndsS w (· < w.heap.size) A' n l) (hn:n≤1000000) (hk:k≤z) (hz:z≤n) :
  Calls Tryz.prog 34 #[.slice A n c,.slice A' n c',.int .i64 (k:Int),.int .i64 (z:Int),.bool sm] w fun e w'=>e=.returned (.int .i64 ((if sm=true then findP l eitherB k z else findP l braceB k z:Nat):Int))∧Below w.heap.size w w':=by
 have hlen:=h.toks_len;have cA:=rr_find l 12 [123] A A' n c c' k z w h he hn hk hz;have cB:=fun (W:World) (hb:Below w.heap.size w W)=>rr_find l 15 [] A A' n c c' k z W (h.below hb) ((he.keep (Kept.of_below hb (fun b h=>h))).more (fun b h=>Nat.lt_of_lt_of_le h hb.size)) hn hk hz
 rw[kindT_brace,findI_of] at cA;simp only[kindT_semi,findI_of] at cB;have hE:findP l eitherB k z=min (findP l semiB k z) (findP l braceB k z):=find_either (by omega) _ _;have b1:=(find_bounds (l:=l) semiB (k:=k) (z:=z) (by omega) hk).2;have b2:=(find_bounds (l:=l) braceB (k:=k) (z:=z) (by omega) hk).2;rw[hE];obtain⟨a,ha⟩:∃ a,findP l braceB k z=a:=⟨_,rfl⟩;obtain⟨b,hb⟩:∃ b,findP l semiB k z=b:=⟨_,rfl⟩;rw[ha] at cA b2 ⊢;rw[hb] at b1 ⊢;simp only[hb] at cB;obtain⟨ai,hai⟩:∃ ai:Int,(if a<z then (a:Int) else -1)=ai:=⟨_,rfl⟩;obtain⟨bi,hbi⟩:∃ bi:Int,(if b<z then (b:Int) else -1)=bi:=⟨_,rfl⟩;rw[hai] at cA;simp only[hbi] at cB
 have hA2:(0≤ai∧ai=a∧a<z)∨(ai<0∧a=z):=by
  by_cases h1:a<z
  ·rw[if_pos h1] at hai;left;omega
  ·rw[if_neg h1] at hai;right;omega
 have hB2:(0≤bi∧bi=b∧b<z)∨(bi<0∧b=z):=by
  by_cases h1:b<z
  ·rw[if_pos h1] at hbi;left;omega
  ·rw[if_neg h1] at hbi;right;omega
 have HA:=Lib.hid hA2;have HB:=Lib.hid hB2;clear hE ha hb hlen h he hai hbi hA2 hB2
 go_enter Tryz.func34,Tryz.ntmps34
 go_wp2_with fail
 refine cA.mono ?_
 rintro e w1 ⟨rfl,hb1⟩
 go_wp2_with fail
 refine(cB w1 hb1).mono ?_
 rintro e w2 ⟨rfl,hb2'⟩;have hb2:=hb1.trans (hb2'.mono hb1.size);clear cA cB;have hun:(undef:Value)=.tuple #[]:=rfl;have hfin:∀ v:Int,v=(if sm=true then min b a else a:Nat)→(Ending.returned (.int .i64 v)=Ending.returned (.int .i64 ((if sm=true then min b a else a:Nat):Int))∧Below w.heap.size w w2):=fun v h=>⟨ret_int h,hb2⟩
 have HF:=Lib.hid hfin;clear hfin
 cases sm with
 | false =>
  by_cases e1:ai<0
  ·have h2:=HF.out (z:Int) (by have:=HA.out;simp;omega)
   have H2:=Lib.hid h2;clear h2
   go_wp2_with fail
   go_ret
   exact H2.out
  ·have e1':¬ ai<0:=e1
   have h2:=HF.out ai (by have:=HA.out;simp;omega);have H2:=Lib.hid h2;clear h2
   go_wp2_with fail
   go_ret
   exact H2.out
 | true =>
  by_cases e2:bi<0
  ·by_cases e1:ai<0
   ·have h2:=HF.out (z:Int) (by have:=HA.out;have:=HB.out;simp;omega)
    have H2:=Lib.hid h2;clear h2
    go_wp2_with fail
    go_ret
    exact H2.out
   ·have h2:=HF.out ai (by have:=HA.out;have:=HB.out;simp;omega)
    have H2:=Lib.hid h2;clear h2
    go_wp2_with fail
    go_ret
    exact H2.out
  ·by_cases e1:ai<0
   ·have e0:¬ (0:Int)≤ai:=by omega
    have h2:=HF.out bi (by have:=HA.out;have:=HB.out;simp;omega);have H2:=Lib.hid h2;clear h2
    go_wp2_with fail
    go_ret
    exact H2.out
   ·have e0:(0:Int)≤ai:=by omega
    by_cases e3:ai<bi
    ·have h2:=HF.out ai (by have:=HA.out;have:=HB.out;simp;omega)
     have H2:=Lib.hid h2;clear h2
     go_wp2_with fail
     go_ret
     exact H2.out
    ·have h2:=HF.out bi (by have:=HA.out;have:=HB.out;simp;omega)
     have H2:=Lib.hid h2;clear h2
     go_wp2_with fail
     go_ret
     exact H2.out
def Ru.closedTo (l:List GTok) (i j:Nat):Bool:=decide (∃ k,k<j∧endP l k=(i:Int))
theorem closed_zero (l:List GTok) (i:Nat):closedTo l i 0=false:=by
 unfold closedTo
 exact decide_eq_false (fun ⟨k,hk,_⟩=>absurd hk (Nat.not_lt_zero _))
theorem closed_succ (l:List GTok) (i j:Nat):closedTo l i (j+1)=(closedTo l i j||(endP l j==(i:Int))):=by
 unfold closedTo;rw[Bool.eq_iff_iff];simp only[decide_eq_true_eq,Bool.or_eq_true,beq_iff_eq]
 constructor
 ·rintro⟨k,hk,h⟩
  rcases Nat.lt_or_ge k j with h1|h1
  ·exact .inl ⟨k,h1,h⟩
  ·exact .inr (by rw[show j=k by omega];exact h)
 ·rintro (⟨k,hk,h⟩|h)
  ·exact⟨k,by omega,h⟩
  ·exact⟨j,by omega,h⟩
theorem closed_all {l:List GTok} {i:Nat} (hi:i<l.length):closedTo l i i=closedB l i:=by
 unfold closedTo closedB;rw[Bool.eq_iff_iff];simp only[decide_eq_true_eq]
 constructor
 ·rintro⟨k,hk,h⟩;exact⟨k,by omega,h⟩
 ·rintro⟨k,hk,h⟩
  refine⟨k,?_,h⟩
  rcases end_cases l k with e|⟨x,e,h1,_⟩
  ·rw[e] at h;omega
  ·rw[e] at h;omega
theorem rr_sound (l:List GTok) (A:Option Addr) (n c:Nat) (w:World) (hr:ReadsS w (· < w.heap.size) 3 A n (cellsG l)) (hn:n≤1000000) (hs:∀ t∈l,smallT t) :
  Calls Tryz.prog 38 #[.slice A n c] w fun e w'=>e=.returned (.bool (soundP l))∧Below w.heap.size w w':=by
 have hlen:l.length=n:=hr.toks_len;have Hlen:=Lib.hid hlen;have hRt:=rp_rights l A n c w ⟨hr,hs,hn⟩;clear hlen
 go_enter Tryz.func38,Tryz.ntmps38
 go_wp2_with fail
 refine hRt.mono ?_
 rintro e w1 ⟨rfl,hb1⟩
 cases hri:rightB l with
 | false =>
  have hf:soundP l=false:=by unfold soundP;rw[hri];simp
  have HF:=Lib.hid hf;clear hf hri hRt
  go_wp2_with fail
  go_ret
  exact⟨ret_bool HF.out.symm,hb1⟩
 | true =>
  have hr1:=hr.below hb1;have Hri:=Lib.hid hri;have cE:=rr_ends l A n c w1 hr1 hn;clear hri hRt
  go_wp2_with fail
  refine cE.mono ?_
  rintro e w2 ⟨hb2,hret⟩;have hB2:Below w.heap.size w w2:=hb1.trans (hb2.mono hb1.size)
  cases hd:deepB l with
  | false =>
   rw[hd,if_neg (by decide)] at hret;subst hret;have hf:soundP l=false:=by unfold soundP;rw[hd];simp
   have HF:=Lib.hid hf;clear hf hd cE
   go_wp2_with fail
   go_ret
   exact⟨ret_bool HF.out.symm,hB2⟩
  | true =>
   rw[hd,if_pos rfl] at hret;obtain⟨A2,c2,rfl,he2⟩:=hret;have Hd:=Lib.hid hd;have hs1:=hb1.size;have hs2:=hb2.size;have hr2:=hr.below hB2;have he:EndsS w2 (· < w2.heap.size) A2 n l:=he2.more (fun b h=>h.2);clear hd cE he2
   go_wp2_with fail
   go_loopw [5] (fun i wr=>∃ k:Nat,k≤n∧i=.int .i64 (k:Int)∧Hid (∀ j,j<k→endP l j≠(n:Int)∧soundAt l j=true)∧Below w2.heap.size w2 wr) (fun i _=>n-(intOf i).toNat)
   case atStart=>exact⟨0,Nat.zero_le _,rfl,(by show ∀ j,j<0→_;intro j hj;omega),Below.refl _ _⟩
   case round =>
    obtain⟨k,hk,rfl,hall,hb⟩:=hrel;obtain⟨u,hu⟩:∃ x,x=wr:=⟨_,rfl⟩;subst hu;have hbs:=hb.size;have hBu:=hB2.trans (hb.mono hB2.size)
    by_cases hlt:k<n
    ·obtain⟨b,off,t,hA,hbk,ht,c0,c1,c2'⟩:=hr2.tok hlt
     obtain⟨b2,off2,hA2,hbk2,hc⟩:=he.at_ hlt;subst hA hA2;have hrg:=end_range l k;have dk:(k:Int)<(n:Int):=by omega
     replace c0:=(hb.cell (p:=⟨b,off+k * 3,none⟩) hbk).trans c0
     replace c1:=(hb.cell (p:=⟨b,off+k * 3+1,none⟩) hbk).trans c1
     replace c2':=(hb.cell (p:=⟨b,off+k * 3+2,none⟩) hbk).trans c2'
     replace hc:=(hb.cell (p:=⟨b2,off2+k,none⟩) hbk2).trans hc
     obtain⟨E,hE⟩:∃ E,endP l k=E:=⟨_,rfl⟩;rw[hE] at hc hrg;obtain⟨WA,hWA⟩:∃ WA,u.alloc (.cells #[.int .i64 t.kind,.string (bytesOf t.text),.int .i64 t.n] 58)=WA:=⟨_,rfl⟩;have bA:Below u.heap.size u WA:=by rw[←hWA];exact(Below.refl _ _).alloc (Nat.le_refl _) _
     have rA:RowAt WA u.heap.size [.int .i64 t.kind,.string (bytesOf t.text),.int .i64 t.n]:=by rw[←hWA];exact RowAt.new _ _ _
     have hBA:=hb.trans (bA.mono hbs);have hcA:=(bA.cell (p:=⟨b2,off2+k,none⟩) (Nat.lt_of_lt_of_le hbk2 hbs)).trans hc;obtain⟨a0,_⟩:=rA.2 0 _ rfl;obtain⟨a1,_⟩:=rA.2 1 _ rfl;have hlA:=rA.1;have kr:Reads (WA.alloc (.cells #[.int .u8 92] 5)) (WA.heap.size+1) 1 (some ⟨WA.heap.size,0,none⟩) 1 (([92]:List UInt8).map b8):=(RowAt.new WA 5 #[.int .u8 92]).reads (B:=WA.heap.size+1) (by omega);have kc:=run_str (P:=Tryz.prog) (src:=22) (dst:=9) Tryz.underlying22 Tryz.underlying5 Tryz.underlying9 1 kr;have bK:Below WA.heap.size WA (WA.alloc (.cells #[.int .u8 92] 5)):=(Below.refl _ _).alloc (Nat.le_refl _) _;have s92:=str_cmp' t.text [92];obtain⟨p92,hp92⟩:∃ p,decide (t.text=[92])=p:=⟨_,rfl⟩;rw[hp92] at s92;obtain⟨g,hg⟩:∃ g,((E==(n:Int))||(t.kind==7)||((t.kind==11)&&p92))=g:=⟨_,rfl⟩;have Hg:=Lib.hid hg
     have hbar:barB t=((t.kind==7)||((t.kind==11)&&p92)):=by
      unfold barB;rw[hp92,Bool.eq_iff_iff];simp
     have Hbar:=Lib.hid hbar;have HE:=Lib.hid hE;have Ht:=Lib.hid ht;have wk:IntKind.i64.wrap ((k:Int)+1)=(k:Int)+1:=by rw[IntKind.wrap_i64];omega
     clear hg hbar hE ht hp92 kr rA
     go_upto_region 10 with (fail)
     go_cut [52] (fun x wx=>x=.bool g∧Below WA.heap.size WA wx)
     case first =>
      have hun:(undef:Value)=.tuple #[]:=rfl
      cases k0:(E==(n:Int)) with
      | true =>
       have e:g=true:=by rw[←Hg.out,k0];rfl
       have HG:=Lib.hid e;clear e Hg
       go_wp2_with fail
       go_meet
       exact⟨by rw[HG.out],Below.refl _ _⟩
      | false =>
       cases k7:(t.kind==7) with
       | true =>
        have e:g=true:=by rw[←Hg.out,k0,k7];rfl
        have HG:=Lib.hid e;clear e Hg
        go_wp2_with fail
        go_meet
        exact⟨by rw[HG.out],Below.refl _ _⟩
       | false =>
        cases k11:(t.kind==11) with
        | false =>
         have e:g=false:=by rw[←Hg.out,k0,k7,k11];rfl
         have HG:=Lib.hid e;clear e Hg
         go_wp2_with fail
         go_meet
         exact⟨by rw[HG.out],Below.refl _ _⟩
        | true =>
         have e:g=p92:=by rw[←Hg.out,k0,k7,k11];cases p92<;>rfl
         have HG:=Lib.hid e;clear e Hg
         go_wp2_with fail
         go_meet
         exact⟨by rw[HG.out],bK⟩
     case rest =>
      obtain⟨rfl,hbc⟩:=hcut;obtain⟨w3,hu3⟩:∃ x,x=wc:=⟨_,rfl⟩;subst hu3;have sA:=bA.size;have s3:=hbc.size;have h3:Below u.heap.size u w3:=bA.trans (hbc.mono sA);have hB3:=hb.trans (h3.mono hbs);have a0c:=(hbc.cell (p:=⟨u.heap.size,0,none⟩) hlA).trans a0;clear kc s92 bK
      cases g with
      | true =>
       have hf:soundP l=false:=by
        have hg:=Hg.out
        by_cases hEn:E=(n:Int)
        ·exact sound_open (open_false (k:=k) (by rw[Hlen.out];exact hlt) (by rw[HE.out,hEn,Hlen.out]))
        ·have e0:(E==(n:Int))=false:=by simpa using hEn
         rw[e0,Bool.false_or,←Hbar.out] at hg
         refine sound_at (k:=k) (by rw[Hlen.out];exact hlt) ?_
         rw[sound_bad Ht.out];unfold badAt;rw[hg];rfl
       have HF:=Lib.hid hf;clear hf hall
       go_wp2_with fail
       go_ret
       exact⟨ret_bool HF.out.symm,hB2.trans (hB3.mono hB2.size)⟩
      | false =>
       have hgf:E≠(n:Int)∧barB t=false:=by
        have hg:=Hg.out;rw[Bool.or_assoc,Bool.or_eq_false_iff,←Hbar.out] at hg
        exact⟨by simpa using hg.1,hg.2⟩
       have Hgf:=Lib.hid hgf;clear hgf
       go_wp2_with fail
       go_loopw [7,8] (fun v i wx=>∃ j:Nat,j≤k∧i=.int .i64 (j:Int)∧v=.bool ((t.kind==13)&&!(closedTo l k j))∧w3=wx) (fun _ i _=>k-(intOf i).toNat)
       case atStart=>exact⟨0,Nat.zero_le _,rfl,by rw[closed_zero];simp,rfl⟩
       case round =>
        obtain⟨j,hj,rfl,rfl,rfl⟩:=hrel
        by_cases hjl:j<k
        ·have dj:(j:Int)<(k:Int):=by omega
         have djn:(j:Int)<(n:Int):=by omega
         obtain⟨b3,off3,hA3,hbk3,hcj⟩:=he.at_ (k:=j) (by omega)
         injection hA3 with hA3
         injection hA3 with q1 q2
         subst q1 q2
         replace hcj:=(hB3.cell (p:=⟨b2,off2+j,none⟩) hbk3).trans hcj
         have hsu:=closed_succ l k j;obtain⟨Ej,hEj⟩:∃ E,endP l j=E:=⟨_,rfl⟩;rw[hEj] at hcj hsu;obtain⟨cj,hcj2⟩:∃ x,closedTo l k j=x:=⟨_,rfl⟩;rw[hcj2] at hsu ⊢;have Hsu:=Lib.hid hsu;have wj:IntKind.i64.wrap ((j:Int)+1)=(j:Int)+1:=by rw[IntKind.wrap_i64];omega
         clear hsu hEj hcj2
         cases hq:(Ej==(k:Int)) with
         | true =>
          have hn2:Hid (Value.bool false=.bool ((t.kind==13)&&!(closedTo l k (j+1)))):=by
           show _=_
           rw[Hsu.out,hq];simp
          go_wp2_with fail
          go_roundw
          case rel=>exact⟨j+1,by omega,by go_num,hn2.out,by first | rfl | trivial⟩
          case measure=>simp[intOf];omega
         | false =>
          have hn2:Hid (Value.bool ((t.kind==13)&&!cj)=.bool ((t.kind==13)&&!(closedTo l k (j+1)))):=by
           show _=_
           rw[Hsu.out,hq];simp
          go_wp2_with fail
          go_roundw
          case rel=>exact⟨j+1,by omega,by go_num,hn2.out,by first | rfl | trivial⟩
          case measure=>simp[intOf];omega
        ·obtain rfl:j=k:=by omega
         have dj:¬ (j:Int)<(j:Int):=by omega
         have hcl:=closed_all (l:=l) (i:=j) (by rw[Hlen.out];exact hlt);have hsb:=sound_bad Ht.out
         have hba:badAt l t j=((t.kind==13)&&!(closedTo l j j)):=by
          unfold badAt;rw[Hgf.out.2,hcl,Bool.false_or,Bool.eq_iff_iff];simp
         rw[hba] at hsb;obtain⟨q,hq⟩:∃ q,((t.kind==13)&&!(closedTo l j j))=q:=⟨_,rfl⟩;rw[hq] at hsb ⊢;have Hsb:=Lib.hid hsb;clear hcl hsb hba hq
         cases q with
         | true =>
          have hf:soundP l=false:=sound_at (k:=j) (by rw[Hlen.out];exact hlt) (by rw[Hsb.out];rfl);have HF:=Lib.hid hf;clear hf hall
          go_wp2_with fail
          go_ret
          exact⟨ret_bool HF.out.symm,hB2.trans (hB3.mono hB2.size)⟩
         | false =>
          have hnew:Hid (∀ i,i<j+1→endP l i≠(n:Int)∧soundAt l i=true):=by
           show ∀ i,_→_
           intro i hi
           rcases Nat.lt_or_ge i j with h|h
           ·exact hall.out i h
           ·obtain rfl:i=j:=by omega
            exact⟨by rw[HE.out];exact Hgf.out.1,by rw[Hsb.out];rfl⟩
          clear hall
          go_wp2_with fail
          go_roundw
          case rel=>exact⟨j+1,by omega,by go_num,hnew,hB3⟩
          case measure=>simp[intOf];omega
    ·obtain rfl:k=n:=by omega
     have dk:¬ (k:Int)<(k:Int):=by omega
     have hf:soundP l=true:=sound_all Hri.out Hd.out (open_true (fun j hj=>by rw[Hlen.out];exact(hall.out j (by rw[Hlen.out] at hj;exact hj)).1)) (fun j hj=>(hall.out j (by rw[Hlen.out] at hj;exact hj)).2);have HF:=Lib.hid hf;clear hf hall
     go_wp2_with fail
     go_ret
     exact⟨ret_bool HF.out.symm,hBu⟩
theorem trim_id {l:List GTok} (h:∀ u∈l.head?,u.kind≠1):trimL l=rtrim l:=by unfold trimL;rw[dropS_id h]
theorem head_take {l:List GTok} {m:Nat} (h:∀ u∈l.head?,u.kind≠1):∀ u∈(segP l 0 m).head?,u.kind≠1:=by
 intro u hu;unfold segP at hu;rw[List.drop_zero] at hu
 cases l with
 | nil=>simp at hu
 | cons x l =>
  cases m with
  | zero=>simp at hu
  | succ m=>simp at hu;subst hu;exact h x rfl
theorem rtrim_rev (l:List GTok):(rtrim l).reverse=dropS l.reverse:=by unfold rtrim;rw[List.reverse_reverse]
theorem val_case {v:List GTok} {m:Nat} {t:GTok} (hm:v.length=m+1) (ht:v[m]?=some t) (h:namedB t 2 importantS=true) (hv:∀ u∈v.head?,u.kind≠1) :
  (trimL (segP v 0 m)=[]∧importantP v=none)∨∃ p u,(trimL (segP v 0 m)).length=p+1∧(trimL (segP v 0 m))[p]?=some u∧importantP v=if u.kind=11∧u.text=[33] then some (trimL (segP (trimL (segP v 0 m)) 0 p)) else none:=by
 have hr:v.reverse=t::(segP v 0 m).reverse:=by
  have:=seg_last ht;rw[←hm,seg_all] at this;exact this
 have hw:trimL (segP v 0 m)=rtrim (segP v 0 m):=trim_id (head_take hv);have hwr:(trimL (segP v 0 m)).reverse=dropS (segP v 0 m).reverse:=by rw[hw,rtrim_rev]
 have hhd:=trim_head (segP v 0 m)
 have hi:importantP v=match dropS (segP v 0 m).reverse with
   | []=>none
   | u::q=>if u.kind=11∧u.text=[33] then some (dropS q).reverse else none:=by
  unfold importantP;rw[hr];simp only[h,if_true]
  cases dropS (segP v 0 m).reverse<;>rfl
 rw[←hwr] at hi;obtain⟨w,hww⟩:∃ w,trimL (segP v 0 m)=w:=⟨_,rfl⟩;rw[hww] at hi hhd ⊢
 cases hq:w.reverse with
 | nil =>
  left
  rw[hq] at hi
  exact⟨List.reverse_eq_nil_iff.1 hq,hi⟩
 | cons u q =>
  right
  rw[hq] at hi;simp only[] at hi;have hwq:w=q.reverse++[u]:=by rw[←List.reverse_reverse w,hq,List.reverse_cons]
  refine⟨q.length,u,by rw[hwq];simp,by rw[hwq,List.getElem?_append_right (by simp)];simp,?_⟩
  have hsg:segP w 0 q.length=q.reverse:=by
   unfold segP;rw[hwq,List.drop_zero,List.take_append_of_le_length (by simp),List.take_of_length_le (by simp)]
  rw[hi,trim_id (head_take hhd),hsg];unfold rtrim;rw[List.reverse_reverse]
def ValRet (v:List GTok) (S:Nat→Prop) (w:World) (e:Ending) (w':World):Prop :=
 ∃ (y:List GTok) (b:Bool) (A':Option Addr) (c':Nat),e=.returned (.tuple #[.slice A' y.length c',.bool b])∧ReadsS w' (fun x=>S x∨Fresh w w' x) 3 A' y.length (cellsG y)∧y.length≤c'∧y.length≤v.length∧b=(importantP v).isSome∧(b=false→y=v)
  ∧ (b=true→importantP v=some y)∧(∀ t∈y,t∈v)∧Below w.heap.size w w'
theorem seg_zero_mem {l:List GTok} {z:Nat} {t:GTok} (h:t∈trimL (segP l 0 z)):t∈l:=seg_mem (trim_mem h)
theorem trim_len (l:List GTok):(trimL l).length≤l.length:=by
 unfold trimL rtrim;rw[List.length_reverse]
 exact Nat.le_trans (dropS_len _) (by rw[List.length_reverse];exact dropS_len _)
theorem rr_value (v:List GTok) (S:Nat→Prop) (A:Option Addr) (n c:Nat) (w:World) (h:ReadsS w S 3 A n (cellsG v)) (hS:∀ b,S b→b<w.heap.size) (hn:n≤1000000) (hc:n≤c) (hs:∀ t∈v,smallT t) (hv:∀ u∈v.head?,u.kind≠1) :
  Calls Tryz.prog 108 #[.slice A n c] w (ValRet v S w):=by
 have hlen:=h.toks_len;have Hlen:=Lib.hid hlen
 have hsame:∀ (w':World),Below w.heap.size w w'→importantP v=none→ValRet v S w (.returned (.tuple #[.slice A n c,.bool false])) w':=fun w' hb' hi =>
  ⟨v,false,A,c,by rw[hlen],by rw[hlen];exact(h.keep (Kept.of_below hb' hS)).more (fun b hb=>.inl hb),by omega,Nat.le_refl _,by rw[hi];rfl,fun _=>rfl,(fun e=>by cases e),fun t ht=>ht,hb'⟩
 by_cases hn0:n=0
 ·have hvn:v=[]:=List.eq_nil_of_length_eq_zero (by omega)
  have hf:=hsame w (Below.refl _ _) (by rw[hvn];rfl);have HF:=Lib.hid hf;subst hn0;have hun:(undef:Value)=.tuple #[]:=rfl;clear hvn hlen hsame hf
  go_enter Tryz.func108,Tryz.ntmps108
  go_wp2_with fail
  go_ret2
  exact HF.out
 ·obtain⟨m,rfl⟩:∃ m,n=m+1:=⟨n-1,by omega⟩
  obtain⟨b,off,t,rfl,hb,ht,c0,c1,c2⟩:=h.tok (k:=m) (by omega);have hst:=hs t (List.mem_of_getElem? ht);have d0:(((m+1:Nat):Int)==0)=false:=by simp;omega
  have w1':IntKind.i64.wrap (((m+1:Nat):Int)-1)=(m:Int):=by rw[IntKind.wrap_i64];omega
  have d1:(m:Int)<((m+1:Nat):Int):=by omega
  have d2:(0:Int)≤(m:Int):=by omega
  have HSame:=Lib.hid hsame;have Ht:=Lib.hid ht;clear hsame hn0
  by_cases hk2:t.kind=2
  ·have k2:(t.kind != 2)=false:=by simp[hk2]
   have cL:=rr_lower t.text w hst.1;obtain⟨q,hq⟩:∃ q,decide (lowerP t.text=importantS)=q:=⟨_,rfl⟩;have hnm:namedB t 2 importantS=q:=by unfold namedB;rw[hq,decide_eq_true hk2,Bool.true_and]
   have Hnm:=Lib.hid hnm;have Hq:=Lib.hid hq;have cC:=fun (W:World) (hbW:Below w.heap.size w W)=>rr_cut v (some ⟨b,off,none⟩) (m+1) c 0 m W ((h.keep (Kept.of_below hbW hS)).more (fun x hx=>Nat.lt_of_lt_of_le (hS x hx) hbW.size)) hn hc (Nat.zero_le _) (by omega)
   clear hnm hq hk2 ht hlen
   go_enter Tryz.func108,Tryz.ntmps108
   go_wp2_with fail
   refine cL.mono ?_
   rintro e w1 ⟨rfl,hb1⟩
   cases q with
   | false =>
    have hf:=HSame.out w1 hb1 (imp_not Hlen.out Ht.out Hnm.out);have HF:=Lib.hid hf;obtain⟨s1,s2⟩:=txt_not (c:=[105,109,112,111,114,116,97,110,116]) (of_decide_eq_false Hq.out);clear hf cL cC
    go_wp2_with fail
    go_ret2
    exact HF.out
   | true =>
    obtain⟨s1,s2⟩:=txt_is (c:=[105,109,112,111,114,116,97,110,116]) (of_decide_eq_true Hq.out);have hvc:=val_case Hlen.out Ht.out Hnm.out hv;have hmem:∀ x,x∈trimL (segP v 0 m)→x∈v:=fun x hx=>seg_zero_mem hx
    have hwl:(trimL (segP v 0 m)).length≤v.length:=Nat.le_trans (trim_len _) (by rw[seg_length];omega);have cC1:=cC w1 hb1
    push_cast at cC1
    obtain⟨x,hx⟩:∃ x,trimL (segP v 0 m)=x:=⟨_,rfl⟩;rw[hx] at hvc hmem hwl cC1;rw[Hlen.out] at hwl;have Hvc:=Lib.hid hvc;have Hmem:=Lib.hid hmem;have hs1:=hb1.size;clear cC cL hvc hmem hx
    go_wp2_with fail
    refine cC1.mono ?_
    rintro e w2 ⟨⟨A2,c2,rfl,hcc2,hR2⟩,hb2'⟩;have hb2:=hb1.trans (hb2'.mono hs1);clear cC1
    rcases Hvc.out with⟨rfl,hno⟩|⟨p,u,hp,hu,hi⟩
    ·have hf:=HSame.out w2 hb2 hno
     have HF:=Lib.hid hf;have hun:(undef:Value)=.tuple #[]:=rfl;clear hf hno
     go_wp2_with fail
     go_ret2
     exact HF.out
    ·rw[hp] at hR2 hcc2 hwl ⊢
     obtain⟨b',off',u',hA',hb',hu',e0,e1,e2⟩:=hR2.tok (k:=p) (by omega);rw[hu] at hu'
     injection hu' with hu'
     subst hu' hA';have p0:(((p+1:Nat):Int)==0)=false:=by simp;omega
     have pw:IntKind.i64.wrap (((p+1:Nat):Int)-1)=(p:Int):=by rw[IntKind.wrap_i64];omega
     have pd1:(p:Int)<((p+1:Nat):Int):=by omega
     have pd2:(0:Int)≤(p:Int):=by omega
     by_cases hk11:u.kind=11
     ·have k11:(u.kind != 11)=false:=by simp[hk11]
      by_cases ht33:u.text=[33]
      ·obtain⟨s1,s2⟩:=txt_is ht33
       have s3:((bytesOf u.text).toList != [33])=false:=by show (!_)=_;rw[s2];rfl
       rw[if_pos ⟨hk11,ht33⟩] at hi;have hR2':ReadsS w2 (· < w2.heap.size) 3 (some ⟨b',off',none⟩) (p+1) (cellsG x):=hR2.more (fun z hz=>hz.2);have cC2:=rr_cut x (some ⟨b',off',none⟩) (p+1) c2 0 p w2 hR2' (by omega) hcc2 (Nat.zero_le _) (by omega)
       push_cast at cC2
       have hml:∀ z∈trimL (segP x 0 p),z∈v:=fun z hz=>Hmem.out z (seg_zero_mem hz)
       have hyl:(trimL (segP x 0 p)).length≤m+1:=Nat.le_trans (trim_len _) (by rw[seg_length];omega);obtain⟨y,hy⟩:∃ y,trimL (segP x 0 p)=y:=⟨_,rfl⟩;rw[hy] at cC2 hi hml hyl;have Hi:=Lib.hid hi;have Hml:=Lib.hid hml;clear hi hml hy hk11 ht33 hR2 hR2' hu
       go_wp2_with fail
       refine cC2.mono ?_
       rintro e w3 ⟨⟨A3,c3,rfl,hcc3,hR3⟩,hb3'⟩;have hs2:=hb2.size;have hb3:=hb2.trans (hb3'.mono hs2);have hR3':ReadsS w3 (fun z=>S z∨Fresh w w3 z) 3 A3 y.length (cellsG y):=hR3.more (fun z hz=>.inr ⟨by have:=hz.1;omega,hz.2⟩);clear cC2 hR3
       go_wp2_with fail
       go_ret2
       exact⟨y,true,A3,c3,rfl,hR3',hcc3,by rw[Hlen.out];omega,by rw[Hi.out];rfl,(fun e=>by cases e),fun _=>Hi.out,Hml.out,hb3⟩
      ·obtain⟨s1,s2⟩:=txt_not ht33
       have s3:((bytesOf u.text).toList != [33])=true:=by show (!_)=_;rw[s2];rfl
       rw[if_neg (fun e=>ht33 e.2)] at hi;have hf:=HSame.out w2 hb2 hi;have HF:=Lib.hid hf;clear hf hi hk11 ht33 hR2 hu
       go_wp2_with fail
       go_ret2
       exact HF.out
     ·have k11:(u.kind != 11)=true:=by simp[hk11]
      rw[if_neg (fun e=>hk11 e.1)] at hi;have hf:=HSame.out w2 hb2 hi;have HF:=Lib.hid hf;clear hf hi hk11 hR2 hu
      go_wp2_with fail
      go_ret2
      exact HF.out
  ·have k2:(t.kind != 2)=true:=by simp[hk2]
   have hnm:namedB t 2 importantS=false:=by unfold namedB;rw[decide_eq_false hk2,Bool.false_and]
   have hf:=HSame.out w (Below.refl _ _) (imp_not hlen ht hnm);have HF:=Lib.hid hf;clear hf hnm hk2 ht hlen
   go_enter Tryz.func108,Tryz.ntmps108
   go_wp2_with fail
   go_ret2
   exact HF.out
theorem dropS_idem (l:List GTok):dropS (dropS l)=dropS l:=by
 cases h:dropS l with
 | nil=>rfl
 | cons t r=>exact dropS_id (by intro u hu;simp at hu;subst hu;exact dropS_first h)
theorem rtrim_cons {t:GTok} {r:List GTok} (ht:t.kind≠1):rtrim (t::r)=t::rtrim r:=by
 unfold rtrim;rw[List.reverse_cons,dropS_app]
 split
 ·rename_i h
  have:dropS [t]=[t]:=dropS_id (by intro u hu;simp at hu;subst hu;exact ht);rw[this,h];rfl
 ·rw[List.reverse_append];rfl
theorem dropS_rtrim (l:List GTok):dropS (rtrim l)=rtrim (dropS l):=by
 induction l with
 | nil=>rfl
 | cons x l ih =>
  by_cases hx:x.kind=1
  ·have h1:dropS (x::l)=dropS l:=by unfold dropS;rw[List.dropWhile_cons_of_pos (by simp[isSp,hx])]
   rw[h1,←ih];unfold rtrim;rw[List.reverse_cons,dropS_app]
   split
   ·rename_i h
    have:dropS [x]=[]:=by unfold dropS;simp[isSp,hx]
    rw[this,h]
   ·rw[List.reverse_append]
    show dropS (x::_)=_
    unfold dropS;rw[List.dropWhile_cons_of_pos (by simp[isSp,hx])]
    rfl
  ·have h1:dropS (x::l)=x::l:=dropS_id (by intro u hu;simp at hu;subst hu;exact hx)
   rw[h1,rtrim_cons hx]
   exact dropS_id (by intro u hu;simp at hu;subst hu;exact hx)
theorem rtrim_idem (l:List GTok):rtrim (rtrim l)=rtrim l:=by
 unfold rtrim;rw[List.reverse_reverse,dropS_idem]
theorem trim_cons {t:GTok} {r:List GTok} (ht:t.kind≠1):trimL (t::r)=t::rtrim r:=by
 unfold trimL;rw[dropS_id (by intro u hu;simp at hu;subst hu;exact ht),rtrim_cons ht]
theorem declP_trim {t:GTok} {r:List GTok}:declP (t::rtrim r)=declP (t::r):=by
 unfold declP;simp only[];rw[dropS_rtrim]
 cases h:dropS r with
 | nil=>rfl
 | cons c q =>
  have hc:=dropS_first h;rw[rtrim_cons hc]
  have:trimL (rtrim q)=trimL q:=by
   unfold trimL;rw[dropS_rtrim,rtrim_idem]
  simp only[this]
theorem rr_decl (l:List GTok) (A:Option Addr) (n c k z:Nat) (w:World) (h:ReadsS w (· < w.heap.size) 3 A n (cellsG l)) (hn:n≤1000000) (hc:n≤c) (hk:k<z) (hz:z≤n) (hs:∀ t∈l,smallT t) (h1:∀ t,l[k]?=some t→t.kind≠1) :
  Calls Tryz.prog 71 #[.slice A n c,.int .i64 (k:Int),.int .i64 (z:Int)] w (DeclRet (declP (segP l k z)) w):=by
 obtain⟨W0,hW0⟩:∃ W0,w.alloc (.cells #[.string ⟨#[]⟩,.slice none 0 0,.bool false] 34)=W0:=⟨_,rfl⟩;have b0:Below w.heap.size w W0:=by rw[←hW0];exact(Below.refl _ _).alloc (Nat.le_refl _) _
 have r0:RowAt W0 w.heap.size [.string ⟨#[]⟩,.slice none 0 0,.bool false]:=by rw[←hW0];exact RowAt.new _ _ _
 have hR0:=h.below b0;have hn1:w.heap.size<W0.heap.size:=r0.1;have hlenl:=h.toks_len;obtain⟨t,ht⟩:∃ t,l[k]?=some t:=⟨_,List.getElem?_eq_getElem (by omega)⟩;have ht1:=h1 t ht;have hseg:segP l k z=t::segP l (k+1) z:=seg_cons ht hk;have hp:trimL (segP l k z)=t::rtrim (segP l (k+1) z):=by rw[hseg];exact trim_cons ht1
 have hdp:declP (segP l k z)=declP (t::rtrim (segP l (k+1) z)):=by rw[hseg,declP_trim]
 have cC:=rr_cut l A n c k z W0 hR0 hn hc (by omega) hz;have hmem:∀ x∈trimL (segP l k z),smallT x:=fun x hx=>hs x (seg_mem (trim_mem hx))
 have hpl:(trimL (segP l k z)).length≤n:=Nat.le_trans (trim_len _) (by rw[seg_length];omega);rw[hp] at cC hmem hpl;rw[hdp];obtain⟨r,hr⟩:∃ r,rtrim (segP l (k+1) z)=r:=⟨_,rfl⟩;rw[hr] at cC hmem hpl ⊢;obtain⟨p,hpp⟩:∃ p,t::r=p:=⟨_,rfl⟩;rw[hpp] at cC hmem hpl ⊢;have hst:=hmem t (by rw[←hpp];simp);obtain⟨m,hm⟩:∃ m,p.length=m:=⟨_,rfl⟩;have hm0:0<m:=by rw[←hm,←hpp];simp
 have hp1:segP p 1 m=r:=by rw[←hm,←hpp];unfold segP;simp
 have Hm:=Lib.hid hm;have Hpp:=Lib.hid hpp;have Hp1:=Lib.hid hp1;have Hmem:=Lib.hid hmem;rw[hm] at hpl;clear hm hpp hp1 hmem hr hp hdp hseg h1 ht h hR0 hlenl
 go_enter Tryz.func71,Tryz.ntmps71
 go_wp2_with fail
 refine cC.mono ?_
 rintro e w1 ⟨⟨A2,c2,rfl,hcc2,hR2⟩,hb1⟩;rw[Hm.out] at hcc2 hR2 ⊢;have hs1:=hb1.size;have hB1:Below w.heap.size w w1:=b0.trans (hb1.mono b0.size);have r1:=r0.below hb1 hn1;obtain⟨x0,f0⟩:=r1.2 0 _ rfl;obtain⟨x1,f1⟩:=r1.2 1 _ rfl;obtain⟨x2,f2⟩:=r1.2 2 _ rfl;have rz:=((r1.store 0 (.string ⟨#[]⟩)).store 1 (.slice none 0 0)).store 2 (.bool false)
 have bz:Below w.heap.size w (((w1.setCell ⟨w.heap.size,0,none⟩ (.string ⟨#[]⟩)).setCell ⟨w.heap.size,1,none⟩ (.slice none 0 0)).setCell ⟨w.heap.size,2,none⟩ (.bool false)) :=
  ((hB1.setCell (p:=⟨w.heap.size,0,none⟩) (Nat.le_refl _) _).setCell (p:=⟨w.heap.size,1,none⟩) (Nat.le_refl _) _).setCell (p:=⟨w.heap.size,2,none⟩) (Nat.le_refl _) _
 have hlt1:=r1.1;obtain⟨b,off,t',hA,hbf,ht',e0,e1,e2⟩:=hR2.tok (k:=0) hm0;have htt:t'=t:=by rw[←Hpp.out] at ht';simpa using ht'.symm
 subst htt hA;rw[Nat.zero_mul,Nat.add_zero] at e0 e1;have m0:((m:Int)==0)=false:=by simp;omega
 have m0':(0:Int)<(m:Int):=by omega
 clear cC ht' e2
 by_cases hk2:t'.kind=2
 ·have k2:(t'.kind != 2)=false:=by simp[hk2]
  have Hk2:=Lib.hid hk2;clear hk2
  go_wp2_with fail
  go_loopw [9] (fun i wr=>∃ j:Nat,i=.int .i64 (j:Int)∧1≤j∧j≤m∧Hid (dropS (segP p 1 m)=dropS (segP p j m))∧w1=wr) (fun i _=>m-(intOf i).toNat)
  case atStart=>exact⟨1,rfl,Nat.le_refl _,hm0,rfl,rfl⟩
  case round =>
   obtain⟨j,rfl,hj1,hjm,hdj,rfl⟩:=hrel;obtain⟨g,hg⟩:∃ g,(decide (j<m)&&((p[j]?.map (fun t=>decide (t.kind=1))).getD false))=g:=⟨_,rfl⟩
   have hcell:j<m→∃ u,p[j]?=some u∧w1.cell? ⟨b,off+j * 3,none⟩=some (.int .i64 u.kind):=fun hlt=>by
    obtain⟨b',off',u,hA,_,hu,d0,_,_⟩:=hR2.tok (k:=j) hlt
    injection hA with hA
    injection hA with q1 q2
    subst q1 q2
    exact⟨u,hu,d0⟩
   have Hcell:=Lib.hid hcell;have Hg:=Lib.hid hg;clear hcell hg
   go_upto_region 5 with (fail)
   go_cut [38] (fun x wx=>x=.bool g∧w1=wx)
   case first =>
    have hun:(undef:Value)=.tuple #[]:=rfl
    by_cases hlt:j<m
    ·obtain⟨u,hu,d0⟩:=Hcell.out hlt
     have dj:(j:Int)<(m:Int):=by omega
     have hg':g=(u.kind==1):=by
      rw[←Hg.out,hu];simp[hlt];rw[Bool.eq_iff_iff];simp
     have HG:=Lib.hid hg';clear hu hg' Hcell
     go_wp2_with fail
     go_meet
     exact⟨by rw[HG.out],rfl⟩
    ·have dj:¬ (j:Int)<(m:Int):=by omega
     have hg':g=false:=by rw[←Hg.out];simp[hlt]
     have HG:=Lib.hid hg';clear hg' Hcell
     go_wp2_with fail
     go_meet
     exact⟨by rw[HG.out],rfl⟩
   case rest =>
    obtain⟨rfl,rfl⟩:=hcut
    cases g with
    | true =>
     have hg2:=Hg.out;simp only[Bool.and_eq_true,decide_eq_true_eq] at hg2;obtain⟨u,hu,_⟩:=Hcell.out hg2.1;have hu1:u.kind=1:=by have:=hg2.2;rw[hu] at this;simpa using this
     have hnew:Hid (dropS (segP p 1 m)=dropS (segP p (j+1) m)):=by
      show _=_
      rw[hdj.out,seg_cons hu hg2.1];unfold dropS;rw[List.dropWhile_cons_of_pos (by simp[isSp,hu1])]
     have hj1':j+1≤m:=hg2.1;have wj:IntKind.i64.wrap ((j:Int)+1)=(j:Int)+1:=by rw[IntKind.wrap_i64];omega
     clear hg2 hu hu1 hdj
     go_wp2_with fail
     go_roundw
     case rel=>exact⟨j+1,by go_num,by omega,by omega,hnew,by first | rfl | trivial⟩
     case measure=>simp[intOf];omega
    | false =>
     by_cases hjz:j=m
     ·subst hjz
      have hd:declP p=none:=by
       rw[←Hpp.out]
       exact declP_none (by rw[←Hp1.out,hdj.out,seg_nil];rfl)
      have HD:=Lib.hid hd;have dj:((j:Int)==(j:Int))=true:=by simp
      have hun:(undef:Value)=.tuple #[]:=rfl;clear hd hdj
      go_wp2_with fail
      refine bodyPost_ret (results_decl rfl _ _ _ _ _ _ rfl rz) rfl ?_
      unfold DeclRet;rw[HD.out]
      exact⟨⟨_,_,_,_,_,rfl⟩,bz⟩
     ·have hjl:j<m:=by omega
      obtain⟨u,hu,d0⟩:=Hcell.out hjl
      have hu1:u.kind≠1:=by
       have:=Hg.out;rw[hu] at this
       simpa [hjl] using this
      have hsj:segP p j m=u::segP p (j+1) m:=seg_cons hu hjl
      have hdd:dropS r=u::segP p (j+1) m:=by
       rw[←Hp1.out,hdj.out,hsj]
       exact dropS_id (by intro x hx;simp at hx;subst hx;exact hu1)
      have dj:((j:Int)==(m:Int))=false:=by simp;omega
      have dj':(j:Int)<(m:Int):=by omega
      by_cases h14:u.kind=14
      ·have k14:(u.kind != 14)=false:=by simp[h14]
       have w2':IntKind.i64.wrap ((j:Int)+1)=(j:Int)+1:=by rw[IntKind.wrap_i64];omega
       have hR2w:ReadsS w1 (· < w1.heap.size) 3 (some ⟨b,off,none⟩) m (cellsG p):=hR2.more (fun x hx=>hx.2);have cC:=rr_cut p (some ⟨b,off,none⟩) m c2 (j+1) m w1 hR2w (by omega) hcc2 (by omega) (Nat.le_refl _)
       push_cast at cC
       obtain⟨v,hv⟩:∃ v,trimL (segP p (j+1) m)=v:=⟨_,rfl⟩;rw[hv] at cC;have hvh:∀ x∈v.head?,x.kind≠1:=by rw[←hv];exact trim_head _
       have hvs:∀ x∈v,smallT x:=fun x hx=>Hmem.out x (seg_mem (trim_mem (by rw[hv];exact hx)))
       have hvl:v.length≤m:=by
        rw[←hv];exact Nat.le_trans (trim_len _) (by rw[seg_length];omega)
       have Hv:=Lib.hid hv;have Hdd:=Lib.hid hdd;have H14:=Lib.hid h14;clear hv hdd h14 hsj hu hu1 hdj Hcell Hg
       go_wp2_with fail
       refine cC.mono ?_
       rintro e w2 ⟨⟨A3,c3,rfl,hcc3,hR3⟩,hb2⟩;have cV:=rr_value v _ A3 v.length c3 w2 hR3 (fun b h=>h.2) (by omega) hcc3 hvs hvh;clear cC
       go_wp2_with fail
       refine cV.mono ?_
       rintro e w3 ⟨y,bi,A4,c4,rfl,hR4,hc4,hyv,hbi,hy1,hy2,hym,hb3⟩;have s2:=hb2.size;have s3:=hb3.size;have hB3:Below w1.heap.size w1 w3:=hb2.trans (hb3.mono s2);have Hbi:=Lib.hid hbi;have Hy1:=Lib.hid hy1;have Hy2:=Lib.hid hy2
       have hR4':ReadsS w3 (Fresh w1 w3) 3 A4 y.length (cellsG y):=hR4.more (fun x hx=>by
        rcases hx with hx|hx
        ·exact⟨hx.1,by have:=hx.2;omega⟩
        ·exact⟨by have:=hx.1;omega,hx.2⟩)
       have g1:=(hB3.cell (p:=⟨b,off+1,none⟩) hbf.2).trans e1;have cL:=fun W=>rr_lower t'.text W hst.1
       clear hbi hy1 hy2 cV hR4 hR3
       go_wp2_with fail
       refine(cL _).mono ?_
       rintro e w4 ⟨rfl,hb4⟩;have s4:=hb4.size;have hB4:Below w1.heap.size w1 w4:=hB3.trans (hb4.mono hB3.size);have hR5:ReadsS w4 (Fresh w1 w4) 3 A4 y.length (cellsG y):=(hR4'.keep (Kept.of_below hb4 (fun b h=>h.2))).more (fun x hx=>⟨hx.1,by have:=hx.2;omega⟩);have hyl:y.length≤1000000:=by omega
       have cS:=rr_sound y A4 y.length c4 w4 (hR5.more (fun x hx=>hx.2)) hyl (fun x hx=>hvs x (hym x hx));clear cL hR4'
       go_wp2_with fail
       refine cS.mono ?_
       rintro e w5 ⟨rfl,hb5⟩;have s5:=hb5.size;have hB5:Below w1.heap.size w1 w5:=hB4.trans (hb5.mono hB4.size);have r5:=r1.below hB5 hlt1;obtain⟨y0,f0'⟩:=r5.2 0 _ rfl;obtain⟨y1,f1'⟩:=r5.2 1 _ rfl;obtain⟨y2,f2'⟩:=r5.2 2 _ rfl;have rf:=((r5.store 0 (.string (bytesOf (lowerP t'.text)))).store 1 (.slice A4 y.length c4)).store 2 (.bool bi)
       have bf:Below w.heap.size w (((w5.setCell ⟨w.heap.size,0,none⟩ (.string (bytesOf (lowerP t'.text)))).setCell ⟨w.heap.size,1,none⟩ (.slice A4 y.length c4)).setCell ⟨w.heap.size,2,none⟩ (.bool bi)) :=
        (((hB1.trans (hB5.mono hB1.size)).setCell (p:=⟨w.heap.size,0,none⟩) (Nat.le_refl _) _).setCell (p:=⟨w.heap.size,1,none⟩) (Nat.le_refl _) _).setCell (p:=⟨w.heap.size,2,none⟩) (Nat.le_refl _) _
       have hR6:=hR5.keep (Kept.of_below hb5 (fun b h=>h.2));have hne:∀ x,Fresh w1 w4 x→x≠w.heap.size:=fun x hx=>by have:=hx.1;omega
       have hR7:=((hR6.keep (Kept.setCell (p:=⟨w.heap.size,0,none⟩) (.string (bytesOf (lowerP t'.text))) hne)).keep (Kept.setCell (p:=⟨w.heap.size,1,none⟩) (.slice A4 y.length c4) hne)).keep (Kept.setCell (p:=⟨w.heap.size,2,none⟩) (.bool bi) hne);have hR8:=hR7.more (S':=Fresh w (((w5.setCell ⟨w.heap.size,0,none⟩ (.string (bytesOf (lowerP t'.text)))).setCell ⟨w.heap.size,1,none⟩ (.slice A4 y.length c4)).setCell ⟨w.heap.size,2,none⟩ (.bool bi))) (fun x hx=>⟨by have:=hx.1;omega,by have:=hx.2;simp[World.setCell];omega⟩);have hfin:=declP_some (t:=t') (r:=r) Hk2.out Hdd.out H14.out (y:=y) (b:=bi) (by rw[Hv.out];exact Hbi.out) (fun e=>by rw[Hv.out];exact Hy1.out e) (fun e=>by rw[Hv.out];exact Hy2.out e);rw[Hpp.out] at hfin;have HF:=Lib.hid hfin;clear hfin hR5 hR6 hR7 cS hvh hvs
       go_wp2_with fail
       refine bodyPost_ret (results_decl rfl _ _ _ _ _ _ rfl rf) rfl ?_
       unfold DeclRet;rw[HF.out]
       cases hsd:soundP y with
       | true=>rw[if_pos rfl];exact⟨⟨A4,c4,by rw[←hsd];rfl,hR8⟩,bf⟩
       | false=>rw[if_neg (by decide)];exact⟨⟨_,_,_,_,_,by rw[←hsd];rfl⟩,bf⟩
      ·have k14:(u.kind != 14)=true:=by simp[h14]
       have hd:declP p=none:=by rw[←Hpp.out];exact declP_colon hdd h14
       have HD:=Lib.hid hd;clear hd hdj hdd h14 hsj hu hu1 Hcell Hg
       go_wp2_with fail
       refine bodyPost_ret (results_decl rfl _ _ _ _ _ _ rfl rz) rfl ?_
       unfold DeclRet;rw[HD.out]
       exact⟨⟨_,_,_,_,_,rfl⟩,bz⟩
 ·have k2:(t'.kind != 2)=true:=by simp[hk2]
  have hd:declP p=none:=by rw[←Hpp.out];exact declP_kind hk2
  have HD:=Lib.hid hd;clear hd hk2
  go_wp2_with fail
  refine bodyPost_ret (results_decl rfl _ _ _ _ _ _ rfl rz) rfl ?_
  unfold DeclRet;rw[HD.out]
  exact⟨⟨_,_,_,_,_,rfl⟩,bz⟩
end Go.Proofs.YtfhdihdafmahgaaGreatDoor
