import Derived.Test.YtfhdihdafmahgaaGreatDoorR13
import Derived.Deep.RegionLaw
set_option linter.unusedVariables false
set_option linter.unusedSimpArgs false
set_option maxRecDepth 100000
set_option maxHeartbeats 2000000
namespace Go.Proofs.YtfhdihdafmahgaaGreatDoor
open Go.RowKit Rn Tk
theorem tk_done {w:World} {O base:Nat} {v:Value} {outs:List Int} (kind:Nat) (hk:kind≤100) (hO:w.cell? ⟨O,0,none⟩=some v) (hOl:O<w.heap.size) (hown:w.ownsRow base 21 1 v outs.length (outs.map r32)) (hch:Chars outs) (hn:outs.length≤1000000) :
  Calls Tryz.prog 121 #[.int .i64 (kind:Int),.pointer (some ⟨O,0,none⟩)] w fun e w'=>e=.returned (tokV ⟨kind,writeP outs,0⟩)∧w.grownBy w' none:=by
 obtain⟨wA,hwA⟩:∃ wA,w.alloc (.cells #[.int .i64 0,.string ⟨#[]⟩,.int .i64 0] 58)=wA:=⟨_,rfl⟩;have gA:w.grownBy wA none:=by rw[←hwA];exact World.grownBy_alloc _ _ _
 have rA:RowAt wA w.heap.size [.int .i64 0,.string ⟨#[]⟩,.int .i64 0]:=by rw[←hwA];exact RowAt.new _ _ _
 have oA:=hown.kept gA (by cases v.ownBlock<;>simp)
 have cA:=(gA.cell_far ⟨O,0,none⟩ hOl (by simp)).trans hO;obtain⟨A,c,rfl,hcc,hcm⟩:=own_form hown;have rd:=Reads.of_own oA;have Hch:=Lib.hid hch;clear hown oA hch
 go_enter Tryz.func121,Tryz.ntmps121
 go_wp2_with fail
 refine(rn_write outs A outs.length c wA rd (fun d hd=>by have:=isB_range (Hch.out d hd);omega) hn).mono ?_
 rintro e w3 ⟨v3,rfl,hown3,hb3⟩;obtain⟨A4,c4,rfl,_,_⟩:=own_form hown3;have hrd4:=Reads.of_own hown3;have hstr:=run_str (P:=Tryz.prog) (src:=22) (dst:=9) Tryz.underlying22 Tryz.underlying5 Tryz.underlying9 c4 hrd4;have g3:=below_grown hb3;have r3:=rA.grown g3 (by simp);obtain⟨x0,y0⟩:=r3.2 0 _ rfl;obtain⟨x1,y1⟩:=r3.2 1 _ rfl;obtain⟨x2,y2⟩:=r3.2 2 _ rfl;have hfin:=((r3.store 0 (.int .i64 (kind:Int))).store 1 (.string (bytesOf (writeP outs)))).store 2 (.int .i64 0);clear hrd4 hown3 hb3 rd
 go_wp2_with fail
 refine bodyPost_ret (results_tok rfl _ _ _ _ _ _ rfl hfin) rfl ?_
 exact⟨rfl,grown_new (grown_new (grown_new (gA.trans g3) (Nat.le_refl _) _) (Nat.le_refl _) _) (Nat.le_refl _) _⟩
theorem meantT_chars {r:List Int} (h:Chars r):Chars (meantT r).2:=by
 obtain⟨j,hj⟩:=meantT_drop r;rw[hj];exact h.drop j
theorem quoteT_is (e:Int) (r:List Int) (h:Chars r):Chars (quoteT e r).1:=by
 fun_induction quoteT e r with
 | case1=>intro c hc;cases hc
 | case2=>intro c hc;cases hc
 | case3 t h2=>intro c hc;cases hc
 | case4 c t h1 h2 h3 ih =>
  have ht:Chars t:=fun d hd=>h d (List.mem_cons_of_mem _ hd)
  intro d hd
  rcases List.mem_cons.1 hd with rfl|hd
  ·refine meantT_is ht ?_
   rintro rfl;unfold esc at h3;have:=(of_decide_eq_true h3).2.1;rw[pk_cons,pk_nil] at this;omega
  ·exact ih (meantT_chars ht) d hd
 | case5 t h1 h2 h3 ih=>exact ih (fun d hd=>h d (List.mem_cons_of_mem _ (List.mem_of_mem_tail hd)))
 | case6 c t h1 h2 h3 h4 ih =>
  intro d hd
  rcases List.mem_cons.1 hd with rfl|hd
  ·exact h d (by simp)
  ·exact ih (fun d hd=>h d (List.mem_cons_of_mem _ hd)) d hd
structure TxM (wr:World) (P R O:Nat) (v:Value) (outs:List Int):Prop where
 hO:wr.cell? ⟨O,0,none⟩=some v
 hOf:wr.frozen? ⟨O,0,none⟩=false
 hOl:O<wr.heap.size
 hR:RowAt wr R [.int .i64 0,.string ⟨#[]⟩,.int .i64 0]
 hown:wr.ownsRow (O+1) 21 1 v outs.length (outs.map r32)
 hPR:P<R
 hRO:R<O
theorem TxM.mvP {wr w':World} {P R O:Nat} {v:Value} {outs:List Int} (h:TxM wr P R O v outs) (g:Mv P wr w'):TxM w' P R O v outs:=by
 have h1:=h.hPR;have h2:=h.hRO
 exact⟨(g.cell_far ⟨O,0,none⟩ h.hOl (by simp;omega)).trans h.hO,(g.frozen_far ⟨O,0,none⟩ h.hOl (by simp;omega)).trans h.hOf,Nat.lt_of_lt_of_le h.hOl g.size,h.hR.grown g (by simp;omega),own_mv h.hown (by omega) g,h1,h2⟩
theorem TxM.push {wr w1:World} {P R O:Nat} {v v':Value} {outs:List Int} {o:Obj} (h:TxM wr P R O v outs) (c:Int) (hown':w1.ownsRow (O+1) 21 1 v' (outs.length+1) (outs.map r32++[r32 c])) (hg:(wr.alloc o).grownBy w1 v.ownBlock):TxM (w1.setCell ⟨O,0,none⟩ v') P R O v' (outs++[c]):=by
 have h1:=h.hPR;have h2:=h.hRO;have hOl:=h.hOl;have ne:∀ b,b≤O→some b≠v.ownBlock:=fun b hb e=>by have:=(h.hown.lt b e.symm).1;omega
 have ga:wr.grownBy (wr.alloc o) none:=World.grownBy_alloc _ _ _;have cO:w1.cell? ⟨O,0,none⟩=some v:=(hg.cell_far ⟨O,0,none⟩ (Nat.lt_of_lt_of_le hOl ga.size) (ne _ (Nat.le_refl _))).trans ((ga.cell_far ⟨O,0,none⟩ hOl (by simp)).trans h.hO);have fO:w1.frozen? ⟨O,0,none⟩=false:=(hg.frozen_far ⟨O,0,none⟩ (Nat.lt_of_lt_of_le hOl ga.size) (ne _ (Nat.le_refl _))).trans ((ga.frozen_far ⟨O,0,none⟩ hOl (by simp)).trans h.hOf)
 refine⟨World.cell?_setCell_same _ _ _ cO,(World.frozen?_setCell _ _ _ _).trans fO,?_,?_,?_,h1,h2⟩
 ·have:=hg.size;have:=ga.size;simp[World.setCell];omega
 ·exact((h.hR.grown ga (by simp)).grown hg (ne _ (by omega))).grown (grownBy_set _ _ _) (by simp;omega)
 ·have hk:=hown'.kept (grownBy_set w1 ⟨O,0,none⟩ v') (by
   cases hb:v'.ownBlock with
   | none=>exact .inl rfl
   | some g=>refine .inr ?_;intro e;injection e with e;have:=(hown'.lt g hb).1;simp at e;omega)
  simpa using hk
theorem TxM.after {wr w1:World} {P R O:Nat} {v:Value} {outs:List Int} {o:Obj} (h:TxM wr P R O v outs) (hg:(wr.alloc o).grownBy w1 v.ownBlock):w1.cell? ⟨O,0,none⟩=some v∧w1.frozen? ⟨O,0,none⟩=false:=by
 have hOl:=h.hOl;have ne:some O≠v.ownBlock:=fun e=>by have:=(h.hown.lt O e.symm).1;omega
 have ga:wr.grownBy (wr.alloc o) none:=World.grownBy_alloc _ _ _
 exact⟨(hg.cell_far ⟨O,0,none⟩ (Nat.lt_of_lt_of_le hOl ga.size) ne).trans ((ga.cell_far ⟨O,0,none⟩ hOl (by simp)).trans h.hO),(hg.frozen_far ⟨O,0,none⟩ (Nat.lt_of_lt_of_le hOl ga.size) ne).trans ((ga.frozen_far ⟨O,0,none⟩ hOl (by simp)).trans h.hOf)⟩
theorem TxM.at_ {wr w1:World} {B S P R O n cap k2:Nat} {A:Option Addr} {l:List Int} {v v':Value} {outs:List Int} {o:Obj} (h:TxM wr P R O v outs) (ha:At wr B S P A n cap l k2) (hS:S<O) (hg:(wr.alloc o).grownBy w1 v.ownBlock):At (w1.setCell ⟨O,0,none⟩ v') B S P A n cap l k2 :=
 (ha.push (base:=O+1) (by omega) h.hown hg).grown (grownBy_set _ _ _) (by intro g hg;simp at hg;omega)
theorem TxM.mv_ {w wr w1:World} {P R O:Nat} {v v':Value} {outs:List Int} {o:Obj} (h:TxM wr P R O v outs) (hm:Mv P w wr) (hw:w.heap.size≤O) (hg:(wr.alloc o).grownBy w1 v.ownBlock):Mv P w (w1.setCell ⟨O,0,none⟩ v') :=
 grown_new ((hm.trans (Mv.of (World.grownBy_alloc _ _ _))).andThen hg fun j hj=>.inl (by have:=(h.hown.lt j hj).1;omega)) hw _
theorem quoteT_at {e:Int} {r:List Int} (hr:r≠[]):quoteT e r=if pk r 0=10 then ([],true,r) else if pk r 0=e then ([],false,r.tail) else if esc r=true then ((meantT r.tail).1::(quoteT e (meantT r.tail).2).1,(quoteT e (meantT r.tail).2).2) else if pk r 0=92 then quoteT e r.tail.tail else (pk r 0::(quoteT e r.tail).1,(quoteT e r.tail).2):=by
 cases r with
 | nil=>exact absurd rfl hr
 | cons c t=>rw[quoteT];rfl
theorem quoteT_nil (e:Int):quoteT e []=([],false,[]):=by rw[quoteT]
theorem drop_ne {l:List Int} {k:Nat} (h:k<l.length):l.drop k≠[]:=by
 intro h0;have:=congrArg List.length h0;rw[List.length_drop] at this;simp at this;omega
theorem gdrew (W:World):W.grownBy W.drew none:=⟨rfl,rfl,rfl,Nat.le_refl _,fun _ _ _=>rfl⟩
def TxRel (w:World) (B S P R O:Nat) (A:Option Addr) (n cap:Nat) (l:List Int) (k:Nat) (e:Int) (wr:World):Prop :=
 ∃ (k2:Nat) (outs:List Int) (v:Value),k+1≤k2∧Hid (quoteT e (l.drop (k+1))=(outs++(quoteT e (l.drop k2)).1,(quoteT e (l.drop k2)).2))∧outs.length+k+1≤k2∧TxM wr P R O v outs∧At wr B S P A n cap l k2∧Mv P w wr
theorem tk_text {w:World} {B S P n cap k:Nat} {A:Option Addr} {l:List Int} (h:At w B S P A n cap l k) (hch:Chars l) (hkn:k<n) :
  Calls Tryz.prog 86 #[.pointer (some ⟨S,0,none⟩)] w fun e w'=>e=.returned (tokV ⟨if (quoteT (pk (l.drop k) 0) (l.drop (k+1))).2.1=true then 7 else 6,writeP (quoteT (pk (l.drop k) 0) (l.drop (k+1))).1,0⟩)∧Mv P w w'∧∃ k',k<k'∧l.drop k'=(quoteT (pk (l.drop k) 0) (l.drop (k+1))).2.2∧At w' B S P A n cap l k':=by
 have hlen:=h.len;have hn:=h.hn;have hS:=h.hS;have hPS:=h.hPS;have hqi:=quoteT_is (pk (l.drop k) 0) (l.drop (k+1)) (hch.drop _);have Hch:=Lib.hid hch;clear hch;obtain⟨wA,hwA⟩:∃ wA,w.alloc (.cells #[.int .i64 0,.string ⟨#[]⟩,.int .i64 0] 58)=wA:=⟨_,rfl⟩;have gA:w.grownBy wA none:=by rw[←hwA];exact World.grownBy_alloc _ _ _
 have rA:RowAt wA w.heap.size [.int .i64 0,.string ⟨#[]⟩,.int .i64 0]:=by rw[←hwA];exact RowAt.new _ _ _
 have hA:=h.mv gA;have sA:=hA.s0;have hp:=tk_peek0 hA;generalize pk (l.drop k) 0=e at *
 obtain⟨Q,hQ⟩:∃ Q,quoteT e (l.drop (k+1))=Q:=⟨_,rfl⟩;rw[hQ] at hqi ⊢;obtain⟨Kq,hKq⟩:∃ K:Nat,(if Q.2.1=true then 7 else 6)=K:=⟨_,rfl⟩;rw[hKq];have HKq:=Lib.hid hKq;clear hKq;have HQ:=Lib.hid hQ;have Hqi:=Lib.hid hqi;clear hQ hqi
 go_enter Tryz.func86,Tryz.ntmps86
 go_wp2_with fail
 refine hp.mono ?_
 rintro e1 w1 ⟨rfl,g1⟩;have h1:=hA.mv g1;have r1:=rA.grown g1 (by simp);have m1:Mv P w w1:=Mv.of (gA.trans g1);have a1:=h1.s0;have a2:=h1.p0;have a3:=h1.p1;have a4:=h1.fz;have h2:=h1.store (k':=k+1) (by omega);have m2:=m1.trans (Mv.store w1 P (.int .i64 ((k+1:Nat):Int)));have r2:=r1.grown (Mv.store w1 P (.int .i64 ((k+1:Nat):Int))) (by simp;omega)
 push_cast at h2 m2 r2
 go_upto_region 2 with (fail)
 go_cut [3] (fun x wx=>x=.int .i32 e∧At wx B S P A n cap l (k+1)∧Mv P w wx∧RowAt wx w.heap.size [.int .i64 0,.string ⟨#[]⟩,.int .i64 0])
 case first =>
  go_wp2_with fail
  go_meet
  exact⟨rfl,h2,m2,r2⟩
 case rest =>
  obtain⟨rfl,hat,hmv,hrow⟩:=hcut;clear a1 a2 a3 a4 h2 m2 r2 h1 r1 m1 g1 hp sA hA rA gA hwA;have hwz:w.heap.size<wc.heap.size:=hrow.1;obtain⟨O,hO⟩:∃ O,wc.heap.size=O:=⟨_,rfl⟩
  have hTx:TxM (wc.alloc (.cells #[.slice none 0 0] 83)) P w.heap.size O (.slice none 0 0) []:=by
   have hnew:=(RowAt.new wc 83 #[.slice none 0 0]).2 0 _ rfl;rw[hO] at hnew
   exact⟨hnew.1,hnew.2,by simp;omega,hrow.grown (World.grownBy_alloc _ _ none) (by simp),World.ownsRow_nil _ _ _ _,by omega,by omega⟩
  have hat0:=hat.mv (World.grownBy_alloc wc (.cells #[.slice none 0 0] 83) none);have hmv0:=hmv.trans (Mv.of (World.grownBy_alloc wc (.cells #[.slice none 0 0] 83) none));have hwO:w.heap.size<O:=by omega
  have HO:=Lib.hid hO
  go_wp2_with fail
  go_loopw [6] (fun x wr=>TxRel w B S P w.heap.size O A n cap l k e wr) (fun _ wr=>n-posOf P wr)
  case atStart=>exact⟨k+1,[],.slice none 0 0,Nat.le_refl _,rfl,by simp,hTx,hat0,hmv0⟩
  case round =>
   clear hat0 hmv0 hTx hat hmv hrow;obtain⟨k2,outs,v,hk2,hrun,hol,hT,hat,hmv⟩:=hrel;have hk2n:=hat.hk;have hpos:=hat.pos;have hp:=tk_peek0 hat;obtain⟨c,hc⟩:∃ c,pk (l.drop k2) 0=c:=⟨_,rfl⟩;rw[hc] at hp;have hs:=hat.s0;have hps:=hT.hPR
   by_cases hend:k2=n
   ·
    have hnil:l.drop k2=[]:=List.drop_eq_nil_of_le (by omega);have hE:(outs,false,l.drop k2)=Q:=by rw[←HQ.out,hrun.out,hnil,quoteT_nil,List.append_nil]
    have HE:=Lib.hid hE;have hon:Chars outs:=by have:=Hqi.out;rw[←hE] at this;exact this
    have Hon:=Lib.hid hon;have hcm:c=-1:=by rw[←hc];exact pk_end (by omega)
    have t10:(c==10)=false:=by simp;omega
    have tneg:decide (c<0)=true:=by simp;omega
    have hmin:min ((k2:Int)+1) (n:Int)=(k2:Int):=by omega
    have hge:n≤k2:=by omega
    clear hend;clear hE hon hcm hc hnil hrun
    go_wp2_with fail
    refine hp.mono ?_
    rintro e2 w2 ⟨rfl,g2⟩;have T2:=hT.mvP (Mv.of g2);have A2:=hat.mv g2;have M2:=hmv.trans (Mv.of g2);have u1:=A2.s0;have u2:=A2.p0;have u3:=A2.p1;have u4:=A2.fz;have A3:=(A2.store hk2n).mv (gdrew _);have M3:=(M2.trans (Mv.store w2 P (.int .i64 (k2:Int)))).trans (Mv.of (gdrew _));have T3:=(T2.mvP (Mv.store w2 P (.int .i64 (k2:Int)))).mvP (Mv.of (gdrew _))
    go_wp2_with fail
    go_region
    all_goals
     have hfO:=T3.hO;have hfl:=T3.hOl
     go_wp2_with fail
     refine(tk_done 6 (by omega) hfO hfl T3.hown Hon.out (by omega)).mono ?_
     rintro e9 w9 ⟨rfl,g9⟩;have T9:=T3.mvP (Mv.of g9);have A9:=A3.mv g9;have M9:=M3.trans (Mv.of g9);obtain⟨x0,y0⟩:=T9.hR.2 0 _ rfl;obtain⟨x1,y1⟩:=T9.hR.2 1 _ rfl;obtain⟨x2,y2⟩:=T9.hR.2 2 _ rfl;have hfin:=((T9.hR.store 0 (.int .i64 6)).store 1 (.string (bytesOf (writeP outs)))).store 2 (.int .i64 0);have mset:∀ (W:World) (j:Nat) (u:Value),Mv P w W→Mv P w (W.setCell ⟨w.heap.size,j,none⟩ u):=fun W j u hm=>grown_new hm (Nat.le_refl _) _
     have aset:∀ (W:World) (j:Nat) (u:Value),At W B S P A n cap l k2→At (W.setCell ⟨w.heap.size,j,none⟩ u) B S P A n cap l k2:=fun W j u ha=>ha.grown (grownBy_set _ _ _) (by intro g hg;simp at hg;omega)
     unfold tokV
     go_wp2_with fail
     (try simp only[Exit.inBlock,Exit.then])
     refine bodyPost_ret (results_tok rfl _ _ _ _ _ _ rfl hfin) rfl ?_
     refine⟨by rw[←HKq.out,←HE.out];rfl,mset _ _ _ (mset _ _ _ (mset _ _ _ M9)),k2,by omega,by rw[←HE.out],aset _ _ _ (aset _ _ _ (aset _ _ _ A9))⟩
   ·have hlt:k2<n:=by omega
    have hat1:=quoteT_at (e:=e) (drop_ne (l:=l) (k:=k2) (by omega));rw[hc] at hat1;have hcr:=isB_range (pk_is (l:=l) Hch.out (m:=k2) (by omega));rw[show pk l k2=pk (l.drop k2) 0 from by rw[pk_drop];rfl,hc] at hcr;have tneg:decide (c<0)=false:=by simp;omega
    by_cases h10:c=10
    ·
     rw[if_pos h10] at hat1;have hE:(outs,true,l.drop k2)=Q:=by rw[←HQ.out,hrun.out,hat1,List.append_nil]
     have HE:=Lib.hid hE;have hon:Chars outs:=by have:=Hqi.out;rw[←hE] at this;exact this
     have Hon:=Lib.hid hon;have t10:=eq_t h10;clear hE hon h10 hc hat1 hrun hcr tneg
     go_wp2_with fail
     refine hp.mono ?_
     rintro e2 w2 ⟨rfl,g2⟩;have T2:=hT.mvP (Mv.of g2);have A2:=hat.mv g2;have M2:=hmv.trans (Mv.of g2);have hfO:=T2.hO;have hfl:=T2.hOl
     go_wp2_with fail
     refine(tk_done 7 (by omega) hfO hfl T2.hown Hon.out (by omega)).mono ?_
     rintro e9 w9 ⟨rfl,g9⟩;have T9:=T2.mvP (Mv.of g9);have A9:=A2.mv g9;have M9:=M2.trans (Mv.of g9);obtain⟨x0,y0⟩:=T9.hR.2 0 _ rfl;obtain⟨x1,y1⟩:=T9.hR.2 1 _ rfl;obtain⟨x2,y2⟩:=T9.hR.2 2 _ rfl;have hfin:=((T9.hR.store 0 (.int .i64 7)).store 1 (.string (bytesOf (writeP outs)))).store 2 (.int .i64 0);have mset:∀ (W:World) (j:Nat) (u:Value),Mv P w W→Mv P w (W.setCell ⟨w.heap.size,j,none⟩ u):=fun W j u hm=>grown_new hm (Nat.le_refl _) _
     have aset:∀ (W:World) (j:Nat) (u:Value),At W B S P A n cap l k2→At (W.setCell ⟨w.heap.size,j,none⟩ u) B S P A n cap l k2:=fun W j u ha=>ha.grown (grownBy_set _ _ _) (by intro g hg;simp at hg;omega)
     unfold tokV
     go_wp2_with fail
     (try simp only[Exit.inBlock,Exit.then])
     refine bodyPost_ret (results_tok rfl _ _ _ _ _ _ rfl hfin) rfl ?_
     refine⟨by rw[←HKq.out,←HE.out];rfl,mset _ _ _ (mset _ _ _ (mset _ _ _ M9)),k2,by omega,by rw[←HE.out],aset _ _ _ (aset _ _ _ (aset _ _ _ A9))⟩
    ·rw[if_neg h10] at hat1
     have t10:=eq_f h10
     by_cases hce:c=e
     ·
      rw[if_pos hce] at hat1;have hE:(outs,false,l.drop (k2+1))=Q:=by rw[←HQ.out,hrun.out,hat1,List.append_nil,List.tail_drop]
      have HE:=Lib.hid hE;have hon:Chars outs:=by have:=Hqi.out;rw[←hE] at this;exact this
      have Hon:=Lib.hid hon;have tce:=eq_t hce;have hmin:min ((k2:Int)+1) (n:Int)=(k2:Int)+1:=by omega
      clear hE hon h10 hc hat1 hrun hce
      go_wp2_with fail
      refine hp.mono ?_
      rintro e2 w2 ⟨rfl,g2⟩;have T2:=hT.mvP (Mv.of g2);have A2:=hat.mv g2;have M2:=hmv.trans (Mv.of g2);have u1:=A2.s0;have u2:=A2.p0;have u3:=A2.p1;have u4:=A2.fz;have A3:=(A2.store (k':=k2+1) (by omega)).mv (gdrew _);have M3:=(M2.trans (Mv.store w2 P (.int .i64 ((k2+1:Nat):Int)))).trans (Mv.of (gdrew _));have T3:=(T2.mvP (Mv.store w2 P (.int .i64 ((k2+1:Nat):Int)))).mvP (Mv.of (gdrew _))
      push_cast at A3 M3 T3
      go_wp2_with fail
      go_region
      all_goals
       have hfO:=T3.hO;have hfl:=T3.hOl
       go_wp2_with fail
       refine(tk_done 6 (by omega) hfO hfl T3.hown Hon.out (by omega)).mono ?_
       rintro e9 w9 ⟨rfl,g9⟩;have T9:=T3.mvP (Mv.of g9);have A9:=A3.mv g9;have M9:=M3.trans (Mv.of g9);obtain⟨x0,y0⟩:=T9.hR.2 0 _ rfl;obtain⟨x1,y1⟩:=T9.hR.2 1 _ rfl;obtain⟨x2,y2⟩:=T9.hR.2 2 _ rfl;have hfin:=((T9.hR.store 0 (.int .i64 6)).store 1 (.string (bytesOf (writeP outs)))).store 2 (.int .i64 0);have mset:∀ (W:World) (j:Nat) (u:Value),Mv P w W→Mv P w (W.setCell ⟨w.heap.size,j,none⟩ u):=fun W j u hm=>grown_new hm (Nat.le_refl _) _
       have aset:∀ (W:World) (j:Nat) (u:Value),At W B S P A n cap l (k2+1)→At (W.setCell ⟨w.heap.size,j,none⟩ u) B S P A n cap l (k2+1):=fun W j u ha=>ha.grown (grownBy_set _ _ _) (by intro g hg;simp at hg;omega)
       unfold tokV
       go_wp2_with fail
       (try simp only[Exit.inBlock,Exit.then])
       refine bodyPost_ret (results_tok rfl _ _ _ _ _ _ rfl hfin) rfl ?_
       refine⟨by rw[←HKq.out,←HE.out];rfl,mset _ _ _ (mset _ _ _ (mset _ _ _ M9)),(k2+1),by omega,by rw[←HE.out],aset _ _ _ (aset _ _ _ (aset _ _ _ A9))⟩
     ·rw[if_neg hce] at hat1
      have tce:=eq_f hce;have hes:=fun w' (g:wr.grownBy w' none)=>tk_escape0 (hat.mv g)
      cases hesc:esc (l.drop k2) with
      | true =>
       rw[hesc,if_pos rfl,List.tail_drop] at hat1
       have hk1:k2+1<n:=by
        unfold esc at hesc;have:=(of_decide_eq_true hesc).2.1;have:=pk_pos (l:=l.drop k2) (m:=1) (by omega);rw[List.length_drop] at this;omega
       have hrun2:=hrun.out;rw[hat1] at hrun2;have HR:=Lib.hid hrun2;obtain⟨hi0,hi,hz0,hz1,hz2⟩:=info_got rune_info;clear hrun2 hrun hat1 hc h10 hce
       go_wp2_with fail
       refine hp.mono ?_
       rintro e2 w2 ⟨rfl,g2⟩;have s2:=(hat.mv g2).s0
       go_wp2_with fail
       refine(hes w2 g2).mono ?_
       rintro e3 w3 ⟨rfl,g3⟩;rw[hesc];have g3:=g2.trans g3;have T4:=(hT.mvP (Mv.of g3)).mvP (Mv.of (gdrew w3));have A4:=(hat.mv g3).mv (gdrew w3);have M4:=(hmv.trans (Mv.of g3)).trans (Mv.of (gdrew w3));clear hesc g2 s2 hes hp hs hat hT hmv;generalize hW:w3.drew=w4 at *
       have hO4:=T4.hO;obtain⟨m1,hm1⟩:∃ m1,(meantT (l.drop (k2+1))).1=m1:=⟨_,rfl⟩;have Hm1:=Lib.hid hm1;have hcall:=tk_meant A4 Hch.out hk1;rw[hm1] at hcall;clear hm1
       go_wp2_with fail
       go_region_law (first
        | (refine step_append_lies _ rfl _ _ 83 rfl (O+1) 21 hi0 (.int .i32 0) 1 4 Tryz.underlying83 hi hz0 hz1 hz2 rfl (by decide) v outs.length (outs.map r32) rfl (T5.hown.kept (World.grownBy_alloc _ _ none) hvn) ⟨w5.heap.size,0,none⟩ 1 1 [.int .i32 m1] rfl rfl (cell_one_new _ _ _) (by intro u hu;simp at hu;subst hu;rfl) (by omega) (by unfold maxLen;omega) (by omega) hsz5 _ rfl ?_;intro g cap w6 hown6 hgrow6 hatg hltg;have cf:=T5.after hgrow6;have c6:=cf.1;have f6:=cf.2)
        | (go_simp;go_at_call 123;refine hcall.mono ?_;rintro e5 w5 ⟨rfl,m5,k5,hk5,hd5,A5⟩;have T5:=T4.mvP m5;have M5:=M4.trans m5;have hO5:=T5.hO;have hOl5:=T5.hOl;have hvn:v.ownBlock=none∨v.ownBlock≠none:=(by cases v.ownBlock<;>simp);have hsz5:O+1≤(w5.alloc (.cells #[.int .i32 m1] 21)).heap.size:=(by simp;omega)))
       all_goals
        have A7:=T5.at_ (v':=.slice (some ⟨g,0,none⟩) (outs.length+1) cap) A5 (by omega) hgrow6;have M7:=T5.mv_ (v':=.slice (some ⟨g,0,none⟩) (outs.length+1) cap) M5 (by omega) hgrow6;have T7:=T5.push m1 hown6 hgrow6;have q7:=A7.pos;have q8:=A7.hk
        go_wp2_with fail
        go_roundw
        case rel=>exact⟨k5,outs++[m1],_,by omega,(by show _=_;rw[HR.out,hd5,Hm1.out];simp),by simp;omega,T7,A7,M7⟩
        case measure=>rw[q7,hpos];omega
      | false =>
       rw[hesc,if_neg (by simp)] at hat1
       by_cases h92:c=92
       ·rw[if_pos h92,List.tail_drop,List.tail_drop] at hat1
        obtain⟨k3,hk3⟩:∃ k3,min (k2+2) n=k3:=⟨_,rfl⟩;have hmin:min ((k2:Int)+2) (n:Int)=(k3:Int):=by omega
        have hk3n:k3≤n:=by omega
        have hkk:k2<k3:=by omega
        have hdr:l.drop (k2+1+1)=l.drop k3:=by
         by_cases hx:k2+2≤n
         ·have:k3=k2+2:=by omega
          rw[this]
         ·rw[List.drop_eq_nil_of_le (by omega),List.drop_eq_nil_of_le (by omega)]
        rw[hdr] at hat1;have hrun2:=hrun.out;rw[hat1] at hrun2;have HR:=Lib.hid hrun2;have t92:=eq_t h92;clear hrun2 hrun hat1 hc h10 hce h92 hk3 hdr
        go_wp2_with fail
        refine hp.mono ?_
        rintro e2 w2 ⟨rfl,g2⟩;have s2:=(hat.mv g2).s0
        go_wp2_with fail
        refine(hes w2 g2).mono ?_
        rintro e3 w3 ⟨rfl,g3⟩;rw[hesc];have g3:=g2.trans g3;have T3:=hT.mvP (Mv.of g3);have A3:=hat.mv g3;have M3:=hmv.trans (Mv.of g3);have u1:=A3.s0;have u2:=A3.p0;have u3:=A3.p1;have u4:=A3.fz;have A5:=(A3.store hk3n).mv (gdrew _);have M5:=(M3.trans (Mv.store w3 P (.int .i64 (k3:Int)))).trans (Mv.of (gdrew _));have T5:=(T3.mvP (Mv.store w3 P (.int .i64 (k3:Int)))).mvP (Mv.of (gdrew _));have q5:=A5.pos
        go_wp2_with fail
        go_region
        all_goals
         go_wp2_with fail
         go_roundw
         case rel=>exact⟨k3,outs,v,by omega,HR,by omega,T5,A5,M5⟩
         case measure=>rw[q5,hpos];omega
       ·rw[if_neg h92,List.tail_drop] at hat1
        have hrun2:=hrun.out;rw[hat1] at hrun2;have HR:=Lib.hid hrun2;have t92:=eq_f h92;obtain⟨hi0,hi,hz0,hz1,hz2⟩:=info_got rune_info;clear hrun2 hrun hat1 hc h10 hce h92
        go_wp2_with fail
        refine hp.mono ?_
        rintro e2 w2 ⟨rfl,g2⟩;have s2:=(hat.mv g2).s0
        go_wp2_with fail
        refine(hes w2 g2).mono ?_
        rintro e3 w3 ⟨rfl,g3⟩;rw[hesc];have g3:=g2.trans g3;have T5:=hT.mvP (Mv.of g3);have A5:=hat.mv g3;have M5:=hmv.trans (Mv.of g3);have hO5:=T5.hO;have hOl5:=T5.hOl;have hvn:v.ownBlock=none∨v.ownBlock≠none:=by cases v.ownBlock<;>simp
        clear hesc g2 s2 hes hp hs hat hT hmv
        go_wp2_with (at_builtin;refine wpList_append_lies _ rfl _ _ 83 rfl (O+1) 21 hi0 (.int .i32 0) 1 4 Tryz.underlying83 hi hz0 hz1 hz2 rfl (by decide) v outs.length (outs.map r32) rfl (T5.hown.kept (World.grownBy_alloc _ _ none) hvn) ⟨w3.heap.size,0,none⟩ 1 1 [.int .i32 c] rfl rfl (cell_one_new _ _ _) (by intro u hu;simp at hu;subst hu;rfl) (by omega) (by unfold maxLen;omega) (by omega) (by simp;omega) _ rfl ?_)
        intro g cap w6 hown6 hgrow6 hatg hltg;have cf:=T5.after hgrow6;have c6:=cf.1;have f6:=cf.2;have A7:=T5.at_ (v':=.slice (some ⟨g,0,none⟩) (outs.length+1) cap) A5 (by omega) hgrow6;have M7:=T5.mv_ (v':=.slice (some ⟨g,0,none⟩) (outs.length+1) cap) M5 (by omega) hgrow6;have T7:=T5.push c hown6 hgrow6;have y1:=A7.s0;have y2:=A7.p0;have y3:=A7.p1;have y4:=A7.fz;have A8:=A7.store (k':=k2+1) (by omega);have M8:=M7.trans (Mv.store _ P (.int .i64 ((k2+1:Nat):Int)));have T8:=T7.mvP (Mv.store _ P (.int .i64 ((k2+1:Nat):Int)));have q8:=A8.pos
        push_cast at A8 M8 T8 q8
        go_wp2_with fail
        go_roundw
        case rel=>exact⟨k2+1,outs++[c],_,by omega,(by show _=_;rw[HR.out];simp),by simp;omega,T8,A8,M8⟩
        case measure=>rw[q8,hpos];omega
end Go.Proofs.YtfhdihdafmahgaaGreatDoor
