import Derived.Test.YtfhdihdafmahgaaGreatDoorR22
import Derived.Laws.EntriesVeiled
set_option linter.unusedVariables false
set_option linter.unusedSimpArgs false
set_option maxRecDepth 100000
set_option maxHeartbeats 4000000
namespace Go.Proofs.YtfhdihdafmahgaaGreatDoor
open Go.RowKit Rn Tp Ru
abbrev same2V (q:Nat):Value:=.func (.func 42) #[] #[.pointer (some ⟨q,0,none⟩)]
def bigR (r:Rule):Prop:=r.prelude.length≤1000000∧r.decls.length≤1000000∧r.margins.length≤1000000∧(∀ d∈r.decls,d.value.length≤1000000)∧∀ m∈r.margins,m.decls.length≤1000000∧∀ d∈m.decls,d.value.length≤1000000
theorem ru_same3 (x y:Rule) (A1 A2 A3 D1 D2 D3:Option Addr) (c1 c2 c3 e1 e2 e3 q8 q9:Nat) (w:World) (h1:ReadsS w (· < w.heap.size) 3 A1 x.prelude.length (cellsG x.prelude)) (h2:DeclsS w (· < w.heap.size) A2 x.decls.length x.decls) (h3:MarginsS w (· < w.heap.size) A3 x.margins.length x.margins)
  (k1:ReadsS w (· < w.heap.size) 3 D1 y.prelude.length (cellsG y.prelude)) (k2:DeclsS w (· < w.heap.size) D2 y.decls.length y.decls) (k3:MarginsS w (· < w.heap.size) D3 y.margins.length y.margins) (hb:bigR x) (hq8:w.cell? ⟨q8,0,none⟩=some same1V) (hq9:w.cell? ⟨q9,0,none⟩=some (same2V q8)) :
  Calls Tryz.prog 45 #[ruleV x A1 c1 A2 c2 A3 c3,ruleV y D1 e1 D2 e2 D3 e3,.pointer (some ⟨q8,0,none⟩),.pointer (some ⟨q9,0,none⟩)] w fun e w'=>e=.returned (.bool (decide (x=y)))∧Below w.heap.size w w':=by
 obtain⟨xk,xp,xd,xm⟩:=x;obtain⟨yk,yp,yd,ym⟩:=y;obtain⟨g1,g2,g3,g4,g5⟩:=hb;simp only[] at h1 h2 h3 k1 k2 k3 g1 g2 g3 g4 g5;have hl8:q8<w.heap.size:=World.block_lt_of_cell? _ _ hq8;have hl9:q9<w.heap.size:=World.block_lt_of_cell? _ _ hq9
 have hdec:decide ((⟨xk,xp,xd,xm⟩:Rule)=⟨yk,yp,yd,ym⟩)=((xk==yk)&&decide (xp=yp)&&decide (xd=yd)&&decide (xm=ym)):=by
  rw[Bool.eq_iff_iff];simp[Rule.mk.injEq,and_assoc]
 rw[hdec];obtain⟨W1,hW1⟩:∃ W1,w.alloc (.cells #[.int .i64 xk,.slice A1 xp.length c1,.slice A2 xd.length c2,.slice A3 xm.length c3] 39)=W1:=⟨_,rfl⟩;have b1:Below w.heap.size w W1:=by rw[←hW1];exact(Below.refl _ _).alloc (Nat.le_refl _) _
 have r1:RowAt W1 w.heap.size [.int .i64 xk,.slice A1 xp.length c1,.slice A2 xd.length c2,.slice A3 xm.length c3]:=by rw[←hW1];exact RowAt.new _ _ _
 obtain⟨W2,hW2⟩:∃ W2,W1.alloc (.cells #[.int .i64 yk,.slice D1 yp.length e1,.slice D2 yd.length e2,.slice D3 ym.length e3] 39)=W2:=⟨_,rfl⟩;have b2:Below W1.heap.size W1 W2:=by rw[←hW2];exact(Below.refl _ _).alloc (Nat.le_refl _) _
 have r2:RowAt W2 W1.heap.size [.int .i64 yk,.slice D1 yp.length e1,.slice D2 yd.length e2,.slice D3 ym.length e3]:=by rw[←hW2];exact RowAt.new _ _ _
 have r1':=r1.below b2 r1.1;have hB2:=b1.trans (b2.mono b1.size);have hqa:=(hB2.cell (p:=⟨q8,0,none⟩) hl8).trans hq8;have hqb:=(hB2.cell (p:=⟨q9,0,none⟩) hl9).trans hq9;have cP:=sl_equal xp yp A1 D1 _ _ c1 e1 W2 (h1.below hB2) (k1.below hB2) g1;have cD:=fun (W:World) (hW:Below W2.heap.size W2 W)=>eqf_decl xd yd A2 D2 _ _ c2 e2 W ((h2.below hB2).below hW) ((k2.below hB2).below hW) g2 g4
 have cM:=fun (W:World) (hW:Below W2.heap.size W2 W)=>eqf_margin xm ym A3 D3 _ _ c3 e3 W ((h3.below hB2).below hW) ((k3.below hB2).below hW) g3 g5 q8 ((hW.cell (p:=⟨q8,0,none⟩) (Nat.lt_of_lt_of_le hl8 hB2.size)).trans hqa)
 obtain⟨pp,hpp⟩:∃ p,decide (xp=yp)=p:=⟨_,rfl⟩;obtain⟨pd,hpd⟩:∃ p,decide (xd=yd)=p:=⟨_,rfl⟩;obtain⟨pm,hpm⟩:∃ p,decide (xm=ym)=p:=⟨_,rfl⟩;obtain⟨pk,hpk⟩:∃ p,(xk==yk)=p:=⟨_,rfl⟩;rw[hpp] at cP ⊢;simp only[hpd] at cD;simp only[hpm] at cM;rw[hpd,hpm,hpk];have hz1:w.heap.size<W2.heap.size:=r1'.1;have hz2:W1.heap.size<W2.heap.size:=r2.1;obtain⟨x0,_⟩:=r1'.2 0 _ rfl;obtain⟨x1,_⟩:=r1'.2 1 _ rfl;obtain⟨x2,_⟩:=r1'.2 2 _ rfl;obtain⟨x3,_⟩:=r1'.2 3 _ rfl;obtain⟨y0,_⟩:=r2.2 0 _ rfl;obtain⟨y1,_⟩:=r2.2 1 _ rfl;obtain⟨y2,_⟩:=r2.2 2 _ rfl;obtain⟨y3,_⟩:=r2.2 3 _ rfl;clear hdec hpp hpd hpm h1 h2 h3 k1 k2 k3 r1 g1 g2 g3 g4 g5
 go_enter Tryz.func45,Tryz.ntmps45
 cases pk with
 | false =>
  go_wp2_with fail
  go_ret
  exact⟨rfl,hB2⟩
 | true =>
  go_wp2_with fail
  refine cP.mono ?_
  rintro e w3 ⟨rfl,hb3⟩;have hB3:=hB2.trans (hb3.mono hB2.size);have r13:=r1'.below hb3 hz1;have r23:=r2.below hb3 hz2
  cases pp with
  | false =>
   go_wp2_with fail
   go_ret
   exact⟨by first | rfl | simp,hB3⟩
  | true =>
   obtain⟨x2',_⟩:=r13.2 2 _ rfl;obtain⟨y2',_⟩:=r23.2 2 _ rfl;have hqc:=(hb3.cell (p:=⟨q8,0,none⟩) (Nat.lt_of_lt_of_le hl8 hB2.size)).trans hqa;have cD3:=cD w3 hb3;clear cP cD
   go_wp2_with fail
   refine cD3.mono ?_
   rintro e w4 ⟨rfl,hb4⟩;have hb24:=hb3.trans (hb4.mono hb3.size);have hB4:=hB3.trans (hb4.mono hB3.size);have r14:=r1'.below hb24 hz1;have r24:=r2.below hb24 hz2
   cases pd with
   | false =>
    go_wp2_with fail
    go_ret
    exact⟨by first | rfl | simp,hB4⟩
   | true =>
    obtain⟨x3',_⟩:=r14.2 3 _ rfl;obtain⟨y3',_⟩:=r24.2 3 _ rfl;have hqd:=(hb24.cell (p:=⟨q9,0,none⟩) (Nat.lt_of_lt_of_le hl9 hB2.size)).trans hqb;have cM4:=cM w4 hb24;clear cM cD3
    go_wp2_with fail
    refine cM4.mono ?_
    rintro e w5 ⟨rfl,hb5⟩
    go_wp2_with fail
    go_ret
    exact⟨by first | rfl | simp,hB4.trans (hb5.mono hB4.size)⟩
theorem eqf_rule (xs ys:List Rule) (A A':Option Addr) (n m c c':Nat) (w:World) (hx:RulesS w (· < w.heap.size) A n xs) (hy:RulesS w (· < w.heap.size) A' m ys) (hn:n≤1000000) (hss:∀ r∈xs,bigR r) (q8 q9:Nat) (hq8:w.cell? ⟨q8,0,none⟩=some same1V) (hq9:w.cell? ⟨q9,0,none⟩=some (same2V q8)) :
  Calls Tryz.prog 44 #[.slice A n c,.slice A' m c',.func (.func 45) #[] #[.pointer (some ⟨q8,0,none⟩),.pointer (some ⟨q9,0,none⟩)]] w fun e w'=>e=.returned (.bool (decide (xs=ys)))∧Below w.heap.size w w':=by
 have hlx:=hx.len;have hly:=hy.len;have Hlx:=Lib.hid hlx;have Hly:=Lib.hid hly;have Hss:=Lib.hid hss;clear hlx hly hss
 by_cases hnm:n=m
 ·have hb0:((n:Int) != (m:Int))=false:=by simp[hnm]
  have Hnm:=Lib.hid hnm;clear hnm
  go_enter Tryz.func44,Tryz.ntmps44
  go_wp2_with fail
  go_loopw [17] (fun i wr=>∃ k:Nat,k≤n∧i=.int .i64 (k:Int)∧Hid (xs.take k=ys.take k)∧Below w.heap.size w wr) (fun i _=>n-(intOf i).toNat)
  case atStart=>exact⟨0,by omega,rfl,rfl,Below.refl _ _⟩
  case round =>
   obtain⟨k,hk,rfl,heq,hb⟩:=hrel
   by_cases hlt:k<n
   ·have hbs:=hb.size
    obtain⟨b,off,A1,c1,A2,c2,A3,c3,x,hA,hbl,hxk,f0,f1,f2,f3,hX⟩:=hx.at_ hlt;obtain⟨b',off',D1,e1,D2,e2,D3,e3,y,hA',hbl',hyk,g0,g1,g2,g3,hY⟩:=hy.at_ (k:=k) (by have:=Hnm.out;omega);subst hA hA';have hkm:k<m:=by have:=Hnm.out;omega
    have hki:(k:Int)<(n:Int):=by omega
    have hki':(k:Int)<(m:Int):=by omega
    have hk0:(0:Int)≤(k:Int):=by omega
    replace f0:=(hb.cell (p:=⟨b,off+k * 4,none⟩) hbl).trans f0
    replace f1:=(hb.cell (p:=⟨b,off+k * 4+1,none⟩) hbl).trans f1
    replace f2:=(hb.cell (p:=⟨b,off+k * 4+2,none⟩) hbl).trans f2
    replace f3:=(hb.cell (p:=⟨b,off+k * 4+3,none⟩) hbl).trans f3
    replace g0:=(hb.cell (p:=⟨b',off'+k * 4,none⟩) hbl').trans g0
    replace g1:=(hb.cell (p:=⟨b',off'+k * 4+1,none⟩) hbl').trans g1
    replace g2:=(hb.cell (p:=⟨b',off'+k * 4+2,none⟩) hbl').trans g2
    replace g3:=(hb.cell (p:=⟨b',off'+k * 4+3,none⟩) hbl').trans g3
    have hxx:=Hss.out x (List.mem_of_getElem? hxk);have Hxk:=Lib.hid hxk;have Hyk:=Lib.hid hyk;obtain⟨Za,hZa⟩:∃ Za,wr.alloc (.cells #[.int .i64 0,.slice none 0 0,.slice none 0 0,.slice none 0 0] 39)=Za:=⟨_,rfl⟩;have bZa:Below wr.heap.size wr Za:=by rw[←hZa];exact(Below.refl _ _).alloc (Nat.le_refl _) _
    have rZa:RowAt Za wr.heap.size [.int .i64 0,.slice none 0 0,.slice none 0 0,.slice none 0 0]:=by rw[←hZa];exact RowAt.new _ _ _
    obtain⟨mZa0,nZa0⟩:=rZa.2 0 _ rfl;obtain⟨mZa1,nZa1⟩:=rZa.2 1 _ rfl;obtain⟨mZa2,nZa2⟩:=rZa.2 2 _ rfl;obtain⟨mZa3,nZa3⟩:=rZa.2 3 _ rfl;obtain⟨W1,hW1⟩:∃ W1,((((Za.setCell ⟨wr.heap.size,0,none⟩ (.int .i64 x.kind)).setCell ⟨wr.heap.size,1,none⟩ (.slice A1 x.prelude.length c1)).setCell ⟨wr.heap.size,2,none⟩ (.slice A2 x.decls.length c2)).setCell ⟨wr.heap.size,3,none⟩ (.slice A3 x.margins.length c3))=W1:=⟨_,rfl⟩;have b1:Below wr.heap.size wr W1:=by rw[←hW1];exact((((bZa.setCell (p:=⟨wr.heap.size,0,none⟩) (Nat.le_refl _) _).setCell (p:=⟨wr.heap.size,1,none⟩) (Nat.le_refl _) _).setCell (p:=⟨wr.heap.size,2,none⟩) (Nat.le_refl _) _).setCell (p:=⟨wr.heap.size,3,none⟩) (Nat.le_refl _) _)
    have r1:RowAt W1 wr.heap.size [.int .i64 x.kind,.slice A1 x.prelude.length c1,.slice A2 x.decls.length c2,.slice A3 x.margins.length c3]:=by rw[←hW1];exact((((rZa.store 0 (.int .i64 x.kind)).store 1 (.slice A1 x.prelude.length c1)).store 2 (.slice A2 x.decls.length c2)).store 3 (.slice A3 x.margins.length c3))
    obtain⟨Zb,hZb⟩:∃ Zb,W1.alloc (.cells #[.int .i64 0,.slice none 0 0,.slice none 0 0,.slice none 0 0] 39)=Zb:=⟨_,rfl⟩;have bZb:Below W1.heap.size W1 Zb:=by rw[←hZb];exact(Below.refl _ _).alloc (Nat.le_refl _) _
    have rZb:RowAt Zb W1.heap.size [.int .i64 0,.slice none 0 0,.slice none 0 0,.slice none 0 0]:=by rw[←hZb];exact RowAt.new _ _ _
    obtain⟨mZb0,nZb0⟩:=rZb.2 0 _ rfl;obtain⟨mZb1,nZb1⟩:=rZb.2 1 _ rfl;obtain⟨mZb2,nZb2⟩:=rZb.2 2 _ rfl;obtain⟨mZb3,nZb3⟩:=rZb.2 3 _ rfl;obtain⟨W2,hW2⟩:∃ W2,((((Zb.setCell ⟨W1.heap.size,0,none⟩ (.int .i64 y.kind)).setCell ⟨W1.heap.size,1,none⟩ (.slice D1 y.prelude.length e1)).setCell ⟨W1.heap.size,2,none⟩ (.slice D2 y.decls.length e2)).setCell ⟨W1.heap.size,3,none⟩ (.slice D3 y.margins.length e3))=W2:=⟨_,rfl⟩;have b2:Below W1.heap.size W1 W2:=by rw[←hW2];exact((((bZb.setCell (p:=⟨W1.heap.size,0,none⟩) (Nat.le_refl _) _).setCell (p:=⟨W1.heap.size,1,none⟩) (Nat.le_refl _) _).setCell (p:=⟨W1.heap.size,2,none⟩) (Nat.le_refl _) _).setCell (p:=⟨W1.heap.size,3,none⟩) (Nat.le_refl _) _)
    have r2:RowAt W2 W1.heap.size [.int .i64 y.kind,.slice D1 y.prelude.length e1,.slice D2 y.decls.length e2,.slice D3 y.margins.length e3]:=by rw[←hW2];exact((((rZb.store 0 (.int .i64 y.kind)).store 1 (.slice D1 y.prelude.length e1)).store 2 (.slice D2 y.decls.length e2)).store 3 (.slice D3 y.margins.length e3))
    have r1':=r1.below b2 r1.1;have hB1:=hb.trans (b1.mono hbs);have hB2:=hB1.trans (b2.mono hB1.size);have hl8:q8<w.heap.size:=World.block_lt_of_cell? _ _ hq8;have hl9:q9<w.heap.size:=World.block_lt_of_cell? _ _ hq9;have cE:=ru_same3 x y A1 A2 A3 D1 D2 D3 c1 c2 c3 e1 e2 e3 q8 q9 W2 (hX.1.below hB2) (hX.2.1.below hB2) (hX.2.2.below hB2) (hY.1.below hB2) (hY.2.1.below hB2) (hY.2.2.below hB2) hxx ((hB2.cell (p:=⟨q8,0,none⟩) hl8).trans hq8) ((hB2.cell (p:=⟨q9,0,none⟩) hl9).trans hq9);have R1:=Lib.hid r1';have R2:=Lib.hid r2
    replace R1:=R1.out
    replace R2:=R2.out
    have hcmp:decide (x=y)=false→decide (xs=ys)=false:=fun h=>by
     have h0:=of_decide_eq_false h
     refine decide_eq_false (fun e=>h0 ?_)
     have h1:=Hxk.out;rw[e,Hyk.out] at h1
     injection h1 with h1
     exact h1.symm
    obtain⟨q,hq⟩:∃ q,decide (x=y)=q:=⟨_,rfl⟩;rw[hq] at hcmp cE;have Hq:=Lib.hid hq;have Hcmp:Hid (q=false→decide (xs=ys)=false):=hcmp;clear hq hcmp hxk hyk r1 r2 r1' hX hY
    replace g0:=(b1.cell (p:=⟨b',off'+k * 4,none⟩) (Nat.lt_of_lt_of_le hbl' hbs)).trans g0
    replace g1:=(b1.cell (p:=⟨b',off'+k * 4+1,none⟩) (Nat.lt_of_lt_of_le hbl' hbs)).trans g1
    replace g2:=(b1.cell (p:=⟨b',off'+k * 4+2,none⟩) (Nat.lt_of_lt_of_le hbl' hbs)).trans g2
    replace g3:=(b1.cell (p:=⟨b',off'+k * 4+3,none⟩) (Nat.lt_of_lt_of_le hbl' hbs)).trans g3
    obtain⟨p0,_⟩:=R1.2 0 _ rfl;obtain⟨q0,_⟩:=R2.2 0 _ rfl;obtain⟨p1,_⟩:=R1.2 1 _ rfl;obtain⟨q1,_⟩:=R2.2 1 _ rfl;obtain⟨p2,_⟩:=R1.2 2 _ rfl;obtain⟨q2,_⟩:=R2.2 2 _ rfl;obtain⟨p3,_⟩:=R1.2 3 _ rfl;obtain⟨q3,_⟩:=R2.2 3 _ rfl
    go_wp2_with fail
    refine cE.mono ?_
    rintro e w3 ⟨rfl,hb3⟩;have hB3:=hB2.trans (hb3.mono hB2.size)
    cases q with
    | true =>
     have hxy:=of_decide_eq_true Hq.out;have hnew:Hid (xs.take (k+1)=ys.take (k+1)):=by show _=_;rw[take_snoc _ _ _ Hxk.out,take_snoc _ _ _ Hyk.out,heq.out,hxy]
     clear hxy heq
     go_wp2_with fail
     go_roundw
     case rel=>exact⟨k+1,by omega,by go_num,hnew,hB3⟩
     case measure=>simp[intOf];omega
    | false =>
     have hf:=Hcmp.out rfl;have HF:=Lib.hid hf;clear hf heq
     go_wp2_with fail
     go_ret
     exact⟨ret_bool HF.out.symm,hB3⟩
   ·obtain rfl:k=n:=by omega
    have dk:¬ (k:Int)<(k:Int):=by omega
    have hf:decide (xs=ys)=true:=by
     have h1:=heq.out;rw[List.take_of_length_le (by rw[Hlx.out];omega),List.take_of_length_le (by rw[Hly.out,Hnm.out];omega)] at h1
     exact decide_eq_true h1
    have HF:=Lib.hid hf;clear hf heq
    go_wp2_with fail
    go_ret
    exact⟨ret_bool HF.out.symm,hb⟩
 ·have hb0:((n:Int) != (m:Int))=true:=by simp;omega
  have hf:decide (xs=ys)=false:=decide_eq_false (fun e=>hnm (by rw[←Hlx.out,←Hly.out,e]));have HF:=Lib.hid hf;clear hnm hf
  go_enter Tryz.func44,Tryz.ntmps44
  go_wp2_with fail
  go_ret
  exact⟨ret_bool HF.out.symm,Below.refl _ _⟩
theorem ru_same (xs ys:List Rule) (A A':Option Addr) (n m c c':Nat) (w:World) (hx:RulesS w (· < w.heap.size) A n xs) (hy:RulesS w (· < w.heap.size) A' m ys) (hn:n≤1000000) (hss:∀ r∈xs,bigR r) :
  Calls Tryz.prog 11 #[.slice A n c,.slice A' m c'] w fun e w'=>e=.returned (.bool (decide (xs=ys)))∧Below w.heap.size w w':=by
 have hmf:∀ (fn:Fn) (first cap:Array Value) (w:World),(Instr.makeFunc fn first cap).run Tryz.prog w=.ok (.func fn first cap) w:=fun _ _ _ _=>rfl
 obtain⟨Za,hZa⟩:∃ Za,w.alloc (.cells #[.nilFunc] 70)=Za:=⟨_,rfl⟩;have bZa:Below w.heap.size w Za:=by rw[←hZa];exact(Below.refl _ _).alloc (Nat.le_refl _) _
 have rZa:RowAt Za w.heap.size [.nilFunc]:=by rw[←hZa];exact RowAt.new _ _ _
 obtain⟨mZa,nZa⟩:=rZa.2 0 _ rfl;obtain⟨W1,hW1⟩:∃ W1,Za.setCell ⟨w.heap.size,0,none⟩ (same1V)=W1:=⟨_,rfl⟩;have b1:Below w.heap.size w W1:=by rw[←hW1];exact bZa.setCell (p:=⟨w.heap.size,0,none⟩) (Nat.le_refl _) _
 have r1:RowAt W1 w.heap.size [same1V]:=by rw[←hW1];exact rZa.store 0 _
 obtain⟨Zb,hZb⟩:∃ Zb,W1.alloc (.cells #[.nilFunc] 72)=Zb:=⟨_,rfl⟩;have bZb:Below W1.heap.size W1 Zb:=by rw[←hZb];exact(Below.refl _ _).alloc (Nat.le_refl _) _
 have rZb:RowAt Zb W1.heap.size [.nilFunc]:=by rw[←hZb];exact RowAt.new _ _ _
 obtain⟨mZb,nZb⟩:=rZb.2 0 _ rfl;obtain⟨W2,hW2⟩:∃ W2,Zb.setCell ⟨W1.heap.size,0,none⟩ (same2V w.heap.size)=W2:=⟨_,rfl⟩;have b2:Below W1.heap.size W1 W2:=by rw[←hW2];exact bZb.setCell (p:=⟨W1.heap.size,0,none⟩) (Nat.le_refl _) _
 have r2:RowAt W2 W1.heap.size [same2V w.heap.size]:=by rw[←hW2];exact rZb.store 0 _
 have hB2:=b1.trans (b2.mono b1.size);have cE:=eqf_rule xs ys A A' n m c c' W2 (hx.below hB2) (hy.below hB2) hn hss w.heap.size W1.heap.size ((r1.below b2 r1.1).2 0 _ rfl).1 (r2.2 0 _ rfl).1
 go_enter Tryz.func11,Tryz.ntmps11
 go_wp2_with fail
 refine cE.mono ?_
 rintro e w3 ⟨rfl,hb3⟩
 go_wp2_with fail
 go_ret
 exact⟨rfl,hB2.trans (hb3.mono hB2.size)⟩
end Go.Proofs.YtfhdihdafmahgaaGreatDoor
namespace Go.Proofs.YtfhdihdafmahgaaGreatDoor
open Go.RowKit Rn Tk Ru
def DeclsK (w:World) (S:Nat→Prop) (A:Option Addr) (n:Nat) (ds:List Decl):Prop:=∃ ms:List MDecl,ms.map (·.d)=ds∧ReadsS w S 3 A n (cellsD ms)∧DeclsM w S ms∧∀ m∈ms,m.d.value.length≤m.c
def MarginsK (w:World) (S:Nat→Prop) (A:Option Addr) (n:Nat) (l:List Margin):Prop:=∃ ms:List MMargin,ms.map (·.m)=l∧ReadsS w S 2 A n (cellsM ms)∧∀ x∈ms,DeclsK w S x.A x.m.decls.length x.m.decls
def RulesK (w:World) (S:Nat→Prop) (A:Option Addr) (n:Nat) (l:List Rule):Prop:=∃ ms:List MRule,ms.map (·.r)=l∧ReadsS w S 4 A n (cellsR ms)∧∀ x∈ms,ReadsS w S 3 x.A1 x.r.prelude.length (cellsG x.r.prelude)∧DeclsK w S x.A2 x.r.decls.length x.r.decls∧MarginsK w S x.A3 x.r.margins.length x.r.margins
section
variable {w w':World} {S S':Nat→Prop} {n:Nat} {A:Option Addr}
theorem DeclsK.toS {ds:List Decl} (h:DeclsK w S A n ds):DeclsS w S A n ds:=by obtain⟨ms,h1,h2,h3,_⟩:=h;exact⟨ms,h1,h2,h3⟩
theorem MarginsK.toS {l:List Margin} (h:MarginsK w S A n l):MarginsS w S A n l:=by obtain⟨ms,h1,h2,h3⟩:=h;exact⟨ms,h1,h2,fun x hx=>(h3 x hx).toS⟩
theorem RulesK.toS {l:List Rule} (h:RulesK w S A n l):RulesS w S A n l:=by obtain⟨ms,h1,h2,h3⟩:=h;exact⟨ms,h1,h2,fun x hx=>⟨(h3 x hx).1,(h3 x hx).2.1.toS,(h3 x hx).2.2.toS⟩⟩
theorem DeclsK.keep {l:List Decl} (h:DeclsK w S A n l) (hk:Kept S w w'):DeclsK w' S A n l:=by obtain⟨ms,h1,h2,h3,h4⟩:=h;exact⟨ms,h1,h2.keep hk,h3.keep hk,h4⟩
theorem DeclsK.more {l:List Decl} (h:DeclsK w S A n l) (hS:∀ b,S b→S' b):DeclsK w S' A n l:=by obtain⟨ms,h1,h2,h3,h4⟩:=h;exact⟨ms,h1,h2.more hS,h3.more hS,h4⟩
theorem MarginsK.keep {l:List Margin} (h:MarginsK w S A n l) (hk:Kept S w w'):MarginsK w' S A n l:=by obtain⟨ms,h1,h2,h3⟩:=h;exact⟨ms,h1,h2.keep hk,fun x hx=>(h3 x hx).keep hk⟩
theorem MarginsK.more {l:List Margin} (h:MarginsK w S A n l) (hS:∀ b,S b→S' b):MarginsK w S' A n l:=by obtain⟨ms,h1,h2,h3⟩:=h;exact⟨ms,h1,h2.more hS,fun x hx=>(h3 x hx).more hS⟩
theorem RulesK.keep {l:List Rule} (h:RulesK w S A n l) (hk:Kept S w w'):RulesK w' S A n l:=by obtain⟨ms,h1,h2,h3⟩:=h;exact⟨ms,h1,h2.keep hk,fun x hx=>⟨(h3 x hx).1.keep hk,(h3 x hx).2.1.keep hk,(h3 x hx).2.2.keep hk⟩⟩
theorem RulesK.more {l:List Rule} (h:RulesK w S A n l) (hS:∀ b,S b→S' b):RulesK w S' A n l:=by obtain⟨ms,h1,h2,h3⟩:=h;exact⟨ms,h1,h2.more hS,fun x hx=>⟨(h3 x hx).1.more hS,(h3 x hx).2.1.more hS,(h3 x hx).2.2.more hS⟩⟩
end
theorem DeclsK.below {w w':World} {n:Nat} {A:Option Addr} {l:List Decl} (h:DeclsK w (· < w.heap.size) A n l) (hb:Below w.heap.size w w'):DeclsK w' (· < w'.heap.size) A n l:=(h.keep (Kept.of_below hb (fun b h=>h))).more (fun b h=>Nat.lt_of_lt_of_le h hb.size)
theorem MarginsK.below {w w':World} {n:Nat} {A:Option Addr} {l:List Margin} (h:MarginsK w (· < w.heap.size) A n l) (hb:Below w.heap.size w w'):MarginsK w' (· < w'.heap.size) A n l:=(h.keep (Kept.of_below hb (fun b h=>h))).more (fun b h=>Nat.lt_of_lt_of_le h hb.size)
theorem RulesK.below {w w':World} {n:Nat} {A:Option Addr} {l:List Rule} (h:RulesK w (· < w.heap.size) A n l) (hb:Below w.heap.size w w'):RulesK w' (· < w'.heap.size) A n l:=(h.keep (Kept.of_below hb (fun b h=>h))).more (fun b h=>Nat.lt_of_lt_of_le h hb.size)
theorem DeclsK.at_ {w:World} {S:Nat→Prop} {A:Option Addr} {n:Nat} {l:List Decl} (h:DeclsK w S A n l) {k:Nat} (hk:k<n) :
  ∃ b off A1 c1 d,A=some ⟨b,off,none⟩∧S b∧l[k]?=some d∧w.cell? ⟨b,off+k * 3,none⟩=some (.string (bytesOf d.name))∧w.cell? ⟨b,off+k * 3+1,none⟩=some (.slice A1 d.value.length c1)∧w.cell? ⟨b,off+k * 3+2,none⟩=some (.bool d.imp)∧ReadsS w S 3 A1 d.value.length (cellsG d.value)∧d.value.length≤c1:=by
 have hl:=h.toS.len;obtain⟨ms,rfl,h2,h3,h4⟩:=h;rw[List.length_map] at hl;obtain⟨b,off,hA,hb,hc⟩:=(h2.elem MDecl.len (by omega)).2 (by omega);have hm:ms[k]?=some ms[k]:=List.getElem?_eq_getElem (by omega)
 exact⟨b,off,ms[k].A,ms[k].c,ms[k].d,hA,hb,by simp[hm],hc k _ hm 0 _ rfl,hc k _ hm 1 _ rfl,hc k _ hm 2 _ rfl,h3 ms[k] (List.getElem_mem _),h4 ms[k] (List.getElem_mem _)⟩
theorem MarginsK.at_ {w:World} {S:Nat→Prop} {A:Option Addr} {n:Nat} {l:List Margin} (h:MarginsK w S A n l) {k:Nat} (hk:k<n) :
  ∃ b off A1 c1 m,A=some ⟨b,off,none⟩∧S b∧l[k]?=some m∧w.cell? ⟨b,off+k * 2,none⟩=some (.string (bytesOf m.name))∧w.cell? ⟨b,off+k * 2+1,none⟩=some (.slice A1 m.decls.length c1)∧DeclsK w S A1 m.decls.length m.decls:=by
 have hl:=h.toS.len;obtain⟨ms,rfl,h2,h3⟩:=h;rw[List.length_map] at hl;obtain⟨b,off,hA,hb,hc⟩:=(h2.elem MMargin.len (by omega)).2 (by omega);have hm:ms[k]?=some ms[k]:=List.getElem?_eq_getElem (by omega)
 exact⟨b,off,ms[k].A,ms[k].c,ms[k].m,hA,hb,by simp[hm],hc k _ hm 0 _ rfl,hc k _ hm 1 _ rfl,h3 ms[k] (List.getElem_mem _)⟩
theorem RulesK.at_ {w:World} {S:Nat→Prop} {A:Option Addr} {n:Nat} {l:List Rule} (h:RulesK w S A n l) {k:Nat} (hk:k<n) :
  ∃ b off A1 c1 A2 c2 A3 c3 r,A=some ⟨b,off,none⟩∧S b∧l[k]?=some r∧w.cell? ⟨b,off+k * 4,none⟩=some (.int .i64 r.kind)∧w.cell? ⟨b,off+k * 4+1,none⟩=some (.slice A1 r.prelude.length c1)
   ∧ w.cell? ⟨b,off+k * 4+2,none⟩=some (.slice A2 r.decls.length c2)∧w.cell? ⟨b,off+k * 4+3,none⟩=some (.slice A3 r.margins.length c3)
   ∧ ReadsS w S 3 A1 r.prelude.length (cellsG r.prelude)∧DeclsK w S A2 r.decls.length r.decls∧MarginsK w S A3 r.margins.length r.margins:=by
 have hl:=h.toS.len;obtain⟨ms,rfl,h2,h3⟩:=h;rw[List.length_map] at hl;obtain⟨b,off,hA,hb,hc⟩:=(h2.elem MRule.len (by omega)).2 (by omega);have hm:ms[k]?=some ms[k]:=List.getElem?_eq_getElem (by omega);have hr:=h3 ms[k] (List.getElem_mem _)
 exact⟨b,off,ms[k].A1,ms[k].c1,ms[k].A2,ms[k].c2,ms[k].A3,ms[k].c3,ms[k].r,hA,hb,by simp[hm],hc k _ hm 0 _ rfl,hc k _ hm 1 _ rfl,hc k _ hm 2 _ rfl,hc k _ hm 3 _ rfl,hr.1,hr.2.1,hr.2.2⟩
end Go.Proofs.YtfhdihdafmahgaaGreatDoor
