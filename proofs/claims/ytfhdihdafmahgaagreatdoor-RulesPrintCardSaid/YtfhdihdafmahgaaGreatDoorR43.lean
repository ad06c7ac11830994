import Derived.Test.YtfhdihdafmahgaaGreatDoorR40
import Derived.Test.YtfhdihdafmahgaaGreatDoorR42
import Derived.Test.YtfhdihdafmahgaaGreatDoorR33
import Derived.Test.YtfhdihdafmahgaaGreatDoorR41
set_option linter.unusedVariables false
set_option linter.unusedSimpArgs false
set_option maxRecDepth 100000
set_option maxHeartbeats 16000000
namespace Go.Proofs.YtfhdihdafmahgaaGreatDoor
open Go.RowKit Rn Tp Ru
def Ru.okRule (r:Rule):Prop:=r.prelude.length≤1000∧(∀ t∈r.prelude,smallT t)∧r.decls.length≤1000∧(∀ d∈r.decls,okDecl d)∧r.margins.length≤1000∧∀ m∈r.margins,m.name.length≤1000∧m.decls.length≤1000∧∀ d∈m.decls,okDecl d
def Ru.firstAt (l:List GTok):Bool:=match l with
 | t::_=>decide (t.kind=4)
 | []=>false
theorem ruleB_is (r:Rule):ruleB r=(trimmedB r.prelude (if r.kind=2 then eitherB else braceB)&&r.decls.all declB&&!((r.kind==1)&&(firstAt r.prelude||decide (0<r.margins.length)))&&r.margins.all marginB&&((r.kind==1)||(r.kind==2))):=by
 unfold ruleB firstAt;have h1:decide (r.kind=1)=(r.kind==1):=by rw[Bool.eq_iff_iff];simp
 have h2:decide (r.kind=2)=(r.kind==2):=by rw[Bool.eq_iff_iff];simp
 rw[h1,h2]
 cases r.prelude<;>rfl
theorem ru_right (r:Rule) (A1 A2 A3:Option Addr) (c1 c2 c3:Nat) (w:World) (hP:ReadsS w (· < w.heap.size) 3 A1 r.prelude.length (cellsG r.prelude)) (hD:DeclsK w (· < w.heap.size) A2 r.decls.length r.decls) (hM:MarginsK w (· < w.heap.size) A3 r.margins.length r.margins)
  (ho:okRule r) (hT:Tabs w) (hB:Boxed w) :
  Calls Tryz.prog 51 #[.agg #[.int .i64 r.kind,.slice A1 r.prelude.length c1,.slice A2 r.decls.length c2,.slice A3 r.margins.length c3]] w fun e w'=>e=.returned (.bool (ruleB r))∧Below w.heap.size w w':=by
 obtain⟨o1,o2,o3,o4,o5,o6⟩:=ho;have hrb:=ruleB_is r;obtain⟨WA,hWA⟩:∃ WA,w.alloc (.cells #[.int .i64 r.kind,.slice A1 r.prelude.length c1,.slice A2 r.decls.length c2,.slice A3 r.margins.length c3] 39)=WA:=⟨_,rfl⟩;have bA:Below w.heap.size w WA:=by rw[←hWA];exact(Below.refl _ _).alloc (Nat.le_refl _) _
 have rA:RowAt WA w.heap.size [.int .i64 r.kind,.slice A1 r.prelude.length c1,.slice A2 r.decls.length c2,.slice A3 r.margins.length c3]:=by rw[←hWA];exact RowAt.new _ _ _
 have hlA:=rA.1;have hPA:=hP.below bA;have hDA:=hD.below bA;have hMA:=hM.below bA;obtain⟨a0,_⟩:=rA.2 0 _ rfl;obtain⟨a1,_⟩:=rA.2 1 _ rfl
 obtain⟨F,isF,hF2,hF0,hAs,hen,his⟩:∃ (F:Nat) (isF:GTok→Bool),(r.kind=2→F=78)∧(r.kind≠2→F=23)∧(∀ (t:GTok) (W:World),Calls Tryz.prog F #[gtokV t] W fun e W'=>e=.returned (.bool (isF t))∧Below W.heap.size W W')∧(∀ (args:Array Value) (W:World),(callFunc F args).run Tryz.prog W=.ok (.enter F args) W)∧isF=(if r.kind=2 then eitherB else braceB):=by
  by_cases h2:r.kind=2
  ·exact⟨78,eitherB,fun _=>rfl,fun h=>absurd h2 h,fun t W=>ru_either_right t W,ru_enter_right,by rw[if_pos h2]⟩
  ·exact⟨23,braceB,fun h=>absurd h h2,fun _=>rfl,fun t W=>ru_brace t W,ru_enter_brace,by rw[if_neg h2]⟩
 rw[←his] at hrb;have cT:=ru_trimmed r.prelude isF F A1 r.prelude.length c1 WA hPA (by omega) o2 (hT.below bA) hAs hen;have cD:=fun (W:World) (hb:Below WA.heap.size WA W)=>ru_declares r.decls A2 r.decls.length c2 W (hDA.below hb) o3 o4 ((hT.below bA).below hb)
 obtain⟨p1,hp1⟩:∃ p,trimmedB r.prelude isF=p:=⟨_,rfl⟩;obtain⟨p2,hp2⟩:∃ p,r.decls.all declB=p:=⟨_,rfl⟩;obtain⟨fb,hfb⟩:∃ p,firstAt r.prelude=p:=⟨_,rfl⟩;obtain⟨mq,hmq⟩:∃ mq,r.margins.length=mq:=⟨_,rfl⟩;obtain⟨g,hg⟩:∃ g,(p1&&p2&&!((r.kind==1)&&(fb||decide (0<mq))))=g:=⟨_,rfl⟩;rw[hp1] at cT;simp only[hp2] at cD;rw[hp1,hp2,hfb,hmq,hg] at hrb;have Hrb:=Lib.hid hrb;have Hg:=Lib.hid hg;have Hfb:=Lib.hid hfb;have Hmq:=Lib.hid hmq;have HF2:=Lib.hid hF2;have HF0:=Lib.hid hF0;have O6:=Lib.hid o6;rw[hmq] at hMA o5;have rA':=rA;rw[hmq] at rA';obtain⟨a2,_⟩:=rA'.2 2 _ rfl;obtain⟨a3,_⟩:=rA'.2 3 _ rfl;clear hrb hg hp1 hp2 hfb hF2 hF0 hAs hen his o2 o4 o6 hP hD hM rA
 go_enter Tryz.func51,Tryz.ntmps51
 rw[hmq] at hWA ⊢;clear hmq
 go_upto_if 9 with (fail)
 go_cut [3] (fun f wx=>f=.func (.func F) #[] #[]∧WA=wx)
 case first =>
  by_cases h2:r.kind=2
  ·have k2:(r.kind==2)=true:=by simpa using h2
   have e1:F=78:=HF2.out h2;have E1:=Lib.hid e1;clear e1 h2 cT cD
   go_wp2_with fail
   go_meet
   exact⟨by rw[E1.out],by first | rfl | trivial⟩
  ·have k2:(r.kind==2)=false:=by simpa using h2
   have e1:F=23:=HF0.out h2;have E1:=Lib.hid e1;clear e1 h2 cT cD
   go_wp2_with fail
   go_meet
   exact⟨by rw[E1.out],by first | rfl | trivial⟩
 case rest =>
  obtain⟨rfl,rfl⟩:=hcut
  go_upto_region 4 with (fail)
  go_cut [4] (fun x wx=>x=.bool fb∧WA=wx)
  case first =>
   have hun:(undef:Value)=.tuple #[]:=rfl
   by_cases hp0:0<r.prelude.length
   ·have d0:(0:Int)<(r.prelude.length:Int):=by omega
    obtain⟨b,off,t,hA,hb,ht,c0,_,_⟩:=hPA.tok (k:=0) hp0;subst hA;rw[Nat.zero_mul,Nat.add_zero] at c0
    have hfe:fb=(t.kind==4):=by
     rw[←Hfb.out]
     cases hp:r.prelude with
     | nil=>rw[hp] at ht;cases ht
     | cons u q =>
      rw[hp] at ht
      simp at ht
      rw[←ht];unfold firstAt;rw[Bool.eq_iff_iff];simp
    have HE:=Lib.hid hfe;clear hfe ht cT cD
    go_wp2_with fail
    go_meet
    exact⟨by rw[HE.out],by first | rfl | trivial⟩
   ·have d0:¬ (0:Int)<(r.prelude.length:Int):=by omega
    have hfe:fb=false:=by
     rw[←Hfb.out,List.eq_nil_of_length_eq_zero (show r.prelude.length=0 by omega)];rfl
    have HE:=Lib.hid hfe;clear hfe cT cD
    go_wp2_with fail
    go_meet
    exact⟨by rw[HE.out],by first | rfl | trivial⟩
  case rest =>
   obtain⟨rfl,rfl⟩:=hcut
   go_upto_region 5 with (fail)
   go_cut [46] (fun x wx=>x=.bool (!g)∧Below WA.heap.size WA wx)
   case first =>
    have hun:(undef:Value)=.tuple #[]:=rfl
    go_wp2_with fail
    refine cT.mono ?_
    rintro e w1 ⟨rfl,hb1⟩;have cD1:=cD w1 hb1;have s1:=hb1.size;have a0':=(hb1.cell (p:=⟨w.heap.size,0,none⟩) hlA).trans a0;have a2':=(hb1.cell (p:=⟨w.heap.size,2,none⟩) hlA).trans a2;have a3':=(hb1.cell (p:=⟨w.heap.size,3,none⟩) hlA).trans a3;clear cT cD
    cases p1 with
    | false =>
     have e0:g=false:=by rw[←Hg.out];simp
     have HE:=Lib.hid e0;clear e0 cD1
     go_wp2_with fail
     go_meet
     exact⟨by rw[HE.out];rfl,hb1⟩
    | true =>
     go_wp2_with fail
     refine cD1.mono ?_
     rintro e w2 ⟨rfl,hb2'⟩;have hb2:=hb1.trans (hb2'.mono s1);have a0'':=(hb2'.cell (p:=⟨w.heap.size,0,none⟩) (Nat.lt_of_lt_of_le hlA s1)).trans a0';have a3'':=(hb2'.cell (p:=⟨w.heap.size,3,none⟩) (Nat.lt_of_lt_of_le hlA s1)).trans a3';clear cD1
     cases p2 with
     | false =>
      have e0:g=false:=by rw[←Hg.out];simp
      have HE:=Lib.hid e0;clear e0
      go_wp2_with fail
      go_meet
      exact⟨by rw[HE.out];rfl,hb2⟩
     | true =>
      cases k1:(r.kind==1) with
      | false =>
       have e0:g=true:=by rw[←Hg.out,k1];rfl
       have HE:=Lib.hid e0;clear e0
       go_wp2_with fail
       go_meet
       exact⟨by rw[HE.out];rfl,hb2⟩
      | true =>
       cases fb with
       | true =>
        have e0:g=false:=by rw[←Hg.out,k1];rfl
        have HE:=Lib.hid e0;clear e0
        go_wp2_with fail
        go_meet
        exact⟨by rw[HE.out];rfl,hb2⟩
       | false =>
        by_cases hm0:0<mq
        ·have d0:decide ((0:Int)<(mq:Int))=true:=by simp;omega
         have e0:g=false:=by rw[←Hg.out,k1,decide_eq_true hm0];rfl
         have HE:=Lib.hid e0;have Hm0:=Lib.hid hm0;clear e0 hm0
         go_wp2_with fail
         go_meet
         exact⟨by rw[HE.out];first | rfl | (congr 1;simpa using Hm0.out) | (simp;have:=Hm0.out;omega),hb2⟩
        ·have d0:decide ((0:Int)<(mq:Int))=false:=by simp;omega
         have e0:g=true:=by rw[←Hg.out,k1,decide_eq_false hm0];rfl
         have HE:=Lib.hid e0;have Hm0:=Lib.hid hm0;clear e0 hm0
         go_wp2_with fail
         go_meet
         exact⟨by rw[HE.out];first | rfl | (congr 1;simpa using Hm0.out) | (simp;have:=Hm0.out;omega),hb2⟩
   case rest =>
    obtain⟨rfl,hbc⟩:=hcut;obtain⟨w3,hw3⟩:∃ x,x=wc:=⟨_,rfl⟩;subst hw3;have s3:=hbc.size;have hB3:=bA.trans (hbc.mono bA.size);have b3:=(hbc.cell (p:=⟨w.heap.size,3,none⟩) hlA).trans a3;have hM3:=hMA.below hbc;clear cT cD
    cases g with
    | false =>
     have hf:ruleB r=false:=by rw[Hrb.out];rfl
     have HF:=Lib.hid hf;clear hf
     go_wp2_with fail
     go_ret
     exact⟨ret_bool HF.out.symm,hB3⟩
    | true =>
     go_wp2_with fail
     go_loopw [50] (fun i wr=>∃ k:Nat,k≤mq∧i=.int .i64 (k:Int)∧Hid (∀ m∈r.margins.take k,marginB m=true)∧Below w3.heap.size w3 wr) (fun i _=>mq-(intOf i).toNat)
     case atStart=>exact⟨0,by omega,rfl,(by show ∀ d∈_,_;simp),Below.refl _ _⟩
     case round =>
      obtain⟨k,hk,rfl,hall,hb⟩:=hrel;obtain⟨u,hu⟩:∃ x,x=wr:=⟨_,rfl⟩;subst hu;have hbs:=hb.size;have hBu:=hB3.trans (hb.mono hB3.size)
      by_cases hlt:k<mq
      ·obtain⟨b,off,A4,c4,m,hA,hbl,hmk,f0,f1,hX⟩:=hM3.at_ hlt
       subst hA;have hki:(k:Int)<(mq:Int):=by omega
       obtain⟨z1,z2,z3⟩:=O6.out m (List.mem_of_getElem? hmk)
       replace f0:=(hb.cell (p:=⟨b,off+k * 2,none⟩) hbl).trans f0
       replace f1:=(hb.cell (p:=⟨b,off+k * 2+1,none⟩) hbl).trans f1
       obtain⟨WB,hWB⟩:∃ WB,u.alloc (.cells #[.string (bytesOf m.name),.slice A4 m.decls.length c4] 41)=WB:=⟨_,rfl⟩;have bB:Below u.heap.size u WB:=by rw[←hWB];exact(Below.refl _ _).alloc (Nat.le_refl _) _
       have rB:RowAt WB u.heap.size [.string (bytesOf m.name),.slice A4 m.decls.length c4]:=by rw[←hWB];exact RowAt.new _ _ _
       have hBB:=hBu.trans (bB.mono hBu.size);have hXB:=hX.below (hb.trans (bB.mono hbs));have hlB:=rB.1;obtain⟨gm,hgm⟩:∃ gm,marginB m=gm:=⟨_,rfl⟩;have Hgm:=Lib.hid hgm;have Hmk:=Lib.hid hmk;clear hgm hmk hX
       go_upto_region 10 with (fail)
       go_cut [64] (fun x wx=>x=.bool (!gm)∧Below WB.heap.size WB wx)
       case first =>
        rename_i hKK
        refine Code.wp_mono ?_ (ru_right_ask _ _ _ _ _ _ _ _ _ _ _ _ _ _ _ _ _ _ _ _ _ _ _ _ _ _ _ _ _ _ _ _ _ _ _ _ _ _ _ _ _ _ _ _ _ _ _ _ _ _ _ _ _ _ _ _ _ _ _ _ _ _ _ _ _ _ _ _ _ _ _ _ _ rB hXB z2 z3 (hT.below hBB) (hB.below hBB))
        intro e' a W hQ
        cases e'<;>first | exact hQ.elim | skip
        obtain⟨⟨v54,v55,v56,v57,v58,v59,v60,v61,v62,v63,rfl⟩,hbW⟩:=hQ
        refine hKK _ _ ?_
        go_meet
        exact⟨by rw[Hgm.out],hbW⟩
       case rest =>
        obtain⟨rfl,hbc2⟩:=hcut;have hB2:=hb.trans ((bB.trans (hbc2.mono bB.size)).mono hbs)
        cases gm with
        | false =>
         have hf:ruleB r=false:=by
          have h3:r.margins.all marginB=false:=by
           rw[List.all_eq_false]
           exact⟨m,List.mem_of_getElem? Hmk.out,by rw[Hgm.out];decide⟩
          rw[Hrb.out,h3];rfl
         have HF:=Lib.hid hf;clear hf hall
         go_wp2_with fail
         go_ret
         exact⟨ret_bool HF.out.symm,hB3.trans (hB2.mono hB3.size)⟩
        | true =>
         have hnew:Hid (∀ m∈r.margins.take (k+1),marginB m=true):=by
          show ∀ x∈_,_
          intro x hx;rw[List.take_add_one,Hmk.out,Option.toList_some] at hx
          rcases List.mem_append.1 hx with h1|h1
          ·exact hall.out x h1
          ·rw[List.mem_singleton.1 h1];exact Hgm.out
         have wk:IntKind.i64.wrap ((k:Int)+1)=(k:Int)+1:=by rw[IntKind.wrap_i64];omega
         clear hall
         go_wp2_with fail
         go_roundw
         case rel=>exact⟨k+1,by omega,by go_num,hnew,hB2⟩
         case measure=>simp[intOf];omega
      ·obtain rfl:k=mq:=by omega
       have dk:¬ (k:Int)<(k:Int):=by omega
       have b0:=(hb.cell (p:=⟨w.heap.size,0,none⟩) (Nat.lt_of_lt_of_le hlA s3)).trans ((hbc.cell (p:=⟨w.heap.size,0,none⟩) hlA).trans a0)
       have hf:ruleB r=((r.kind==1)||(r.kind==2)):=by
        have h2:=hall.out;rw[←Hmq.out,List.take_length] at h2;rw[Hrb.out,List.all_eq_true.2 h2];simp
       have HF:=Lib.hid hf;have hun:(undef:Value)=.tuple #[]:=rfl;clear hf hall
       cases k1:(r.kind==1) with
       | true =>
        go_wp2_with fail
        go_ret
        exact⟨ret_bool (by rw[HF.out,k1];rfl),hBu⟩
       | false =>
        go_wp2_with fail
        go_ret
        exact⟨ret_bool (by rw[HF.out,k1];rfl),hBu⟩
theorem small_of {t:GTok} (h1:t.text.length≤100) (h2:num64 t):smallT t:=⟨by omega,h2.1,h2.2⟩
theorem few_okDecl {d:Decl} (h:declFew d=true) (hn:∀ t∈d.value,num64 t):okDecl d:=by
 obtain⟨h1,h2,h3⟩:=declFew_facts h
 exact⟨by omega,by omega,fun t ht=>small_of (h3 t ht) (hn t ht)⟩
theorem few_ok {l:List Rule} (h:fewR l=true) (hn:AllT num64 l):∀ r∈l,okRule r:=fun r hr=>by
 obtain⟨a1,a2,a3,a4,a5⟩:=ruleFew_facts ((fewR_facts h).2 r hr);obtain⟨b1,b2⟩:=declsFew_facts a4;obtain⟨n1,n2,n3⟩:=hn r hr
 refine⟨by omega,fun t ht=>small_of (a2 t ht) (n1 t ht),by omega,fun d hd=>few_okDecl (b2 d hd) (n2 d hd),by omega,fun m hm=>?_⟩
 obtain⟨c1,c2⟩:=marginFew_facts (a5 m hm);obtain⟨d1,d2⟩:=declsFew_facts c2
 exact⟨by omega,by omega,fun d hd=>few_okDecl (d2 d hd) (n3 m hm d hd)⟩
theorem ru_Right (l:List Rule) (A:Option Addr) (n c:Nat) (w:World) (h:RulesK w (· < w.heap.size) A n l) (hf:fewR l=true) (hn:AllT num64 l) (hT:Tabs w) (hE:Env w) (hD:Db w) (hB:Boxed w) :
  Calls Tryz.prog 17 #[.slice A n c] w fun e w'=>e=.returned (.bool (rulesB l))∧Below w.heap.size w w':=by
 have hlen:=h.toS.len;have Hlen:=Lib.hid hlen;have hok:=few_ok hf hn;have Hok:=Lib.hid hok;have hn8:n≤8:=by have:=(fewR_facts hf).1;omega
 have hsm:=tokens_small hf hn;have htl:(tokensP l).length≤14784:=by have:=few_take hf l.length;rw[List.take_length] at this;exact this
 have Hf:=Lib.hid hf;have Hsm:=Lib.hid hsm;clear hlen hok hf hn hsm
 go_enter Tryz.func17,Tryz.ntmps17
 go_wp2_with fail
 go_loopw [10] (fun i wr=>∃ k:Nat,k≤n∧i=.int .i64 (k:Int)∧Hid (∀ r∈l.take k,ruleB r=true)∧Below w.heap.size w wr) (fun i _=>n-(intOf i).toNat)
 case atStart=>exact⟨0,by omega,rfl,(by show ∀ d∈_,_;simp),Below.refl _ _⟩
 case round =>
  obtain⟨k,hk,rfl,hall,hb⟩:=hrel;obtain⟨u,hu⟩:∃ x,x=wr:=⟨_,rfl⟩;subst hu;have hbs:=hb.size
  by_cases hlt:k<n
  ·obtain⟨b,off,C1,d1,C2,d2,C3,d3,r,hA,hbl,hrk,x0,x1,x2,x3,hX1,hX2,hX3⟩:=h.at_ hlt
   subst hA;have hki:(k:Int)<(n:Int):=by omega
   have hokr:=Hok.out r (List.mem_of_getElem? hrk)
   replace x0:=(hb.cell (p:=⟨b,off+k * 4,none⟩) hbl).trans x0
   replace x1:=(hb.cell (p:=⟨b,off+k * 4+1,none⟩) hbl).trans x1
   replace x2:=(hb.cell (p:=⟨b,off+k * 4+2,none⟩) hbl).trans x2
   replace x3:=(hb.cell (p:=⟨b,off+k * 4+3,none⟩) hbl).trans x3
   obtain⟨Zc,hZc⟩:∃ Zc,u.alloc (.cells #[.int .i64 0,.slice none 0 0,.slice none 0 0,.slice none 0 0] 39)=Zc:=⟨_,rfl⟩;have bZc:Below u.heap.size u Zc:=by rw[←hZc];exact Below.one _ _
   have rZc:RowAt Zc u.heap.size [.int .i64 0,.slice none 0 0,.slice none 0 0,.slice none 0 0]:=by rw[←hZc];exact RowAt.new _ _ _
   obtain⟨t0,s0⟩:=rZc.2 0 _ rfl;obtain⟨t1,s1⟩:=rZc.2 1 _ rfl;obtain⟨t2,s2⟩:=rZc.2 2 _ rfl;obtain⟨t3,s3⟩:=rZc.2 3 _ rfl;obtain⟨WA,hWA⟩:∃ WA,((((Zc.setCell ⟨u.heap.size,0,none⟩ (.int .i64 r.kind)).setCell ⟨u.heap.size,1,none⟩ (.slice C1 r.prelude.length d1)).setCell ⟨u.heap.size,2,none⟩ (.slice C2 r.decls.length d2)).setCell ⟨u.heap.size,3,none⟩ (.slice C3 r.margins.length d3))=WA:=⟨_,rfl⟩;have bA:Below u.heap.size u WA:=by rw[←hWA];exact((((bZc.setCell (p:=⟨u.heap.size,0,none⟩) (Nat.le_refl _) _).setCell (p:=⟨u.heap.size,1,none⟩) (Nat.le_refl _) _).setCell (p:=⟨u.heap.size,2,none⟩) (Nat.le_refl _) _).setCell (p:=⟨u.heap.size,3,none⟩) (Nat.le_refl _) _)
   have rA:RowAt WA u.heap.size [.int .i64 r.kind,.slice C1 r.prelude.length d1,.slice C2 r.decls.length d2,.slice C3 r.margins.length d3]:=by rw[←hWA];exact((((rZc.store 0 (.int .i64 r.kind)).store 1 (.slice C1 r.prelude.length d1)).store 2 (.slice C2 r.decls.length d2)).store 3 (.slice C3 r.margins.length d3))
   have hBA:=hb.trans (bA.mono hbs);have cR:=ru_right r C1 C2 C3 d1 d2 d3 WA (hX1.below hBA) (hX2.below hBA) (hX3.below hBA) hokr (hT.below hBA) (hB.below hBA);obtain⟨a0,_⟩:=rA.2 0 _ rfl;obtain⟨a1,_⟩:=rA.2 1 _ rfl;obtain⟨a2,_⟩:=rA.2 2 _ rfl;obtain⟨a3,_⟩:=rA.2 3 _ rfl;obtain⟨g,hg⟩:∃ g,ruleB r=g:=⟨_,rfl⟩;rw[hg] at cR;have Hg:=Lib.hid hg;have Hrk:=Lib.hid hrk;clear hX1 hX2 hX3 hg hrk rZc rA hokr
   go_wp2_with fail
   refine cR.mono ?_
   rintro e w3 ⟨rfl,hb3⟩;have hB3:=hBA.trans (hb3.mono hBA.size);clear cR
   cases g with
   | false =>
    have hf:rulesB l=false:=by
     have h3:l.all ruleB=false:=by
      rw[List.all_eq_false]
      exact⟨r,List.mem_of_getElem? Hrk.out,by rw[Hg.out];decide⟩
     unfold rulesB;rw[h3];rfl
    have HF:=Lib.hid hf;clear hf hall
    go_wp2_with fail
    go_ret
    exact⟨ret_bool HF.out.symm,hB3⟩
   | true =>
    have hnew:Hid (∀ r∈l.take (k+1),ruleB r=true):=by
     show ∀ x∈_,_
     intro x hx;rw[List.take_add_one,Hrk.out,Option.toList_some] at hx
     rcases List.mem_append.1 hx with h1|h1
     ·exact hall.out x h1
     ·rw[List.mem_singleton.1 h1];exact Hg.out
    have wk:IntKind.i64.wrap ((k:Int)+1)=(k:Int)+1:=by rw[IntKind.wrap_i64];omega
    clear hall
    go_wp2_with fail
    go_roundw
    case rel=>exact⟨k+1,by omega,by go_num,hnew,hB3⟩
    case measure=>simp[intOf];omega
  ·obtain rfl:k=n:=by omega
   have dk:¬ (k:Int)<(k:Int):=by omega
   have hall2:l.all ruleB=true:=by
    have h2:=hall.out;rw[←Hlen.out,List.take_length] at h2
    exact List.all_eq_true.2 h2
   have hrb:rulesB l=(deepB (tokensP l)&&rightB (tokensP l)&&decide ((printL (tokensP l)).length≤65536)):=by
    unfold rulesB;rw[hall2,decide_eq_true (show l.length≤1024 by rw[Hlen.out];omega)];rfl
   have cTk:=ru_tokens l A k c u (h.toS.below hb) Hf.out;obtain⟨T,hTT⟩:∃ T,tokensP l=T:=⟨_,rfl⟩;rw[hTT] at cTk hrb htl Hsm;obtain⟨m,hm⟩:∃ m,T.length=m:=⟨_,rfl⟩;rw[hm] at htl;have Hm:=Lib.hid hm;have Hrb:=Lib.hid hrb;clear hall hall2 hrb hTT hm
   go_wp2_with fail
   refine cTk.mono ?_
   rintro e w5 ⟨A5,c5,rfl,hT5⟩;have hb5:=hT5.bel;have hB5:=hb.trans (hb5.mono hbs);have hR5:ReadsS w5 (· < w5.heap.size) 3 A5 T.length (cellsG T):=Reads.of_own hT5.own;rw[Hm.out] at hR5 ⊢;have cE:=nest_ends T A5 m c5 w5 hR5 (by omega);clear cTk hT5
   go_wp2_with fail
   refine cE.mono ?_
   rintro e w6 ⟨hb6,hret⟩;have hB6:=hB5.trans (hb6.mono hB5.size);have hR6:=hR5.below hb6;have s6:=hB6.size;unfold EndsRet at hret;clear cE;have hun:(undef:Value)=.tuple #[]:=rfl;have dk4:(k:Int)≤(1024:Int):=by omega
   cases hd:deepB T with
   | false =>
    rw[hd,if_neg (by decide)] at hret;subst hret;have hf:rulesB l=false:=by rw[Hrb.out,hd];rfl
    have HF:=Lib.hid hf;clear hf hd
    go_wp2_with fail
    go_ret
    exact⟨ret_bool HF.out.symm,hB6⟩
   | true =>
    rw[hd,if_pos rfl] at hret;obtain⟨rfl,_,_⟩:=hret;have hTk:TokRow w6 w6.heap.size A5 m T:=⟨hR6,Hsm.out,by omega⟩;have cR:=tp_rights T A5 m c5 w6 hTk (hT.below hB6);obtain⟨q1,hq1⟩:∃ q,rightB T=q:=⟨_,rfl⟩;rw[hq1] at cR;have hrb2:rulesB l=(q1&&decide ((printL T).length≤65536)):=by rw[Hrb.out,hd,hq1];rfl
    have Hrb2:=Lib.hid hrb2;clear hd hq1 hrb2
    go_wp2_with fail
    refine cR.mono ?_
    rintro e w7 ⟨rfl,hb7⟩;have hB7:=hB6.trans (hb7.mono s6);clear cR
    cases q1 with
    | false =>
     have hf:rulesB l=false:=by rw[Hrb2.out];rfl
     have HF:=Lib.hid hf;clear hf
     go_wp2_with fail
     go_ret
     exact⟨ret_bool HF.out.symm,hB7⟩
    | true =>
     have hTk7:TokRow w7 w7.heap.size A5 m T:=⟨hR6.below hb7,Hsm.out,by omega⟩;have cP:=tp_print T A5 m c5 w7 hTk7 (hT.below hB7) (hE.below hB7) (hD.below hB7);have hsz:=bytesOf_size (printL T);obtain⟨z,hz⟩:∃ z,(printL T).length=z:=⟨_,rfl⟩
     have hrb3:rulesB l=decide ((z:Int)≤65536):=by
      rw[Hrb2.out,hz,Bool.true_and,Bool.eq_iff_iff];simp;omega
     rw[hz] at hsz;have Hrb3:=Lib.hid hrb3;clear hrb3 hz
     go_wp2_with fail
     refine cP.mono ?_
     rintro e w8 ⟨rfl,hb8⟩
     go_wp2_with fail
     go_ret
     exact⟨ret_bool Hrb3.out.symm,hB7.trans (hb8.mono hB7.size)⟩
def Ru.tokensR (l:List Rule):List GTok:=if rulesB l=true then tokensP l else []
def ToksOut (l:List GTok) (w:World) (e:Ending) (w':World):Prop:=(∃ A c,e=.returned (.slice A l.length c)∧ReadsS w' (Fresh w w') 3 A l.length (cellsG l))∧Below w.heap.size w w'
theorem ru_Tokens (l:List Rule) (A:Option Addr) (n c:Nat) (w:World) (h:RulesK w (· < w.heap.size) A n l) (hf:fewR l=true) (hn:AllT num64 l) (hT:Tabs w) (hE:Env w) (hD:Db w) (hB:Boxed w) :
  Calls Tryz.prog 18 #[.slice A n c] w (ToksOut (tokensR l) w):=by
 have cR:=ru_Right l A n c w h hf hn hT hE hD hB;have cT:=fun (W:World) (hb:Below w.heap.size w W)=>ru_tokens l A n c W (h.toS.below hb) hf
 obtain⟨q,hq⟩:∃ q,rulesB l=q:=⟨_,rfl⟩;have htr:tokensR l=if q=true then tokensP l else []:=by unfold tokensR;rw[hq]
 rw[hq] at cR;rw[htr];obtain⟨T,hTd⟩:∃ T,(if q=true then tokensP l else [])=T:=⟨_,rfl⟩;rw[hTd];have HT:=Lib.hid hTd;clear hq htr hTd
 go_enter Tryz.func18,Tryz.ntmps18
 go_wp2_with fail
 refine cR.mono ?_
 rintro e w1 ⟨rfl,hb1⟩;have cT1:=cT w1 hb1;clear cR cT
 cases q with
 | false =>
  have hfin:ToksOut T w (.returned (.slice none 0 0)) w1:=by
   rw[←HT.out]
   exact⟨⟨none,0,rfl,ReadsS.nil⟩,hb1⟩
  have HF:=Lib.hid hfin;clear hfin cT1
  go_wp2_with fail
  go_ret
  exact HF.out
 | true =>
  go_wp2_with fail
  refine cT1.mono ?_
  rintro e w2 ⟨A2,c2,rfl,hT2⟩;have s1:=hb1.size
  have hfin:ToksOut T w (.returned (.slice A2 (tokensP l).length c2)) w2:=by
   rw[←HT.out,if_pos trivial]
   exact⟨⟨A2,c2,rfl,(ReadsS.of_own hT2.own (fun b hb=>hT2.own.lt b hb)).more (fun b hb=>⟨by have:=hb.1;omega,hb.2⟩)⟩,hb1.trans (hT2.bel.mono s1)⟩
  have HF:=Lib.hid hfin;clear hfin cT1 hT2
  go_wp2_with fail
  go_ret
  exact HF.out
theorem ru_Print (l:List Rule) (A:Option Addr) (n c:Nat) (w:World) (h:RulesK w (· < w.heap.size) A n l) (hf:fewR l=true) (hn:AllT num64 l) (hT:Tabs w) (hE:Env w) (hD:Db w) (hB:Boxed w) :
  Calls Tryz.prog 16 #[.slice A n c] w fun e w'=>e=.returned (.string (bytesOf (printL (tokensR l))))∧Below w.heap.size w w':=by
 have cT:=ru_Tokens l A n c w h hf hn hT hE hD hB
 have hsm:∀ t∈tokensR l,smallT t:=by
  unfold tokensR
  split
  ·exact tokens_small hf hn
  ·intro t ht;cases ht
 have hl:(tokensR l).length≤14784:=by
  unfold tokensR
  split
  ·have:=few_take hf l.length;rw[List.take_length] at this;exact this
  ·simp
 obtain⟨T,hTT⟩:∃ T,tokensR l=T:=⟨_,rfl⟩;rw[hTT] at cT hsm hl ⊢;clear hTT
 go_enter Tryz.func16,Tryz.ntmps16
 go_wp2_with fail
 refine cT.mono ?_
 rintro e w1 ⟨⟨A1,c1,rfl,hR1⟩,hb1⟩;have cP:=tp_print T A1 T.length c1 w1 ⟨hR1.more (fun b hb=>hb.2),hsm,by omega⟩ (hT.below hb1) (hE.below hb1) (hD.below hb1);clear cT
 go_wp2_with fail
 refine cP.mono ?_
 rintro e w2 ⟨rfl,hb2⟩
 go_wp2_with fail
 go_ret
 exact⟨rfl,hb1.trans (hb2.mono hb1.size)⟩
end Go.Proofs.YtfhdihdafmahgaaGreatDoor
namespace Go.Proofs.YtfhdihdafmahgaaGreatDoor
open Go.RowKit Rn Tp Tk Ru
theorem sheet_of {x:List UInt8} {m:List GTok} {rs:List Rule} (hm:(Tk.scanT (readP x)).map Tk.Tok.g=m) (hg:Goes m rs) (hl:m.length≤16384) (hx:x.length≤65536) (hn:rs.length≤1024):parseOut x.length (Tk.scanT (readP x))=(rs,0):=by
 have hp:=hg.parse hn;have e:(Tk.scanT (readP x)).length=m.length:=by rw[←hm,List.length_map]
 unfold parseOut;rw[e,if_neg (by omega),hm,hp]
 rfl
theorem rulesB_le {l:List Rule} (h:rulesB l=true):(printL (tokensP l)).length≤65536∧l.length≤1024:=by
 unfold rulesB at h;simp only[Bool.and_eq_true,decide_eq_true_eq] at h
 exact⟨h.2,h.1.1.1.2⟩
theorem sheet_print {l:List Rule} (h:rulesB l=true) (hf:fewR l=true):parseOut (printL (tokensP l)).length (Tk.scanT (readP (printL (tokensP l))))=(l,0):=by
 obtain⟨pa,qa,ra,sa,hn⟩:=rules_print h;have e:Tk.scanT (readP (printL (tokensP l)))=(tokensP l).map gT:=by rw[pa,read_write _ qa,scan_join _ ra]
 have h1:=tokens_le hf;have h2:=(fewR_facts hf).1
 refine sheet_of (by rw[e];exact map_g ra) (Goes.tokens h) (by omega) (rulesB_le h).1 hn
end Go.Proofs.YtfhdihdafmahgaaGreatDoor
