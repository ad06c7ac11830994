import Derived.Test.YtfhdihdafmahgaaGreatDoorR19
import Derived.Test.YtfhdihdafmahgaaGreatDoorR16
set_option linter.unusedVariables false
set_option linter.unusedSimpArgs false
set_option maxRecDepth 100000
set_option maxHeartbeats 4000000
namespace Go.Proofs.YtfhdihdafmahgaaGreatDoor
open Go.RowKit Rn Tp Ru
theorem sl_equal (xs ys:List GTok) (A A':Option Addr) (n m c c':Nat) (w:World) (hx:ReadsT w w.heap.size A n xs) (hy:ReadsT w w.heap.size A' m ys) (hn:n≤1000000) :
  Calls Tryz.prog 41 #[.slice A n c,.slice A' m c'] w fun e w'=>e=.returned (.bool (decide (xs=ys)))∧Below w.heap.size w w':=by
 have hlx:=hx.len;have hly:=hy.len;have Hlx:=Lib.hid hlx;have Hly:=Lib.hid hly;clear hlx hly
 by_cases hnm:n=m
 ·have hb0:((n:Int) != (m:Int))=false:=by simp[hnm]
  have Hnm:=Lib.hid hnm;clear hnm
  go_enter Tryz.func41,Tryz.ntmps41
  go_wp2
  go_loopw [13] (fun i wr=>∃ k:Nat,k≤n∧i=.int .i64 k∧Hid (xs.take k=ys.take k)∧Below w.heap.size w wr) (fun i _=>n-(intOf i).toNat)
  case atStart=>exact⟨0,by omega,rfl,rfl,Below.refl _ _⟩
  case round =>
   obtain⟨k,hk,rfl,heq,hb⟩:=hrel
   by_cases hlt:k<n
   ·obtain⟨b,off,x,hA,hbl,hxk,f0,f1,f2⟩:=hx.at_ hlt
    obtain⟨b',off',y,hA',hbl',hyk,g0,g1,g2⟩:=hy.at_ (k:=k) (by have:=Hnm.out;omega);subst hA hA';have hkm:k<m:=by have:=Hnm.out;omega
    have hki:(k:Int)<(n:Int):=by omega
    have hki':(k:Int)<(m:Int):=by omega
    have hk0:(0:Int)≤(k:Int):=by omega
    replace f0:=(hb.cell (p:=⟨b,off+k * 3,none⟩) hbl).trans f0
    replace f1:=(hb.cell (p:=⟨b,off+k * 3+1,none⟩) hbl).trans f1
    replace f2:=(hb.cell (p:=⟨b,off+k * 3+2,none⟩) hbl).trans f2
    replace g0:=(hb.cell (p:=⟨b',off'+k * 3,none⟩) hbl').trans g0
    replace g1:=(hb.cell (p:=⟨b',off'+k * 3+1,none⟩) hbl').trans g1
    replace g2:=(hb.cell (p:=⟨b',off'+k * 3+2,none⟩) hbl').trans g2
    have Hxk:=Lib.hid hxk;have Hyk:=Lib.hid hyk;clear hxk hyk;have hgu:=tok_guard
    by_cases hxy:x=y
    ·have hq:=fun W=>toks_neq x y W
     rw[show decide (x≠y)=false by simp[hxy]] at hq;have Hxy:=Lib.hid hxy;clear hxy
     go_wp2
     go_quiet (fail)
     go_wp2
     go_roundw
     case rel=>exact⟨k+1,by omega,by go_num,by show _=_;rw[take_snoc _ _ _ Hxk.out,take_snoc _ _ _ Hyk.out,heq.out,Hxy.out],below_drewN hb _⟩
     case measure=>simp[intOf];omega
    ·have hq:=fun W=>toks_neq x y W
     rw[show decide (x≠y)=true by simp[hxy]] at hq;have Hxy:=Lib.hid hxy;clear hxy
     go_wp2
     go_quiet (fail)
     go_wp2
     go_ret
     refine⟨ret_bool ?_,below_drewN hb _⟩
     have:¬ xs=ys:=by
      intro e;have h1:=Hxk.out;rw[e,Hyk.out] at h1
      injection h1 with h1
      exact Hxy.out h1.symm
     simp[this]
   ·obtain rfl:k=n:=by omega
    go_wp2
    go_ret
    refine⟨ret_bool ?_,hb⟩
    have h1:=heq.out;rw[List.take_of_length_le (by rw[Hlx.out];omega),List.take_of_length_le (by rw[Hly.out,Hnm.out];omega)] at h1
    simp[h1]
 ·have hb0:((n:Int) != (m:Int))=true:=by simp;omega
  have Hnm:=Lib.hid hnm;clear hnm
  go_enter Tryz.func41,Tryz.ntmps41
  go_wp2
  go_ret
  refine⟨ret_bool ?_,Below.refl _ _⟩
  have:¬ xs=ys:=by
   intro e
   exact Hnm.out (by rw[←Hlx.out,←Hly.out,e])
  simp[this]
abbrev declV (x:Decl) (A:Option Addr) (c:Nat):Value:=.agg #[.string (bytesOf x.name),.slice A x.value.length c,.bool x.imp]
abbrev marginV (x:Margin) (A:Option Addr) (c:Nat):Value:=.agg #[.string (bytesOf x.name),.slice A x.decls.length c]
abbrev ruleV (x:Rule) (A1:Option Addr) (c1:Nat) (A2:Option Addr) (c2:Nat) (A3:Option Addr) (c3:Nat):Value:=.agg #[.int .i64 x.kind,.slice A1 x.prelude.length c1,.slice A2 x.decls.length c2,.slice A3 x.margins.length c3]
theorem str_cmp (a b:List UInt8):((bytesOf a).toList==(bytesOf b).toList)=decide (a=b):=by rw[bytesOf_toList,bytesOf_toList,Bool.eq_iff_iff];simp
theorem ru_same1 (x y:Decl) (A1 A2:Option Addr) (c1 c2:Nat) (w:World) (hx:ReadsS w (· < w.heap.size) 3 A1 x.value.length (cellsG x.value)) (hy:ReadsS w (· < w.heap.size) 3 A2 y.value.length (cellsG y.value)) (hn:x.value.length≤1000000) :
  Calls Tryz.prog 40 #[declV x A1 c1,declV y A2 c2] w fun e w'=>e=.returned (.bool (decide (x=y)))∧Below w.heap.size w w':=by
 obtain⟨xn,xv,xi⟩:=x;obtain⟨yn,yv,yi⟩:=y;simp only[] at hx hy hn
 have hdec:decide ((⟨xn,xv,xi⟩:Decl)=⟨yn,yv,yi⟩)=(decide (xn=yn)&&(xi==yi)&&decide (xv=yv)):=by
  rw[Bool.eq_iff_iff];simp[Decl.mk.injEq]
  constructor
  ·rintro⟨a,b,c⟩;exact⟨⟨a,c⟩,b⟩
  ·rintro⟨⟨a,c⟩,b⟩;exact⟨a,b,c⟩
 rw[hdec];obtain⟨W1,hW1⟩:∃ W1,w.alloc (.cells #[.string (bytesOf xn),.slice A1 xv.length c1,.bool xi] 34)=W1:=⟨_,rfl⟩;have b1:Below w.heap.size w W1:=by rw[←hW1];exact(Below.refl _ _).alloc (Nat.le_refl _) _
 have r1:RowAt W1 w.heap.size [.string (bytesOf xn),.slice A1 xv.length c1,.bool xi]:=by rw[←hW1];exact RowAt.new _ _ _
 have z1:W1.heap.size=w.heap.size+1:=by rw[←hW1];simp
 obtain⟨W2,hW2⟩:∃ W2,W1.alloc (.cells #[.string (bytesOf yn),.slice A2 yv.length c2,.bool yi] 34)=W2:=⟨_,rfl⟩;have b2:Below W1.heap.size W1 W2:=by rw[←hW2];exact(Below.refl _ _).alloc (Nat.le_refl _) _
 have r2:RowAt W2 W1.heap.size [.string (bytesOf yn),.slice A2 yv.length c2,.bool yi]:=by rw[←hW2];exact RowAt.new _ _ _
 have r1':=r1.below b2 r1.1;have hB2:=b1.trans (b2.mono b1.size);have cE:=sl_equal xv yv A1 A2 _ _ c1 c2 W2 (hx.below hB2) (hy.below hB2) hn;obtain⟨x0,_⟩:=r1'.2 0 _ rfl;obtain⟨x1,_⟩:=r1'.2 1 _ rfl;obtain⟨x2,_⟩:=r1'.2 2 _ rfl;obtain⟨y0,_⟩:=r2.2 0 _ rfl;obtain⟨y1,_⟩:=r2.2 1 _ rfl;obtain⟨y2,_⟩:=r2.2 2 _ rfl;have hs:=str_cmp xn yn;obtain⟨p,hp⟩:∃ p,decide (xn=yn)=p:=⟨_,rfl⟩;obtain⟨r,hr⟩:∃ r,decide (xv=yv)=r:=⟨_,rfl⟩;obtain⟨q,hq⟩:∃ q,(xi==yi)=q:=⟨_,rfl⟩;rw[hp] at hs ⊢;rw[hr] at cE ⊢;rw[hq];clear hdec hp hr r1 r2 r1' z1
 go_enter Tryz.func40,Tryz.ntmps40
 cases p with
 | false =>
  go_wp2_with fail
  go_ret
  exact⟨rfl,hB2⟩
 | true =>
  cases q with
  | false =>
   go_wp2_with fail
   go_ret
   exact⟨rfl,hB2⟩
  | true =>
   go_wp2_with fail
   refine cE.mono ?_
   rintro e w3 ⟨rfl,hb3⟩
   go_wp2_with fail
   go_ret
   exact⟨by first | rfl | simp,hB2.trans (hb3.mono hB2.size)⟩
theorem eqf_decl (xs ys:List Decl) (A A':Option Addr) (n m c c':Nat) (w:World) (hx:DeclsS w (· < w.heap.size) A n xs) (hy:DeclsS w (· < w.heap.size) A' m ys) (hn:n≤1000000) (hss:∀ d∈xs,d.value.length≤1000000) :
  Calls Tryz.prog 43 #[.slice A n c,.slice A' m c',.func (.func 40) #[] #[]] w fun e w'=>e=.returned (.bool (decide (xs=ys)))∧Below w.heap.size w w':=by
 have hlx:=hx.len;have hly:=hy.len;have Hlx:=Lib.hid hlx;have Hly:=Lib.hid hly;have Hss:=Lib.hid hss;clear hlx hly hss
 by_cases hnm:n=m
 ·have hb0:((n:Int) != (m:Int))=false:=by simp[hnm]
  have Hnm:=Lib.hid hnm;clear hnm
  go_enter Tryz.func43,Tryz.ntmps43
  go_wp2_with fail
  go_loopw [17] (fun i wr=>∃ k:Nat,k≤n∧i=.int .i64 (k:Int)∧Hid (xs.take k=ys.take k)∧Below w.heap.size w wr) (fun i _=>n-(intOf i).toNat)
  case atStart=>exact⟨0,by omega,rfl,rfl,Below.refl _ _⟩
  case round =>
   obtain⟨k,hk,rfl,heq,hb⟩:=hrel
   by_cases hlt:k<n
   ·have hbs:=hb.size
    obtain⟨b,off,A1,c1,x,hA,hbl,hxk,f0,f1,f2,hX⟩:=hx.at_ hlt;obtain⟨b',off',A2,c2,y,hA',hbl',hyk,g0,g1,g2,hY⟩:=hy.at_ (k:=k) (by have:=Hnm.out;omega);subst hA hA';have hkm:k<m:=by have:=Hnm.out;omega
    have hki:(k:Int)<(n:Int):=by omega
    have hki':(k:Int)<(m:Int):=by omega
    have hk0:(0:Int)≤(k:Int):=by omega
    replace f0:=(hb.cell (p:=⟨b,off+k * 3,none⟩) hbl).trans f0
    replace f1:=(hb.cell (p:=⟨b,off+k * 3+1,none⟩) hbl).trans f1
    replace f2:=(hb.cell (p:=⟨b,off+k * 3+2,none⟩) hbl).trans f2
    replace g0:=(hb.cell (p:=⟨b',off'+k * 3,none⟩) hbl').trans g0
    replace g1:=(hb.cell (p:=⟨b',off'+k * 3+1,none⟩) hbl').trans g1
    replace g2:=(hb.cell (p:=⟨b',off'+k * 3+2,none⟩) hbl').trans g2
    have hxx:=Hss.out x (List.mem_of_getElem? hxk);have Hxk:=Lib.hid hxk;have Hyk:=Lib.hid hyk;obtain⟨W1,hW1⟩:∃ W1,wr.alloc (.cells #[.string (bytesOf x.name),.slice A1 x.value.length c1,.bool x.imp] 34)=W1:=⟨_,rfl⟩;have b1:Below wr.heap.size wr W1:=by rw[←hW1];exact(Below.refl _ _).alloc (Nat.le_refl _) _
    have r1:RowAt W1 wr.heap.size [.string (bytesOf x.name),.slice A1 x.value.length c1,.bool x.imp]:=by rw[←hW1];exact RowAt.new _ _ _
    obtain⟨W2,hW2⟩:∃ W2,W1.alloc (.cells #[.string (bytesOf y.name),.slice A2 y.value.length c2,.bool y.imp] 34)=W2:=⟨_,rfl⟩;have b2:Below W1.heap.size W1 W2:=by rw[←hW2];exact(Below.refl _ _).alloc (Nat.le_refl _) _
    have r2:RowAt W2 W1.heap.size [.string (bytesOf y.name),.slice A2 y.value.length c2,.bool y.imp]:=by rw[←hW2];exact RowAt.new _ _ _
    have r1':=r1.below b2 r1.1;have hB1:=hb.trans (b1.mono hbs);have hB2:=hB1.trans (b2.mono hB1.size);have cE:=ru_same1 x y A1 A2 c1 c2 W2 (hX.below hB2) (hY.below hB2) hxx;have R1:=Lib.hid r1';have R2:=Lib.hid r2
    replace R1:=R1.out
    replace R2:=R2.out
    have hcmp:decide (x=y)=false→decide (xs=ys)=false:=fun h=>by
     have h0:=of_decide_eq_false h
     refine decide_eq_false (fun e=>h0 ?_)
     have h1:=Hxk.out;rw[e,Hyk.out] at h1
     injection h1 with h1
     exact h1.symm
    obtain⟨q,hq⟩:∃ q,decide (x=y)=q:=⟨_,rfl⟩;rw[hq] at hcmp cE;have Hq:=Lib.hid hq;have Hcmp:Hid (q=false→decide (xs=ys)=false):=hcmp;clear hq hcmp hxk hyk r1 r2 r1' hX hY
    replace g0:=(b1.cell (p:=⟨b',off'+k * 3,none⟩) (Nat.lt_of_lt_of_le hbl' hbs)).trans g0
    replace g1:=(b1.cell (p:=⟨b',off'+k * 3+1,none⟩) (Nat.lt_of_lt_of_le hbl' hbs)).trans g1
    replace g2:=(b1.cell (p:=⟨b',off'+k * 3+2,none⟩) (Nat.lt_of_lt_of_le hbl' hbs)).trans g2
    obtain⟨p0,_⟩:=R1.2 0 _ rfl;obtain⟨q0,_⟩:=R2.2 0 _ rfl;obtain⟨p1,_⟩:=R1.2 1 _ rfl;obtain⟨q1,_⟩:=R2.2 1 _ rfl;obtain⟨p2,_⟩:=R1.2 2 _ rfl;obtain⟨q2,_⟩:=R2.2 2 _ rfl
    go_wp2_with fail
    refine cE.mono ?_
    rintro e w3 ⟨rfl,hb3⟩;have hB3:=hB2.trans (hb3.mono hB2.size)
    cases q with
    | true =>
     have hxy:=of_decide_eq_true Hq.out;have hnew:Hid (xs.take (k+1)=ys.take (k+1)):=by show _=_;rw[take_snoc _ _ _ Hxk.out,take_snoc _ _ _ Hyk.out,heq.out,hxy]
     clear hxy heq
     go_wp2_with fail
     go_roundw
     case rel=>exact⟨k+1,by omega,by go_num,hnew,hB3⟩
     case measure=>simp[intOf];omega
    | false =>
     have hf:=Hcmp.out rfl;have HF:=Lib.hid hf;clear hf heq
     go_wp2_with fail
     go_ret
     exact⟨ret_bool HF.out.symm,hB3⟩
   ·obtain rfl:k=n:=by omega
    have dk:¬ (k:Int)<(k:Int):=by omega
    have hf:decide (xs=ys)=true:=by
     have h1:=heq.out;rw[List.take_of_length_le (by rw[Hlx.out];omega),List.take_of_length_le (by rw[Hly.out,Hnm.out];omega)] at h1
     exact decide_eq_true h1
    have HF:=Lib.hid hf;clear hf heq
    go_wp2_with fail
    go_ret
    exact⟨ret_bool HF.out.symm,hb⟩
 ·have hb0:((n:Int) != (m:Int))=true:=by simp;omega
  have hf:decide (xs=ys)=false:=decide_eq_false (fun e=>hnm (by rw[←Hlx.out,←Hly.out,e]));have HF:=Lib.hid hf;clear hnm hf
  go_enter Tryz.func43,Tryz.ntmps43
  go_wp2_with fail
  go_ret
  exact⟨ret_bool HF.out.symm,Below.refl _ _⟩
theorem DeclsS.below {w w':World} {n:Nat} {A:Option Addr} {l:List Decl} (h:DeclsS w (· < w.heap.size) A n l) (hb:Below w.heap.size w w'):DeclsS w' (· < w'.heap.size) A n l:=(h.keep (Kept.of_below hb (fun b h=>h))).more (fun b h=>Nat.lt_of_lt_of_le h hb.size)
theorem MarginsS.below {w w':World} {n:Nat} {A:Option Addr} {l:List Margin} (h:MarginsS w (· < w.heap.size) A n l) (hb:Below w.heap.size w w'):MarginsS w' (· < w'.heap.size) A n l:=(h.keep (Kept.of_below hb (fun b h=>h))).more (fun b h=>Nat.lt_of_lt_of_le h hb.size)
theorem RulesS.below {w w':World} {n:Nat} {A:Option Addr} {l:List Rule} (h:RulesS w (· < w.heap.size) A n l) (hb:Below w.heap.size w w'):RulesS w' (· < w'.heap.size) A n l:=(h.keep (Kept.of_below hb (fun b h=>h))).more (fun b h=>Nat.lt_of_lt_of_le h hb.size)
abbrev same1V:Value:=.func (.func 40) #[] #[]
theorem ru_same2 (x y:Margin) (A1 A2:Option Addr) (c1 c2 q:Nat) (w:World) (hx:DeclsS w (· < w.heap.size) A1 x.decls.length x.decls) (hy:DeclsS w (· < w.heap.size) A2 y.decls.length y.decls) (hn:x.decls.length≤1000000) (hss:∀ d∈x.decls,d.value.length≤1000000)
  (hq:w.cell? ⟨q,0,none⟩=some same1V) :
  Calls Tryz.prog 42 #[marginV x A1 c1,marginV y A2 c2,.pointer (some ⟨q,0,none⟩)] w fun e w'=>e=.returned (.bool (decide (x=y)))∧Below w.heap.size w w':=by
 obtain⟨xn,xv⟩:=x;obtain⟨yn,yv⟩:=y;simp only[] at hx hy hn hss;have hlq:q<w.heap.size:=World.block_lt_of_cell? _ _ hq
 have hdec:decide ((⟨xn,xv⟩:Margin)=⟨yn,yv⟩)=(decide (xn=yn)&&decide (xv=yv)):=by
  rw[Bool.eq_iff_iff];simp[Margin.mk.injEq]
 rw[hdec];obtain⟨W1,hW1⟩:∃ W1,w.alloc (.cells #[.string (bytesOf xn),.slice A1 xv.length c1] 41)=W1:=⟨_,rfl⟩;have b1:Below w.heap.size w W1:=by rw[←hW1];exact(Below.refl _ _).alloc (Nat.le_refl _) _
 have r1:RowAt W1 w.heap.size [.string (bytesOf xn),.slice A1 xv.length c1]:=by rw[←hW1];exact RowAt.new _ _ _
 obtain⟨W2,hW2⟩:∃ W2,W1.alloc (.cells #[.string (bytesOf yn),.slice A2 yv.length c2] 41)=W2:=⟨_,rfl⟩;have b2:Below W1.heap.size W1 W2:=by rw[←hW2];exact(Below.refl _ _).alloc (Nat.le_refl _) _
 have r2:RowAt W2 W1.heap.size [.string (bytesOf yn),.slice A2 yv.length c2]:=by rw[←hW2];exact RowAt.new _ _ _
 have r1':=r1.below b2 r1.1;have hB2:=b1.trans (b2.mono b1.size);have hq2:=(hB2.cell (p:=⟨q,0,none⟩) hlq).trans hq;have cE:=eqf_decl xv yv A1 A2 _ _ c1 c2 W2 (hx.below hB2) (hy.below hB2) hn hss;obtain⟨x0,_⟩:=r1'.2 0 _ rfl;obtain⟨x1,_⟩:=r1'.2 1 _ rfl;obtain⟨y0,_⟩:=r2.2 0 _ rfl;obtain⟨y1,_⟩:=r2.2 1 _ rfl;have hs:=str_cmp xn yn;obtain⟨p,hp⟩:∃ p,decide (xn=yn)=p:=⟨_,rfl⟩;obtain⟨r,hr⟩:∃ r,decide (xv=yv)=r:=⟨_,rfl⟩;rw[hp] at hs ⊢;rw[hr] at cE ⊢;clear hdec hp hr r1 r2 r1' hss
 go_enter Tryz.func42,Tryz.ntmps42
 cases p with
 | false =>
  go_wp2_with fail
  go_ret
  exact⟨rfl,hB2⟩
 | true =>
  go_wp2_with fail
  refine cE.mono ?_
  rintro e w3 ⟨rfl,hb3⟩
  go_wp2_with fail
  go_ret
  exact⟨by first | rfl | simp,hB2.trans (hb3.mono hB2.size)⟩
theorem eqf_margin (xs ys:List Margin) (A A':Option Addr) (n m c c':Nat) (w:World) (hx:MarginsS w (· < w.heap.size) A n xs) (hy:MarginsS w (· < w.heap.size) A' m ys) (hn:n≤1000000) (hss:∀ d∈xs,d.decls.length≤1000000∧∀ e∈d.decls,e.value.length≤1000000) (q0:Nat) (hq0:w.cell? ⟨q0,0,none⟩=some same1V) :
  Calls Tryz.prog 46 #[.slice A n c,.slice A' m c',.func (.func 42) #[] #[.pointer (some ⟨q0,0,none⟩)]] w fun e w'=>e=.returned (.bool (decide (xs=ys)))∧Below w.heap.size w w':=by
 have hlx:=hx.len;have hly:=hy.len;have Hlx:=Lib.hid hlx;have Hly:=Lib.hid hly;have Hss:=Lib.hid hss;clear hlx hly hss
 by_cases hnm:n=m
 ·have hb0:((n:Int) != (m:Int))=false:=by simp[hnm]
  have Hnm:=Lib.hid hnm;clear hnm
  go_enter Tryz.func46,Tryz.ntmps46
  go_wp2_with fail
  go_loopw [17] (fun i wr=>∃ k:Nat,k≤n∧i=.int .i64 (k:Int)∧Hid (xs.take k=ys.take k)∧Below w.heap.size w wr) (fun i _=>n-(intOf i).toNat)
  case atStart=>exact⟨0,by omega,rfl,rfl,Below.refl _ _⟩
  case round =>
   obtain⟨k,hk,rfl,heq,hb⟩:=hrel
   by_cases hlt:k<n
   ·have hbs:=hb.size
    obtain⟨b,off,A1,c1,x,hA,hbl,hxk,f0,f1,hX⟩:=hx.at_ hlt;obtain⟨b',off',A2,c2,y,hA',hbl',hyk,g0,g1,hY⟩:=hy.at_ (k:=k) (by have:=Hnm.out;omega);subst hA hA';have hkm:k<m:=by have:=Hnm.out;omega
    have hki:(k:Int)<(n:Int):=by omega
    have hki':(k:Int)<(m:Int):=by omega
    have hk0:(0:Int)≤(k:Int):=by omega
    replace f0:=(hb.cell (p:=⟨b,off+k * 2,none⟩) hbl).trans f0
    replace f1:=(hb.cell (p:=⟨b,off+k * 2+1,none⟩) hbl).trans f1
    replace g0:=(hb.cell (p:=⟨b',off'+k * 2,none⟩) hbl').trans g0
    replace g1:=(hb.cell (p:=⟨b',off'+k * 2+1,none⟩) hbl').trans g1
    have hxx:=Hss.out x (List.mem_of_getElem? hxk);have Hxk:=Lib.hid hxk;have Hyk:=Lib.hid hyk;obtain⟨W1,hW1⟩:∃ W1,wr.alloc (.cells #[.string (bytesOf x.name),.slice A1 x.decls.length c1] 41)=W1:=⟨_,rfl⟩;have b1:Below wr.heap.size wr W1:=by rw[←hW1];exact(Below.refl _ _).alloc (Nat.le_refl _) _
    have r1:RowAt W1 wr.heap.size [.string (bytesOf x.name),.slice A1 x.decls.length c1]:=by rw[←hW1];exact RowAt.new _ _ _
    obtain⟨W2,hW2⟩:∃ W2,W1.alloc (.cells #[.string (bytesOf y.name),.slice A2 y.decls.length c2] 41)=W2:=⟨_,rfl⟩;have b2:Below W1.heap.size W1 W2:=by rw[←hW2];exact(Below.refl _ _).alloc (Nat.le_refl _) _
    have r2:RowAt W2 W1.heap.size [.string (bytesOf y.name),.slice A2 y.decls.length c2]:=by rw[←hW2];exact RowAt.new _ _ _
    have r1':=r1.below b2 r1.1;have hB1:=hb.trans (b1.mono hbs);have hB2:=hB1.trans (b2.mono hB1.size);have hlq:q0<w.heap.size:=World.block_lt_of_cell? _ _ hq0;have cE:=ru_same2 x y A1 A2 c1 c2 q0 W2 (hX.below hB2) (hY.below hB2) hxx.1 hxx.2 ((hB2.cell (p:=⟨q0,0,none⟩) hlq).trans hq0);have R1:=Lib.hid r1';have R2:=Lib.hid r2
    replace R1:=R1.out
    replace R2:=R2.out
    have hcmp:decide (x=y)=false→decide (xs=ys)=false:=fun h=>by
     have h0:=of_decide_eq_false h
     refine decide_eq_false (fun e=>h0 ?_)
     have h1:=Hxk.out;rw[e,Hyk.out] at h1
     injection h1 with h1
     exact h1.symm
    obtain⟨q,hq⟩:∃ q,decide (x=y)=q:=⟨_,rfl⟩;rw[hq] at hcmp cE;have Hq:=Lib.hid hq;have Hcmp:Hid (q=false→decide (xs=ys)=false):=hcmp;clear hq hcmp hxk hyk r1 r2 r1' hX hY
    replace g0:=(b1.cell (p:=⟨b',off'+k * 2,none⟩) (Nat.lt_of_lt_of_le hbl' hbs)).trans g0
    replace g1:=(b1.cell (p:=⟨b',off'+k * 2+1,none⟩) (Nat.lt_of_lt_of_le hbl' hbs)).trans g1
    obtain⟨p0,_⟩:=R1.2 0 _ rfl;obtain⟨q0,_⟩:=R2.2 0 _ rfl;obtain⟨p1,_⟩:=R1.2 1 _ rfl;obtain⟨q1,_⟩:=R2.2 1 _ rfl
    go_wp2_with fail
    refine cE.mono ?_
    rintro e w3 ⟨rfl,hb3⟩;have hB3:=hB2.trans (hb3.mono hB2.size)
    cases q with
    | true =>
     have hxy:=of_decide_eq_true Hq.out;have hnew:Hid (xs.take (k+1)=ys.take (k+1)):=by show _=_;rw[take_snoc _ _ _ Hxk.out,take_snoc _ _ _ Hyk.out,heq.out,hxy]
     clear hxy heq
     go_wp2_with fail
     go_roundw
     case rel=>exact⟨k+1,by omega,by go_num,hnew,hB3⟩
     case measure=>simp[intOf];omega
    | false =>
     have hf:=Hcmp.out rfl;have HF:=Lib.hid hf;clear hf heq
     go_wp2_with fail
     go_ret
     exact⟨ret_bool HF.out.symm,hB3⟩
   ·obtain rfl:k=n:=by omega
    have dk:¬ (k:Int)<(k:Int):=by omega
    have hf:decide (xs=ys)=true:=by
     have h1:=heq.out;rw[List.take_of_length_le (by rw[Hlx.out];omega),List.take_of_length_le (by rw[Hly.out,Hnm.out];omega)] at h1
     exact decide_eq_true h1
    have HF:=Lib.hid hf;clear hf heq
    go_wp2_with fail
    go_ret
    exact⟨ret_bool HF.out.symm,hb⟩
 ·have hb0:((n:Int) != (m:Int))=true:=by simp;omega
  have hf:decide (xs=ys)=false:=decide_eq_false (fun e=>hnm (by rw[←Hlx.out,←Hly.out,e]));have HF:=Lib.hid hf;clear hnm hf
  go_enter Tryz.func46,Tryz.ntmps46
  go_wp2_with fail
  go_ret
  exact⟨ret_bool HF.out.symm,Below.refl _ _⟩
end Go.Proofs.YtfhdihdafmahgaaGreatDoor
