import Derived.Test.YtfhdihdafmahgaaGreatDoorR05
set_option linter.unusedVariables false
set_option linter.unusedSimpArgs false
set_option maxRecDepth 100000
set_option maxHeartbeats 4000000
namespace Go.Proofs.YtfhdihdafmahgaaGreatDoor
open Go.RowKit Fx
namespace Fx
structure St where
 d:List UInt8
 point:Nat
 behind:Bool
 exp:Nat
 expDigits:Nat
 expNeg:Bool
 inExp:Bool
def St.zero:St:=⟨[],0,false,0,0,false,false⟩
def isEb (c:UInt8):Bool:=decide (c.toNat=101∨c.toNat=69)
def St.step (s:St) (c:UInt8):St :=
 if isEb c=true then { s with inExp:=true }
 else if s.inExp=true∧c.toNat=45 then { s with expNeg:=true }
 else if c.toNat=46 then { s with behind:=true }
 else if isD c=true∧s.inExp=true then { s with expDigits:=s.expDigits+1,exp:=if s.exp<999999 then s.exp * 10+dv c else s.exp }
 else if isD c=true then { s with d:=s.d++[c],point:=if s.behind=true then s.point else s.point+1 }
 else s
def St.run (l:List UInt8):St:=l.foldl St.step St.zero
def St.power (s:St):Int :=
 let e:Nat:=if 999999<s.exp∨6<s.expDigits then 999999 else s.exp
 if s.expNeg=true then -(e:Int) else (e:Int)
end Fx
theorem isEb_no {c:UInt8} (h:¬ (c.toNat=101∨c.toNat=69)):isEb c=false:=by unfold isEb;simpa using h
theorem step_digit_int {s:St} {c:UInt8} (h:isD c=true) (h2:s.inExp=false):s.step c={ s with d:=s.d++[c],point:=if s.behind=true then s.point else s.point+1 }:=by
 have hr:=isD_range h;unfold St.step;rw[isEb_no (by omega),if_neg (by simp),h2,if_neg (by simp),if_neg (by omega),if_neg (by simp),if_pos h]
theorem step_digit_exp {s:St} {c:UInt8} (h:isD c=true) (h2:s.inExp=true):s.step c={ s with expDigits:=s.expDigits+1,exp:=if s.exp<999999 then s.exp * 10+dv c else s.exp }:=by
 have hr:=isD_range h;unfold St.step;rw[isEb_no (by omega),if_neg (by simp),if_neg (by omega),if_neg (by omega),if_pos ⟨h,h2⟩]
theorem run_int (l:List UInt8) (h:∀ b∈l,isD b=true):∀ s:St,s.inExp=false→l.foldl St.step s={ s with d:=s.d++l,point:=if s.behind=true then s.point else s.point+l.length }:=by
 induction l with
 | nil=>intro s _;cases s;simp
 | cons b l ih =>
  intro s hs;have he:=ih (fun c hc=>h c (by simp[hc])) (s.step b) (by rw[step_digit_int (h b (by simp)) hs];exact hs);rw[List.foldl_cons,he,step_digit_int (h b (by simp)) hs];simp only[List.append_assoc,List.cons_append,List.nil_append,List.length_cons,St.mk.injEq,and_true,true_and]
  split<;>omega
theorem run_exp (l:List UInt8) (h:∀ b∈l,isD b=true):∀ s:St,s.inExp=true→∃ e,l.foldl St.step s={ s with expDigits:=s.expDigits+l.length,exp:=e }∧(s.exp * 10 ^ l.length+val l<10 ^ 6→e=s.exp * 10 ^ l.length+val l):=by
 induction l with
 | nil=>intro s _;exact⟨s.exp,by cases s;rfl,fun _=>by simp[val]⟩
 | cons b l ih =>
  intro s hs;have hr:=isD_range (h b (by simp));obtain⟨e,he,h2⟩:=ih (fun c hc=>h c (by simp[hc])) (s.step b) (by rw[step_digit_exp (h b (by simp)) hs];exact hs)
  refine⟨e,?_,?_⟩
  ·rw[List.foldl_cons,he,step_digit_exp (h b (by simp)) hs]
   simp;omega
  ·intro hlt
   rw[step_digit_exp (h b (by simp)) hs] at h2;simp only[] at h2;rw[val_cons,List.length_cons,Nat.pow_succ] at hlt ⊢;have h1:1≤10 ^ l.length:=Nat.one_le_pow _ _ (by omega);have hexp:s.exp * (10 ^ l.length * 10)=s.exp * 10 * 10 ^ l.length:=by rw[Nat.mul_comm (10 ^ l.length) 10,Nat.mul_assoc]
   have hle:s.exp * 10≤s.exp * 10 * 10 ^ l.length:=Nat.le_mul_of_pos_right _ h1;rw[if_pos (by omega)] at h2;rw[Nat.add_mul] at h2;rw[hexp];rw[h2 (by omega)]
   omega
theorem step_plain {s:St} {c:UInt8} (h:c.toNat=43∨(c.toNat=45∧s.inExp=false)):s.step c=s:=by
 have hd:isD c=false:=by unfold isD;simp;omega
 unfold St.step;rw[isEb_no (by omega),if_neg (by simp)]
 rcases h with h | ⟨h,h2⟩
 ·rw[if_neg (by omega),if_neg (by omega),hd,if_neg (by simp),if_neg (by simp)]
 ·rw[h2,if_neg (by simp),if_neg (by omega),hd,if_neg (by simp),if_neg (by simp)]
theorem step_minus {s:St} {c:UInt8} (h:c.toNat=45) (h2:s.inExp=true):s.step c={ s with expNeg:=true }:=by
 unfold St.step;rw[isEb_no (by omega),if_neg (by simp),if_pos ⟨h2,h⟩]
theorem run_dec {l sg I P F E S2 X:List UInt8} (D:Dec l sg I P F E S2 X):(St.run l).d=I++F∧(St.run l).point=I.length∧(St.run l).power=powP (expP l):=by
 unfold St.run;rw[congrArg (List.foldl St.step St.zero) D.all];simp only[List.foldl_append]
 have h1:List.foldl St.step St.zero sg=St.zero:=by
  rcases D.hsg with h | ⟨b,h,hb⟩
  ·rw[h];rfl
  ·rw[h]
   simp only[List.foldl_cons,List.foldl_nil]
   exact step_plain (by rcases hb with hb | hb;exact .inl hb;exact .inr ⟨hb,rfl⟩)
 rw[h1,run_int I D.hI St.zero rfl];simp only[St.zero,List.nil_append,Nat.zero_add,Bool.false_eq_true,if_false]
 obtain⟨bh,hPF⟩:∃ bh,List.foldl St.step (List.foldl St.step ⟨I,I.length,false,0,0,false,false⟩ P) F=⟨I++F,I.length,bh,0,0,false,false⟩:=by
  rcases D.hP with⟨hP,hF⟩ | ⟨hP,hF⟩
  ·rw[hP,hF];exact⟨false,by simp⟩
  ·rw[hP]
   simp only[List.foldl_cons,List.foldl_nil];have:St.step ⟨I,I.length,false,0,0,false,false⟩ 46=⟨I,I.length,true,0,0,false,false⟩:=rfl;rw[this,run_int F D.hF _ rfl]
   exact⟨true,by simp⟩
 rw[hPF]
 rcases D.hE with⟨hE,hS,hX⟩ | ⟨e,hE,he,hX⟩
 ·have:expP l=[]:=by rw[← D.lE,hS,hX];rfl
  rw[hE,hS,hX,this]
  exact⟨rfl,rfl,rfl⟩
 ·rw[hE]
  simp only[List.foldl_cons,List.foldl_nil]
  have h2:St.step ⟨I++F,I.length,bh,0,0,false,false⟩ e=⟨I++F,I.length,bh,0,0,false,true⟩:=by
   unfold St.step;rw[if_pos (by unfold isEb;simpa using he)]
  rw[h2];have hXx:X=(expP l).drop (sgn (expP l)):=D.lX;have hne:expP l≠[]:=by rw[← D.lE];intro h;exact hX (List.append_eq_nil_iff.1 h).2
  have hlen:X.length=(expP l).length-sgn (expP l):=by rw[hXx,List.length_drop]
  obtain⟨ng,hS,hsg⟩:∃ ng,List.foldl St.step ⟨I++F,I.length,bh,0,0,false,true⟩ S2=⟨I++F,I.length,bh,0,0,ng,true⟩∧(ng=true↔(expP l)[0]?=some 45):=by
   rcases D.hS with h | ⟨b,h,hb⟩
   ·rw[h]
    refine⟨false,rfl,?_⟩
    constructor
    ·intro h;cases h
    ·intro h0
     exfalso
     rw[← D.lE,h,List.nil_append] at h0;have:=isD_range (D.hX 45 (List.mem_of_getElem? h0))
     revert this;decide
   ·rw[h]
    simp only[List.foldl_cons,List.foldl_nil]
    rcases hb with hb | hb
    ·refine⟨false,step_plain (.inl hb),?_⟩
     constructor
     ·intro h;cases h
     ·intro h0
      exfalso
      rw[← D.lE,h] at h0
      simp at h0
      subst h0;revert hb;decide
    ·refine⟨true,step_minus hb rfl,?_⟩
     have:b=45:=UInt8.toNat_inj.1 hb;rw[← D.lE,h,this]
     simp
  rw[hS];obtain⟨ex,hex,hval⟩:=run_exp X D.hX ⟨I++F,I.length,bh,0,0,ng,true⟩ rfl;rw[hex]
  refine⟨rfl,rfl,?_⟩
  unfold St.power powP;simp only[Nat.zero_add,Nat.zero_mul] at hval ⊢;rw[if_neg hne,← hlen,← hXx]
  have key:(if 999999<ex∨6<X.length then 999999 else ex)=if X.length≤6 then val X else 999999:=by
   by_cases h6:X.length≤6
   ·have hv:=val_lt X D.hX
    have hp:10 ^ X.length≤10 ^ 6:=Nat.pow_le_pow_right (by omega) h6;have:=hval (by omega);rw[if_pos h6,if_neg (by omega),this]
   ·rw[if_neg h6,if_pos (by omega)]
  rw[key]
  cases ng with
  | true=>rw[if_pos rfl,if_pos (hsg.1 rfl)]
  | false =>
   have hn:¬ (expP l)[0]?=some 45:=fun h=>by have:=hsg.2 h;cases this
   rw[if_neg hn,if_neg (by simp)]
theorem St.run_snoc (l:List UInt8) (c:UInt8):St.run (l++[c])=(St.run l).step c:=by simp[St.run]
end Go.Proofs.YtfhdihdafmahgaaGreatDoor
namespace Go.Proofs.YtfhdihdafmahgaaGreatDoor
open Go.RowKit Fx
namespace Fx
def dval (b:UInt8):Value:=.int .i64 (dv b:Nat)
end Fx
theorem run_take (l:List UInt8) {k:Nat} {b:UInt8} (hb:l[k]?=some b):St.run (l.take (k+1))=(St.run (l.take k)).step b:=by rw[take_snoc l k b hb,St.run_snoc]
theorem stop_min (N x:Nat) (h:N≤1099511627776) (hx:x≤9):stopZ ((N:Int) * 10+x)=((min (10 * N+x) M:Nat):Int):=by
 unfold stopZ M
 omega
theorem fint_info:(Tryz.prog.info? 3).map (fun i=>(i.zero,i.size,i.bytes))=some (some (.int .i64 0),1,8):=by kernel_rfl
def PRel (l:List UInt8) (w:World) (d pt bh ex ed en ie i:Value) (wr:World):Prop :=
 ∃ (k:Nat) (s:St),k≤l.length∧Hid (St.run (l.take k)=s)∧s.point≤k∧s.expDigits≤k∧s.d.length≤k∧s.exp<10000000∧wr.ownsRow w.heap.size 3 1 d s.d.length (s.d.map dval)∧Below w.heap.size w wr
  ∧ pt=.int .i64 (s.point:Nat)∧bh=.bool s.behind∧ex=.int .i64 (s.exp:Nat)∧ed=.int .i64 (s.expDigits:Nat)∧en=.bool s.expNeg∧ie=.bool s.inExp∧i=.int .i64 (k:Nat)
theorem rfx_parse (l:List UInt8) (w:World) (hl:l.length≤1000000) :
  Calls Tryz.prog 104 #[.string (bytesOf l)] w fun e w'=>e=.returned (.tuple #[.int .i64 (parseP l),.bool (isP l)])∧Below w.heap.size w w':=by
 have hs:=bytesOf_size l
 by_cases hne:l=[]
 ·subst hne
  have hs0:(bytesOf []).size=0:=by rw[hs];rfl
  go_enter Tryz.func104,Tryz.ntmps104
  go_wp2
  go_ret2
  exact⟨retIB rfl rfl,Below.refl _ _⟩
 ·have hpos:0<l.length:=List.length_pos_iff.2 hne
  have hz:((l.length:Int) == 0)=false:=by simp;omega
  by_cases hlen:lenP l=l.length
  ·have hisP:isP l=true:=decide_eq_true ⟨hne,hlen⟩
   obtain⟨sg,I,P,F,E,S2,X,D⟩:=dec_of_isP hisP;have Hlen:=Lib.hid hlen;have HD:=Lib.hid D;have HisP:=Lib.hid hisP;obtain⟨i0,hi,hz0,hz1,hz2⟩:=info_parts fint_info;clear hlen D hisP
   go_enter Tryz.func104,Tryz.ntmps104
   go_wp2_with fail
   refine(rfx_length l w (by omega)).mono ?_
   rintro e w1 ⟨rfl,rfl⟩;rw[Hlen.out]
   go_upto_block 0 with (fail)
   go_cut [4,5,6,7,8,9,10,11] (fun d pt bh ex ed en ie i wx=>PRel l w d pt bh ex ed en ie (.int .i64 (l.length:Nat)) wx)
   case first =>
    go_wp2_with fail
    go_loopw [4,5,6,7,8,9,10,11] (fun d pt bh ex ed en ie i wr=>PRel l w d pt bh ex ed en ie i wr) (fun _ _ _ _ _ _ _ i _=>l.length-(intOf i).toNat)
    case atStart=>exact⟨0,St.zero,by omega,rfl,by decide,by decide,by decide,by decide,World.ownsRow_nil _ _ _ _,Below.refl _ _,rfl,rfl,rfl,rfl,rfl,rfl,rfl⟩
    case round =>
     obtain⟨k,⟨dd,pp,bh,ex,ed,en,ie⟩,hk,hrun,hp1,hp2,hp3,hp4,hown,hb,rfl,rfl,rfl,rfl,rfl,rfl,rfl⟩:=hrel;simp only[] at hp1 hp2 hp3 hp4 hown;have hsz:=hb.size
     by_cases hlt:k<l.length
     ·obtain⟨b,hbk⟩:∃ b,l[k]?=some b:=⟨_,List.getElem?_eq_getElem hlt⟩
      have hix:=str_at (P:=Tryz.prog) (T:=9) Tryz.underlying9 l .i64 k b hbk;have hnew:St.run (l.take (k+1))=St.step ⟨dd,pp,bh,ex,ed,en,ie⟩ b:=by rw[run_take l hbk,hrun.out]
      have Hbk:=Lib.hid hbk;clear hbk
      by_cases ce:b.toNat=101∨b.toNat=69
      ·have hn2:St.step ⟨dd,pp,bh,ex,ed,en,ie⟩ b=⟨dd,pp,bh,ex,ed,en,true⟩:=by unfold St.step;rw[if_pos (by unfold isEb;simpa using ce)]
       rw[hn2] at hnew;have Hnew:=Lib.hid hnew;clear hnew hn2
       rcases ce with ce | ce
       all_goals
        rw[ce] at hix
        go_wp2
        go_roundw
        case rel=>exact⟨k+1,⟨dd,pp,bh,ex,ed,en,true⟩,by omega,Hnew,by simp only[];omega,by simp only[];omega,by simp only[];omega,hp4,hown,hb,rfl,rfl,rfl,rfl,rfl,rfl,rfl⟩
        case measure=>simp[intOf];omega
      ·have hE1:((b.toNat:Int) == 101)=false:=byte_ne (n:=101) (by omega)
       have hE2:((b.toNat:Int) == 69)=false:=byte_ne (n:=69) (by omega);have hEb:=isEb_no ce
       by_cases hdg:isD b=true
       ·have hr:=isD_range hdg
        have h45:((b.toNat:Int) == 45)=false:=byte_ne (n:=45) (by omega);have h46:((b.toNat:Int) == 46)=false:=byte_ne (n:=46) (by omega);have d1:decide ((48:Int)≤b.toNat)=true:=by simp;omega
        have d2:decide ((b.toNat:Int)≤57)=true:=by simp;omega
        cases ie with
        | true =>
         rw[step_digit_exp hdg rfl] at hnew
         by_cases hx:ex<999999
         ·simp only[hx,if_true] at hnew
          have hdv:dv b=b.toNat-48:=rfl;have Hnew:=Lib.hid hnew;have hx1:decide ((ex:Int)<999999)=true:=by simp;omega
          clear hnew hdg
          go_wp2
          go_roundw
          case rel=>exact⟨k+1,⟨dd,pp,bh,ex * 10+dv b,ed+1,en,true⟩,by omega,Hnew,by simp only[];omega,by simp only[];omega,by simp only[];omega,by simp only[];omega,hown,hb,rfl,rfl,congrArg (Value.int IntKind.i64) (by simp only[];omega),rfl,rfl,rfl,rfl⟩
          case measure=>simp[intOf];omega
         ·simp only[hx,if_false] at hnew
          have Hnew:=Lib.hid hnew;have hx1:decide ((ex:Int)<999999)=false:=by simp;omega
          clear hnew hdg
          go_wp2
          go_roundw
          case rel=>exact⟨k+1,⟨dd,pp,bh,ex,ed+1,en,true⟩,by omega,Hnew,by simp only[];omega,by simp only[];omega,by simp only[];omega,by simp only[];omega,hown,hb,rfl,rfl,rfl,rfl,rfl,rfl,rfl⟩
          case measure=>simp[intOf];omega
        | false =>
         rw[step_digit_int hdg rfl] at hnew
         cases bh with
         | true =>
          simp only[if_true] at hnew;have Hnew:=Lib.hid hnew;clear hnew hdg
          go_wp2_with (at_builtin;refine wpList_append_own _ rfl _ _ 51 rfl w.heap.size 3 i0 (.int .i64 0) 1 8 Tryz.underlying51 hi hz0 hz1 hz2 rfl (by decide) _ _ _ rfl (hown.alloc _) ⟨wr.heap.size,0,none⟩ 1 1 [.int .i64 ((b.toNat:Int)-48)] rfl rfl ?c1x1 ?c1x2 ?c1x3 ?c1x4 ?c1x5 ?_)
          case c1x1=>exact cell_one_new _ _ _
          case c1x2=>intro u hu;simp at hu;subst hu;rfl
          case c1x3=>unfold maxLen;omega
          case c1x4=>(try simp only[List.length_map]);omega
          case c1x5=>simp;omega
          intro v' w2 hown' hgrow _;have hbn:=push_below hb hsz hown hgrow;rw[show (.int .i64 ((b.toNat:Int)-48):Value)=dval b from by unfold dval dv;congr 1;omega] at hown';clear hgrow hown hb
          go_wp2
          go_roundw
          case rel=>exact⟨k+1,⟨dd++[b],pp,true,ex,ed,en,false⟩,by omega,Hnew,by simp only[];omega,by simp only[];omega,by simp only[List.length_append,List.length_cons,List.length_nil];omega,by simp only[];omega,by simpa using hown',hbn,rfl,rfl,rfl,rfl,rfl,rfl,rfl⟩
          case measure=>simp[intOf];omega
         | false =>
          simp only[Bool.false_eq_true,if_false] at hnew;have Hnew:=Lib.hid hnew;clear hnew hdg
          go_wp2_with (at_builtin;refine wpList_append_own _ rfl _ _ 51 rfl w.heap.size 3 i0 (.int .i64 0) 1 8 Tryz.underlying51 hi hz0 hz1 hz2 rfl (by decide) _ _ _ rfl (hown.alloc _) ⟨wr.heap.size,0,none⟩ 1 1 [.int .i64 ((b.toNat:Int)-48)] rfl rfl ?c2x1 ?c2x2 ?c2x3 ?c2x4 ?c2x5 ?_)
          case c2x1=>exact cell_one_new _ _ _
          case c2x2=>intro u hu;simp at hu;subst hu;rfl
          case c2x3=>unfold maxLen;omega
          case c2x4=>(try simp only[List.length_map]);omega
          case c2x5=>simp;omega
          intro v' w2 hown' hgrow _;have hbn:=push_below hb hsz hown hgrow;rw[show (.int .i64 ((b.toNat:Int)-48):Value)=dval b from by unfold dval dv;congr 1;omega] at hown';clear hgrow hown hb
          go_wp2
          go_roundw
          case rel=>exact⟨k+1,⟨dd++[b],pp+1,false,ex,ed,en,false⟩,by omega,Hnew,by simp only[];omega,by simp only[];omega,by simp only[List.length_append,List.length_cons,List.length_nil];omega,by simp only[];omega,by simpa using hown',hbn,rfl,rfl,rfl,rfl,rfl,rfl,rfl⟩
          case measure=>simp[intOf];omega
       ·have hdf:isD b=false:=by simpa using hdg
        have hdr:¬ (48≤b.toNat∧b.toNat≤57):=by intro h;exact hdg (by unfold isD;simpa using h)
        by_cases h46:b.toNat=46
        ·have hn2:St.step ⟨dd,pp,bh,ex,ed,en,ie⟩ b=⟨dd,pp,true,ex,ed,en,ie⟩:=by
          unfold St.step;rw[hEb,if_neg (by simp),if_neg (by omega),if_pos h46]
         rw[hn2] at hnew;have Hnew:=Lib.hid hnew;rw[h46] at hix;clear hnew hn2 hdg
         cases ie with
         | true =>
          go_wp2
          go_roundw
          case rel=>exact⟨k+1,⟨dd,pp,true,ex,ed,en,true⟩,by omega,Hnew,by simp only[];omega,by simp only[];omega,by simp only[];omega,by simp only[];omega,hown,hb,rfl,rfl,rfl,rfl,rfl,rfl,rfl⟩
          case measure=>simp[intOf];omega
         | false =>
          go_wp2
          go_roundw
          case rel=>exact⟨k+1,⟨dd,pp,true,ex,ed,en,false⟩,by omega,Hnew,by simp only[];omega,by simp only[];omega,by simp only[];omega,by simp only[];omega,hown,hb,rfl,rfl,rfl,rfl,rfl,rfl,rfl⟩
          case measure=>simp[intOf];omega
        ·by_cases h45:b.toNat=45∧ie=true
         ·obtain⟨h45,rfl⟩:=h45
          rw[step_minus h45 rfl] at hnew;have Hnew:=Lib.hid hnew;rw[h45] at hix;clear hnew hdg
          go_wp2
          go_roundw
          case rel=>exact⟨k+1,⟨dd,pp,bh,ex,ed,true,true⟩,by omega,Hnew,by simp only[];omega,by simp only[];omega,by simp only[];omega,by simp only[];omega,hown,hb,rfl,rfl,rfl,rfl,rfl,rfl,rfl⟩
          case measure=>simp[intOf];omega
         ·have hn2:St.step ⟨dd,pp,bh,ex,ed,en,ie⟩ b=⟨dd,pp,bh,ex,ed,en,ie⟩:=by
           unfold St.step;rw[hEb,if_neg (by simp),if_neg (by simp only[];intro h;exact h45 ⟨h.2,h.1⟩),if_neg h46,hdf,if_neg (by simp),if_neg (by simp)]
          rw[hn2] at hnew;have Hnew:=Lib.hid hnew;have h46b:((b.toNat:Int) == 46)=false:=byte_ne h46;clear hnew hn2 hdg
          by_cases hlo:48≤b.toNat
          ·have d1:decide ((48:Int)≤b.toNat)=true:=by simp;omega
           have d2:decide ((b.toNat:Int)≤57)=false:=by simp;omega
           have h45b:((b.toNat:Int) == 45)=false:=byte_ne (n:=45) (by omega)
           cases ie with
           | true =>
            go_wp2
            go_roundw
            case rel=>exact⟨k+1,⟨dd,pp,bh,ex,ed,en,true⟩,by omega,Hnew,by simp only[];omega,by simp only[];omega,by simp only[];omega,by simp only[];omega,hown,hb,rfl,rfl,rfl,rfl,rfl,rfl,rfl⟩
            case measure=>simp[intOf];omega
           | false =>
            go_wp2
            go_roundw
            case rel=>exact⟨k+1,⟨dd,pp,bh,ex,ed,en,false⟩,by omega,Hnew,by simp only[];omega,by simp only[];omega,by simp only[];omega,by simp only[];omega,hown,hb,rfl,rfl,rfl,rfl,rfl,rfl,rfl⟩
            case measure=>simp[intOf];omega
          ·have d1:decide ((48:Int)≤b.toNat)=false:=by simp;omega
           cases ie with
           | true =>
            have h45b:((b.toNat:Int) == 45)=false:=byte_ne (by intro h;exact h45 ⟨h,rfl⟩)
            go_wp2
            go_roundw
            case rel=>exact⟨k+1,⟨dd,pp,bh,ex,ed,en,true⟩,by omega,Hnew,by simp only[];omega,by simp only[];omega,by simp only[];omega,by simp only[];omega,hown,hb,rfl,rfl,rfl,rfl,rfl,rfl,rfl⟩
            case measure=>simp[intOf];omega
           | false =>
            go_wp2
            go_roundw
            case rel=>exact⟨k+1,⟨dd,pp,bh,ex,ed,en,false⟩,by omega,Hnew,by simp only[];omega,by simp only[];omega,by simp only[];omega,by simp only[];omega,hown,hb,rfl,rfl,rfl,rfl,rfl,rfl,rfl⟩
            case measure=>simp[intOf];omega
     ·obtain rfl:k=l.length:=by omega
      go_wp2_with fail
      go_meet
      exact⟨l.length,⟨dd,pp,bh,ex,ed,en,ie⟩,Nat.le_refl _,hrun,hp1,hp2,hp3,hp4,hown,hb,rfl,rfl,rfl,rfl,rfl,rfl,rfl⟩
   case rest =>
    obtain⟨k,⟨dd,pp,bh,ex,ed,en,ie⟩,hk,hrun,hp1,hp2,hp3,hp4,hown,hb,rfl,rfl,rfl,rfl,rfl,rfl,hkl⟩:=hcut;simp only[] at hp1 hp2 hp3 hp4 hown;have hkk:k=l.length:=by injection hkl with _ h;omega
    subst hkk;have hrun2:St.run l=⟨dd,pp,bh,ex,ed,en,ie⟩:=by have:=hrun.out;rwa[List.take_length] at this
    obtain⟨hd,hpt,hpw⟩:=run_dec HD.out;rw[hrun2] at hd hpt hpw;simp only[St.power] at hd hpt hpw;obtain⟨pw,hpw2⟩:∃ pw,powP (expP l)=pw:=⟨_,rfl⟩;rw[hpw2] at hpw;have hpwb:-999999≤pw∧pw≤999999:=by rw[← hpw2];exact powP_range _ (dec_exp_digits HD.out)
    have hnum:numP l=foldN dd ((pp:Int)+pw+3):=by unfold numP;rw[← HD.out.lI,← HD.out.lF,hpw2,← hd,← hpt]
    have hDD:∀ b∈dd,isD b=true:=by
     rw[hd];intro b hb
     rcases List.mem_append.1 hb with h | h
     ·exact HD.out.hI b h
     ·exact HD.out.hF b h
    have Hpw:=Lib.hid hpw;have Hnum:=Lib.hid hnum;have HDD:=Lib.hid hDD;clear hrun hrun2 hd hpt hpw hpw2 hnum hDD hkl;obtain⟨A,c,rfl,hdc,hcm⟩:=own_form hown;have hrd:=Reads.of_own hown;obtain⟨C,hC⟩:∃ C,decide (999999<ex∨6<ed)=C:=⟨_,rfl⟩;have HC:=Lib.hid hC;clear hC
    go_upto_region 28 with (fail)
    go_cut [87] (fun e wx=>e=.bool C∧wx=wc)
    case first =>
     by_cases c1:999999<ex
     ·have d1:decide ((999999:Int)<ex)=true:=by simp;omega
      go_wp2_with fail
      go_meet
      exact⟨by rw[← HC.out];simp[c1],rfl⟩
     ·have d1:decide ((999999:Int)<ex)=false:=by simp;omega
      by_cases c2:6<ed
      ·have d2:decide ((6:Int)<ed)=true:=by simp;omega
       go_wp2_with fail
       go_meet
       exact⟨by rw[← HC.out];simp[c1,c2],rfl⟩
      ·have d2:decide ((6:Int)<ed)=false:=by simp;omega
       go_wp2_with fail
       go_meet
       exact⟨by rw[← HC.out];simp[c1,c2],rfl⟩
    case rest =>
     obtain⟨rfl,rfl⟩:=hcut;obtain⟨pe,hpe⟩:∃ pe:Nat,(if 999999<ex∨6<ed then 999999 else ex)=pe:=⟨_,rfl⟩;have hpeb:pe≤999999:=by rw[← hpe];split<;>omega
     have hpw3:(if en=true then -(pe:Int) else (pe:Int))=pw:=by rw[← hpe];exact Hpw.out
     have Hpe:=Lib.hid hpe;have Hpw3:=Lib.hid hpw3;clear hpe hpw3
     go_upto_if 87 with (fail)
     go_cut [7] (fun e wx=>e=.int .i64 (pe:Nat)∧wx=wc)
     case first =>
      cases C with
      | true =>
       have hc:=of_decide_eq_true HC.out;have hh:=Hpe.out;rw[if_pos hc] at hh
       go_wp2_with fail
       go_meet
       exact⟨by rw[← hh];rfl,rfl⟩
      | false =>
       have hc:=of_decide_eq_false HC.out;have hh:=Hpe.out;rw[if_neg hc] at hh
       go_wp2_with fail
       go_meet
       exact⟨by rw[← hh],rfl⟩
     case rest =>
      obtain⟨rfl,rfl⟩:=hcut
      go_upto_if 88 with (fail)
      go_cut [7] (fun e wx=>e=.int .i64 pw∧wx=wc)
      case first =>
       cases en with
       | true =>
        have hh:=Hpw3.out;simp only[if_true] at hh
        go_wp2_with fail
        go_meet
        exact⟨congrArg (Value.int IntKind.i64) (by omega),rfl⟩
       | false =>
        have hh:=Hpw3.out;simp only[Bool.false_eq_true,if_false] at hh
        go_wp2_with fail
        go_meet
        exact⟨congrArg (Value.int IntKind.i64) (by omega),rfl⟩
      case rest =>
       obtain⟨rfl,rfl⟩:=hcut;obtain⟨p,hp⟩:∃ p:Int,(pp:Int)+pw+3=p:=⟨_,rfl⟩;have hpb:-4000000≤p∧p≤4000000:=by omega
       have Hnum2:Hid (numP l=foldN dd p):=by show _=_;rw[Hnum.out,hp]
       have Hp:=Lib.hid hp;have hppb:pp≤1000000:=by omega
       go_upto_block 2 with (fail)
       try rw[Hp.out]
       clear hp hp4 Hpe Hpw Hpw3 HC
       go_cut [13] (fun s wx=>s=.int .i64 (numP l:Nat)∧wx=wc)
       case first =>
        go_wp2_with fail
        go_loop [13,14] (fun n k=>∃ i N:Nat,i≤p.toNat∧N=min (vA dd i) M∧N<1099511627776∧n=.int .i64 (N:Int)∧k=.int .i64 (i:Int)) (fun _ k=>p.toNat-(intOf k).toNat)
        case atStart=>exact⟨0,0,by omega,by simp[vA],by decide,rfl,rfl⟩
        case round =>
         obtain⟨i,N,hi9,hN,hNM,rfl,rfl⟩:=hrel;have HN:=Lib.hid hN;clear hN
         have Hfin:∀ (R:Nat) (h:R=foldN dd p),((R:Nat):Int)=(numP l:Nat):=by
          intro R h;rw[Hnum2.out,← h]
         by_cases c1:(i:Int)<p
         ·have d1:decide ((i:Int)<p)=true:=by simpa using c1
          obtain⟨x,hx⟩:∃ x,((dd[i]?).map dv).getD 0=x:=⟨_,rfl⟩;have Hx:=Lib.hid hx
          by_cases c5:i<dd.length
          ·have d5:decide ((dd.length:Int)≤i)=false:=by simp;omega
           have d6:decide ((i:Int)<dd.length)=true:=by simp;omega
           obtain⟨bb,off,u,hA,hbw,hxu,hcell⟩:=hrd.at_ c5;subst hA
           have hx9:x≤9∧u=.int .i64 (x:Nat):=by
            rw[← hx];rw[List.getElem?_map,List.getElem?_eq_getElem c5] at hxu;rw[List.getElem?_eq_getElem c5];have:=isD_range (HDD.out _ (List.getElem_mem c5))
            refine⟨by simp[dv];omega,?_⟩
            simp at hxu
            rw[← hxu];rfl
           obtain⟨hx9,rfl⟩:=hx9;clear hx hxu;have hst:=stop_min N x (by omega) (by omega);have hstep:min (10 * N+x) M=min (vA dd (i+1)) M:=by rw[HN.out,← Hx.out];exact vA_step dd i
           obtain⟨R,hR⟩:∃ R,min (10 * N+x) M=R:=⟨_,rfl⟩;have hRM:R≤1099511627776:=by rw[← hR];exact Nat.min_le_right _ _
           rw[hR] at hst hstep;have Hst:=Lib.hid hst;have Hstep:=Lib.hid hstep;clear hst hstep hR
           by_cases hRe:R=1099511627776
           ·have hf:R=foldN dd p:=by
             unfold foldN;have h9:=Hstep.out;rw[vA_full dd (by omega:i+1≤p.toNat) (by unfold M at *;omega)];unfold M;omega
            have Hn:=Lib.hid (Hfin R hf);have hrb:((R:Int) == 1099511627776)=true:=by simp;omega
            clear hf hRe hRM Hfin
            go_wp2_with fail
            refine(rfx_stop _ wc (by omega) (by omega)).mono ?_
            rintro e w7 ⟨rfl,rfl⟩;rw[Hst.out];generalize (R:Int)=z at *
            go_wp2_with fail
            go_meet
            exact⟨by rw[← Hn.out],rfl⟩
           ·have hrb:((R:Int) == 1099511627776)=false:=by simp;omega
            have hRl:R<1099511627776:=by omega
            clear hRe Hfin
            go_wp2_with fail
            refine(rfx_stop _ wc (by omega) (by omega)).mono ?_
            rintro e w7 ⟨rfl,rfl⟩;rw[Hst.out]
            go_wp2
            exact⟨⟨i+1,R,by omega,Hstep.out,hRl,rfl,rfl⟩,by simp[intOf];omega⟩
          ·have d5:decide ((dd.length:Int)≤i)=true:=by simp;omega
           have d6:decide ((i:Int)<dd.length)=false:=by simp;omega
           have hx0:x=0:=by rw[← hx,List.getElem?_eq_none (by omega)];rfl
           by_cases c6:N=0
           ·have hv:vA dd i=0:=by have:=HN.out;unfold M at this;omega
            have hf:N=foldN dd p:=by
             unfold foldN;rw[vA_nought dd (by omega:i≤p.toNat) (by omega) hv,c6];rfl
            have Hn:=Lib.hid (Hfin N hf);have hzz:((N:Int) == 0)=true:=by simp;omega
            clear hf c6 HN hNM Hfin;generalize (N:Int)=z at *
            go_wp2_with fail
            go_meet
            exact⟨by rw[← Hn.out],rfl⟩
           ·have hzz:((N:Int) == 0)=false:=by simp;omega
            subst hx0;clear hx;have hst:=stop_min N 0 (by omega) (by omega);have hstep:min (10 * N+0) M=min (vA dd (i+1)) M:=by rw[HN.out,← Hx.out];exact vA_step dd i
            obtain⟨R,hR⟩:∃ R,min (10 * N+0) M=R:=⟨_,rfl⟩;have hRM:R≤1099511627776:=by rw[← hR];exact Nat.min_le_right _ _
            rw[hR] at hst hstep;have Hst:=Lib.hid hst;have Hstep:=Lib.hid hstep;clear hst hstep hR
            by_cases hRe:R=1099511627776
            ·have hf:R=foldN dd p:=by
              unfold foldN;have h9:=Hstep.out;rw[vA_full dd (by omega:i+1≤p.toNat) (by unfold M at *;omega)];unfold M;omega
             have Hn:=Lib.hid (Hfin R hf);have hrb:((R:Int) == 1099511627776)=true:=by simp;omega
             clear hf hRe hRM Hfin
             go_wp2_with fail
             refine(rfx_stop _ wc (by omega) (by omega)).mono ?_
             rintro e w7 ⟨rfl,rfl⟩;rw[show (N:Int) * 10=(N:Int) * 10+((0:Nat):Int) from by omega,Hst.out];generalize (R:Int)=z at *
             go_wp2_with fail
             go_meet
             exact⟨by rw[← Hn.out],rfl⟩
            ·have hrb:((R:Int) == 1099511627776)=false:=by simp;omega
             have hRl:R<1099511627776:=by omega
             clear hRe Hfin
             go_wp2_with fail
             refine(rfx_stop _ wc (by omega) (by omega)).mono ?_
             rintro e w7 ⟨rfl,rfl⟩;rw[show (N:Int) * 10=(N:Int) * 10+((0:Nat):Int) from by omega,Hst.out]
             go_wp2
             exact⟨⟨i+1,R,by omega,Hstep.out,hRl,rfl,rfl⟩,by simp[intOf];omega⟩
         ·have d1:decide ((i:Int)<p)=false:=by simpa using c1
          have hf:N=foldN dd p:=by
           unfold foldN;have:i=p.toNat:=by omega
           rw[HN.out,this]
          have Hn:=Lib.hid (Hfin N hf);clear hf Hfin
          go_wp2_with fail
          go_meet
          exact⟨by rw[← Hn.out],rfl⟩
       case rest =>
        obtain⟨rfl,rfl⟩:=hcut;obtain⟨b,hbk⟩:∃ b,l[0]?=some b:=⟨_,List.getElem?_eq_getElem hpos⟩;have hix:=str_at (P:=Tryz.prog) (T:=9) Tryz.underlying9 l .i64 0 b hbk;rw[Int.ofNat_zero] at hix;have hnb:numP l≤1099511627776:=by rw[Hnum2.out];exact Nat.min_le_right _ _
        have hpp:parseP l=if l[0]?=some 45 then -(numP l:Int) else (numP l:Int):=by unfold parseP;rw[if_pos HisP.out]
        have Hpp:=Lib.hid hpp;have Hb:=Lib.hid hbk;clear hpp hbk;generalize numP l=N at *
        by_cases hm:b.toNat=45
        ·have hv:parseP l=-(N:Int):=by
          rw[Hpp.out,if_pos];rw[Hb.out];congr 1;exact UInt8.toNat_inj.1 hm
         have Hv:=Lib.hid hv;clear hv;rw[hm] at hix
         go_wp2
         go_ret2
         exact⟨retIB (by rw[Hv.out]<;>omega) (by rw[HisP.out]),hb⟩
        ·have hv:parseP l=(N:Int):=by
          rw[Hpp.out,if_neg];rw[Hb.out];intro h;injection h with h;subst h;exact hm rfl
         have Hv:=Lib.hid hv;have hc:=byte_ne hm;clear hv
         go_wp2
         go_ret2
         exact⟨retIB (by rw[Hv.out]) (by rw[HisP.out]),hb⟩
  ·have hisP:isP l=false:=decide_eq_false (by simp[hlen])
   have hp0:parseP l=0:=by unfold parseP;rw[hisP];rfl
   have hc:((lenP l:Int) == (l.length:Int))=false:=by simp;omega
   have H1:=Lib.hid hisP;have H2:=Lib.hid hp0;clear hisP hp0 hlen
   go_enter Tryz.func104,Tryz.ntmps104
   go_wp2_with fail
   refine(rfx_length l w (by omega)).mono ?_
   rintro e w1 ⟨rfl,rfl⟩
   go_wp2
   go_ret2
   exact⟨retIB (by rw[H2.out]) (by rw[H1.out]),Below.refl _ _⟩
end Go.Proofs.YtfhdihdafmahgaaGreatDoor
