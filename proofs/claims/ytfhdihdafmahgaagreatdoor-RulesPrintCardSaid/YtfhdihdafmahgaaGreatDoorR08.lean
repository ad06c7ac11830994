import Derived.Test.YtfhdihdafmahgaaGreatDoorR04
import Derived.Lib.DecodeN
import Derived.Lib.ValidLaws
import Derived.Test.YtfhdihdafmahgaaGreatDoorR05
import Derived.Lib.ItoaNum
import Derived.Lib.AppendIntMem
import Derived.Test.YtfhdihdafmahgaaGreatDoorR07
import Derived.Test.YtfhdihdafmahgaaGreatDoorR06
import Derived.WalkMore
import Derived.ScopeJumps
import Derived.BigRegion
import Derived.Laws.RangeString
import Derived.Deep.RegionWith
import Derived.Lib.SlBytesConst
set_option linter.unusedVariables false
set_option linter.unusedSimpArgs false
set_option maxRecDepth 100000
set_option maxHeartbeats 4000000
set_option linter.unusedSectionVars false
namespace Go.Proofs.YtfhdihdafmahgaaGreatDoor
open Go.RowKit Rn
theorem b_of (z:Int) (h0:0≤z) (h1:z<256):(z.toNat.toUInt8).toNat=z.toNat:=by simp;omega
theorem scan_le_add (bs:List UInt8) (lo hi:Nat):∀ f k,scan bs lo hi f k≤k+f
 | 0,k=>Nat.le_refl _
 | f+1,k=>by
  unfold scan;split
  ·exact Nat.le_trans (scan_le_add bs lo hi f (k+1)) (by omega)
  ·omega
theorem stop_le (bs:List UInt8) {n:Nat} (h:bN (bs[0]?.getD 0).toNat=n) (h0:1≤n):stopP bs≤n:=by
 have:=scan_le_add bs (bLo (bs[0]?.getD 0).toNat) (bHi (bs[0]?.getD 0).toNat) (bN (bs[0]?.getD 0).toNat-1) 1;unfold stopP;simp only
 omega
theorem next_enc (c:Int) (hc:isB c=true) (rest:List UInt8):nextC (Lib.encodeRune c++rest)=c∧nextN (Lib.encodeRune c++rest)=(Lib.encodeRune c).length:=by
 have hc':0≤c∧c≤1114111∧(c<55296∨57343<c):=by simpa [isB] using hc
 clear hc;obtain⟨h0,h1,h2⟩:=hc'
 by_cases c1:c<128
 ·have e:Lib.encodeRune c=[c.toNat.toUInt8]:=by simp[Lib.encodeRune,Lib.encodeRuneZ_one h0 (by omega:c≤127)]
  rw[e]
  have hb:bN (((([c.toNat.toUInt8]++rest)[0]?).getD 0).toNat)=1:=by
   show bN (c.toNat.toUInt8).toNat=1
   rw[b_of c h0 (by omega)];unfold bN;rw[if_pos (by omega)]
  have hst:stopP ([c.toNat.toUInt8]++rest)=1:=by unfold stopP;simp only;rw[hb];rfl
  have hx:=next_full (bs:=[c.toNat.toUInt8]++rest) (by omega) (by rw[hst,hb]);rw[hb] at hx
  refine⟨?_,hx.2⟩
  rw[hx.1];simp only[val,if_true]
  show (((c.toNat.toUInt8).toNat:Nat):Int)=c
  rw[b_of c h0 (by omega)];omega
 ·by_cases c2:c<2048
  ·have e:Lib.encodeRune c=[(192+c / 64).toNat.toUInt8,(128+c % 64).toNat.toUInt8]:=by simp[Lib.encodeRune,Lib.encodeRuneZ_two (by omega:128≤c) (by omega)]
   rw[e];have g0:=b_of (192+c / 64) (by omega) (by omega);have g1:=b_of (128+c % 64) (by omega) (by omega);generalize (192+c / 64).toNat.toUInt8=b0 at *
   generalize (128+c % 64).toNat.toUInt8=b1 at *
   have hb:bN (((([b0,b1]++rest)[0]?).getD 0).toNat)=2:=by
    show bN b0.toNat=2
    unfold bN;rw[if_neg (by omega),if_neg (by omega),if_pos (by omega)]
   have hst:2≤stopP ([b0,b1]++rest):=by
    rw[stop_ge _ 2 (by omega) (by omega)];intro j j1 j2;obtain rfl:j=1:=by omega
    rw[okAt_iff (b:=b1) rfl]
    show loAt b0.toNat 1≤b1.toNat∧b1.toNat≤hiAt b0.toNat 1
    unfold loAt hiAt bLo bHi
    (repeat' split)<;>omega
   have hst2:stopP ([b0,b1]++rest)≤2:=stop_le _ hb (by omega);have hx:=next_full (bs:=[b0,b1]++rest) (by omega) (by omega);rw[hb] at hx
   refine⟨?_,hx.2⟩
   rw[hx.1];simp only[val,if_true,if_neg (show ¬ (2=1) from by omega)]
   show ((b0.toNat % 32 * 64+b1.toNat % 64:Nat):Int)=c
   omega
  ·by_cases c3:c<65536
   ·have e:Lib.encodeRune c=[(224+c / 4096).toNat.toUInt8,(128+c / 64 % 64).toNat.toUInt8,(128+c % 64).toNat.toUInt8]:=by simp[Lib.encodeRune,Lib.encodeRuneZ_three (r:=c) (by omega)]
    rw[e];have g0:=b_of (224+c / 4096) (by omega) (by omega);have g1:=b_of (128+c / 64 % 64) (by omega) (by omega);have g2:=b_of (128+c % 64) (by omega) (by omega);generalize (224+c / 4096).toNat.toUInt8=b0 at *
    generalize (128+c / 64 % 64).toNat.toUInt8=b1 at *
    generalize (128+c % 64).toNat.toUInt8=b2 at *
    have hb:bN (((([b0,b1,b2]++rest)[0]?).getD 0).toNat)=3:=by
     show bN b0.toNat=3
     unfold bN;rw[if_neg (by omega),if_neg (by omega),if_neg (by omega),if_pos (by omega)]
    have hst:3≤stopP ([b0,b1,b2]++rest):=by
     rw[stop_ge _ 3 (by omega) (by omega)];intro j j1 j2;obtain rfl | rfl:j=1∨j=2:=by omega
     ·rw[okAt_iff (b:=b1) rfl]
      show loAt b0.toNat 1≤b1.toNat∧b1.toNat≤hiAt b0.toNat 1
      unfold loAt hiAt bLo bHi
      (repeat' split)<;>omega
     ·rw[okAt_iff (b:=b2) rfl]
      show loAt b0.toNat 2≤b2.toNat∧b2.toNat≤hiAt b0.toNat 2
      unfold loAt hiAt
      (repeat' split)<;>omega
    have hst2:stopP ([b0,b1,b2]++rest)≤3:=stop_le _ hb (by omega);have hx:=next_full (bs:=[b0,b1,b2]++rest) (by omega) (by omega);rw[hb] at hx
    refine⟨?_,hx.2⟩
    rw[hx.1];simp only[val,if_true,if_neg (show ¬ (3=1) from by omega),if_neg (show ¬ (3=2) from by omega)]
    show ((b0.toNat % 16 * 4096+b1.toNat % 64 * 64+b2.toNat % 64:Nat):Int)=c
    omega
   ·have e:Lib.encodeRune c=[(240+c / 262144).toNat.toUInt8,(128+c / 4096 % 64).toNat.toUInt8,(128+c / 64 % 64).toNat.toUInt8,(128+c % 64).toNat.toUInt8]:=by simp[Lib.encodeRune,Lib.encodeRuneZ_four (by omega:65536≤c) h1]
    rw[e];have g0:=b_of (240+c / 262144) (by omega) (by omega);have g1:=b_of (128+c / 4096 % 64) (by omega) (by omega);have g2:=b_of (128+c / 64 % 64) (by omega) (by omega);have g3:=b_of (128+c % 64) (by omega) (by omega);generalize (240+c / 262144).toNat.toUInt8=b0 at *
    generalize (128+c / 4096 % 64).toNat.toUInt8=b1 at *
    generalize (128+c / 64 % 64).toNat.toUInt8=b2 at *
    generalize (128+c % 64).toNat.toUInt8=b3 at *
    have hb:bN (((([b0,b1,b2,b3]++rest)[0]?).getD 0).toNat)=4:=by
     show bN b0.toNat=4
     unfold bN;rw[if_neg (by omega),if_neg (by omega),if_neg (by omega),if_neg (by omega)]
    have hst:4≤stopP ([b0,b1,b2,b3]++rest):=by
     rw[stop_ge _ 4 (by omega) (by omega)];intro j j1 j2;obtain rfl | rfl | rfl:j=1∨j=2∨j=3:=by omega
     ·rw[okAt_iff (b:=b1) rfl]
      show loAt b0.toNat 1≤b1.toNat∧b1.toNat≤hiAt b0.toNat 1
      unfold loAt hiAt bLo bHi
      (repeat' split)<;>omega
     ·rw[okAt_iff (b:=b2) rfl]
      show loAt b0.toNat 2≤b2.toNat∧b2.toNat≤hiAt b0.toNat 2
      unfold loAt hiAt
      (repeat' split)<;>omega
     ·rw[okAt_iff (b:=b3) rfl]
      show loAt b0.toNat 3≤b3.toNat∧b3.toNat≤hiAt b0.toNat 3
      unfold loAt hiAt
      (repeat' split)<;>omega
    have hst2:stopP ([b0,b1,b2,b3]++rest)≤4:=stop_le _ hb (by omega);have hx:=next_full (bs:=[b0,b1,b2,b3]++rest) (by omega) (by omega);rw[hb] at hx
    refine⟨?_,hx.2⟩
    rw[hx.1];simp only[val,if_true,if_neg (show ¬ (4=1) from by omega),if_neg (show ¬ (4=2) from by omega),if_neg (show ¬ (4=3) from by omega)]
    show ((b0.toNat % 8 * 262144+b1.toNat % 64 * 4096+b2.toNat % 64 * 64+b3.toNat % 64:Nat):Int)=c
    omega
theorem enc_ne (c:Int) (rest:List UInt8):Lib.encodeRune c++rest≠[]:=by
 intro e;have h:=(encode_len c).1;rw[(List.append_eq_nil_iff.1 e).1] at h
 simp at h
def Plain (c:Int):Prop:=isB c=true∧c≠0∧c≠12∧c≠13
theorem readF_write:∀ (l:List Int) (f:Nat),(writeP l).length≤f→(∀ c∈l,Plain c)→readF f (writeP l)=l
 | [],f,_,_=>by cases f<;>simp[readF,writeP]
 | c::l,f,h,hl=>by
  have hc:=hl c (by simp);have hn:=next_enc c hc.1 (writeP l);have hw:writeP (c::l)=Lib.encodeRune c++writeP l:=by simp[writeP]
  have h1:=(encode_len c).1;rw[hw] at h ⊢;rw[List.length_append] at h;obtain⟨g,rfl⟩:∃ g,f=g+1:=⟨f-1,by omega⟩;rw[readF_char g (enc_ne c _) (by rw[hn.1];exact hc.2.1) (by rw[hn.1];exact hc.2.2.2) (by rw[hn.1];exact hc.2.2.1),hn.1,hn.2,List.drop_left];rw[readF_write l g (by omega) (fun d hd=>hl d (by simp[hd]))]
theorem read_write (l:List Int) (h:∀ c∈l,Plain c):readP (writeP l)=l:=readF_write l _ (Nat.le_refl _) h
theorem byte_eq {b:UInt8} {z:Int} (h0:0≤z) (h1:z<256) (h:(b.toNat:Int)=z):z.toNat.toUInt8=b:=by
 apply UInt8.toNat_inj.1
 rw[b_of z h0 h1];omega
theorem take_two (l:List UInt8) (i:Nat) (h:i+1<l.length):(l.drop i).take 2=[l[i]?.getD 0,l[i+1]?.getD 0]:=by
 rw[List.getElem?_eq_getElem (by omega),List.getElem?_eq_getElem h,List.drop_eq_getElem_cons (by omega),List.drop_eq_getElem_cons h];rfl
theorem take_three (l:List UInt8) (i:Nat) (h:i+2<l.length):(l.drop i).take 3=[l[i]?.getD 0,l[i+1]?.getD 0,l[i+2]?.getD 0]:=by
 rw[List.getElem?_eq_getElem (by omega),List.getElem?_eq_getElem (show i+1<l.length by omega),List.getElem?_eq_getElem h,List.drop_eq_getElem_cons (by omega),List.drop_eq_getElem_cons (show i+1<l.length by omega),List.drop_eq_getElem_cons h];rfl
theorem take_four (l:List UInt8) (i:Nat) (h:i+3<l.length):(l.drop i).take 4=[l[i]?.getD 0,l[i+1]?.getD 0,l[i+2]?.getD 0,l[i+3]?.getD 0]:=by
 rw[List.getElem?_eq_getElem (by omega),List.getElem?_eq_getElem (show i+1<l.length by omega),List.getElem?_eq_getElem (show i+2<l.length by omega),List.getElem?_eq_getElem h,List.drop_eq_getElem_cons (by omega),List.drop_eq_getElem_cons (show i+1<l.length by omega),List.drop_eq_getElem_cons (show i+2<l.length by omega),List.drop_eq_getElem_cons h];rfl
theorem decode_enc' (l:List UInt8) (i:Nat) (h:i<l.length) (hne:¬ ((Utf8.decode (bytesOf l) i).1=65533∧(Utf8.decode (bytesOf l) i).2=1)) :
  isB ((Utf8.decode (bytesOf l) i).1:Int)=true∧i+(Utf8.decode (bytesOf l) i).2≤l.length∧(l.drop i).take (Utf8.decode (bytesOf l) i).2=Lib.encodeRune ((Utf8.decode (bytesOf l) i).1:Int):=by
 rw[Lib.decode_at,bytesOf_size] at *
 rw[bytesOf_get,bytesOf_get,bytesOf_get,bytesOf_get] at *
 have b0:=UInt8.toNat_lt (l[i]?.getD 0);have b1:=UInt8.toNat_lt (l[i+1]?.getD 0);have b2:=UInt8.toNat_lt (l[i+2]?.getD 0);have b3:=UInt8.toNat_lt (l[i+3]?.getD 0)
 have t1:(l.drop i).take 1=[l[i]?.getD 0]:=by
  rw[List.getElem?_eq_getElem h,List.drop_eq_getElem_cons h];rfl
 have t2:=take_two l i;have t3:=take_three l i;have t4:=take_four l i;generalize hc0:l[i]?.getD 0=c0 at *
 generalize hc1:l[i+1]?.getD 0=c1 at *
 generalize hc2:l[i+2]?.getD 0=c2 at *
 generalize hc3:l[i+3]?.getD 0=c3 at *
 revert hne
 unfold Lib.decodeN
 split
 ·intro _
  have e:Lib.encodeRune (c0.toNat:Int)=[c0]:=by
   have:Lib.encodeRune (c0.toNat:Int)=[((c0.toNat:Int)).toNat.toUInt8]:=by simp[Lib.encodeRune,Lib.encodeRuneZ_one (by omega:(0:Int)≤c0.toNat) (by omega:(c0.toNat:Int)≤127)]
   rw[this,byte_eq (by omega) (by omega) rfl]
  refine⟨?_,by omega,?_⟩
  ·unfold isB;simp;omega
  ·rw[t1,e]
 ·split
  ·split
   ·rename_i h1 h2 h3
    intro _
    refine⟨?_,by simp only;omega,?_⟩
    ·unfold isB;simp only[decide_eq_true_eq];omega
    ·simp only
     rw[t2 (by omega)];unfold Lib.encodeRune;rw[Lib.encodeRuneZ_two (r:=((c0.toNat % 32 * 64+c1.toNat % 64:Nat):Int)) (by omega) (by omega)];simp only[List.map_cons,List.map_nil];rw[byte_eq (b:=c0) (by omega) (by omega) (by omega),byte_eq (b:=c1) (by omega) (by omega) (by omega)]
   ·intro h;exact absurd ⟨rfl,rfl⟩ h
  ·split
   ·split
    ·rename_i h1 h2 h3 h4
     intro _
     refine⟨?_,by simp only;omega,?_⟩
     ·unfold isB;simp only[decide_eq_true_eq];omega
     ·simp only
      rw[t3 (by omega)];unfold Lib.encodeRune;rw[Lib.encodeRuneZ_three (r:=((c0.toNat % 16 * 4096+c1.toNat % 64 * 64+c2.toNat % 64:Nat):Int)) (by omega)];simp only[List.map_cons,List.map_nil];rw[byte_eq (b:=c0) (by omega) (by omega) (by omega),byte_eq (b:=c1) (by omega) (by omega) (by omega),byte_eq (b:=c2) (by omega) (by omega) (by omega)]
    ·intro h;exact absurd ⟨rfl,rfl⟩ h
   ·split
    ·split
     ·rename_i h1 h2 h3 h4 h5
      intro _
      refine⟨?_,by simp only;omega,?_⟩
      ·unfold isB;simp only[decide_eq_true_eq];omega
      ·simp only
       rw[t4 (by omega)];unfold Lib.encodeRune;rw[Lib.encodeRuneZ_four (r:=((c0.toNat % 8 * 262144+c1.toNat % 64 * 4096+c2.toNat % 64 * 64+c3.toNat % 64:Nat):Int)) (by omega) (by omega)];simp only[List.map_cons,List.map_nil];rw[byte_eq (b:=c0) (by omega) (by omega) (by omega),byte_eq (b:=c1) (by omega) (by omega) (by omega),byte_eq (b:=c2) (by omega) (by omega) (by omega),byte_eq (b:=c3) (by omega) (by omega) (by omega)]
     ·intro h;exact absurd ⟨rfl,rfl⟩ h
    ·intro h;exact absurd ⟨rfl,rfl⟩ h
theorem isB_range' {c:Int} (h:isB c=true):0≤c∧c≤1114111:=by unfold isB at h;simp at h;omega
namespace Tp
def utfF:Nat→List UInt8→Option (List Int)
 | 0,_=>some []
 | n+1,l=>if l=[] then some [] else if (Lib.decodeL l).1=65533∧(Lib.decodeL l).2=1 then none else (utfF n (l.drop (Lib.decodeL l).2)).map (((Lib.decodeL l).1:Int)::·)
def utfP (l:List UInt8):Option (List Int):=utfF l.length l
end Tp
open Tp
theorem decL_at (l:List UInt8):Lib.decodeL l=Utf8.decode (bytesOf l) 0:=rfl
theorem decL_N (l:List UInt8):Lib.decodeL l=Lib.decodeN l.length (l[0]?.getD 0).toNat (l[1]?.getD 0).toNat (l[2]?.getD 0).toNat (l[3]?.getD 0).toNat:=by
 rw[decL_at,Lib.decode_at,bytesOf_size,bytesOf_get,bytesOf_get,bytesOf_get,bytesOf_get];rfl
theorem decL_pos {l:List UInt8} (h:l≠[]):1≤(Lib.decodeL l).2:=by
 rw[decL_N];unfold Lib.decodeN
 (repeat' split)<;>simp
theorem decL_enc {l:List UInt8} (hne:l≠[]) (h:¬ ((Lib.decodeL l).1=65533∧(Lib.decodeL l).2=1)) :
  isB ((Lib.decodeL l).1:Int)=true∧(Lib.decodeL l).2≤l.length∧l.take (Lib.decodeL l).2=Lib.encodeRune ((Lib.decodeL l).1:Int):=by
 have hl:=List.length_pos_iff.2 hne;rw[decL_at] at *
 have:=decode_enc' l 0 hl h;rw[Nat.zero_add,List.drop_zero] at this
 exact this
theorem decL_write (c:Int) (hc:isB c=true) (rest:List UInt8):Lib.decodeL (Lib.encodeRune c++rest)=(c.toNat,(Lib.encodeRune c).length):=by
 have hc':0≤c∧c≤1114111∧(c<55296∨57343<c):=by simpa [isB] using hc
 obtain⟨h0,h1,h2⟩:=hc'
 by_cases c1:c<128
 ·have e:Lib.encodeRune c=[c.toNat.toUInt8]:=by simp[Lib.encodeRune,Lib.encodeRuneZ_one h0 (by omega:c≤127)]
  rw[e];have g0:=b_of c h0 (by omega);generalize c.toNat.toUInt8=b0 at *
  rw[decL_N];unfold Lib.decodeN
  simp
  rw[if_pos (by omega),g0]
 ·by_cases c2:c<2048
  ·have e:Lib.encodeRune c=[(192+c / 64).toNat.toUInt8,(128+c % 64).toNat.toUInt8]:=by simp[Lib.encodeRune,Lib.encodeRuneZ_two (by omega:128≤c) (by omega)]
   rw[e];have g0:=b_of (192+c / 64) (by omega) (by omega);have g1:=b_of (128+c % 64) (by omega) (by omega);generalize (192+c / 64).toNat.toUInt8=b0 at *
   generalize (128+c % 64).toNat.toUInt8=b1 at *
   rw[decL_N];unfold Lib.decodeN
   simp
   rw[if_neg (by omega),if_pos (by omega),if_pos (by omega)]
   simp;omega
  ·by_cases c3:c<65536
   ·have e:Lib.encodeRune c=[(224+c / 4096).toNat.toUInt8,(128+c / 64 % 64).toNat.toUInt8,(128+c % 64).toNat.toUInt8]:=by simp[Lib.encodeRune,Lib.encodeRuneZ_three (r:=c) (by omega)]
    rw[e];have g0:=b_of (224+c / 4096) (by omega) (by omega);have g1:=b_of (128+c / 64 % 64) (by omega) (by omega);have g2:=b_of (128+c % 64) (by omega) (by omega);generalize (224+c / 4096).toNat.toUInt8=b0 at *
    generalize (128+c / 64 % 64).toNat.toUInt8=b1 at *
    generalize (128+c % 64).toNat.toUInt8=b2 at *
    rw[decL_N];unfold Lib.decodeN
    simp
    rw[if_neg (by omega),if_neg (by omega),if_pos (by omega),if_pos (by omega)]
    simp;omega
   ·have e:Lib.encodeRune c=[(240+c / 262144).toNat.toUInt8,(128+c / 4096 % 64).toNat.toUInt8,(128+c / 64 % 64).toNat.toUInt8,(128+c % 64).toNat.toUInt8]:=by simp[Lib.encodeRune,Lib.encodeRuneZ_four (by omega:65536≤c) (by omega)]
    rw[e];have g0:=b_of (240+c / 262144) (by omega) (by omega);have g1:=b_of (128+c / 4096 % 64) (by omega) (by omega);have g2:=b_of (128+c / 64 % 64) (by omega) (by omega);have g3:=b_of (128+c % 64) (by omega) (by omega);generalize (240+c / 262144).toNat.toUInt8=b0 at *
    generalize (128+c / 4096 % 64).toNat.toUInt8=b1 at *
    generalize (128+c / 64 % 64).toNat.toUInt8=b2 at *
    generalize (128+c % 64).toNat.toUInt8=b3 at *
    rw[decL_N];unfold Lib.decodeN
    simp
    rw[if_neg (by omega),if_neg (by omega),if_neg (by omega),if_pos (by omega),if_pos (by omega)]
    simp;omega
theorem utfF_fuel:∀ (n m:Nat) (l:List UInt8),l.length≤n→l.length≤m→utfF n l=utfF m l
 | 0,m,l,h,_=>by
  have:l=[]:=List.eq_nil_of_length_eq_zero (by omega);subst this
  cases m<;>simp[utfF]
 | n+1,0,l,_,h=>by
  have:l=[]:=List.eq_nil_of_length_eq_zero (by omega);subst this
  simp[utfF]
 | n+1,m+1,l,h1,h2=>by
  by_cases hl:l=[]
  ·subst hl;simp[utfF]
  ·have hp:=decL_pos hl
   have hlen:=List.length_pos_iff.2 hl;unfold utfF;rw[if_neg hl,if_neg hl,utfF_fuel n m (l.drop (Lib.decodeL l).2) (by rw[List.length_drop];omega) (by rw[List.length_drop];omega)]
theorem utfP_nil:utfP []=some []:=rfl
theorem utfP_step {l:List UInt8} (hl:l≠[]):utfP l=if (Lib.decodeL l).1=65533∧(Lib.decodeL l).2=1 then none else (utfP (l.drop (Lib.decodeL l).2)).map (((Lib.decodeL l).1:Int)::·):=by
 have hp:=decL_pos hl;have hlen:=List.length_pos_iff.2 hl;obtain⟨n,hn⟩:∃ n,l.length=n+1:=⟨l.length-1,by omega⟩;unfold utfP;rw[hn]
 conv=>lhs;unfold utfF
 rw[if_neg hl,utfF_fuel n (l.drop (Lib.decodeL l).2).length _ (by rw[List.length_drop];omega) (Nat.le_refl _)]
theorem utf_valid (l:List UInt8):Lib.validD l=(utfP l).isSome:=by
 have key:∀ n,∀ l:List UInt8,l.length≤n→Lib.validD l=(utfP l).isSome:=by
  intro n
  induction n with
  | zero =>
   intro l h;have:l=[]:=List.eq_nil_of_length_eq_zero (by omega)
   subst this;rfl
  | succ n ih =>
   intro l h
   by_cases hl:l=[]
   ·subst hl;rfl
   ·have hp:=decL_pos hl
    have hlen:=List.length_pos_iff.2 hl;rw[Lib.validD_step l hl,utfP_step hl]
    split
    ·rfl
    ·rw[ih _ (by rw[List.length_drop];omega),Option.isSome_map]
 exact key _ l (Nat.le_refl _)
theorem utf_write:∀ (cs:List Int),(∀ c∈cs,isB c=true)→utfP (writeP cs)=some cs
 | [],_=>by simp[writeP,utfP_nil]
 | c::cs,h=>by
  have hc:=h c (by simp);have hw:writeP (c::cs)=Lib.encodeRune c++writeP cs:=by simp[writeP]
  have hd:=decL_write c hc (writeP cs);have hr:=isB_range' hc;have hne:writeP (c::cs)≠[]:=by rw[hw];exact enc_ne c _
  have hlen:=(encode_len c).1;rw[utfP_step hne,hw,hd];simp only;rw[if_neg,List.drop_left,utf_write cs (fun d hd=>h d (by simp[hd]))]
  ·simp;omega
  ·rintro⟨e1,e2⟩
   have:c=65533:=by omega
   subst this
   exact absurd e2 (by decide)
theorem utf_some {l:List UInt8} {cs:List Int} (h:utfP l=some cs):l=writeP cs∧∀ c∈cs,isB c=true:=by
 have key:∀ n,∀ (l:List UInt8) (cs:List Int),l.length≤n→utfP l=some cs→l=writeP cs∧∀ c∈cs,isB c=true:=by
  intro n
  induction n with
  | zero =>
   intro l cs hl h;have:l=[]:=List.eq_nil_of_length_eq_zero (by omega);subst this;rw[utfP_nil] at h
   injection h with h;subst h
   exact⟨by simp[writeP],by simp⟩
  | succ n ih =>
   intro l cs hl h
   by_cases hne:l=[]
   ·subst hne
    rw[utfP_nil] at h
    injection h with h;subst h
    exact⟨by simp[writeP],by simp⟩
   ·have hp:=decL_pos hne
    have hlen:=List.length_pos_iff.2 hne;rw[utfP_step hne] at h
    split at h
    ·cases h
    ·rename_i hbad
     obtain⟨e1,e2,e3⟩:=decL_enc hne hbad
     cases hr:utfP (l.drop (Lib.decodeL l).2) with
     | none=>rw[hr] at h;cases h
     | some r =>
      rw[hr] at h;simp only[Option.map_some,Option.some.injEq] at h;subst h;obtain⟨f1,f2⟩:=ih _ r (by rw[List.length_drop];omega) hr;have hw:writeP (((Lib.decodeL l).1:Int)::r)=Lib.encodeRune ((Lib.decodeL l).1:Int)++writeP r:=by simp[writeP]
      refine⟨?_,fun c hc=>?_⟩
      ·rw[hw,← e3,← f1,List.take_append_drop]
      ·rcases List.mem_cons.1 hc with rfl | hc
       ·exact e1
       ·exact f2 c hc
 exact key _ l cs (Nat.le_refl _) h
end Go.Proofs.YtfhdihdafmahgaaGreatDoor
namespace Go.Proofs.YtfhdihdafmahgaaGreatDoor
open Go.RowKit Fx Go.Sort
namespace Fx
def dig (n:Nat):UInt8:=UInt8.ofNat (48+n)
def fracT (r:Nat):List UInt8 :=
 if r=0 then [] else 46::dig (r / 100)::((if 0<r % 100 then [dig (r / 10 % 10)] else [])++(if 0<r % 10 then [dig (r % 10)] else []))
def printN (a:Nat):List UInt8:=Lib.decDigits (a / 1000)++fracT (a % 1000)
def printP (n:Int):List UInt8:=(if stopZ n<0 then [45] else [])++printN (stopZ n).natAbs
end Fx
theorem dec_big {u:Nat} (h:10≤u):Lib.decDigits u=Lib.decDigits (u / 10)++[dig (u % 10)]:=by
 rw[Lib.decDigits,dif_neg (by omega)];rfl
theorem dec_small {u:Nat} (h:u<10):Lib.decDigits u=[dig u]:=by
 rw[Lib.decDigits,dif_pos h];rfl
theorem dec_thousand {r:Nat} (h:r<1000):Lib.decDigits (1000+r)=[49,dig (r / 100),dig (r / 10 % 10),dig (r % 10)]:=by
 rw[dec_big (by omega),dec_big (by omega),dec_big (by omega),dec_small (by omega)];have e1:(1000+r) / 10 / 10 / 10=1:=by omega
 have e2:(1000+r) / 10 / 10 % 10=r / 100:=by omega
 have e3:(1000+r) / 10 % 10=r / 10 % 10:=by omega
 have e4:(1000+r) % 10=r % 10:=by omega
 rw[e1,e2,e3,e4];rfl
theorem trim_frac:∀ r:Fin 1000,r.val≠0→46::Lib.trimRightB [dig (r.val / 100),dig (r.val / 10 % 10),dig (r.val % 10)] 48=fracT r.val:=by decide +kernel
theorem itoa_nat (a:Nat):Lib.itoa (a:Int)=Lib.decDigits a:=by
 unfold Lib.itoa;rw[if_neg (by omega)];rfl
theorem deci_len (a:Nat) (h:a<10000000000000):(Lib.decDigits a).length≤14:=by
 have key:∀ k a,a<10 ^ k→1≤k→(Lib.decDigits a).length≤k:=by
  intro k
  induction k with
  | zero=>intro a _ h;omega
  | succ k ih =>
   intro a ha _
   by_cases h10:a<10
   ·rw[dec_small h10];simp
   ·rw[dec_big (by omega),List.length_append]
    rw[Nat.pow_succ] at ha
    by_cases hk:k=0
    ·subst hk;omega
    ·have:=ih (a / 10) (by omega) (by omega)
     simp;omega
 have:=key 13 a (by omega) (by omega)
 omega
theorem fx_print_core (neg:Bool) (a:Nat) (n:Int) (w:World) (h1:-9223372036854775808≤n) (h2:n≤9223372036854775807) (hw:Env w) (ha:a≤1099511627776) (hs:stopZ n=if neg=true then -(a:Int) else (a:Int)) (hn:neg=true→0<a) :
  Calls Tryz.prog 112 #[.int .i64 n] w fun e w'=>e=.returned (.string (bytesOf ((if neg=true then [45] else [])++printN a)))∧Below w.heap.size w w':=by
 obtain⟨q,hq⟩:∃ q,a / 1000=q:=⟨_,rfl⟩;obtain⟨r,hr⟩:∃ r,a % 1000=r:=⟨_,rfl⟩;have hqb:q≤1099511627:=by omega
 have hrb:r<1000:=by omega
 have hdl:=deci_len q (by omega);have hdz:=bytesOf_size (Lib.decDigits q);have hqi:(a:Int).tdiv 1000=(q:Int):=by rw[Int.tdiv_eq_ediv_of_nonneg (by omega)];omega
 have hri:(a:Int).tmod 1000=(r:Int):=by rw[Int.tmod_eq_emod_of_nonneg (by omega)];omega
 have hqi2:(a:Int) / 1000=(q:Int):=by omega
 have hri2:(a:Int) % 1000=(r:Int):=by omega
 have Hs:=Lib.hid hs;have HP:=Lib.hid (show printN a=Lib.decDigits q++fracT r by unfold printN;rw[hq,hr]);clear hs hq hr
 cases neg with
 | true =>
  have hp:=hn rfl;simp only[if_true] at Hs
  go_enter Tryz.func112,Tryz.ntmps112
  go_wp2_with fail
  refine(fx_stop n w h1 h2).mono ?_
  rintro e w1 ⟨rfl,rfl⟩;rw[Hs.out]
  go_wp2_with fail
  refine(Tryz.strconv_Itoa (q:Int) (by omega) (by omega) _ hw.pow).mono ?_
  rintro e w2 ⟨rfl,k,os,rfl⟩;rw[itoa_nat,show (⟨(Lib.decDigits q).toArray⟩:ByteArray)=bytesOf (Lib.decDigits q) from rfl];have hb2:=Lib.below_grow w.heap.size w (Nat.le_refl _) k os;have hw2:=hw.below hb2;generalize grow (w.drewN k) os=W2 at *
  by_cases hr0:r=0
  ·have hz:((r:Int) == 0)=true:=by simp;omega
   have hf:fracT r=[]:=by rw[hr0];rfl
   have HF:=Lib.hid hf;clear hf hr0
   go_wp2
   go_ret
   exact⟨congrArg (fun b=>Ending.returned (Value.string b)) (by rw[HP.out,HF.out,List.append_nil];exact bytesOf_append [45] _),hb2⟩
  ·have hz:((r:Int) == 0)=false:=by simp;omega
   have hf:=trim_frac ⟨r,hrb⟩ hr0;have HF:=Lib.hid hf;have hsl:=str_from (P:=Tryz.prog) (T:=9) Tryz.underlying9 [49,dig (r / 100),dig (r / 10 % 10),dig (r % 10)] .i64 1 (by simp);have hcast:((1:Nat):Int)=1:=rfl;rw[hcast] at hsl;have hsz:=bytesOf_size [49,dig (r / 100),dig (r / 10 % 10),dig (r % 10)]
   have hTl:(Lib.trimRightB [dig (r / 100),dig (r / 10 % 10),dig (r % 10)] 48).length≤3:=by
    unfold Lib.trimRightB;rw[List.length_reverse]
    exact Nat.le_trans (List.dropWhile_suffix _).length_le (by simp)
   obtain⟨T,hT⟩:∃ T,Lib.trimRightB [dig (r / 100),dig (r / 10 % 10),dig (r % 10)] 48=T:=⟨_,rfl⟩;rw[hT] at hTl;have HT:=Lib.hid hT;have hsT:=bytesOf_size T;clear hf hT
   go_wp2_with fail
   refine(Tryz.strconv_Itoa (1000+(r:Int)) (by omega) (by omega) _ hw2.pow).mono ?_
   rintro e w3 ⟨rfl,k2,os2,rfl⟩;rw[show (1000+(r:Int))=((1000+r:Nat):Int) from by omega,itoa_nat,dec_thousand hrb];rw[show (⟨[49,dig (r / 100),dig (r / 10 % 10),dig (r % 10)].toArray⟩:ByteArray)=bytesOf [49,dig (r / 100),dig (r / 10 % 10),dig (r % 10)] from rfl];have hb3:=hb2.trans ((Lib.below_grow W2.heap.size W2 (Nat.le_refl _) k2 os2).mono hb2.size);generalize grow (W2.drewN k2) os2=W3 at *
   go_wp2_with fail
   refine(Tryz.strings_TrimRight_one _ 48 (by decide) _ (by rw[bytesOf_size];simp)).mono ?_
   rintro e w4 ⟨rfl,rfl⟩;rw[bytesOf_list,HT.out,show (⟨T.toArray⟩:ByteArray)=bytesOf T from rfl]
   go_wp2
   go_ret
   refine⟨congrArg (fun b=>Ending.returned (Value.string b)) ?_,hb3⟩
   have h9:=HF.out;rw[HP.out,← h9,HT.out]
   show bytesOf [45]++bytesOf (Lib.decDigits q)++bytesOf [46]++bytesOf T=_
   rw[bytesOf_append,bytesOf_append,bytesOf_append]
   simp
 | false =>
  simp only[Bool.false_eq_true,if_false] at Hs
  go_enter Tryz.func112,Tryz.ntmps112
  go_wp2_with fail
  refine(fx_stop n w h1 h2).mono ?_
  rintro e w1 ⟨rfl,rfl⟩;rw[Hs.out]
  go_wp2_with fail
  refine(Tryz.strconv_Itoa (q:Int) (by omega) (by omega) _ hw.pow).mono ?_
  rintro e w2 ⟨rfl,k,os,rfl⟩;rw[itoa_nat,show (⟨(Lib.decDigits q).toArray⟩:ByteArray)=bytesOf (Lib.decDigits q) from rfl];have hb2:=Lib.below_grow w.heap.size w (Nat.le_refl _) k os;have hw2:=hw.below hb2;generalize grow (w.drewN k) os=W2 at *
  by_cases hr0:r=0
  ·have hz:((r:Int) == 0)=true:=by simp;omega
   have hf:fracT r=[]:=by rw[hr0];rfl
   have HF:=Lib.hid hf;clear hf hr0
   go_wp2
   go_ret
   exact⟨congrArg (fun b=>Ending.returned (Value.string b)) (by rw[HP.out,HF.out,List.append_nil];exact bytesOf_append [] _),hb2⟩
  ·have hz:((r:Int) == 0)=false:=by simp;omega
   have hf:=trim_frac ⟨r,hrb⟩ hr0;have HF:=Lib.hid hf;have hsl:=str_from (P:=Tryz.prog) (T:=9) Tryz.underlying9 [49,dig (r / 100),dig (r / 10 % 10),dig (r % 10)] .i64 1 (by simp);have hcast:((1:Nat):Int)=1:=rfl;rw[hcast] at hsl;have hsz:=bytesOf_size [49,dig (r / 100),dig (r / 10 % 10),dig (r % 10)]
   have hTl:(Lib.trimRightB [dig (r / 100),dig (r / 10 % 10),dig (r % 10)] 48).length≤3:=by
    unfold Lib.trimRightB;rw[List.length_reverse]
    exact Nat.le_trans (List.dropWhile_suffix _).length_le (by simp)
   obtain⟨T,hT⟩:∃ T,Lib.trimRightB [dig (r / 100),dig (r / 10 % 10),dig (r % 10)] 48=T:=⟨_,rfl⟩;rw[hT] at hTl;have HT:=Lib.hid hT;have hsT:=bytesOf_size T;clear hf hT
   go_wp2_with fail
   refine(Tryz.strconv_Itoa (1000+(r:Int)) (by omega) (by omega) _ hw2.pow).mono ?_
   rintro e w3 ⟨rfl,k2,os2,rfl⟩;rw[show (1000+(r:Int))=((1000+r:Nat):Int) from by omega,itoa_nat,dec_thousand hrb];rw[show (⟨[49,dig (r / 100),dig (r / 10 % 10),dig (r % 10)].toArray⟩:ByteArray)=bytesOf [49,dig (r / 100),dig (r / 10 % 10),dig (r % 10)] from rfl];have hb3:=hb2.trans ((Lib.below_grow W2.heap.size W2 (Nat.le_refl _) k2 os2).mono hb2.size);generalize grow (W2.drewN k2) os2=W3 at *
   go_wp2_with fail
   refine(Tryz.strings_TrimRight_one _ 48 (by decide) _ (by rw[bytesOf_size];simp)).mono ?_
   rintro e w4 ⟨rfl,rfl⟩;rw[bytesOf_list,HT.out,show (⟨T.toArray⟩:ByteArray)=bytesOf T from rfl]
   go_wp2
   go_ret
   refine⟨congrArg (fun b=>Ending.returned (Value.string b)) ?_,hb3⟩
   have h9:=HF.out;rw[HP.out,← h9,HT.out]
   show bytesOf []++bytesOf (Lib.decDigits q)++bytesOf [46]++bytesOf T=_
   rw[bytesOf_append,bytesOf_append,bytesOf_append]
   simp
theorem stop_form (n:Int):∃ (neg:Bool) (a:Nat),a≤1099511627776∧stopZ n=(if neg=true then -(a:Int) else (a:Int))∧(neg=true→0<a)∧printP n=(if neg=true then [45] else [])++printN a:=by
 obtain⟨h1,h2⟩:=stopZ_range n
 by_cases h:stopZ n<0
 ·exact⟨true,(stopZ n).natAbs,by omega,by simp;omega,fun _=>by omega,by unfold printP;rw[if_pos h];rfl⟩
 ·exact⟨false,(stopZ n).natAbs,by omega,by simp;omega,fun h=>by simp at h,by unfold printP;rw[if_neg h];rfl⟩
theorem fx_print (n:Int) (w:World) (h1:-9223372036854775808≤n) (h2:n≤9223372036854775807) (hw:Env w) :
  Calls Tryz.prog 112 #[.int .i64 n] w fun e w'=>e=.returned (.string (bytesOf (printP n)))∧Below w.heap.size w w':=by
 obtain⟨neg,a,ha,hs,hn,hp⟩:=stop_form n;rw[hp]
 exact fx_print_core neg a n w h1 h2 hw ha hs hn
end Go.Proofs.YtfhdihdafmahgaaGreatDoor
namespace Go.Proofs.YtfhdihdafmahgaaGreatDoor
open Go.RowKit Rn
namespace Tp
def hexd (k:Nat):UInt8:=UInt8.ofNat (if k<10 then 48+k else 87+k)
def hexT (n:Nat):List UInt8:=if h:n<16 then [hexd n] else hexT (n / 16)++[hexd (n % 16)]
termination_by n
decreasing_by exact Nat.div_lt_self (by omega) (by omega)
def escP (c:Int):List UInt8:=92::(hexT c.toNat++[32])
def needB (c:Int) (first only e:Bool):Bool:=!withinB c || (first && digitB c) || only || (e && decide (c=101∨c=69))
def partP (c:Int) (b:Bool):List UInt8:=if b=true then escP c else Lib.encodeRune c
def nameF (l:List Int) (dim:Bool):Nat→List Int→List UInt8
 | _,[]=>[]
 | i,c::r=>partP c (needB c (decide (i=0∨i=1∧l[0]?=some 45)) (decide (l=[45])) (dim && decide (i=0)))++nameF l dim (i+1) r
def nameP (l:List Int) (dim:Bool):List UInt8:=nameF l dim 0 l
def quoteB (c:Int):Bool:=decide (c=34∨c=92∨c=10∨c=12∨c=13)
def quotedP (l:List Int):List UInt8:=34::l.flatMap (fun c=>partP c (quoteB c))
def delimB (c:Int):Bool:=!whiteB c && !beginsB c && !digitB c && decide (c≠34∧c≠39∧c≠40∧c≠41∧c≠91∧c≠93∧c≠123∧c≠125∧c≠58∧c≠59∧c≠44∧c≠12∧c≠13)
def kindB (k:Int) (l:List Int):Bool :=
 if (2≤k∧k≤5)∨k=10 then decide (l≠[])
 else if k=6∨k=7 then true
 else if k=11 then (match l with | [c]=>delimB c | _=>false)
 else if k=12 then decide (l=[40]∨l=[91]∨l=[123])
 else if k=13 then decide (l=[41]∨l=[93]∨l=[125])
 else decide (1≤k∧k≤16∧l=[])
def numOk (k n:Int):Bool:=decide (Fx.stopZ n=n∧((8≤k∧k≤10)∨n=0))
def oneB (t:GTok):Bool:=match utfP t.text with
 | none=>false
 | some l=>decide ((0:Int)∉l) && numOk t.kind t.n && kindB t.kind l
def tokenP (t:GTok):List UInt8 :=
 if oneB t=true then
  let l:=(utfP t.text).getD []
  let k:=t.kind
  if k=1 then [10] else if k=2 then nameP l false else if k=3 then nameP l false++[40] else if k=4 then 64::nameP l false else if k=5 then 35::nameP l false
  else if k=6 then quotedP l++[34] else if k=7 then quotedP l
  else if k=8 then Fx.printP t.n else if k=9 then Fx.printP t.n++[37] else if k=10 then Fx.printP t.n++nameP l true
  else if k=14 then [58] else if k=15 then [59] else if k=16 then [44] else t.text
 else []
def pairsB:List GTok→Bool
 | []=>true
 | [t]=>oneB t && decide (t.kind≠7)
 | t::u::l=>oneB t && !(decide (t.kind=1) && decide (u.kind=1)) && !(decide (t.kind=7) && decide (u.kind≠1)) && !(decide (t.kind=11) && decide (t.text=[92]) && decide (u.kind≠1)) && pairsB (u::l)
def rightB (l:List GTok):Bool:=pairsB l && decide (l.length≤16384)
def apartB (a b:Int):Bool:=decide (a≠1∧a≠3∧a≠12∧a≠13∧a≠6∧a≠14∧a≠15∧a≠16∧b≠1∧b≠13∧b≠6∧b≠14∧b≠15∧b≠16)
def joinP:List GTok→List UInt8
 | []=>[]
 | [t]=>tokenP t
 | t::u::l=>tokenP t++((if apartB t.kind u.kind=true then [47,42,42,47] else [])++joinP (u::l))
def printL (l:List GTok):List UInt8:=if rightB l=true then joinP l else []
end Tp
end Go.Proofs.YtfhdihdafmahgaaGreatDoor
namespace Go.Proofs.YtfhdihdafmahgaaGreatDoor
open Go.RowKit Rn Tk
def Chars (l:List Int):Prop:=∀ c∈l,isB c=true
theorem isB_range {c:Int} (h:isB c=true):0≤c∧c≤1114111:=by unfold isB at h;simp at h;omega
theorem pk_range {l:List Int} (h:Chars l) (m:Nat):-1≤pk l m∧pk l m≤1114111:=by
 unfold pk
 cases hm:l[m]? with
 | none=>simp
 | some c=>have:=isB_range (h c (List.mem_of_getElem? hm));simp;omega
theorem pk_is {l:List Int} (h:Chars l) {m:Nat} (hm:m<l.length):isB (pk l m)=true:=by
 unfold pk;rw[List.getElem?_eq_getElem hm];exact h _ (List.getElem_mem hm)
theorem pk_pos {l:List Int} {m:Nat} (hm:-1<pk l m):m<l.length:=by
 unfold pk at hm
 cases hx:l[m]? with
 | none=>rw[hx] at hm;simp at hm
 | some c=>exact(List.getElem?_eq_some_iff.1 hx).1
theorem Chars.drop {l:List Int} (h:Chars l) (k:Nat):Chars (l.drop k):=fun c hc=>h c (List.mem_of_mem_drop hc)
theorem Chars.tail {l:List Int} (h:Chars l):Chars l.tail:=fun c hc=>h c (List.mem_of_mem_tail hc)
theorem hexI_range (c:Int):-1≤hexI c∧hexI c≤15:=by unfold hexI;(repeat' split)<;>omega
theorem hexI_pos {c:Int} (h:0≤hexI c):48≤c:=by unfold hexI at h;(repeat' split at h)<;>omega
theorem hexes_yes {f n:Nat} {r:List Int} (h:0≤hexI (pk r 0)):hexes (f+1) n r=hexes f (16 * n+(hexI (pk r 0)).toNat) r.tail:=by rw[hexes,if_pos h]
theorem hexes_no {f n:Nat} {r:List Int} (h:hexI (pk r 0)<0):hexes f n r=(n,r):=by cases f<;>unfold hexes<;>simp;omega
theorem tk_meant {w:World} {B S P n cap k:Nat} {A:Option Addr} {l:List Int} (h:At w B S P A n cap l k) (hch:Chars l) (hk1:k+1<n) :
  Calls Tryz.prog 123 #[.pointer (some ⟨S,0,none⟩)] w fun e w'=>e=.returned (.int .i32 (meantT (l.drop (k+1))).1)∧Mv P w w'∧∃ k',k+1<k'∧l.drop k'=(meantT (l.drop (k+1))).2∧At w' B S P A n cap l k':=by
 have hlen:=h.len;have hn:=h.hn;have hr:=fun j m=>pk_range (hch.drop j) m
 obtain⟨M,hM⟩:∃ M,meantT (l.drop (k+1))=M:=⟨_,rfl⟩;rw[hM];have HM:=Lib.hid hM;have Hch:=Lib.hid hch;have Hr:=Lib.hid hr;clear hM hch hr;have a1:=h.s0;have a2:=h.p0;have a3:=h.p1;have a4:=h.fz;have h1:=h.store (k':=k+1) (by omega);have m1:=Mv.store w P (.int .i64 ((k+1:Nat):Int));rw[Int.natCast_add] at h1 m1
 go_enter Tryz.func123,Tryz.ntmps123
 go_upto_block 0 with (fail)
 go_cut [3,4] (fun x y wx=>∃ (i N j:Nat),i≤6∧Hid (j=k+1+i)∧Hid (hexes 6 0 (l.drop (k+1))=(N,l.drop j))∧N≤16777215∧(0<i→0≤hexI (pk (l.drop (k+1)) 0))∧(i=0→hexI (pk (l.drop (k+1)) 0)<0)∧At wx B S P A n cap l j∧Mv P w wx∧x=.int .i64 (N:Int)∧y=.int .i64 (i:Int))
 case first =>
  go_wp2_with fail
  go_loopw [3,4] (fun x y wr=>∃ (i N j:Nat),i≤6∧Hid (j=k+1+i)∧Hid (hexes (6-i) N (l.drop j)=hexes 6 0 (l.drop (k+1)))∧N<16 ^ i∧(0<i→0≤hexI (pk (l.drop (k+1)) 0))∧At wr B S P A n cap l j∧Mv P w wr∧x=.int .i64 (N:Int)∧y=.int .i64 (i:Int)) (fun _ y _=>6-(intOf y).toNat)
  case atStart=>exact⟨0,0,k+1,by omega,rfl,rfl,by omega,by omega,h1,m1,rfl,rfl⟩
  case round =>
   obtain⟨i,N,j,hi,hj,hrun,hN,hpos,hat,hmv,rfl,rfl⟩:=hrel;have b1:=hat.s0
   by_cases hi6:i<6
   ·have hp:=tk_peek 0 hat (by omega)
    obtain⟨c,hc⟩:∃ c,pk (l.drop j) 0=c:=⟨_,rfl⟩;have hcr:=Hr.out j 0;rw[hc] at hcr hp;have hxr:=hexI_range c;have hN5:N<1048576:=Nat.lt_of_lt_of_le hN (Nat.pow_le_pow_right (n:=16) (by omega) (show i≤5 by omega))
    by_cases hx:0≤hexI c
    ·have hjn:j<n:=by
      have h48:=hexI_pos hx;have:=pk_pos (l:=l.drop j) (m:=0) (by rw[hc];omega);rw[List.length_drop] at this;omega
     have hfirst:0≤hexI (pk (l.drop (k+1)) 0):=by
      by_cases h0:i=0
      ·have:j=k+1:=by have:=hj.out;omega
       rw[← this,hc];exact hx
      ·exact hpos (by omega)
     have hnew:hexes (6-(i+1)) (16 * N+(hexI c).toNat) (l.drop (j+1))=hexes 6 0 (l.drop (k+1)):=by
      rw[← hrun.out,show 6-i=(6-(i+1))+1 by omega,hexes_yes (by rw[hc];exact hx),hc,List.tail_drop]
     obtain⟨x,hxe⟩:∃ x:Nat,hexI c=(x:Int):=⟨(hexI c).toNat,by omega⟩;have hxx:(hexI c).toNat=x:=by omega
     rw[hxx] at hnew;have Hnew:=Lib.hid hnew;have Hx:=Lib.hid hxe;have hx15:x≤15:=by omega
     have hNn:16 * N+x<16 ^ (i+1):=by rw[Nat.pow_succ];omega
     have hdx:decide ((0:Int)≤(x:Int))=true:=by simp
     clear hnew hxe hxx hx
     go_wp2_with fail
     refine hp.mono ?_
     rintro e w1 ⟨rfl,g1⟩;have hat1:=hat.mv g1
     go_wp2_with fail
     refine(rn_hex c w1 (by omega)).mono ?_
     rintro e w2 ⟨rfl,g2⟩;rw[Hx.out];have hat2:=hat1.mv (below_grown g2);have mv2:Mv P w w2:=(hmv.trans (Mv.of g1)).trans (Mv.of (below_grown g2));have b2:=hat2.s0;have hp2:=tk_peek 0 hat2 (by omega);rw[hc] at hp2
     go_wp2_with fail
     refine hp2.mono ?_
     rintro e w3 ⟨rfl,g3⟩;have hat3:=hat2.mv g3
     go_wp2_with fail
     refine(rn_hex c w3 (by omega)).mono ?_
     rintro e w4 ⟨rfl,g4⟩;rw[Hx.out];have hat4:=hat3.mv (below_grown g4);have mv4:Mv P w w4:=(mv2.trans (Mv.of g3)).trans (Mv.of (below_grown g4));have b4:=hat4.s0;have c4:=hat4.p1;have d4:=hat4.fz;have e4:=hat4.p0;have h5:=hat4.store (k':=j+1) (by omega);have m5:=mv4.trans (Mv.store w4 P (.int .i64 ((j+1:Nat):Int)));rw[Int.natCast_add] at h5 m5
     go_wp2_with fail
     go_roundw
     case rel=>exact⟨i+1,16 * N+x,j+1,by omega,(by have:=hj.out;show _=_;omega),Hnew,hNn,fun _=>hfirst,h5,m5,congrArg (Value.int IntKind.i64) (by omega),congrArg (Value.int IntKind.i64) (by omega)⟩
     case measure=>simp[intOf];omega
    ·have hneg:hexI c<0:=by omega
     have hx1:hexI c=-1:=by omega
     have hdx:decide ((0:Int)≤hexI c)=false:=by simpa using hneg
     have hend:hexes 6 0 (l.drop (k+1))=(N,l.drop j):=by rw[← hrun.out,hexes_no (by rw[hc];exact hneg)]
     have Hend:=Lib.hid hend;have hN9:N≤16777215:=by omega
     have hz:i=0→hexI (pk (l.drop (k+1)) 0)<0:=by
      intro h0;have:j=k+1:=by have:=hj.out;omega
      rw[← this,hc];exact hneg
     clear hend
     go_wp2_with fail
     refine hp.mono ?_
     rintro e w1 ⟨rfl,g1⟩;have hat1:=hat.mv g1
     go_wp2_with fail
     refine(rn_hex c w1 (by omega)).mono ?_
     rintro e w2 ⟨rfl,g2⟩;have hat2:=hat1.mv (below_grown g2);have mv2:Mv P w w2:=(hmv.trans (Mv.of g1)).trans (Mv.of (below_grown g2))
     go_wp2_with fail
     go_meet
     exact⟨i,N,j,hi,hj,Hend,hN9,hpos,hz,hat2,mv2,rfl,rfl⟩
   ·obtain rfl:i=6:=by omega
    have hend:hexes 6 0 (l.drop (k+1))=(N,l.drop j):=by rw[← hrun.out];rfl
    have Hend:=Lib.hid hend;have hN9:N≤16777215:=by omega
    clear hend
    go_wp2_with fail
    go_meet
    exact⟨6,N,j,by omega,hj,Hend,hN9,hpos,by omega,hat,hmv,rfl,rfl⟩
 case rest =>
  obtain⟨i,N,j,hi,hj,Hend,hN,hpos,hz,hat,hmv,rfl,rfl⟩:=hcut;clear a1 a2 a3 a4 h1 m1;have a1:=hat.s0;have a2:=hat.p0;have a3:=hat.p1;have a4:=hat.fz;have hjn:=hat.hk
  by_cases h0:i=0
  ·obtain rfl:j=k+1:=by have:=hj.out;omega
   clear hj;have hneg:=hz h0;have hm:M=(pk (l.drop (k+1)) 0,(l.drop (k+1)).tail):=by rw[← HM.out];unfold meantT;rw[if_pos hneg]
   have hbz:((i:Int) == 0)=true:=by simp;omega
   have h5:=hat.store (k':=k+1+1) (by omega);have m5:=hmv.trans (Mv.store wc P (.int .i64 ((k+1+1:Nat):Int)))
   push_cast at h5 m5 a3
   obtain⟨b,off,hA,_,hcell'⟩:=h5.rd.open_ (by omega);subst hA;have hcell5:=hcell' (k+1) (.int .i32 (pk (l.drop (k+1)) 0)) (by rw[List.getElem?_map,show k+1=k+1+0 from rfl,pk_at (by omega)];rfl);have hM1:M.1=pk (l.drop (k+1)) 0:=by rw[hm]
   have hM2:M.2=l.drop (k+2):=by rw[hm,List.tail_drop]
   have HM1:=Lib.hid hM1;have HM2:=Lib.hid hM2;have x1:(0:Int)≤(k:Int)+1:=by omega
   have x2:(k:Int)+1<(n:Int):=by omega
   have x3:((k:Int)+1).toNat=k+1:=by omega
   have y1:=h5.s0;have y2:=h5.p0;have y3:=h5.p1
   push_cast at y3
   clear hm hM1 hM2 h0 hneg hcell' hz hpos Hend HM;generalize pk (l.drop (k+1)) 0=c at *
   go_wp2_with fail
   go_quiet (fail)
   go_wp2
   go_ret
   refine⟨by rw[HM1.out];rfl,m5.trans (Mv.of (grown_drewN _ _)),k+2,by omega,by rw[HM2.out],h5.mv (grown_drewN _ _)⟩
  ·have hfst:=hpos (by omega)
   obtain⟨c,hc⟩:∃ c,pk (l.drop j) 0=c:=⟨_,rfl⟩;have hcr:=Hr.out j 0;have hp:=tk_peek 0 hat (by omega);rw[hc] at hcr hp;have hM1:M.1=numC' N:=by rw[← HM.out];unfold meantT;rw[if_neg (by omega),Hend.out]
   have hM2:M.2=if whiteB c=true then l.drop (j+1) else l.drop j:=by
    rw[← HM.out];unfold meantT;rw[if_neg (by omega),Hend.out];simp only[hc,List.tail_drop]
   have hjk:k+1<j:=by have:=hj.out;omega
   have hbz:((i:Int) == 0)=false:=by simp;omega
   have HM1:=Lib.hid hM1;have HM2:=Lib.hid hM2;have Hc:=Lib.hid hc;clear hM1 hM2 hfst hz hpos Hend HM hc
   go_upto_if 81 with (first | (go_at_call 56;refine hp.mono ?_;rintro e w1 ⟨rfl,g1⟩) | (go_at_call 85;refine(rn_white c _).mono ?_;rintro e w2 ⟨rfl,rfl⟩))
   have hat1:=hat.mv g1;have mv1:Mv P w w1:=hmv.trans (Mv.of g1)
   go_cut [3] (fun x wx=>x=.int .i64 (N:Int)∧∃ k',k+1<k'∧Hid (l.drop k'=M.2)∧At wx B S P A n cap l k'∧Mv P w wx)
   case first =>
    cases hwt:whiteB c with
    | true =>
     have hjl:j<n:=by
      have hpos:-1<pk (l.drop j) 0:=by
       rw[Hc.out];unfold whiteB at hwt;simp at hwt;omega
      have:=pk_pos hpos;rw[List.length_drop] at this;omega
     have b1:=hat1.s0;have b2:=hat1.p0;have b3:=hat1.p1;have b4:=hat1.fz;have h5:=hat1.store (k':=j+1) (by omega);have m5:=mv1.trans (Mv.store w1 P (.int .i64 ((j+1:Nat):Int)))
     push_cast at h5 m5
     go_wp2_with fail
     go_meet
     exact⟨rfl,j+1,by omega,(by show _=_;rw[HM2.out,if_pos hwt]),h5,m5⟩
    | false =>
     go_wp2_with fail
     go_meet
     exact⟨rfl,j,hjk,(by show _=_;rw[HM2.out,if_neg (by rw[hwt];simp)]),hat1,mv1⟩
   case rest =>
    obtain⟨rfl,k',hk',hd,hat',hmv'⟩:=hcut
    by_cases hN0:N=0
    ·have hM1':M.1=65533:=by rw[HM1.out];unfold numC';rw[if_pos (.inl hN0)]
     have H1:=Lib.hid hM1';have hz0:((N:Int) == 0)=true:=by simp;omega
     clear hM1' hN0;generalize (N:Int)=z at *
     go_wp2
     go_ret
     exact⟨by rw[H1.out];rfl,hmv',k',hk',hd.out,hat'⟩
    ·have hz0:((N:Int) == 0)=false:=by simp;omega
     cases hB:isB (N:Int) with
     | true =>
      have hM1':M.1=N:=by rw[HM1.out];unfold numC';rw[if_neg (by simp[hN0,hB])]
      have H1:=Lib.hid hM1';clear hM1'
      go_wp2_with fail
      refine(rn_is (N:Int) _).mono ?_
      rintro e w9 ⟨rfl,rfl⟩;rw[hB]
      go_wp2
      go_ret
      exact⟨by rw[H1.out];rfl,hmv',k',hk',hd.out,hat'⟩
     | false =>
      have hM1':M.1=65533:=by rw[HM1.out];unfold numC';rw[if_pos (.inr hB)]
      have H1:=Lib.hid hM1';clear hM1'
      go_wp2_with fail
      refine(rn_is (N:Int) _).mono ?_
      rintro e w9 ⟨rfl,rfl⟩;rw[hB]
      go_wp2
      go_ret
      exact⟨by rw[H1.out];rfl,hmv',k',hk',hd.out,hat'⟩
section
variable {w w' w1 w2:World} {B S P n cap k:Nat} {A:Option Addr} {l:List Int} {row:Option Nat}
theorem At.grown (h:At w B S P A n cap l k) (hg:w.grownBy w' row) (hr:∀ g,row=some g→S<g):At w' B S P A n cap l k:=by
 have hS:=h.hS;have hP:=h.hPS;have hBP:=h.hB;have ne:∀ b,b≤S→some b≠row:=fun b hb e=>by have:=hr b e.symm;omega
 have key:∀ p:Addr,p.block≤S→w'.cell? p=w.cell? p:=fun p hp=>hg.cell_far p (by omega) (ne _ hp)
 exact { s0:=(key _ (Nat.le_refl _)).trans h.s0,p0:=(key _ (Nat.le_of_lt hP)).trans h.p0,p1:=(key _ (Nat.le_of_lt hP)).trans h.p1,fz:=(hg.frozen_far _ (by simp only[];omega) (ne _ (Nat.le_of_lt hP))).trans h.fz,rd:=h.rd.keep fun p hp=>key p (by omega),hB:=h.hB,hPS:=h.hPS,hS:=Nat.lt_of_lt_of_le hS hg.size,hk:=h.hk,hn:=h.hn,hc:=h.hc,hm:=h.hm }
theorem Mv.push {o:Obj} {e:TypeId} {size m:Nat} {v:Value} {xs:List Value} (h:Mv P w w1) (hown:w1.ownsRow w.heap.size e size v m xs) (hg:(w1.alloc o).grownBy w2 v.ownBlock):Mv P w w2 :=
 (h.trans (Mv.of (World.grownBy_alloc _ _ _))).andThen hg fun j hj=>.inl (hown.lt j hj).1
theorem At.push {o:Obj} {e:TypeId} {size m base:Nat} {v:Value} {xs:List Value} (h:At w1 B S P A n cap l k) (hS:S<base) (hown:w1.ownsRow base e size v m xs) (hg:(w1.alloc o).grownBy w2 v.ownBlock):At w2 B S P A n cap l k :=
 (h.mv (World.grownBy_alloc _ _ _)).grown hg fun g hgr=>Nat.lt_of_lt_of_le hS (hown.lt g hgr).1
theorem own_mv {e:TypeId} {size m base:Nat} {v:Value} {xs:List Value} (h:w.ownsRow base e size v m xs) (hP:P<base) (hm:Mv P w w'):w'.ownsRow base e size v m xs:=by
 refine h.kept hm ?_
 cases hb:v.ownBlock with
 | none=>exact .inl rfl
 | some g=>refine .inr ?_;intro hg;injection hg with hg;have:=(h.lt g hb).1;omega
end
def posOf (P:Nat) (w:World):Nat:=match w.cell? ⟨P,1,none⟩ with
 | some (.int _ z)=>z.toNat
 | _=>0
theorem At.pos {w:World} {B S P n cap k:Nat} {A:Option Addr} {l:List Int} (h:At w B S P A n cap l k):posOf P w=k:=by
 unfold posOf;rw[h.p1];simp
theorem rune_info:(Tryz.prog.info? 21).map (fun i=>(i.zero,i.size,i.bytes))=some (some (.int .i32 0),1,4):=by kernel_rfl
theorem info_got {o:Option TypeInfo} {z:Value} {s b:Nat} (h:o.map (fun i=>(i.zero,i.size,i.bytes))=some (some z,s,b)):∃ i,o=some i∧i.zero=some z∧i.size=s∧i.bytes=b:=by
 cases o with
 | none=>cases h
 | some i=>simp at h;exact⟨i,rfl,h.1,h.2.1,h.2.2⟩
theorem nameT_esc {r:List Int} (h:esc r=true):nameT r=((meantT r.tail).1::(nameT (meantT r.tail).2).1,(nameT (meantT r.tail).2).2):=by rw[nameT,dif_pos h]
theorem nameT_in {r:List Int} (h:esc r=false) (h2:withinB (pk r 0)=true):nameT r=(pk r 0::(nameT r.tail).1,(nameT r.tail).2):=by rw[nameT,dif_neg (by simp[h]),dif_pos h2]
theorem nameT_end {r:List Int} (h:esc r=false) (h2:withinB (pk r 0)=false):nameT r=([],r):=by rw[nameT,dif_neg (by simp[h]),dif_neg (by simp[h2])]
theorem meantT_is {r:List Int} (h:Chars r) (hne:r≠[]):isB (meantT r).1=true:=by
 unfold meantT
 split
 ·exact pk_is h (List.length_pos_iff.2 hne)
 ·simp only[numC']
  split
  ·decide
  ·rename_i hx;simp at hx;exact hx.2
theorem hexes_drop (f:Nat):∀ n r,∃ j,(hexes f n r).2=r.drop j:=by
 induction f with
 | zero=>intro n r;exact⟨0,rfl⟩
 | succ f ih =>
  intro n r;unfold hexes
  split
  ·obtain⟨j,hj⟩:=ih (16 * n+(hexI (pk r 0)).toNat) r.tail
   exact⟨j+1,by rw[hj,← List.drop_one,List.drop_drop,Nat.add_comm]⟩
  ·exact⟨0,rfl⟩
theorem meantT_drop (r:List Int):∃ j,(meantT r).2=r.drop j:=by
 unfold meantT
 split
 ·exact⟨1,by simp⟩
 ·obtain⟨j,hj⟩:=hexes_drop 6 0 r
  simp only[]
  split
  ·exact⟨j+1,by rw[hj,← List.drop_one,List.drop_drop]⟩
  ·exact⟨j,hj⟩
theorem nameT_is (r:List Int) (h:Chars r):Chars (nameT r).1∧(nameT r).1.length≤r.length:=by
 fun_induction nameT r with
 | case1 r he ih =>
  obtain⟨j,hj⟩:=meantT_drop r.tail;have hlt:=meant_lt (esc_ne he);have h2:Chars (meantT r.tail).2:=by rw[hj];exact h.tail.drop j
  obtain⟨i1,i2⟩:=ih h2
  refine⟨?_,by simp only[List.length_cons];omega⟩
  intro c hc
  rcases List.mem_cons.1 hc with rfl | hc
  ·refine meantT_is h.tail ?_
   intro h0;unfold esc at he;have:=(of_decide_eq_true he).2.1;rw[← pk_tail,h0,pk_nil] at this;omega
  ·exact i1 c hc
 | case2 r he hw ih =>
  have hne:=within_ne hw;obtain⟨i1,i2⟩:=ih h.tail;have:=tail_lt hne
  refine⟨?_,by simp only[List.length_cons];omega⟩
  intro c hc
  rcases List.mem_cons.1 hc with rfl | hc
  ·exact pk_is h (List.length_pos_iff.2 hne)
  ·exact i1 c hc
 | case3 r=>exact⟨fun c hc=>(List.not_mem_nil hc).elim,Nat.zero_le _⟩
def NJump (w:World) (B S P:Nat) (A:Option Addr) (n cap:Nat) (l:List Int) (k:Nat) (a':Act) (w':World):Prop :=
 ∃ (k2:Nat) (outs:List Int) (v u1 u4 u5 u6 u7 u8 u9 u10 u11 u12 u13 u14 u15 u16 u17 u18 u19 u20 u21 u22 u23 u24 u25 u26 u27 u28 u29 u30 u31 u32 u33 u34 u35 u36 u37 u38 u39:Value),a'={ tmps:=#[.pointer (some ⟨S,0,none⟩),u1,.string ⟨#[]⟩,v,u4,u5,u6,u7,u8,u9,u10,u11,u12,u13,u14,u15,u16,u17,u18,u19,u20,u21,u22,u23,u24,u25,u26,u27,u28,u29,u30,u31,u32,u33,u34,u35,u36,u37,u38,u39],defers:=[] }∧k≤k2∧Hid (nameT (l.drop k)=(outs++(nameT (l.drop k2)).1,(nameT (l.drop k2)).2))∧outs.length+k≤k2∧w'.ownsRow w.heap.size 21 1 v outs.length (outs.map r32)∧At w' B S P A n cap l k2∧Mv P w w'
theorem wp_scope_pass {P:Program} {a:Act} {w:World} {Q:Exit→Act→World→Prop} {c blk:Code} (l:Nat) (J:Act→World→Prop) (μ:Act→World→Nat) (hf:findLabel c l=some (Code.skip.seq blk))
  (pass:∀ a w,J a w→blk.wp P (Exit.jump l (fun a' w'=>J a' w'∧μ a' w'<μ a w) Q) a w)
  (first:(∀ a w,J a w→blk.wp P (Exit.jump l J Q) a w)→c.wp P (Exit.jump l J Q) a w):(Code.scope c).wp P Q a w :=
 wp_scope_jumps l J μ hf (first fun a w hJ=>wp_mono (pass a w hJ) (by
  intro e a' w' hq
  cases e with
  | goto l'=>exact⟨hq.1,hq.2.1⟩
  | _=>exact hq)) fun a w hJ=>wp_seq (wp_skip (pass a w hJ))
theorem tk_name {w:World} {B S P n cap k:Nat} {A:Option Addr} {l:List Int} (h:At w B S P A n cap l k) (hch:Chars l) :
  Calls Tryz.prog 89 #[.pointer (some ⟨S,0,none⟩)] w fun e w'=>e=.returned (.string (bytesOf (writeP (nameT (l.drop k)).1)))∧Mv P w w'∧∃ k',k≤k'∧l.drop k'=(nameT (l.drop k)).2∧At w' B S P A n cap l k':=by
 have Hch:=Lib.hid hch;have hSb:=h.hS;have hPb:=Nat.lt_trans h.hPS h.hS;obtain⟨T,hT⟩:∃ T,nameT (l.drop k)=T:=⟨_,rfl⟩;rw[hT];have HT:=Lib.hid hT;clear hT hch
 go_enter Tryz.func89,Tryz.ntmps89
 go_wp2_with fail
 refine wp_scope_pass 0 (NJump w B S P A n cap l k) (fun _ w'=>n-posOf P w') rfl ?_ ?_
 ·rintro a' w0 ⟨k2,outs,v,u1,u4,u5,u6,u7,u8,u9,u10,u11,u12,u13,u14,u15,u16,u17,u18,u19,u20,u21,u22,u23,u24,u25,u26,u27,u28,u29,u30,u31,u32,u33,u34,u35,u36,u37,u38,u39,rfl,hkk,hrun,hol,hown,hat,hmv⟩
  obtain⟨hlen,hn,hk2n⟩:l.length=n∧n≤1000000∧k2≤n:=⟨hat.len,hat.hn,hat.hk⟩;have hesc:=tk_escape 0 hat (by omega);rw[Nat.add_zero] at hesc;obtain⟨hi0,hi,hz0,hz1,hz2⟩:=info_got rune_info;have hpos:=hat.pos
  cases he:esc (l.drop k2) with
  | true =>
   rw[he] at hesc
   have hk1:k2+1<n:=by
    unfold esc at he;have:=(of_decide_eq_true he).2.1;have:=pk_pos (l:=l.drop k2) (m:=1) (by omega);rw[List.length_drop] at this;omega
   have hnm:=nameT_esc he;have hrun2:=hrun.out;rw[hnm,List.tail_drop] at hrun2;have HR:=Lib.hid hrun2;have hmr:isB (meantT (l.drop (k2+1))).1=true:=meantT_is (Hch.out.drop _) (by intro h0;have:=congrArg List.length h0;rw[List.length_drop] at this;simp at this;omega);have hmr2:=isB_range hmr;clear hnm hrun2 hrun he hmr
   go_wp2_with fail
   refine hesc.mono ?_
   rintro e w1 ⟨rfl,g1⟩;have hat1:=hat.mv g1;have hmv1:=hmv.trans (Mv.of g1);have hown1:=own_mv hown hPb (Mv.of g1)
   go_wp2_with fail
   refine(tk_meant hat1 Hch.out hk1).mono ?_
   rintro e w2 ⟨rfl,m2,k3,hk3,hd3,hat2⟩;have hmv2:=hmv1.trans m2;have hown2:=own_mv hown1 hPb m2;have hs2:=hmv2.size;have Hd3:=Lib.hid hd3;generalize hc:(meantT (l.drop (k2+1))).1=c at *
   have Hc:=Lib.hid hc;clear hd3 hc
   go_wp2_with (at_builtin;refine wpList_append_own _ rfl _ _ 83 rfl w.heap.size 21 hi0 (.int .i32 0) 1 4 Tryz.underlying83 hi hz0 hz1 hz2 rfl (by decide) _ _ _ rfl (hown2.alloc _) ⟨w2.heap.size,0,none⟩ 1 1 [.int .i32 c] rfl rfl ?c1 ?c2 ?c3 ?c4 ?c5 ?_)
   case c1=>exact cell_one_new _ _ _
   case c2=>intro u hu;simp at hu;subst hu;rfl
   case c3=>unfold maxLen;omega
   case c4=>have:=hat2.hk;(try simp only[List.length_map]);omega
   case c5=>simp;omega
   intro v' w3 hown3 hgrow _;have hat3:=hat2.push hSb hown2 hgrow;have hmv3:=Mv.push hmv2 hown2 hgrow
   go_wp2_with fail
   go_step3
   refine⟨rfl,⟨k3,outs++[c],v',_,_,_,_,_,_,_,_,_,_,_,_,_,_,_,_,_,_,_,_,_,_,_,_,_,_,_,_,_,_,_,_,_,_,_,_,_,rfl,by omega,(by show _=_;rw[HR.out,Hd3.out];simp),by simp;omega,by simpa [r32] using hown3,hat3,hmv3⟩,?_⟩
   have q1:=hat3.pos;have q2:=hat3.hk
   rw[q1,hpos];omega
  | false =>
   rw[he] at hesc;have hp:=fun w' (g:w0.grownBy w' none)=>tk_peek 0 (hat.mv g) (by omega)
   obtain⟨c,hc⟩:∃ c,pk (l.drop k2) 0=c:=⟨_,rfl⟩;rw[hc] at hp;have Hc:=Lib.hid hc
   cases hwi:withinB c with
   | true =>
    have hk1:k2<n:=by
     have h0:l.drop k2≠[]:=within_ne (by rw[hc];exact hwi);have:=List.length_pos_iff.2 h0;rw[List.length_drop] at this;omega
    have hnm:=nameT_in he (by rw[hc];exact hwi);have hrun2:=hrun.out;rw[hnm,List.tail_drop,hc] at hrun2;have HR:=Lib.hid hrun2;clear hnm hrun2 hrun he hc
    go_wp2_with fail
    refine hesc.mono ?_
    rintro e w1 ⟨rfl,g1⟩;have x1:=(hat.mv g1).s0
    go_wp2_with fail
    refine(hp w1 g1).mono ?_
    rintro e w2 ⟨rfl,g2⟩;have g2:=g1.trans g2
    go_wp2_with fail
    refine(rn_within c _).mono ?_
    rintro e w3 ⟨rfl,rfl⟩;rw[hwi];have x2:=(hat.mv g2).s0
    go_wp2_with fail
    refine(hp w2 g2).mono ?_
    rintro e w3 ⟨rfl,g3⟩;have g3:=g2.trans g3;have hat1:=hat.mv g3;have hmv1:=hmv.trans (Mv.of g3);have hown1:=own_mv hown hPb (Mv.of g3);have hs1:=hmv1.size
    go_wp2_with (at_builtin;refine wpList_append_own _ rfl _ _ 83 rfl w.heap.size 21 hi0 (.int .i32 0) 1 4 Tryz.underlying83 hi hz0 hz1 hz2 rfl (by decide) _ _ _ rfl (hown1.alloc _) ⟨w3.heap.size,0,none⟩ 1 1 [.int .i32 c] rfl rfl ?d1 ?d2 ?d3 ?d4 ?d5 ?_)
    case d1=>exact cell_one_new _ _ _
    case d2=>intro u hu;simp at hu;subst hu;rfl
    case d3=>unfold maxLen;omega
    case d4=>(try simp only[List.length_map]);omega
    case d5=>simp;omega
    intro v' w4 hown4 hgrow _;have hat4:=hat1.push hSb hown1 hgrow;have hmv4:=Mv.push hmv1 hown1 hgrow;have y1:=hat4.s0;have y2:=hat4.p0;have y3:=hat4.p1;have y4:=hat4.fz;have h5:=hat4.store (k':=k2+1) (by omega);have m5:=Mv.store w4 P (.int .i64 ((k2+1:Nat):Int));have o5:=own_mv hown4 hPb m5;have mv5:=hmv4.trans m5
    push_cast at h5 m5 o5 mv5
    go_wp2_with fail
    go_step3
    refine⟨rfl,⟨k2+1,outs++[c],v',_,_,_,_,_,_,_,_,_,_,_,_,_,_,_,_,_,_,_,_,_,_,_,_,_,_,_,_,_,_,_,_,_,_,_,_,_,rfl,by omega,(by show _=_;rw[HR.out];simp),by simp;omega,by simpa [r32] using o5,h5,mv5⟩,?_⟩
    have q1:=h5.pos
    rw[q1,hpos];omega
   | false =>
    have hnm:=nameT_end he (by rw[hc];exact hwi);have hrun2:=hrun.out;rw[hnm,List.append_nil] at hrun2;have HR:=Lib.hid hrun2;clear hnm hrun2 hrun he hc
    go_wp2_with fail
    refine hesc.mono ?_
    rintro e w1 ⟨rfl,g1⟩;have x1:=(hat.mv g1).s0
    go_wp2_with fail
    refine(hp w1 g1).mono ?_
    rintro e w2 ⟨rfl,g2⟩;have g2:=g1.trans g2
    go_wp2_with fail
    refine(rn_within c _).mono ?_
    rintro e w3 ⟨rfl,rfl⟩;rw[hwi];have hat1:=hat.mv g2;have hmv1:=hmv.trans (Mv.of g2);have hown1:=own_mv hown hPb (Mv.of g2);obtain⟨A3,c3,rfl,hcc,hcm⟩:=own_form hown1;have hrd:=Reads.of_own hown1
    have hon:Chars outs:=by
     have:=(nameT_is (l.drop k) (Hch.out.drop k)).1;rw[HR.out] at this;exact this
    have Hon:=Lib.hid hon;clear hon
    go_wp2_with fail
    refine(rn_write outs A3 outs.length c3 w2 hrd (fun d hd=>by have:=isB_range (Hon.out d hd);omega) (by omega)).mono ?_
    rintro e w3 ⟨v3,rfl,hown3,hb3⟩;obtain⟨A4,c4,rfl,hcc4,hcm4⟩:=own_form hown3;have hrd4:=Reads.of_own hown3;have hstr:=run_str (P:=Tryz.prog) (src:=22) (dst:=9) Tryz.underlying22 Tryz.underlying5 Tryz.underlying9 c4 hrd4;have hat3:=hat1.mv (below_grown hb3);have hmv3:=hmv1.trans (Mv.of (below_grown hb3));clear hrd4 hown3 hrd
    go_wp2_with fail
    simp only[Exit.jump]
    go_ret
    exact⟨by rw[← HT.out,HR.out];rfl,hmv3,k2,hkk,by rw[← HT.out,HR.out],hat3⟩
 ·intro hrest
  go_wp2_with fail
  go_step3
  rename_i K hK
  exact hK _ _ (hrest _ _ ⟨k,[],.slice none 0 0,_,_,_,_,_,_,_,_,_,_,_,_,_,_,_,_,_,_,_,_,_,_,_,_,_,_,_,_,_,_,_,_,_,_,_,_,_,rfl,Nat.le_refl _,rfl,by simp,World.ownsRow_nil _ _ _ _,h,Mv.refl _ _⟩)
end Go.Proofs.YtfhdihdafmahgaaGreatDoor
namespace Go.Proofs.YtfhdihdafmahgaaGreatDoor
open Go.RowKit Fx
namespace Fx
def fracD (r:Nat):List UInt8:=(fracT r).drop 1
def fracPt (r:Nat):List UInt8:=if r=0 then [] else [46]
def scaleN (a:Nat) (e:Int):Nat:=if 0≤e then 10 ^ e.toNat * a else a / 10 ^ (-e).toNat
end Fx
theorem frac_facts:∀ r:Fin 1000,fracT r.val=fracPt r.val++fracD r.val∧(r.val≠0→fracD r.val≠[])∧(r.val=0→fracD r.val=[])∧(fracD r.val).all isD=true∧(fracD r.val).length≤3∧vA (fracD r.val) 3=r.val:=by decide +kernel
theorem dig_isD {n:Nat} (h:n<10):isD (dig n)=true∧dv (dig n)=n:=by
 have:∀ k:Fin 10,isD (dig k.val)=true∧dv (dig k.val)=k.val:=by decide
 exact this ⟨n,h⟩
theorem dec_facts:∀ k q,q≤k→(∀ b∈Lib.decDigits q,isD b=true)∧val (Lib.decDigits q)=q∧Lib.decDigits q≠[]:=by
 intro k
 induction k with
 | zero =>
  intro q h;obtain rfl:q=0:=by omega
  rw[dec_small (by omega)]
  refine⟨?_,by decide,by simp⟩
  intro b hb
  simp at hb;subst hb;decide
 | succ k ih =>
  intro q h
  by_cases h10:q<10
  ·rw[dec_small h10]
   have:=dig_isD h10
   refine⟨?_,by simp[val,this.2],by simp⟩
   intro b hb
   simp at hb;subst hb;exact this.1
  ·rw[dec_big (by omega)]
   obtain⟨h1,h2,h3⟩:=ih (q / 10) (by omega);have:=dig_isD (n:=q % 10) (by omega)
   refine⟨?_,?_,by simp⟩
   ·intro b hb
    rcases List.mem_append.1 hb with hb | hb
    ·exact h1 b hb
    ·simp at hb;subst hb;exact this.1
   ·rw[val_snoc,h2,this.2];omega
theorem vA_app (a b:List UInt8) (j:Nat):vA (a++b) (a.length+j)=10 ^ j * val a+vA b j:=by
 induction j with
 | zero =>
  rw[Nat.add_zero,vA_append_len a b _ (Nat.le_refl _),val_vA a _ (Nat.le_refl _),List.take_length];simp[vA]
 | succ j ih =>
  rw[← Nat.add_assoc,vA_succ,ih,vA_succ,List.getElem?_append_right (by omega),Nat.pow_succ,Nat.add_sub_cancel_left];have:10 ^ j * 10 * val a=10 * (10 ^ j * val a):=by rw[Nat.mul_comm (10 ^ j) 10,Nat.mul_assoc]
  omega
theorem vA_down (d:List UInt8) (h:∀ b∈d,isD b=true) (i:Nat):vA d i=vA d (i+1) / 10:=by
 rw[vA_succ]
 have:((d[i]?).map dv).getD 0≤9:=by
  cases hb:d[i]? with
  | none=>simp
  | some b =>
   have:=isD_range (h b (List.mem_of_getElem? hb))
   simp[dv];omega
 omega
theorem vA_downs (d:List UInt8) (h:∀ b∈d,isD b=true) (i k:Nat):vA d i=vA d (i+k) / 10 ^ k:=by
 induction k with
 | zero=>simp
 | succ k ih=>rw[ih,vA_down d h (i+k),Nat.div_div_eq_div_mul,Nat.pow_succ,Nat.mul_comm 10,← Nat.add_assoc]
theorem print_digits (a:Nat) (e:Int) (he:-3≤e) :
  foldN (Lib.decDigits (a / 1000)++fracD (a % 1000)) ((Lib.decDigits (a / 1000)).length+e+3)=min (scaleN a e) M:=by
 obtain⟨h1,h2,h3⟩:=dec_facts _ (a / 1000) (Nat.le_refl _);obtain⟨f1,f2,f3,f4,f5,f6⟩:=frac_facts ⟨a % 1000,by omega⟩;simp only[] at f1 f2 f3 f4 f5 f6;have hI:=List.length_pos_iff.2 h3;obtain⟨I,hIe⟩:∃ I,Lib.decDigits (a / 1000)=I:=⟨_,rfl⟩;obtain⟨F,hFe⟩:∃ F,fracD (a % 1000)=F:=⟨_,rfl⟩;rw[hIe] at h1 h2 h3 hI ⊢;rw[hFe] at f2 f3 f4 f5 f6 ⊢
 have hall:∀ b∈I++F,isD b=true:=by
  intro b hb
  rcases List.mem_append.1 hb with hb | hb
  ·exact h1 b hb
  ·exact List.all_eq_true.1 f4 b hb
 have h0:vA (I++F) (I.length+3)=a:=by rw[vA_app,h2,f6];omega
 unfold foldN scaleN
 congr 1
 by_cases hp:0≤e
 ·rw[if_pos hp,show (((I.length:Int)+e+3).toNat)=(I.length+3)+e.toNat by omega,vA_past _ (by rw[List.length_append];omega),h0]
 ·rw[if_neg hp,vA_downs _ hall (((I.length:Int)+e+3).toNat) (-e).toNat,show ((I.length:Int)+e+3).toNat+(-e).toNat=I.length+3 by omega,h0]
theorem printN_parts (neg:Bool) (a:Nat) (E S2 X:List UInt8)
  (hE:(E=[]∧S2=[]∧X=[])∨(∃ e,E=[e]∧(e.toNat=101∨e.toNat=69)∧X≠[])) (hS:S2=[]∨∃ b,S2=[b]∧(b.toNat=43∨b.toNat=45)) (hX:∀ b∈X,isD b=true) :
  Parts (if neg=true then [45] else []) (Lib.decDigits (a / 1000)) (fracPt (a % 1000)) (fracD (a % 1000)) E S2 X
   ∧ (if neg=true then [45] else [])++printN a++(E++(S2++X))=glue (if neg=true then [45] else []) (Lib.decDigits (a / 1000)) (fracPt (a % 1000)) (fracD (a % 1000)) E S2 X:=by
 obtain⟨h1,h2,h3⟩:=dec_facts _ (a / 1000) (Nat.le_refl _);obtain⟨f1,f2,f3,f4,f5,f6⟩:=frac_facts ⟨a % 1000,by omega⟩;simp only[] at f1 f2 f3 f4 f5 f6
 refine⟨⟨?_,h1,List.all_eq_true.1 f4,?_,hE,hS,hX,.inl h3⟩,?_⟩
 ·cases neg
  ·exact .inl rfl
  ·exact .inr ⟨45,rfl,.inr rfl⟩
 ·by_cases h0:a % 1000=0
  ·exact .inl ⟨by rw[h0];rfl,f3 h0⟩
  ·exact .inr ⟨if_neg h0,f2 h0⟩
 ·unfold glue printN;rw[f1]
theorem glue_head {sg I P F E S2 X:List UInt8} (hI:∀ b∈I,isD b=true) (hne:I≠[]) (neg:Bool) (hs:sg=if neg=true then [45] else []):((glue sg I P F E S2 X)[0]?=some 45)=(neg=true):=by
 cases neg with
 | true=>simp only[if_true] at hs;rw[hs];simp[glue]
 | false =>
  simp only[Bool.false_eq_true,if_false] at hs;rw[hs]
  cases I with
  | nil=>exact absurd rfl hne
  | cons b I =>
   have:=isD_range (hI b (by simp))
   simp[glue]
   intro h;subst h;revert this;decide
theorem parse_made (neg:Bool) (a:Nat) (E S2 X:List UInt8)
  (hE:(E=[]∧S2=[]∧X=[])∨(∃ e,E=[e]∧(e.toNat=101∨e.toNat=69)∧X≠[])) (hS:S2=[]∨∃ b,S2=[b]∧(b.toNat=43∨b.toNat=45)) (hX:∀ b∈X,isD b=true)
  (e:Int) (he:powP (S2++X)=e) (h3:-3≤e) (l:List UInt8) (hl:l=(if neg=true then [45] else [])++printN a++(E++(S2++X))) :
  isP l=true∧lenP l=l.length∧parseP l=if neg=true then -((min (scaleN a e) M:Nat):Int) else ((min (scaleN a e) M:Nat):Int):=by
 obtain⟨D,hg⟩:=printN_parts neg a E S2 X hE hS hX;rw[hg] at hl;obtain⟨g1,g2,g3,g4,g5⟩:=glue_is D;rw[hl]
 refine⟨g1,g5,?_⟩
 obtain⟨h1,h2,h4⟩:=dec_facts _ (a / 1000) (Nat.le_refl _);unfold parseP numP;rw[if_pos g1,g2,g3,g4,he,print_digits a e h3];simp only[glue_head h1 h4 neg rfl]
theorem parse_print (n:Int):isP (printP n)=true∧lenP (printP n)=(printP n).length∧parseP (printP n)=stopZ n:=by
 obtain⟨neg,a,ha,hs,hn,hp⟩:=stop_form n;obtain⟨h1,h2,h3⟩:=parse_made neg a [] [] [] (.inl ⟨rfl,rfl,rfl⟩) (.inl rfl) (by simp) 0 rfl (by omega) (printP n) (by rw[hp];simp)
 refine⟨h1,h2,?_⟩
 rw[h3,hs];have:min (scaleN a 0) M=a:=by unfold scaleN M;simp;omega
 rw[this]
theorem printP_len (n:Int):(printP n).length≤20:=by
 obtain⟨neg,a,ha,hs,hn,hp⟩:=stop_form n;rw[hp];have h1:=deci_len (a / 1000) (by omega);obtain⟨f1,f2,f3,f4,f5,f6⟩:=frac_facts ⟨a % 1000,by omega⟩;simp only[] at f1 f5;unfold printN;rw[f1];have:(fracPt (a % 1000)).length≤1:=by unfold fracPt;split<;>simp
 simp only[List.length_append]
 cases neg<;>simp<;>omega
namespace Fx
end Fx
end Go.Proofs.YtfhdihdafmahgaaGreatDoor
namespace Go.Proofs.YtfhdihdafmahgaaGreatDoor
open Go.RowKit Rn Tk
section
variable {w:World} {B S P n cap k:Nat} {A:Option Addr} {l:List Int}
theorem tk_peek0 (h:At w B S P A n cap l k):Calls Tryz.prog 56 #[.pointer (some ⟨P,0,none⟩),.int .i64 0] w fun e w'=>e=.returned (.int .i32 (pk (l.drop k) 0))∧w.grownBy w' none:=by
 have:=tk_peek 0 h (by omega);rwa[Int.natCast_zero] at this
theorem tk_peek1 (h:At w B S P A n cap l k):Calls Tryz.prog 56 #[.pointer (some ⟨P,0,none⟩),.int .i64 1] w fun e w'=>e=.returned (.int .i32 (pk (l.drop k) 1))∧w.grownBy w' none:=by
 have:=tk_peek 1 h (by omega);rwa[Int.natCast_one] at this
theorem tk_escape0 (h:At w B S P A n cap l k):Calls Tryz.prog 88 #[.pointer (some ⟨S,0,none⟩),.int .i64 0] w fun e w'=>e=.returned (.bool (esc (l.drop k)))∧w.grownBy w' none:=by
 have:=tk_escape 0 h (by omega);rwa[Int.natCast_zero,Nat.add_zero] at this
theorem tk_escape1 (h:At w B S P A n cap l k):Calls Tryz.prog 88 #[.pointer (some ⟨S,0,none⟩),.int .i64 1] w fun e w'=>e=.returned (.bool (esc (l.drop (k+1))))∧w.grownBy w' none:=by
 have:=tk_escape 1 h (by omega);rwa[Int.natCast_one] at this
theorem tk_begins0 (h:At w B S P A n cap l k):Calls Tryz.prog 91 #[.pointer (some ⟨S,0,none⟩),.int .i64 0] w fun e w'=>e=.returned (.bool (beg (l.drop k)))∧w.grownBy w' none:=by
 have:=tk_begins 0 h (by omega);rwa[Int.natCast_zero,Nat.add_zero] at this
theorem tk_begins1 (h:At w B S P A n cap l k):Calls Tryz.prog 91 #[.pointer (some ⟨S,0,none⟩),.int .i64 1] w fun e w'=>e=.returned (.bool (beg (l.drop (k+1))))∧w.grownBy w' none:=by
 have:=tk_begins 1 h (by omega);rwa[Int.natCast_one] at this
end
theorem spacesT_white {r:List Int} (h:whiteB (pk r 0)=true):spacesT r=(true,(spacesT r.tail).2):=by rw[spacesT,dif_pos h]
theorem spacesT_comment {r:List Int} (h:whiteB (pk r 0)=false) (h2:pk r 0=47∧pk r 1=42):spacesT r=spacesT (skipC r.tail.tail):=by rw[spacesT,dif_neg (by simp[h]),dif_pos h2]
theorem spacesT_end {r:List Int} (h:whiteB (pk r 0)=false) (h2:¬ (pk r 0=47∧pk r 1=42)):spacesT r=(false,r):=by rw[spacesT,dif_neg (by simp[h]),dif_neg h2]
theorem skipC_on {l:List Int} {j:Nat} (hj:j<l.length) (h:¬ (pk (l.drop j) 0=42∧pk (l.drop j) 1=47)):skipC (l.drop j)=skipC (l.drop (j+1)):=by
 rw[List.drop_eq_getElem_cons hj] at h ⊢;rw[pk_cons0,pk_cons] at h;rw[skipC,if_neg h]
theorem skipC_stop {l:List Int} {j:Nat} (hj:j<l.length) (h:pk (l.drop j) 0=42∧pk (l.drop j) 1=47):skipC (l.drop j)=l.drop (j+2):=by
 rw[List.drop_eq_getElem_cons hj] at h ⊢;rw[pk_cons0,pk_cons] at h;rw[skipC,if_pos h,List.tail_drop]
theorem tk_space {w:World} {B S P n cap k:Nat} {A:Option Addr} {l:List Int} (h:At w B S P A n cap l k) (hch:Chars l) :
  Calls Tryz.prog 55 #[.pointer (some ⟨S,0,none⟩)] w fun e w'=>e=.returned (.bool (spacesT (l.drop k)).1)∧Mv P w w'∧∃ k',k≤k'∧l.drop k'=(spacesT (l.drop k)).2∧At w' B S P A n cap l k':=by
 have hlen:=h.len;have hn:=h.hn;have Hr:=Lib.hid (fun j m=>pk_range (hch.drop j) m);have Hch:=Lib.hid hch;obtain⟨T,hT⟩:∃ T,spacesT (l.drop k)=T:=⟨_,rfl⟩;rw[hT];have HT:=Lib.hid hT;clear hT hch
 go_enter Tryz.func55,Tryz.ntmps55
 go_wp2_with fail
 go_loopw [3] (fun x wr=>∃ (k2:Nat) (b:Bool),k≤k2∧Hid ((b || (spacesT (l.drop k2)).1,(spacesT (l.drop k2)).2)=T)∧x=.bool b∧At wr B S P A n cap l k2∧Mv P w wr) (fun _ wr=>n-posOf P wr)
 case atStart=>exact⟨k,false,Nat.le_refl _,(by show _=_;rw[HT.out];simp),rfl,h,Mv.refl _ _⟩
 case round =>
  obtain⟨k2,b,hkk,hrun,rfl,hat,hmv⟩:=hrel;have hk2:=hat.hk;have hpos:=hat.pos;have hp:=fun w' (g:wr.grownBy w' none)=>tk_peek0 (hat.mv g)
  have hp1:=fun w' (g:wr.grownBy w' none)=>tk_peek1 (hat.mv g)
  have ks:=fun w' (g:wr.grownBy w' none)=>(hat.mv g).s0
  obtain⟨c,hc⟩:∃ c,pk (l.drop k2) 0=c:=⟨_,rfl⟩;obtain⟨d,hd⟩:∃ d,pk (l.drop k2) 1=d:=⟨_,rfl⟩;have hcr:=Hr.out k2 0;rw[hc] at hp hcr;rw[hd] at hp1;have x0:=hat.s0
  cases hw:whiteB c with
  | true =>
   have hkn:k2<n:=by
    have:=pk_pos (l:=l.drop k2) (m:=0) (by rw[hc];unfold whiteB at hw;simp at hw;omega);rw[List.length_drop] at this;omega
   have hnew:((true || (spacesT (l.drop (k2+1))).1,(spacesT (l.drop (k2+1))).2)=T):=by
    rw[← hrun.out,spacesT_white (r:=l.drop k2) (by rw[hc];exact hw),List.tail_drop];simp
   have Hnew:=Lib.hid hnew;clear hnew hrun
   go_wp2_with fail
   refine(hp wr (World.grownBy.refl _ _)).mono ?_
   rintro e w1 ⟨rfl,g1⟩;have hat1:=hat.mv g1;have hmv1:=hmv.trans (Mv.of g1);have y1:=hat1.s0;have y2:=hat1.p0;have y3:=hat1.p1;have y4:=hat1.fz;have h5:=hat1.store (k':=k2+1) (by omega);have m5:=hmv1.trans (Mv.store w1 P (.int .i64 ((k2+1:Nat):Int)));have q5:=h5.pos
   push_cast at h5 m5 q5
   go_wp2_with fail
   refine(rn_white c _).mono ?_
   rintro e w3 ⟨rfl,rfl⟩;rw[hw]
   go_wp2_with fail
   go_roundw
   case rel=>exact⟨k2+1,true,by omega,Hnew,rfl,h5,m5⟩
   case measure=>rw[q5,hpos];omega
  | false =>
   by_cases hcd:c=47∧d=42
   ·have hk1:k2+1<n:=by
     have:=pk_pos (l:=l.drop k2) (m:=1) (by rw[hd];omega);rw[List.length_drop] at this;omega
    have hnew:((b || (spacesT (skipC (l.drop (k2+2)))).1,(spacesT (skipC (l.drop (k2+2)))).2)=T):=by
     rw[← hrun.out,spacesT_comment (r:=l.drop k2) (by rw[hc];exact hw) (by rw[hc,hd];exact hcd),List.tail_drop,List.tail_drop]
    have Hnew:=Lib.hid hnew;have t47:=eq_t hcd.1;have t42:=eq_t hcd.2;clear hnew hrun hcd
    go_wp2_with fail
    refine(hp wr (World.grownBy.refl _ _)).mono ?_
    rintro e w1 ⟨rfl,g1⟩;have y1:=ks w1 g1
    go_wp2_with fail
    refine(rn_white c _).mono ?_
    rintro e w3 ⟨rfl,rfl⟩;rw[hw]
    go_wp2_with fail
    refine(hp w1 g1).mono ?_
    rintro e w2 ⟨rfl,g2⟩;have g2:=g1.trans g2;have y2:=ks w2 g2
    go_wp2_with fail
    refine(hp1 w2 g2).mono ?_
    rintro e w3 ⟨rfl,g3⟩;have g3:=g2.trans g3;have hat3:=hat.mv g3;have hmv3:=hmv.trans (Mv.of g3);have z1:=hat3.s0;have z2:=hat3.p0;have z3:=hat3.p1;have z4:=hat3.fz;have h5:=hat3.store (k':=k2+2) (by omega);have m5:=hmv3.trans (Mv.store w3 P (.int .i64 ((k2+2:Nat):Int)))
    push_cast at h5 m5
    have q0:k≤k2+2:=by omega
    clear hp hp1 ks y1 y2 x0
    go_upto_block 3 with (fail)
    go_cut [3] (fun x wx=>x=.bool b∧∃ j,k2+2≤j∧Hid (skipC (l.drop (k2+2))=skipC (l.drop j))∧Hid (j=n∨(j<n∧pk (l.drop j) 0=42∧pk (l.drop j) 1=47))∧At wx B S P A n cap l j∧Mv P w wx)
    case first =>
     go_wp2_with fail
     go_loopw [47] (fun z wi=>∃ j,k2+2≤j∧Hid (skipC (l.drop (k2+2))=skipC (l.drop j))∧At wi B S P A n cap l j∧Mv P w wi) (fun _ wi=>n-posOf P wi)
     case atStart=>exact⟨k2+2,Nat.le_refl _,rfl,h5,m5⟩
     case round =>
      obtain⟨j,hj,hrj,hatj,hmvj⟩:=hrel;have hjn:=hatj.hk;have hposj:=hatj.pos;have ks:=hatj.s0;have hp:=tk_peek0 hatj;have Hre:=fun (e:Int) (he:pk (l.drop j) 0=e)=>he
      by_cases hjl:j<n
      ·obtain⟨e0,he0⟩:∃ c,pk (l.drop j) 0=c:=⟨_,rfl⟩
       have hpos0:=isB_range (pk_is (l:=l) Hch.out (m:=j) (by omega));rw[show pk l j=pk (l.drop j) 0 from by rw[pk_drop];rfl,he0] at hpos0;have d0:decide ((0:Int)≤e0)=true:=by simp;omega
       rw[he0] at hp;have hp':=fun w' (g:wr.grownBy w' none)=>tk_peek0 (hatj.mv g)
       have hp1:=fun w' (g:wr.grownBy w' none)=>tk_peek1 (hatj.mv g)
       have ks':=fun w' (g:wr.grownBy w' none)=>(hatj.mv g).s0
       obtain⟨e1,he1⟩:∃ c,pk (l.drop j) 1=c:=⟨_,rfl⟩;rw[he0] at hp';rw[he1] at hp1
       by_cases h42:e0=42
       ·by_cases h47:e1=47
        ·have hst:Hid (j=n∨(j<n∧pk (l.drop j) 0=42∧pk (l.drop j) 1=47)):=.inr ⟨hjl,by rw[he0];exact h42,by rw[he1];exact h47⟩
         have t42:(e0 != 42)=false:=by simp[h42]
         have t47:(e1 != 47)=false:=by simp[h47]
         clear h42 h47 he0 he1
         go_wp2_with fail
         refine hp.mono ?_
         rintro e w5 ⟨rfl,g5⟩;have y5:=ks' w5 g5
         go_wp2_with fail
         refine(hp' w5 g5).mono ?_
         rintro e w6 ⟨rfl,g6⟩;have g6:=g5.trans g6;have y6:=ks' w6 g6
         go_wp2_with fail
         refine(hp1 w6 g6).mono ?_
         rintro e w7 ⟨rfl,g7⟩;have g7:=g6.trans g7
         go_wp2_with fail
         go_meet
         exact⟨rfl,j,hj,hrj,hst,hatj.mv g7,hmvj.trans (Mv.of g7)⟩
        ·have hnx:Hid (skipC (l.drop (k2+2))=skipC (l.drop (j+1))):=by
          show _=_;rw[hrj.out,skipC_on (by omega) (by rw[he1];exact fun h=>h47 h.2)]
         have t42:(e0 != 42)=false:=by simp[h42]
         have t47:(e1 != 47)=true:=by simp[h47]
         clear h42 h47 he0 he1
         go_wp2_with fail
         refine hp.mono ?_
         rintro e w5 ⟨rfl,g5⟩;have y5:=ks' w5 g5
         go_wp2_with fail
         refine(hp' w5 g5).mono ?_
         rintro e w6 ⟨rfl,g6⟩;have g6:=g5.trans g6;have y6:=ks' w6 g6
         go_wp2_with fail
         refine(hp1 w6 g6).mono ?_
         rintro e w7 ⟨rfl,g7⟩;have g7:=g6.trans g7;have hat7:=hatj.mv g7;have u1:=hat7.s0;have u2:=hat7.p0;have u3:=hat7.p1;have u4:=hat7.fz;have h8:=hat7.store (k':=j+1) (by omega);have m8:=(hmvj.trans (Mv.of g7)).trans (Mv.store w7 P (.int .i64 ((j+1:Nat):Int)));have q8:=h8.pos
         push_cast at h8 m8 q8
         go_wp2_with fail
         go_roundw
         case rel=>exact⟨j+1,by omega,hnx,h8,m8⟩
         case measure=>rw[q8,hposj];omega
       ·have hnx:Hid (skipC (l.drop (k2+2))=skipC (l.drop (j+1))):=by
         show _=_;rw[hrj.out,skipC_on (by omega) (by rw[he0];exact fun h=>h42 h.1)]
        have t42:(e0 != 42)=true:=by simp[h42]
        clear h42 he0 he1
        go_wp2_with fail
        refine hp.mono ?_
        rintro e w5 ⟨rfl,g5⟩;have y5:=ks' w5 g5
        go_wp2_with fail
        refine(hp' w5 g5).mono ?_
        rintro e w6 ⟨rfl,g6⟩;have g6:=g5.trans g6;have hat7:=hatj.mv g6;have u1:=hat7.s0;have u2:=hat7.p0;have u3:=hat7.p1;have u4:=hat7.fz;have h8:=hat7.store (k':=j+1) (by omega);have m8:=(hmvj.trans (Mv.of g6)).trans (Mv.store w6 P (.int .i64 ((j+1:Nat):Int)));have q8:=h8.pos
        push_cast at h8 m8 q8
        go_wp2_with fail
        go_roundw
        case rel=>exact⟨j+1,by omega,hnx,h8,m8⟩
        case measure=>rw[q8,hposj];omega
      ·have hpe:=pk_end (l:=l) (k:=j) (m:=0) (by omega)
       rw[hpe] at hp;have hst:Hid (j=n∨(j<n∧pk (l.drop j) 0=42∧pk (l.drop j) 1=47)):=.inl (by omega);clear hpe
       go_wp2_with fail
       refine hp.mono ?_
       rintro e w5 ⟨rfl,g5⟩
       go_wp2_with fail
       go_meet
       exact⟨rfl,j,hj,hrj,hst,hatj.mv g5,hmvj.trans (Mv.of g5)⟩
    case rest =>
     obtain⟨rfl,j,hj,hrj,hstop,hatj,hmvj⟩:=hcut;have hjn:=hatj.hk;obtain⟨j',hj'⟩:∃ j',min (j+2) n=j':=⟨_,rfl⟩;have hmin:min ((j:Int)+2) (n:Int)=(j':Int):=by omega
     have hj'n:j'≤n:=by omega
     have hdrop:skipC (l.drop (k2+2))=l.drop j':=by
      rw[hrj.out]
      rcases hstop.out with h | ⟨h1,h2⟩
      ·have e1:j'=n:=by omega
       have e2:l.drop j=[]:=List.drop_eq_nil_of_le (by omega);have e3:l.drop j'=[]:=List.drop_eq_nil_of_le (by omega);rw[e2,e3];rfl
      ·rw[skipC_stop (by omega) h2]
       have:=pk_pos (l:=l.drop j) (m:=1) (by rw[h2.2];omega);rw[List.length_drop] at this;have e1:j'=j+2:=by omega
       rw[e1]
     have Hnew2:=Hnew.out;rw[hdrop] at Hnew2;have HN:=Lib.hid Hnew2;have hkj:k≤j':=by omega
     have hlt:n-j'<n-k2:=by omega
     clear Hnew2 hdrop hj' hstop hrj Hnew;have u1:=hatj.s0;have u2:=hatj.p0;have u3:=hatj.p1;have u4:=hatj.fz;have h8:=hatj.store hj'n;have m8:=hmvj.trans (Mv.store wc P (.int .i64 (j':Int)));have gd:∀ W:World,W.grownBy W.drew none:=fun W=>⟨rfl,rfl,rfl,Nat.le_refl _,fun _ _ _=>rfl⟩
     have h8:=h8.mv (gd _);have m8:=m8.trans (Mv.of (gd _));have q8:=h8.pos
     go_wp2_with fail
     go_region
     all_goals
      go_wp2_with fail
      go_roundw
      case rel=>exact⟨j',b,hkj,HN,rfl,h8,m8⟩
      case measure=>rw[q8,hpos];exact hlt
   ·have hend:(b,l.drop k2)=T:=by
     rw[← hrun.out,spacesT_end (r:=l.drop k2) (by rw[hc];exact hw) (by rw[hc,hd];exact hcd)];simp
    have Hend:=Lib.hid hend;clear hend hrun
    by_cases h47:c=47
    ·have t47:=eq_t h47
     have t42:=eq_f (show ¬ d=42 from fun h=>hcd ⟨h47,h⟩);clear hcd h47
     go_wp2_with fail
     refine(hp wr (World.grownBy.refl _ _)).mono ?_
     rintro e w1 ⟨rfl,g1⟩;have y1:=ks w1 g1
     go_wp2_with fail
     refine(rn_white c _).mono ?_
     rintro e w3 ⟨rfl,rfl⟩;rw[hw]
     go_wp2_with fail
     refine(hp w1 g1).mono ?_
     rintro e w2 ⟨rfl,g2⟩;have g2:=g1.trans g2;have y2:=ks w2 g2
     go_wp2_with fail
     refine(hp1 w2 g2).mono ?_
     rintro e w3 ⟨rfl,g3⟩;have g3:=g2.trans g3
     go_wp2_with fail
     go_ret
     exact⟨by rw[← Hend.out];rfl,hmv.trans (Mv.of g3),k2,hkk,by rw[← Hend.out],hat.mv g3⟩
    ·have t47:=eq_f h47
     go_wp2_with fail
     refine(hp wr (World.grownBy.refl _ _)).mono ?_
     rintro e w1 ⟨rfl,g1⟩;have y1:=ks w1 g1
     go_wp2_with fail
     refine(rn_white c _).mono ?_
     rintro e w3 ⟨rfl,rfl⟩;rw[hw]
     go_wp2_with fail
     refine(hp w1 g1).mono ?_
     rintro e w2 ⟨rfl,g2⟩;have g2:=g1.trans g2
     go_wp2_with fail
     go_ret
     exact⟨by rw[← Hend.out];rfl,hmv.trans (Mv.of g2),k2,hkk,by rw[← Hend.out],hat.mv g2⟩
def numS:ByteArray:=⟨#[48,49,50,51,52,53,54,55,56,57,43,45,46,101,69]⟩
theorem numS_ascii:∀ c:Fin 128,decide (0≤Lib.indexByte numS.data.toList (c.val:Int).toNat.toUInt8)=numB (c.val:Int):=by decide +kernel
theorem numS_at:∀ i:Fin 15,(numS[i.val]'(Nat.lt_of_lt_of_le i.isLt (by decide))).toNat<128:=by decide +kernel
theorem numS_high:∀ (i:Fin 5) (b:Fin 128),Lib.indexByte (numS.data.toList.drop i.val) (UInt8.ofNat (128+b.val))=-1:=by decide +kernel
theorem str_bad (w:World) :
  Calls Tryz.prog 152 #[.string numS,.int .i32 65533] w fun e w'=>e=.returned (.int .i64 (-1))∧w.grownBy w' none:=by
 have hsz:numS.size=15:=rfl
 go_enter Tryz.func152,Tryz.ntmps152
 go_wp2_with fail
 go_loopw [5,6] (fun x y w'=>∃ (pos:Nat),w'=w.iter numS pos∧pos≤15) (fun _ _ w'=>15-w'.iterPos w.heap.size)
 case atStart=>exact⟨0,rfl,by omega⟩
 case round =>
  obtain⟨pos,rfl,hp⟩:=hrel
  by_cases hlt:pos<numS.size
  ·have ha:=numS_at ⟨pos,by omega⟩
   simp only[] at ha;have hnx:∀ ty,(Instr.next (.pointer (some ⟨w.heap.size,0,none⟩)) true ty).run Tryz.prog (w.iter numS pos)=_:=fun ty=>run_next_ascii w numS pos ty hlt ha
   have hne:(((numS[pos]'hlt).toNat:Int) == 65533)=false:=by simp;omega
   generalize ((numS[pos]'hlt).toNat:Int)=z at *
   go_wp2_with fail
   go_roundw
   case rel=>exact⟨pos+1,rfl,by omega⟩
   case measure=>simp;omega
  ·have hnx:∀ ty,(Instr.next (.pointer (some ⟨w.heap.size,0,none⟩)) true ty).run Tryz.prog (w.iter numS pos)=_:=fun ty=>run_next_end w numS pos ty hlt
   go_wp2_with fail
   go_ret
   exact⟨rfl,World.grownBy_alloc _ _ _⟩
def numL:List UInt8:=[48,49,50,51,52,53,54,55,56,57,43,45,46,101,69]
theorem gdrew' (W:World):W.grownBy W.drew none:=⟨rfl,rfl,rfl,Nat.le_refl _,fun _ _ _=>rfl⟩
theorem numL_low:∀ i:Fin 15,(numL[i.val]'(Nat.lt_of_lt_of_le i.isLt (by decide))).toNat<128:=by decide
theorem valid_is {r:Int} (h:isB r=true):Lib.validRune r=true∧Utf8.valid r=true:=by
 unfold isB at h;have h:=of_decide_eq_true h
 constructor
 ·unfold Lib.validRune;simp;omega
 ·unfold Utf8.valid;simp;omega
theorem str_high (r:Int) (w:World) (h:128≤r) (hb:isB r=true) (hne:r≠65533) :
  Calls Tryz.prog 152 #[.string numS,.int .i32 r] w fun e w'=>e=.returned (.int .i64 (-1))∧w.grownBy w' none:=by
 have hr:=isB_range hb;obtain⟨hv1,hv2⟩:=valid_is hb;obtain⟨f1,f2,f3⟩:=encode_facts r hv2 h;have t1:decide (r<128)=false:=by simp;omega
 have t0:decide ((0:Int)≤r)=true:=by simp;omega
 have tb:=eq_f hne;obtain⟨E,hE⟩:∃ E,Utf8.encode r=E:=⟨_,rfl⟩;obtain⟨i,hi⟩:∃ i,E.size=i+1:=⟨E.size-1,by rw[hE] at f1;omega⟩;rw[hE] at f1 f2 f3;have hi3:1≤i∧i≤3:=by omega
 have hEl:E=bytesOf E.data.toList:=(bytesOf_eta E).symm;have hll:E.data.toList.length=i+1:=by rw[← bytesOf_size,← hEl];exact hi
 obtain⟨b,hbt⟩:∃ b,E.data.toList[i]?=some b:=⟨_,List.getElem?_eq_getElem (by omega)⟩
 have hb128:128≤b.toNat:=by
  have h3:=f3 (by omega)
  have he:E[E.size-1]'(by omega)=b:=by
   have:E.data.toList[i]?=some (E[E.size-1]'(by omega)):=by
    rw[List.getElem?_eq_getElem (by omega)]
    congr 1
    show E.data.toList[i]'_=E.data[E.size-1]'_
    simp[hi]
   rw[hbt] at this;injection this with this;exact this.symm
  rw[he] at h3;exact h3
 have hb256:=b.toNat_lt;have hS:numS=bytesOf numL:=rfl;obtain⟨d,hd⟩:∃ d,numL[i]?=some d:=⟨numL[i]'(by show i<15;omega),List.getElem?_eq_getElem _⟩
 have hd128:d.toNat<128:=by
  have:=numL_low ⟨i,by omega⟩;have e:numL[i]'(by show i<15;omega)=d:=by rw[List.getElem?_eq_getElem (by show i<15;omega)] at hd;injection hd
  simp only[e] at this;exact this
 have x1:=str_at (P:=Tryz.prog) (T:=9) Tryz.underlying9 numL .i64 i d hd;have x2:=str_at (P:=Tryz.prog) (T:=9) Tryz.underlying9 E.data.toList .i64 i b hbt;rw[← hEl] at x2;have x3:=str_from (P:=Tryz.prog) (T:=9) Tryz.underlying9 numL .i64 (i+1) (by show i+1≤15;omega);rw[← hS] at x1 x3
 push_cast at x3
 have hix:Lib.indexByte (bytesOf (numL.drop (i+1))).data.toList (b.toNat:Int).toNat.toUInt8=-1:=by
  rw[bytesOf_list];have:=numS_high ⟨i+1,by omega⟩ ⟨b.toNat-128,by omega⟩
  have e:UInt8.ofNat (128+(b.toNat-128))=(b.toNat:Int).toNat.toUInt8:=by
   rw[Int.toNat_natCast,show 128+(b.toNat-128)=b.toNat by omega]
  rw[← e];exact this
 have Hix:=Lib.hid hix;have hsz:numS.size=15:=rfl;have hEs:(E.size:Int)-1=(i:Int):=by omega
 have hlt:(i:Int)<15:=by omega
 have hwr:IntKind.i64.wrap ((i:Int)+1)=(i:Int)+1:=by rw[IntKind.wrap_i64];omega
 have hneq:((d.toNat:Int) != (b.toNat:Int))=true:=by simp;omega
 clear hix hbt hd hEl hS f3 hll hi f1 f2
 go_enter Tryz.func152,Tryz.ntmps152
 go_wp2_with fail
 refine(Tryz.utf8_ValidRune r w).mono ?_
 rintro e w1 ⟨rfl,rfl⟩;rw[hv1]
 go_wp2_with fail
 go_step3
 go_wp2_with fail
 go_loopw [9,10] (fun x y wr=>x=.int .i64 (i:Nat)∧y=.int .i64 0∧wr=w1) (fun _ _ _=>0)
 case atStart=>exact⟨rfl,rfl,rfl⟩
 case round =>
  obtain⟨rfl,rfl,rfl⟩:=hrel
  go_wp2_with fail
  go_step3
  go_wp2_with fail
  go_quiet (fail)
  go_wp2_with fail
  go_region_with (go_at_call 172;refine(Tryz.strings_IndexByte _ _ _).mono ?_;rintro e w2 ⟨rfl,rfl⟩;rw[Hix.out])
  all_goals
   go_wp2_with fail
   rw[Exit.noGoto_ret];simp only[Exit.inBlock]
   (show Exit.noGoto _ Exit.ret _ _)
   rw[Exit.noGoto_ret];simp only[Exit.inBlock,Exit.then];rw[Exit.noGoto_ret]
   go_ret
   exact⟨rfl,(grown_drewN _ _).trans (gdrew' _)⟩
theorem numB_high {r:Int} (h:128≤r):numB r=false:=by unfold numB;simp;omega
theorem str_contains (r:Int) (w:World) (hb:isB r=true) :
  Calls Tryz.prog 126 #[.string numS,.int .i32 r] w fun e w'=>e=.returned (.bool (numB r))∧w.grownBy w' none:=by
 have hr:=isB_range hb
 by_cases h:r<128
 ·refine(Tryz.strings_ContainsRune_ascii numS r w hr.1 h).mono ?_
  rintro e w1 ⟨rfl,rfl⟩;have:=numS_ascii ⟨r.toNat,by omega⟩;have e:((r.toNat:Nat):Int)=r:=by omega
  simp only[e] at this
  exact⟨by rw[this],World.grownBy.refl _ _⟩
 ·rw[numB_high (by omega)]
  have hcall:Calls Tryz.prog 152 #[.string numS,.int .i32 r] w fun e w'=>e=.returned (.int .i64 (-1))∧w.grownBy w' none:=by
   by_cases hne:r=65533
   ·subst hne;exact str_bad w
   ·exact str_high r w (by omega) hb hne
  go_enter Tryz.func126,Tryz.ntmps126
  go_wp2_with fail
  refine hcall.mono ?_
  rintro e w1 ⟨rfl,g⟩
  go_wp2
  go_ret
  exact⟨rfl,g⟩
end Go.Proofs.YtfhdihdafmahgaaGreatDoor
namespace Go.Proofs.YtfhdihdafmahgaaGreatDoor
open Go.RowKit Rn
theorem ref_begins_ (bs:List UInt8) (A:Option Addr) (n cap B long:Nat) (w:World) (hr:Reads w B 1 A n (bs.map b8)) (hn:0<n) (hcap:n≤9223372036854775807) (hl2:2≤long) (hl4:long≤4) :
  Calls Tryz.prog 131 #[.slice A n cap,.int .i64 long] w fun e w'=>e=.returned (.bool (begR bs long))∧w=w':=by
 have hsp:=ref_span bs A n cap B long w hr hn hcap hl2 hl4
 have Hbeg:Hid (begR bs long=(let lo:=(spanR bs long).1;let hi:=(spanR bs long).2;if lo<0 then false else
  let least:Int:=if long=4 then 65536 else if long=3 then 2048 else 128;let low:=max lo least;let high:=min hi 1114111
  let low:=if 55296≤low∧low≤57343 then 57344 else low;decide (low≤high))):=rfl
 have hrange:(spanR bs long).1<0∨(0≤(spanR bs long).1∧(spanR bs long).1≤(spanR bs long).2∧(spanR bs long).2≤8388607):=by
  rcases spanR_range bs long hl2 hl4 with h | h
  ·left;rw[h];decide
  ·right;exact h
 generalize hlo:(spanR bs long).1=lo at *
 generalize hhi:(spanR bs long).2=hi at *
 have Hsp:=Lib.hid hsp;clear hsp hlo hhi hr;generalize begR bs long=R at *
 rcases hrange with h | ⟨h1,h2,h3⟩
 ·have hR:R=false:=by rw[Hbeg.out];simp[h]
  subst hR;clear Hbeg;obtain rfl | rfl | rfl:long=2∨long=3∨long=4:=by omega
  all_goals
   go_enter Tryz.func131,Tryz.ntmps131
   go_wp2_with (go_at_call 132;refine(Hsp.out).mono ?_;rintro e w' ⟨rfl,rfl⟩)
   go_ret
   exact⟨rfl,rfl⟩
 ·have hlo0:¬ lo<0:=by omega
  obtain rfl | rfl | rfl:long=2∨long=3∨long=4:=by omega
  all_goals
   go_enter Tryz.func131,Tryz.ntmps131
   go_wp2_with (go_at_call 132;refine(Hsp.out).mono ?_;rintro e w' ⟨rfl,rfl⟩)
   all_goals
    go_ret
    refine⟨ret_bool ?_,rfl⟩
    rw[Hbeg.out,if_neg (by omega),Bool.eq_iff_iff]
    simp
    (try split)<;>omega
def bestP (N S L:Nat):Nat:=if N≠0∧N<L then S else 1
def NextRel (N S:Nat) (best long:Value):Prop:=∃ L:Nat,2≤L∧L≤5∧long=.int .i64 L∧best=.int .i64 (bestP N S L)∧(N≠0→N<L→S<N)
def NextIn (N S n L:Nat) (best k:Value):Prop:=∃ j:Nat,1≤j∧j≤L∧j≤n+1∧k=.int .i64 j∧(1<j→L=N∧j-1≤S∧best=.int .i64 ((j-1:Nat):Int))∧(j=1→best=.int .i64 (bestP N S L))
theorem ref_next_core (b0:UInt8) (n cap b off N S M:Nat) (C:Int) (beg:Nat→Nat→Bool) (sp:Nat→Int×Int) (w:World) (h0:w.cell? ⟨b,off,none⟩=some (.int .u8 b0.toNat)) (hs:¬ b0.toNat<128) (hn:0<n) (hm:n≤cap) (hcap:cap≤9223372036854775807)
  (hcall:∀ k L,1≤k→k≤L→2≤L→L≤4→k≤n→Calls Tryz.prog 131 #[.slice (some ⟨b,off,none⟩) k cap,.int .i64 (L:Nat)] w fun e w'=>e=.returned (.bool (beg k L))∧w=w')
  (hspan:∀ L,2≤L→L≤4→L≤n→Calls Tryz.prog 132 #[.slice (some ⟨b,off,none⟩) L cap,.int .i64 (L:Nat)] w fun e w'=>e=.returned (.tuple #[.int .i64 (sp L).1,.int .i64 (sp L).2])∧w=w')
  (hbeg:∀ k L,1≤k→k≤L→2≤L→L≤4→k≤n→beg k L=decide (L=N∧k≤S))
  (hval:∀ L,2≤L→L≤4→L=N→L≤n→S=L→(sp L).1=C∧M=L)
  (hnext:S<N∨N=0→C=65533∧M=(if N=0 then 1 else S))
  (hN:N=0∨(2≤N∧N≤4)) (hS1:1≤S) (hS2:S≤n) (hS3:N≠0→S≤N) :
  Calls Tryz.prog 95 #[.slice (some ⟨b,off,none⟩) n cap] w fun e w'=>e=.returned (.tuple #[.int .i64 C,.int .i64 M])∧w=w':=by
 have hb0:b0.toNat<256:=b0.toNat_lt;have Hcall:=Lib.hid hcall;have Hspan:=Lib.hid hspan;have Hnext:=Lib.hid hnext;have Hval:=Lib.hid hval;have Hbeg:=Lib.hid hbeg;clear hcall hspan hnext hval hbeg
 go_enter Tryz.func95,Tryz.ntmps95
 go_wp2_with fail
 go_loop [4,5] (fun best long=>NextRel N S best long) (fun _ long=>5-(intOf long).toNat)
 case atStart=>exact⟨2,by omega,by omega,rfl,by rw[bestP,if_neg (by omega)];rfl,fun h1 h2=>by omega⟩
 case round =>
  obtain⟨L,hL1,hL2,rfl,rfl,hLN⟩:=hrel;have HLN:=Lib.hid hLN;clear hLN
  by_cases hL:L≤4
  ·go_wp2_with fail
   go_loop [4,6] (fun best k=>NextIn N S n L best k) (fun _ k=>5-(intOf k).toNat)
   case atStart=>exact⟨1,by omega,by omega,by omega,rfl,fun h=>by omega,fun _=>rfl⟩
   case round =>
    obtain⟨j,hj1,hj2,hj3,rfl,hbest,hbest1⟩:=hrel;have Hb:=Lib.hid hbest;have Hb1:=Lib.hid hbest1;clear hbest hbest1
    by_cases hjn:j≤n
    ·have hc:=Hcall.out j L hj1 hj2 hL1 hL hjn
     rw[Hbeg.out j L hj1 hj2 hL1 hL hjn] at hc
     by_cases hgo:L=N∧j≤S
     ·rw[decide_eq_true hgo] at hc
      obtain⟨x,hx,hx1,hx2⟩:∃ x:Nat,u4=.int .i64 (x:Int)∧1≤x∧x≤j:=by
       rcases Nat.lt_or_ge 1 j with h1 | h1
       ·exact⟨j-1,(Hb.out h1).2.2,by omega,by omega⟩
       ·have:=Hb1.out (by omega)
        rw[bestP,if_neg (by omega)] at this
        exact⟨1,this,by omega,by omega⟩
      have Hc:=Lib.hid hc;have Hgo:=Lib.hid hgo;subst hx;clear hc hgo
      by_cases hjL:j=L
      ·have hjL':((j:Int) == (L:Int))=true:=by simp[hjL]
       have hv:=Hval.out L hL1 hL Hgo.out.1 (by omega) (by have:=Hgo.out;omega);have hsp:=Hspan.out L hL1 hL (by omega);have Hv:=Lib.hid hv;have Hsp:=Lib.hid hsp;have HjL:=Lib.hid hjL;clear hjL hv hsp
       go_wp2_with fail
       refine(Hc.out).mono ?_
       rintro e w' ⟨rfl,rfl⟩
       go_wp2_with fail
       rw[HjL.out]
       refine(Hsp.out).mono ?_
       rintro e w' ⟨rfl,rfl⟩
       go_wp2
       go_ret2
       exact⟨ret2 Hv.out.1 (by rw[Hv.out.2]),rfl⟩
      ·have hjL':((j:Int) == (L:Int))=false:=by simp;omega
       have HjL:=Lib.hid hjL;clear hjL
       go_wp2_with fail
       refine(Hc.out).mono ?_
       rintro e w' ⟨rfl,rfl⟩
       go_wp2
       have hnew:NextIn N S n L (.int .i64 (max (x:Int) j)) (.int .i64 ((j:Int)+1)):=by
        have:=HjL.out
        exact⟨j+1,by omega,by omega,by omega,by go_num,fun _=>⟨Hgo.out.1,by have:=Hgo.out.2;omega,by rw[show max (x:Int) j=((j+1-1:Nat):Int) from by omega]⟩,fun h=>by omega⟩
       exact⟨hnew,by simp[intOf];omega⟩
     ·rw[decide_eq_false hgo] at hc
      have hnew:NextRel N S u4 (.int .i64 ((L:Int)+1)):=by
       have h1:=HLN.out;have h2:=Hb.out;have h3:=Hb1.out
       refine⟨L+1,by omega,by omega,by go_num,?_,fun e1 e2=>?_⟩
       ·by_cases e:L=N
        ·have hj:1<j:=by omega
         have:=h2 hj;rw[this.2.2,bestP,if_pos (by omega)]
         congr 2;omega
        ·have hj:j=1:=by
          rcases Nat.lt_or_ge 1 j with h | h
          ·exact absurd (h2 h).1 e
          ·omega
         rw[h3 hj,bestP,bestP]
         congr 2
         (repeat' split)<;>omega
       ·by_cases e:L=N
        ·omega
        ·exact h1 e1 (by omega)
      have Hc:=Lib.hid hc;have Hgo:=Lib.hid hgo;have Hnew:=Lib.hid hnew;clear hc hgo hnew
      go_wp2_with fail
      refine(Hc.out).mono ?_
      rintro e w' ⟨rfl,rfl⟩
      go_wp2
      exact⟨Hnew.out,by simp[intOf];omega⟩
    ·have hnew:NextRel N S u4 (.int .i64 ((L:Int)+1)):=by
      have h2:=Hb.out (by omega)
      refine⟨L+1,by omega,by omega,by go_num,?_,fun e1 e2=>by omega⟩
      rw[h2.2.2,bestP,if_pos (by omega)]
      congr 2;omega
     have Hnew:=Lib.hid hnew;clear hnew
     go_wp2_with fail
     exact⟨Hnew.out,by simp[intOf];omega⟩
  ·obtain rfl:L=5:=by omega
   have hx:=Hnext.out (by have:=HLN.out;omega);have Hx:=Lib.hid hx;clear hx
   go_wp2
   go_ret2
   refine⟨ret2 Hx.out.1.symm ?_,rfl⟩
   rw[Hx.out.2];unfold bestP
   (repeat' split)<;>omega
theorem ref_next (bs:List UInt8) (A:Option Addr) (n cap B:Nat) (w:World) (hr:Reads w B 1 A n (bs.map b8)) (hn:0<n) (hm:n≤cap) (hcap:cap≤9223372036854775807) :
  Calls Tryz.prog 95 #[.slice A n cap] w fun e w'=>e=.returned (.tuple #[.int .i64 (nextC bs),.int .i64 (nextN bs)])∧w=w':=by
 have hlen:bs.length=n:=by simpa using hr.len
 obtain⟨b,off,rfl,hb,hcell⟩:=hr.open_ hn
 have hcall:∀ k L,1≤k→k≤L→2≤L→L≤4→k≤n→Calls Tryz.prog 131 #[.slice (some ⟨b,off,none⟩) k cap,.int .i64 L] w fun e w'=>e=.returned (.bool (begR (bs.take k) L))∧w=w':=fun k L h1 h2 h3 h4 h5 =>
  ref_begins_ (bs.take k) _ k cap B L w (by have:=hr.take h5;rwa[← List.map_take] at this) h1 (by omega) h3 h4
 have hspan:∀ L,2≤L→L≤4→L≤n→Calls Tryz.prog 132 #[.slice (some ⟨b,off,none⟩) L cap,.int .i64 L] w fun e w'=>e=.returned (.tuple #[.int .i64 (spanR (bs.take L) L).1,.int .i64 (spanR (bs.take L) L).2])∧w=w':=fun L h3 h4 h5 =>
  ref_span (bs.take L) _ L cap B L w (by have:=hr.take h5;rwa[← List.map_take] at this) (by omega) (by omega) h3 h4
 have hval:∀ L,2≤L→L≤4→L=bN (bs[0]?.getD 0).toNat→L≤n→stopP bs=L→(spanR (bs.take L) L).1=nextC bs∧nextN bs=L:=fun L h1 h2 h3 h4 h5=>by
  have hx:=next_full (bs:=bs) (by omega) (by omega)
  exact⟨by rw[span_val bs L h1 h2 h3 (by omega) h5,hx.1,← h3],by rw[hx.2,← h3]⟩
 have hbeg:128≤(bs[0]?.getD 0).toNat→∀ k L,1≤k→k≤L→2≤L→L≤4→k≤n→begR (bs.take k) L=decide (L=bN (bs[0]?.getD 0).toNat∧k≤stopP bs):=fun h0 k L h1 h2 h3 h4 h5=>by
  rw[Bool.eq_iff_iff,decide_eq_true_iff];exact beg_take bs k L h0 h1 h2 h3 h4 (by omega)
 have hN1:128≤(bs[0]?.getD 0).toNat→bN (bs[0]?.getD 0).toNat=0∨(2≤bN (bs[0]?.getD 0).toNat∧bN (bs[0]?.getD 0).toNat≤4):=by unfold bN;(repeat' split)<;>omega
 have hS1:1≤stopP bs:=scan_ge bs _ _ _ 1;have hS2:stopP bs≤n:=by rw[← hlen];exact scan_le bs _ _ _ 1 (by omega)
 have hS3:bN (bs[0]?.getD 0).toNat≠0→stopP bs≤bN (bs[0]?.getD 0).toNat:=by
  intro h0;unfold stopP;simp only;generalize bLo (bs[0]?.getD 0).toNat=lo;generalize bHi (bs[0]?.getD 0).toNat=hi
  have:∀ f k,scan bs lo hi f k≤k+f:=by
   intro f
   induction f with
   | zero=>intro k;exact Nat.le_refl _
   | succ f ih =>
    intro k;unfold scan;split
    ·exact Nat.le_trans (ih (k+1)) (by omega)
    ·omega
  exact Nat.le_trans (this _ 1) (by omega)
 have hnext:stopP bs<bN (bs[0]?.getD 0).toNat∨bN (bs[0]?.getD 0).toNat=0→nextC bs=65533∧nextN bs=(if bN (bs[0]?.getD 0).toNat=0 then 1 else stopP bs):=by
  intro h
  by_cases h0:bN (bs[0]?.getD 0).toNat=0
  ·simp[nextC,nextN,h0]
  ·simp[nextC,nextN,h0,h.resolve_right h0]
 obtain⟨b0,hb0⟩:∃ b0,bs[0]?=some b0:=⟨_,List.getElem?_eq_getElem (by omega)⟩;have hc0:w.cell? ⟨b,off,none⟩=some (.int .u8 b0.toNat):=by have:=hcell 0 (b8 b0) (by rw[List.getElem?_map,hb0];rfl);simpa [b8] using this
 have e0:(bs[0]?.getD 0)=b0:=by rw[hb0];rfl
 by_cases hs:b0.toNat<128
 ·have h1:bN (bs[0]?.getD 0).toNat=1:=by rw[e0];simp[bN,hs]
  have hst:stopP bs=1:=by simp only[stopP,h1];rfl
  have hx:=next_full (bs:=bs) (by omega) (by rw[hst,h1]);rw[h1] at hx;have hx1:nextC bs=b0.toNat:=by rw[hx.1];simp[val,hb0]
  have Hx:=Lib.hid hx;have Hx1:=Lib.hid hx1;have hb256:b0.toNat<256:=b0.toNat_lt;clear hx hx1 h1 hst hcall hspan hval hbeg hN1 hS1 hS2 hS3 hnext hb0 e0 hcell hr hlen
  go_enter Tryz.func95,Tryz.ntmps95
  go_wp2
  go_ret2
  exact⟨ret2 Hx1.out.symm (by rw[Hx.out.2];rfl),rfl⟩
 ·exact ref_next_core b0 n cap b off _ (stopP bs) (nextN bs) (nextC bs) (fun k L=>begR (bs.take k) L) (fun L=>spanR (bs.take L) L) w hc0 hs hn hm hcap hcall hspan (hbeg (by rw[e0];omega)) hval hnext (hN1 (by rw[e0];omega)) hS1 hS2 hS3
namespace Rn
def refC (c:Int):Int:=if c=13∨c=12 then 10 else if c=0 then 65533 else c
def refN (bs:List UInt8):Nat:=if nextC bs=13∧bs[1]?=some 10 then 2 else nextN bs
def refF:Nat→List UInt8→List Int
 | 0,_=>[]
 | f+1,bs=>if bs=[] then [] else refC (nextC bs)::refF f (bs.drop (refN bs))
end Rn
theorem nextC_small (bs:List UInt8) (h:nextC bs<128):nextN bs=1∧((bs[0]?.getD 0).toNat:Int)=nextC bs:=by
 have hb:=UInt8.toNat_lt (bs[0]?.getD 0)
 have key:bN (bs[0]?.getD 0).toNat=1→nextN bs=1∧((bs[0]?.getD 0).toNat:Int)=nextC bs:=by
  intro h1;have hst:stopP bs=1:=by simp only[stopP,h1];rfl
  have hx:=next_full (bs:=bs) (by omega) (by rw[hst,h1]);rw[h1] at hx
  exact⟨hx.2,by rw[hx.1];simp[val]⟩
 by_cases h1:bN (bs[0]?.getD 0).toNat=1
 ·exact key h1
 ·exfalso
  by_cases h0:bN (bs[0]?.getD 0).toNat=0
  ·simp[nextC,h0] at h
  ·by_cases hs:stopP bs<bN (bs[0]?.getD 0).toNat
   ·simp[nextC,h0,hs] at h
   ·have hN:bN (bs[0]?.getD 0).toNat≤4:=by unfold bN;(repeat' split)<;>omega
    have hok:=(stop_ge bs (bN (bs[0]?.getD 0).toNat) (Nat.le_refl _) (by omega)).1 (by omega);obtain⟨b1,g1,l1,u1⟩:=okAt_mem (hok 1 (by omega) (by omega))
    have hval:128≤val bs (bN (bs[0]?.getD 0).toNat):=by
     have hN2:bN (bs[0]?.getD 0).toNat=2∨bN (bs[0]?.getD 0).toNat=3∨bN (bs[0]?.getD 0).toNat=4:=by omega
     revert l1 u1
     generalize hc:(bs[0]?.getD 0).toNat=c at *
     simp only[val,hc,g1,Option.getD_some]
     rcases hN2 with e | e | e
     ·have:194≤c∧c<224:=by revert e;unfold bN;(repeat' split)<;>omega
      rw[e];simp only[if_neg (show ¬ (2=1) from by omega),if_true]
      omega
     ·have:224≤c∧c<240:=by revert e;unfold bN;(repeat' split)<;>omega
      rw[e];simp only[if_neg (show ¬ (3=1) from by omega),if_neg (show ¬ (3=2) from by omega),if_true];unfold loAt hiAt bLo bHi
      (repeat' split)<;>omega
     ·have:240≤c∧c≤244:=by revert e;unfold bN;(repeat' split)<;>omega
      rw[e];simp only[if_neg (show ¬ (4=1) from by omega),if_neg (show ¬ (4=2) from by omega),if_neg (show ¬ (4=3) from by omega)];unfold loAt hiAt bLo bHi
      (repeat' split)<;>omega
    simp[nextC,h0,hs] at h
    omega
theorem drop_nil_len {α:Type} (l:List α) (n:Nat) (h:1≤n) (hl:l≠[]):(l.drop n).length<l.length:=by
 have:=List.length_pos_iff.2 hl;rw[List.length_drop];omega
theorem readF_fuel:∀ (g:Nat) (bs:List UInt8),bs.length≤g→readF (g+1) bs=readF g bs
 | 0,bs,h=>by
  have:bs=[]:=List.eq_nil_of_length_eq_zero (by omega)
  simp[readF,this]
 | g+1,bs,h=>by
  by_cases h0:bs=[]
  ·simp[readF,h0]
  ·have ih:=readF_fuel g (bs.drop (nextN bs)) (by have:=drop_nil_len bs (nextN bs) (nextN_pos bs) h0;omega)
   rw[readF,readF];simp only[h0,ih]
theorem refF_eq:∀ (f:Nat) (bs:List UInt8),bs.length≤f→refF f bs=readF f bs
 | 0,bs,h=>by
  have:bs=[]:=List.eq_nil_of_length_eq_zero (by omega)
  simp[readF,refF,this]
 | f+1,bs,h=>by
  by_cases h0:bs=[]
  ·simp[readF,refF,h0]
  ·have hd:=drop_nil_len bs (nextN bs) (nextN_pos bs) h0
   have ih:=refF_eq f (bs.drop (nextN bs)) (by omega);rw[refF,if_neg h0]
   by_cases c0:nextC bs=0
   ·rw[readF_zero f h0 c0,refN,if_neg (by omega),ih,refC,if_neg (by omega),if_pos c0]
   ·by_cases c1:nextC bs=13
    ·obtain⟨hn1,_⟩:=nextC_small bs (by omega)
     have hsnd:(bs.drop (nextN bs))[0]?=bs[1]?:=by rw[hn1,List.getElem?_drop]
     by_cases h10:bs[1]?=some 10
     ·have hl2:2≤bs.length:=by
       rcases Nat.lt_or_ge 1 bs.length with h | h
       ·exact h
       ·rw[List.getElem?_eq_none h] at h10;cases h10
      obtain⟨g,rfl⟩:∃ g,f=g+1:=⟨f-1,by omega⟩;rw[readF_skip _ h0 c1 (by rw[hsnd];exact h10),refN,if_pos ⟨c1,h10⟩,refC,if_pos (.inl c1)];have hne:bs.drop (nextN bs)≠[]:=by intro e;rw[e] at hsnd;rw[h10] at hsnd;cases hsnd
      have hg0:((bs.drop (nextN bs))[0]?.getD 0).toNat=10:=by rw[hsnd,h10];rfl
      have hbn:bN ((bs.drop (nextN bs))[0]?.getD 0).toNat=1:=by rw[hg0];rfl
      have hst:stopP (bs.drop (nextN bs))=1:=by simp only[stopP,hbn];rfl
      have hx:=next_full (bs:=bs.drop (nextN bs)) (by omega) (by rw[hst,hbn]);rw[hbn] at hx;have hc10:nextC (bs.drop (nextN bs))=10:=by rw[hx.1];simp only[val,if_true,hg0];rfl
      rw[readF_char g hne (by omega) (by omega) (by omega),hx.2,hc10,List.drop_drop,hn1];rw[refF_eq (g+1) (bs.drop 2) (by rw[List.length_drop];omega),readF_fuel g (bs.drop 2) (by rw[List.length_drop];omega)]
     ·rw[readF_line f h0 (.inl ⟨c1,by rw[hsnd];exact h10⟩),refN,if_neg (by intro h;exact h10 h.2),ih,refC,if_pos (.inl c1)]
    ·by_cases c2:nextC bs=12
     ·rw[readF_line f h0 (.inr c2),refN,if_neg (by intro h;exact c1 h.1),ih,refC,if_pos (.inr c2)]
     ·rw[readF_char f h0 c0 c1 c2,refN,if_neg (by intro h;exact c1 h.1),ih,refC,if_neg (by omega),if_neg c0]
theorem int_info:(Tryz.prog.info? 3).map (fun i=>(i.zero,i.size,i.bytes))=some (some (.int .i64 0),1,8):=by kernel_rfl
theorem ref_read (bs:List UInt8) (A:Option Addr) (n cap:Nat) (w:World) (hr:Reads w w.heap.size 1 A n (bs.map b8)) (hm:n≤cap) (hcap:cap≤maxLen) (hn:n≤1000000) :
  Calls Tryz.prog 64 #[.slice A n cap] w fun e w'=>∃ v,e=.returned v∧w'.ownsRow w.heap.size 3 1 v (readP bs).length ((readP bs).map n64)∧Below w.heap.size w w':=by
 have hcap':=hcap;unfold maxLen at hcap;have hlen:bs.length=n:=by simpa using hr.len
 have hP:refF bs.length bs=readP bs:=refF_eq _ bs (Nat.le_refl _);obtain⟨i0,hi,hz0,hz1,hz2⟩:=info_parts int_info;have Hlen:=Lib.hid hlen;have HP:=Lib.hid hP;clear hlen hP
 go_enter Tryz.func64,Tryz.ntmps64
 go_wp2
 go_loopw [0,3] (fun b o wr=>∃ (rest:List UInt8) (A:Option Addr) (m c:Nat) (done:List Int) (f:Nat),b=.slice A m c∧Reads wr w.heap.size 1 A m (rest.map b8)∧m≤c∧c≤9223372036854775807∧m+done.length≤n
   ∧ wr.ownsRow w.heap.size 3 1 o done.length (done.map n64)∧Below w.heap.size w wr∧Hid (rest.length≤f)∧Hid (done++refF f rest=readP bs)) (fun b _ _=>match b with | .slice _ m _=>m | _=>0)
 case atStart=>exact⟨bs,A,n,cap,[],bs.length,rfl,hr,hm,by omega,by simp,World.ownsRow_nil _ _ _ _,Below.refl _ _,Nat.le_refl _,HP.out⟩
 case round =>
  obtain⟨rest,A',m,c,done,f,rfl,hr',hmc,hc,hdm,hown,hb,hf,hd⟩:=hrel
  by_cases h0:0<m
  ·have hrl:rest.length=m:=by simpa using hr'.len
   have hne:rest≠[]:=by intro e0;rw[e0] at hrl;simp at hrl;omega
   have hN0:nextN rest≤rest.length:=nextN_le rest hne
   have hN1:1≤refN rest:=by unfold refN;split;omega;exact nextN_pos rest
   have hN2:refN rest≤m:=by
    unfold refN;split
    ·rename_i h
     rcases Nat.lt_or_ge 1 rest.length with h1 | h1
     ·omega
     ·rw[List.getElem?_eq_none h1] at h;cases h.2
    ·omega
   have hNp:=nextN_pos rest;have hsl:=fun (kd:IntKind) W=>run_cut (P:=Tryz.prog) Tryz.underlying22 (by kernel_rfl) (s:=1) (fun W=>by kernel_rfl) A' m c kd (refN rest) hN2 W
   have hcut:=hr'.cutA (k:=refN rest) (c:=c) hN2 hmc;rw[← List.map_drop] at hcut;have hs2:=hb.size;have hcall:=ref_next rest A' m c _ wr hr' h0 hmc (by omega);obtain⟨f,hff⟩:∃ g,Hid (f=g+1):=⟨f-1,by have:=hf.out;show f=f-1+1;omega⟩;rw[hff.out] at hf hd;have hf':Hid ((rest.drop (refN rest)).length≤f):=by have:=hf.out;show (rest.drop (refN rest)).length≤f;rw[List.length_drop];omega
   have step:(done++[refC (nextC rest)])++refF f (rest.drop (refN rest))=readP bs:=by
    have:=hd.out;rw[refF,if_neg hne] at this;rw[← this];simp
   have Hstep:=Lib.hid step;have Hcall:=Lib.hid hcall;have Hrl:=Lib.hid hrl;have Hne:=Lib.hid hne;have hsz:m-refN rest+(done.length+1)≤n:=by omega
   clear step hff hcall hrl hne hd hf;generalize hA2:cutAt A' c (refN rest) 1=A2 at *
   clear hA2
   by_cases c1:nextC rest=13
   ·have c1':(nextC rest == 13)=true:=by simp[c1]
    by_cases hmore:1<m
    ·obtain⟨b,off,u,hA,_,hx,hcell⟩:=hr'.at_ (k:=1) hmore
     subst hA;obtain⟨b',hx'⟩:∃ b',rest[1]?=some b':=⟨_,List.getElem?_eq_getElem (by rw[Hrl.out];omega)⟩;rw[List.getElem?_map,hx'] at hx;obtain rfl:u=b8 b':=by simpa using hx.symm
     unfold b8 at hcell
     by_cases h10:b'=10
     ·have h10':((b'.toNat:Int) == 10)=true:=by simp[h10]
      have hrN:refN rest=2:=by rw[refN,if_pos ⟨c1,by rw[hx',h10]⟩]
      rw[hrN] at hN1 hN2 hsl hcut hf' Hstep hsz;have HC1:=Lib.hid c1;have hsl2:∀ (kd:IntKind) W,(Instr.slice 22 (.slice (some ⟨b,off,none⟩) m c) (some (.int kd 2)) none none).run Tryz.prog W=.ok (.slice A2 (m-2) (c-2)) W:=hsl;clear c1 hx' hx h10 hrN hsl
      have hx:refC (nextC rest)=10:=by
       simp only[refC];(repeat' split)<;>simp_all[Hid]<;>omega
      rw[hx] at Hstep;clear hx;have Hstep2:=Hstep;clear Hstep
      go_wp2_with (first | (go_at_call 95;refine(Hcall.out).mono ?_;rintro e w' ⟨rfl,rfl⟩) | (at_builtin;refine wpList_append_own _ rfl _ _ 51 rfl w.heap.size 3 i0 (.int .i64 0) 1 8 Tryz.underlying51 hi hz0 hz1 hz2 rfl (by decide) _ _ _ rfl (hown.alloc _) ⟨wr.heap.size,0,none⟩ 1 1 [.int .i64 10] rfl rfl ?c1 ?c2 ?c3 ?c4 ?c5 ?_))
      case c1=>exact cell_one_new _ _ _
      case c2=>intro u hu;simp at hu;subst hu;rfl
      case c3=>unfold maxLen;omega
      case c4=>omega
      case c5=>simp;omega
      intro v' w2 hown' hgrow _;have hbn:=push_below hb hs2 hown hgrow;have hrn:=push_reads hcut hs2 hown hgrow;clear hgrow hown hcut hb
      go_wp2
      go_roundw
      case rel=>exact⟨_,A2,_,_,done++[10],f,rfl,hrn,by omega,by omega,by simpa using hsz,by simpa [n64] using hown',hbn,hf',Hstep2.out⟩
      case measure=>simp;omega
     ·have h10':((b'.toNat:Int) == 10)=false:=by
       simp only[beq_eq_false_iff_ne];intro e
       exact h10 (UInt8.toNat_inj.1 (by simpa using Int.ofNat.inj e))
      have hrN:refN rest=nextN rest:=by rw[refN,if_neg (by intro h;rw[hx'] at h;exact h10 (by simpa using h.2))]
      rw[hrN] at hN1 hN2 hsl hcut hf' Hstep hsz;have HC1:=Lib.hid c1;clear c1 hx' hx h10 hrN
      have hx:refC (nextC rest)=10:=by
       simp only[refC];(repeat' split)<;>simp_all[Hid]<;>omega
      rw[hx] at Hstep;clear hx;have Hstep2:=Hstep;clear Hstep
      go_wp2_with (first | (go_at_call 95;refine(Hcall.out).mono ?_;rintro e w' ⟨rfl,rfl⟩) | (at_builtin;refine wpList_append_own _ rfl _ _ 51 rfl w.heap.size 3 i0 (.int .i64 0) 1 8 Tryz.underlying51 hi hz0 hz1 hz2 rfl (by decide) _ _ _ rfl (hown.alloc _) ⟨wr.heap.size,0,none⟩ 1 1 [.int .i64 10] rfl rfl ?c1 ?c2 ?c3 ?c4 ?c5 ?_))
      case c1=>exact cell_one_new _ _ _
      case c2=>intro u hu;simp at hu;subst hu;rfl
      case c3=>unfold maxLen;omega
      case c4=>omega
      case c5=>simp;omega
      intro v' w2 hown' hgrow _;have hbn:=push_below hb hs2 hown hgrow;have hrn:=push_reads hcut hs2 hown hgrow;clear hgrow hown hcut hb
      go_wp2
      go_roundw
      case rel=>exact⟨_,A2,_,_,done++[10],f,rfl,hrn,by omega,by omega,by simpa using hsz,by simpa [n64] using hown',hbn,hf',Hstep2.out⟩
      case measure=>simp;omega
    ·have hrN:refN rest=nextN rest:=by rw[refN,if_neg (by intro h;rw[List.getElem?_eq_none (by rw[Hrl.out];omega)] at h;cases h.2)]
     rw[hrN] at hN1 hN2 hsl hcut hf' Hstep hsz;have HC1:=Lib.hid c1;have hm1:¬ (1:Int)<(m:Int):=by omega
     have hm2:(m:Int)≤1:=by omega
     have hmb:decide ((1:Int)<(m:Int))=false:=by simp;omega
     clear c1 hrN hmore
     have hx:refC (nextC rest)=10:=by
      simp only[refC];(repeat' split)<;>simp_all[Hid]<;>omega
     rw[hx] at Hstep;clear hx;have Hstep2:=Hstep;clear Hstep
     go_wp2_with (first | (go_at_call 95;refine(Hcall.out).mono ?_;rintro e w' ⟨rfl,rfl⟩) | (at_builtin;refine wpList_append_own _ rfl _ _ 51 rfl w.heap.size 3 i0 (.int .i64 0) 1 8 Tryz.underlying51 hi hz0 hz1 hz2 rfl (by decide) _ _ _ rfl (hown.alloc _) ⟨wr.heap.size,0,none⟩ 1 1 [.int .i64 10] rfl rfl ?c1 ?c2 ?c3 ?c4 ?c5 ?_))
     case c1=>exact cell_one_new _ _ _
     case c2=>intro u hu;simp at hu;subst hu;rfl
     case c3=>unfold maxLen;omega
     case c4=>omega
     case c5=>simp;omega
     intro v' w2 hown' hgrow _;have hbn:=push_below hb hs2 hown hgrow;have hrn:=push_reads hcut hs2 hown hgrow;clear hgrow hown hcut hb
     go_wp2
     go_roundw
     case rel=>exact⟨_,A2,_,_,done++[10],f,rfl,hrn,by omega,by omega,by simpa using hsz,by simpa [n64] using hown',hbn,hf',Hstep2.out⟩
     case measure=>simp;omega
   ·have c1':(nextC rest == 13)=false:=by simp[c1]
    have hrN:refN rest=nextN rest:=by rw[refN,if_neg (by intro h;exact c1 h.1)]
    rw[hrN] at hN1 hN2 hsl hcut hf' Hstep hsz;have HC1:=Lib.hid c1;clear c1 hrN
    by_cases c2:nextC rest=12
    ·have c2':(nextC rest == 12)=true:=by simp[c2]
     have HC2:=Lib.hid c2;clear c2
     have hx:refC (nextC rest)=10:=by
      simp only[refC];(repeat' split)<;>simp_all[Hid]<;>omega
     rw[hx] at Hstep;clear hx;have Hstep2:=Hstep;clear Hstep
     go_wp2_with (first | (go_at_call 95;refine(Hcall.out).mono ?_;rintro e w' ⟨rfl,rfl⟩) | (at_builtin;refine wpList_append_own _ rfl _ _ 51 rfl w.heap.size 3 i0 (.int .i64 0) 1 8 Tryz.underlying51 hi hz0 hz1 hz2 rfl (by decide) _ _ _ rfl (hown.alloc _) ⟨wr.heap.size,0,none⟩ 1 1 [.int .i64 10] rfl rfl ?c1 ?c2 ?c3 ?c4 ?c5 ?_))
     case c1=>exact cell_one_new _ _ _
     case c2=>intro u hu;simp at hu;subst hu;rfl
     case c3=>unfold maxLen;omega
     case c4=>omega
     case c5=>simp;omega
     intro v' w2 hown' hgrow _;have hbn:=push_below hb hs2 hown hgrow;have hrn:=push_reads hcut hs2 hown hgrow;clear hgrow hown hcut hb
     go_wp2
     go_roundw
     case rel=>exact⟨_,A2,_,_,done++[10],f,rfl,hrn,by omega,by omega,by simpa using hsz,by simpa [n64] using hown',hbn,hf',Hstep2.out⟩
     case measure=>simp;omega
    ·have c2':(nextC rest == 12)=false:=by simp[c2]
     have HC2:=Lib.hid c2;clear c2
     by_cases c0:nextC rest=0
     ·have c0':(nextC rest == 0)=true:=by simp[c0]
      have HC0:=Lib.hid c0;clear c0
      have hx:refC (nextC rest)=65533:=by
       simp only[refC];(repeat' split)<;>simp_all[Hid]<;>omega
      rw[hx] at Hstep;clear hx;have Hstep2:=Hstep;clear Hstep
      go_wp2_with (first | (go_at_call 95;refine(Hcall.out).mono ?_;rintro e w' ⟨rfl,rfl⟩) | (at_builtin;refine wpList_append_own _ rfl _ _ 51 rfl w.heap.size 3 i0 (.int .i64 0) 1 8 Tryz.underlying51 hi hz0 hz1 hz2 rfl (by decide) _ _ _ rfl (hown.alloc _) ⟨wr.heap.size,0,none⟩ 1 1 [.int .i64 65533] rfl rfl ?c1 ?c2 ?c3 ?c4 ?c5 ?_))
      case c1=>exact cell_one_new _ _ _
      case c2=>intro u hu;simp at hu;subst hu;rfl
      case c3=>unfold maxLen;omega
      case c4=>omega
      case c5=>simp;omega
      intro v' w2 hown' hgrow _;have hbn:=push_below hb hs2 hown hgrow;have hrn:=push_reads hcut hs2 hown hgrow;clear hgrow hown hcut hb
      go_wp2
      go_roundw
      case rel=>exact⟨_,A2,_,_,done++[65533],f,rfl,hrn,by omega,by omega,by simpa using hsz,by simpa [n64] using hown',hbn,hf',Hstep2.out⟩
      case measure=>simp;omega
     ·have c0':(nextC rest == 0)=false:=by simp[c0]
      have HC0:=Lib.hid c0;clear c0
      have hx:refC (nextC rest)=(nextC rest):=by
       simp only[refC];(repeat' split)<;>simp_all[Hid]<;>omega
      rw[hx] at Hstep;clear hx;have Hstep2:=Hstep;clear Hstep
      go_wp2_with (first | (go_at_call 95;refine(Hcall.out).mono ?_;rintro e w' ⟨rfl,rfl⟩) | (at_builtin;refine wpList_append_own _ rfl _ _ 51 rfl w.heap.size 3 i0 (.int .i64 0) 1 8 Tryz.underlying51 hi hz0 hz1 hz2 rfl (by decide) _ _ _ rfl (hown.alloc _) ⟨wr.heap.size,0,none⟩ 1 1 [.int .i64 (nextC rest)] rfl rfl ?c1 ?c2 ?c3 ?c4 ?c5 ?_))
      case c1=>exact cell_one_new _ _ _
      case c2=>intro u hu;simp at hu;subst hu;rfl
      case c3=>unfold maxLen;omega
      case c4=>omega
      case c5=>simp;omega
      intro v' w2 hown' hgrow _;have hbn:=push_below hb hs2 hown hgrow;have hrn:=push_reads hcut hs2 hown hgrow;clear hgrow hown hcut hb
      go_wp2
      go_roundw
      case rel=>exact⟨_,A2,_,_,done++[(nextC rest)],f,rfl,hrn,by omega,by omega,by simpa using hsz,by simpa [n64] using hown',hbn,hf',Hstep2.out⟩
      case measure=>simp;omega
  ·have hm0:m=0:=by omega
   subst hm0
   go_wp2
   go_ret
   have hrl:rest=[]:=by simpa using hr'.len
   have hdn:done=readP bs:=by have:=hd.out;rw[hrl] at this;rw[← this];cases f<;>simp[refF]
   rw[hdn] at hown
   exact⟨_,rfl,hown,hb⟩
end Go.Proofs.YtfhdihdafmahgaaGreatDoor
namespace Go.Proofs.YtfhdihdafmahgaaGreatDoor
open Go.RowKit Rn
theorem nextC_is (bs:List UInt8):isB (nextC bs)=true:=by
 have hb0:=UInt8.toNat_lt (bs[0]?.getD 0);unfold nextC;simp only
 split
 ·decide
 ·rename_i h0
  split
  ·decide
  ·rename_i hs
   have hN:bN (bs[0]?.getD 0).toNat≤4:=by unfold bN;(repeat' split)<;>omega
   have hok:=(stop_ge bs (bN (bs[0]?.getD 0).toNat) (Nat.le_refl _) (by omega)).1 (by omega);unfold isB;rw[decide_eq_true_iff];obtain e | e | e | e:bN (bs[0]?.getD 0).toNat=1∨bN (bs[0]?.getD 0).toNat=2∨bN (bs[0]?.getD 0).toNat=3∨bN (bs[0]?.getD 0).toNat=4:=by omega
   ·have hc:(bs[0]?.getD 0).toNat<128:=by revert e;unfold bN;(repeat' split)<;>omega
    rw[e];simp only[val,if_true];omega
   ·have hc:194≤(bs[0]?.getD 0).toNat∧(bs[0]?.getD 0).toNat<224:=by revert e;unfold bN;(repeat' split)<;>omega
    rw[e];simp only[val,if_true,if_neg (show ¬ (2=1) from by omega)];omega
   ·have hc:224≤(bs[0]?.getD 0).toNat∧(bs[0]?.getD 0).toNat<240:=by revert e;unfold bN;(repeat' split)<;>omega
    obtain⟨b1,g1,l1,u1⟩:=okAt_mem (hok 1 (by omega) (by omega))
    revert l1 u1
    rw[e];simp only[val,if_true,if_neg (show ¬ (3=1) from by omega),if_neg (show ¬ (3=2) from by omega),g1,Option.getD_some];unfold loAt hiAt bLo bHi
    (repeat' split)<;>omega
   ·have hc:240≤(bs[0]?.getD 0).toNat∧(bs[0]?.getD 0).toNat≤244:=by revert e;unfold bN;(repeat' split)<;>omega
    obtain⟨b1,g1,l1,u1⟩:=okAt_mem (hok 1 (by omega) (by omega))
    revert l1 u1
    rw[e];simp only[val,if_neg (show ¬ (4=1) from by omega),if_neg (show ¬ (4=2) from by omega),if_neg (show ¬ (4=3) from by omega),g1,Option.getD_some];unfold loAt hiAt bLo bHi
    (repeat' split)<;>omega
theorem readF_plain:∀ (f:Nat) (bs:List UInt8),∀ c∈readF f bs,Plain c
 | 0,bs=>by simp[readF]
 | f+1,bs=>by
  have ih:=readF_plain f (bs.drop (nextN bs));have hc:=nextC_is bs;have h65:Plain 65533:=⟨by decide,by decide,by decide,by decide⟩;have h10:Plain 10:=⟨by decide,by decide,by decide,by decide⟩;unfold readF;simp only
  split
  ·simp
  ·split
   ·intro c h
    rcases List.mem_cons.1 h with rfl | h
    ·exact h65
    ·exact ih c h
   ·rename_i c0
    split
    ·exact ih
    ·split
     ·intro c h
      rcases List.mem_cons.1 h with rfl | h
      ·exact h10
      ·exact ih c h
     ·rename_i c12
      intro c h
      rcases List.mem_cons.1 h with rfl | h
      ·exact⟨hc,c0,fun e=>c12 (.inr e),fun e=>c12 (.inl e)⟩
      ·exact ih c h
theorem readP_plain (bs:List UInt8):∀ c∈readP bs,Plain c:=readF_plain _ bs
section
variable (a:List UInt8) (b0:UInt8) (b:List UInt8) (ha:a≠[]) (h128:b0.toNat<128)
include ha h128
end
end Go.Proofs.YtfhdihdafmahgaaGreatDoor
namespace Go.Proofs.YtfhdihdafmahgaaGreatDoor
open Go.RowKit Rn Tk
theorem own_less {w:World} {b b':Nat} {e:TypeId} {size n:Nat} {v:Value} {xs:List Value} (h:w.ownsRow b e size v n xs) (hb:b'≤b):w.ownsRow b' e size v n xs:=by
 refine⟨h.1,?_⟩
 rcases h.2 with h | ⟨g,cap,cur,h1,h2,h3⟩
 ·exact .inl h
 ·exact .inr ⟨g,cap,cur,h1,Nat.le_trans hb h2,h3⟩
end Go.Proofs.YtfhdihdafmahgaaGreatDoor
namespace Go.Proofs.YtfhdihdafmahgaaGreatDoor
open Go.RowKit Rn Tp
namespace Tp
def docB (l:List UInt8) (k:Nat):Int:=((l[k]?.getD 0).toNat:Int)
def docN (l:List UInt8):Nat:=if 240≤docB l 0 then 4 else if 224≤docB l 0 then 3 else if 128≤docB l 0 then 2 else 1
def docV (l:List UInt8):Nat→Int
 | 0=>if 240≤docB l 0 then docB l 0-240 else if 224≤docB l 0 then docB l 0-224 else if 128≤docB l 0 then docB l 0-192 else docB l 0
 | k+1=>docV l k * 64+docB l (k+1)-128
def docC (l:List UInt8):Int:=docV l (docN l-1)
def docOk (l:List UInt8):Bool:=decide (docN l≤l.length∧0≤docC l) && isB (docC l) && decide (Lib.encodeRune (docC l)=l.take (docN l))
end Tp
theorem docN_range (l:List UInt8):1≤docN l∧docN l≤4:=by unfold docN;(repeat' split)<;>omega
theorem docV_range (l:List UInt8):∀ k,k≤3→-100000000≤docV l k∧docV l k≤100000000:=by
 have hb:∀ k,0≤docB l k∧docB l k<256:=fun k=>by unfold docB;have:=UInt8.toNat_lt (l[k]?.getD 0);omega
 have h0:=hb 0;have h1:=hb 1;have h2:=hb 2;have h3:=hb 3;have g0:-64≤docV l 0∧docV l 0≤255:=by unfold docV;(repeat' split)<;>omega
 have g1:docV l 1=docV l 0 * 64+docB l 1-128:=rfl;have g2:docV l 2=docV l 1 * 64+docB l 2-128:=rfl;have g3:docV l 3=docV l 2 * 64+docB l 3-128:=rfl;intro k hk;have:k=0∨k=1∨k=2∨k=3:=by omega
 rcases this with rfl | rfl | rfl | rfl<;>omega
theorem doc_enc (c:Int) (hc:isB c=true) (rest:List UInt8):docN (Lib.encodeRune c++rest)=(Lib.encodeRune c).length∧docC (Lib.encodeRune c++rest)=c:=by
 have hc':0≤c∧c≤1114111∧(c<55296∨57343<c):=by simpa [isB] using hc
 obtain⟨h0,h1,h2⟩:=hc'
 by_cases c1:c<128
 ·have e:Lib.encodeRune c=[c.toNat.toUInt8]:=by simp[Lib.encodeRune,Lib.encodeRuneZ_one h0 (by omega:c≤127)]
  rw[e];have g0:=b_of c h0 (by omega);generalize c.toNat.toUInt8=b0 at *
  have hN:docN ([b0]++rest)=1:=by
   unfold docN docB;simp only[List.cons_append,List.nil_append,List.getElem?_cons_zero,Option.getD_some];rw[if_neg (by omega),if_neg (by omega),if_neg (by omega)]
  refine⟨by rw[hN];rfl,?_⟩
  unfold docC;rw[hN]
  show docV ([b0]++rest) 0=c
  unfold docV docB
  simp
  rw[if_neg (by omega),if_neg (by omega),if_neg (by omega)];omega
 ·by_cases c2:c<2048
  ·have e:Lib.encodeRune c=[(192+c / 64).toNat.toUInt8,(128+c % 64).toNat.toUInt8]:=by simp[Lib.encodeRune,Lib.encodeRuneZ_two (by omega:128≤c) (by omega)]
   rw[e];have g0:=b_of (192+c / 64) (by omega) (by omega);have g1:=b_of (128+c % 64) (by omega) (by omega);generalize (192+c / 64).toNat.toUInt8=b0 at *
   generalize (128+c % 64).toNat.toUInt8=b1 at *
   have hN:docN ([b0,b1]++rest)=2:=by
    unfold docN docB;simp only[List.cons_append,List.nil_append,List.getElem?_cons_zero,Option.getD_some];rw[if_neg (by omega),if_neg (by omega),if_pos (by omega)]
   refine⟨by rw[hN];rfl,?_⟩
   unfold docC;rw[hN]
   show docV ([b0,b1]++rest) 0 * 64+docB ([b0,b1]++rest) 1-128=c
   unfold docV docB
   simp
   rw[if_neg (by omega),if_neg (by omega),if_pos (by omega)];omega
  ·by_cases c3:c<65536
   ·have e:Lib.encodeRune c=[(224+c / 4096).toNat.toUInt8,(128+c / 64 % 64).toNat.toUInt8,(128+c % 64).toNat.toUInt8]:=by simp[Lib.encodeRune,Lib.encodeRuneZ_three (r:=c) (by omega)]
    rw[e];have g0:=b_of (224+c / 4096) (by omega) (by omega);have g1:=b_of (128+c / 64 % 64) (by omega) (by omega);have g2:=b_of (128+c % 64) (by omega) (by omega);generalize (224+c / 4096).toNat.toUInt8=b0 at *
    generalize (128+c / 64 % 64).toNat.toUInt8=b1 at *
    generalize (128+c % 64).toNat.toUInt8=b2 at *
    have hN:docN ([b0,b1,b2]++rest)=3:=by
     unfold docN docB;simp only[List.cons_append,List.nil_append,List.getElem?_cons_zero,Option.getD_some];rw[if_neg (by omega),if_pos (by omega)]
    refine⟨by rw[hN];rfl,?_⟩
    unfold docC;rw[hN]
    show (docV ([b0,b1,b2]++rest) 0 * 64+docB ([b0,b1,b2]++rest) 1-128) * 64+docB ([b0,b1,b2]++rest) 2-128=c
    unfold docV docB
    simp
    rw[if_neg (by omega),if_pos (by omega)];omega
   ·have e:Lib.encodeRune c=[(240+c / 262144).toNat.toUInt8,(128+c / 4096 % 64).toNat.toUInt8,(128+c / 64 % 64).toNat.toUInt8,(128+c % 64).toNat.toUInt8]:=by simp[Lib.encodeRune,Lib.encodeRuneZ_four (by omega:65536≤c) (by omega)]
    rw[e];have g0:=b_of (240+c / 262144) (by omega) (by omega);have g1:=b_of (128+c / 4096 % 64) (by omega) (by omega);have g2:=b_of (128+c / 64 % 64) (by omega) (by omega);have g3:=b_of (128+c % 64) (by omega) (by omega);generalize (240+c / 262144).toNat.toUInt8=b0 at *
    generalize (128+c / 4096 % 64).toNat.toUInt8=b1 at *
    generalize (128+c / 64 % 64).toNat.toUInt8=b2 at *
    generalize (128+c % 64).toNat.toUInt8=b3 at *
    have hN:docN ([b0,b1,b2,b3]++rest)=4:=by
     unfold docN docB;simp only[List.cons_append,List.nil_append,List.getElem?_cons_zero,Option.getD_some];rw[if_pos (by omega)]
    refine⟨by rw[hN];rfl,?_⟩
    unfold docC;rw[hN]
    show ((docV ([b0,b1,b2,b3]++rest) 0 * 64+docB ([b0,b1,b2,b3]++rest) 1-128) * 64+docB ([b0,b1,b2,b3]++rest) 2-128) * 64+docB ([b0,b1,b2,b3]++rest) 3-128=c
    unfold docV docB
    simp
    rw[if_pos (by omega)];omega
theorem doc_step {l:List UInt8} (hl:l≠[]):utfP l=if docOk l=true then (utfP (l.drop (docN l))).map (docC l::·) else none:=by
 rw[utfP_step hl]
 by_cases hbad:(Lib.decodeL l).1=65533∧(Lib.decodeL l).2=1
 ·rw[if_pos hbad,if_neg]
  intro hok;unfold docOk at hok;simp only[Bool.and_eq_true,decide_eq_true_eq] at hok;obtain⟨⟨⟨h1,h2⟩,h3⟩,h4⟩:=hok;have e:l=Lib.encodeRune (docC l)++l.drop (docN l):=by rw[h4,List.take_append_drop]
  have hd:=decL_write (docC l) h3 (l.drop (docN l));rw[← e] at hd;rw[hd] at hbad;simp only at hbad;have h0:=(isB_range' h3).1;have hcc:docC l=65533:=by omega
  rw[hcc] at hbad
  exact absurd hbad.2 (by decide)
 ·rw[if_neg hbad]
  obtain⟨e1,e2,e3⟩:=decL_enc hl hbad;have e:l=Lib.encodeRune ((Lib.decodeL l).1:Int)++l.drop (Lib.decodeL l).2:=by rw[← e3,List.take_append_drop]
  have hd:=doc_enc _ e1 (l.drop (Lib.decodeL l).2);rw[← e] at hd;have hlen:(Lib.encodeRune ((Lib.decodeL l).1:Int)).length=(Lib.decodeL l).2:=by rw[← e3,List.length_take];omega
  rw[hlen] at hd;rw[if_pos,hd.1,hd.2];unfold docOk;rw[hd.1,hd.2,e1,← e3]
  simp;omega
end Go.Proofs.YtfhdihdafmahgaaGreatDoor
namespace Go.Proofs.YtfhdihdafmahgaaGreatDoor
open Go.RowKit Rn
theorem RowAt.mark (w:World) (e:TypeId) (cs:Array Value) (k:Nat) (hk:cs.size≤k):RowAt (w.alloc (.cells cs e (k,k+1))) w.heap.size cs.toList:=by
 refine⟨by simp,fun j u hu=>?_⟩
 have hj:j<cs.size:=by
  have:=(List.getElem?_eq_some_iff.1 hu).1
  simpa using this
 have h:=heap_alloc_new w (.cells cs e (k,k+1))
 constructor
 ·unfold World.cell?
  rw[h]
  simpa using hu
 ·unfold World.frozen?
  rw[h]
  simp
  omega
end Go.Proofs.YtfhdihdafmahgaaGreatDoor
namespace Go.Proofs.YtfhdihdafmahgaaGreatDoor
open Go.RowKit Fx
namespace Fx
end Fx
end Go.Proofs.YtfhdihdafmahgaaGreatDoor
namespace Go.Proofs.YtfhdihdafmahgaaGreatDoor
open Go.RowKit Rn Tk
structure RL (w:World) (B:Nat) (A:Option Addr) (n cap:Nat) (l:List Int):Prop where
 rd:Reads w B 1 A n (l.map n64)
 hB:B≤w.heap.size
 hn:n≤1000000
 hc:n≤cap
 hm:cap≤maxLen
 ch:Chars l
section
variable {w w':World} {B n cap:Nat} {A:Option Addr} {l:List Int}
theorem RL.len (h:RL w B A n cap l):l.length=n:=by simpa using h.rd.len
theorem RL.mv (h:RL w B A n cap l) (hb:Below w.heap.size w w'):RL w' B A n cap l :=
 ⟨h.rd.keep fun p hp=>hb.cell (Nat.lt_of_lt_of_le hp h.hB),Nat.le_trans h.hB hb.size,h.hn,h.hc,h.hm,h.ch⟩
theorem RL.range (h:RL w B A n cap l) (m:Nat):-1≤pk l m∧pk l m≤1114111:=pk_range h.ch m
theorem RL.cell (h:RL w B A n cap l) {m:Nat} (hm:m<n):∃ b off,A=some ⟨b,off,none⟩∧w.cell? ⟨b,off+m,none⟩=some (.int .i64 (pk l m)):=by
 obtain⟨b,off,u,hA,_,hu,hcell⟩:=h.rd.at_ hm
 refine⟨b,off,hA,?_⟩
 have hl:=h.len;rw[List.getElem?_map,List.getElem?_eq_getElem (by omega)] at hu
 simp at hu
 rw[hcell,← hu,pk,List.getElem?_eq_getElem (by omega)];rfl
end
theorem rt_at {w:World} {B n cap:Nat} {A:Option Addr} {l:List Int} (h:RL w B A n cap l) (m:Nat) (i:Int) (hi:i=m) (hm:m≤2000000) :
  Calls Tryz.prog 97 #[.slice A n cap,.int .i64 i] w fun e w'=>e=.returned (.int .i64 (pk l m))∧w=w':=by
 have hn:=h.hn;have hl:=h.len
 by_cases hlt:m<n
 ·obtain⟨b,off,rfl,hcell⟩:=h.cell hlt
  have hr:=h.range m;have x1:(0:Int)≤i:=by omega
  have x2:i<(n:Int):=by omega
  have x3:i.toNat=m:=by omega
  have x4:decide (i<(n:Int))=true:=by simp;omega
  generalize pk l m=c at *
  clear hi
  go_enter Tryz.func97,Tryz.ntmps97
  go_wp2
  go_ret
  exact⟨rfl,rfl⟩
 ·have hv:pk l m=-1:=by rw[pk,List.getElem?_eq_none (by omega)];rfl
  rw[hv];have x4:decide (i<(n:Int))=false:=by simp;omega
  clear hi
  go_enter Tryz.func97,Tryz.ntmps97
  go_wp2
  go_ret
  exact⟨rfl,rfl⟩
theorem rt_white (c:Int) (w:World):Calls Tryz.prog 96 #[.int .i64 c] w fun e w'=>e=.returned (.bool (whiteB c))∧w=w':=by
 go_enter Tryz.func96,Tryz.ntmps96
 go_wp2
 all_goals (go_ret;refine⟨ret_bool ?_,rfl⟩)
 all_goals (first | rfl | (unfold whiteB;rw[Bool.eq_iff_iff];simp[*];done) | (unfold whiteB;rw[Bool.eq_iff_iff];simp[*];omega))
theorem rt_escape {w:World} {B n cap:Nat} {A:Option Addr} {l:List Int} (h:RL w B A n cap l) (m:Nat) (i:Int) (hi:i=m) (hm:m≤1500000) :
  Calls Tryz.prog 100 #[.slice A n cap,.int .i64 i] w fun e w'=>e=.returned (.bool (esc (l.drop m)))∧w=w':=by
 have h0:=rt_at h m i hi (by omega);have h1:=rt_at h (m+1) (i+1) (by omega) (by omega);have hv:esc (l.drop m)=decide (pk l m=92∧0≤pk l (m+1)∧pk l (m+1)≠10):=by unfold esc;rw[pk_drop,pk_drop,Nat.add_zero]
 rw[hv];clear hv;generalize pk l m=c0 at *
 generalize pk l (m+1)=c1 at *
 have x1:(0:Int)≤i:=by omega
 have x2:i≤1500000:=by omega
 clear hi;obtain⟨q0,t0⟩:∃ q,(c0 == 92)=q:=⟨_,rfl⟩;obtain⟨q1,t1⟩:∃ q,decide (0≤c1)=q:=⟨_,rfl⟩;have hfin:decide (c0=92∧0≤c1∧c1≠10)=(q0 && (q1 && (c1 != 10))):=by rw[← t0,← t1,Bool.eq_iff_iff];simp
 rw[hfin];clear hfin
 cases q0 with
 | false =>
  go_enter Tryz.func100,Tryz.ntmps100
  go_wp2_with (go_at_call 97;refine h0.mono ?_;rintro e w' ⟨rfl,rfl⟩)
  go_ret
  exact⟨rfl,rfl⟩
 | true =>
  cases q1 with
  | false =>
   go_enter Tryz.func100,Tryz.ntmps100
   go_wp2_with (go_at_call 97;(first | with_reducible refine h0.mono ?_ | with_reducible refine h1.mono ?_);rintro e w' ⟨rfl,rfl⟩)
   go_ret
   exact⟨rfl,rfl⟩
  | true =>
   go_enter Tryz.func100,Tryz.ntmps100
   go_wp2_with (go_at_call 97;(first | with_reducible refine h0.mono ?_ | with_reducible refine h1.mono ?_);rintro e w' ⟨rfl,rfl⟩)
   go_ret
   exact⟨rfl,rfl⟩
theorem rt_may {w:World} {B n cap:Nat} {A:Option Addr} {l:List Int} (h:RL w B A n cap l) (m:Nat) (i:Int) (hi:i=m) (hm:m≤1400000) :
  Calls Tryz.prog 137 #[.slice A n cap,.int .i64 i] w fun e w'=>e=.returned (.bool (may (l.drop m)))∧w=w':=by
 have h0:=rt_at h m i hi (by omega);have h1:=rt_escape h m i hi (by omega);have hr:=h.range m;have hv:may (l.drop m)=(beginsB (pk l m) || esc (l.drop m)):=by unfold may;rw[pk_drop,Nat.add_zero]
 rw[hv];clear hv;generalize pk l m=c0 at *
 generalize esc (l.drop m)=e1 at *
 have hb:=ref_begins c0 w (by omega) (by omega);generalize beginsB c0=b0 at *
 clear hi
 go_enter Tryz.func137,Tryz.ntmps137
 go_wp2_with (first | (go_at_call 97;refine h0.mono ?_;rintro e w' ⟨rfl,rfl⟩) | (go_at_call 100;refine h1.mono ?_;rintro e w' ⟨rfl,rfl⟩) | (go_at_call 134;refine hb.mono ?_;rintro e w' ⟨rfl,rfl⟩))
 all_goals (go_ret;refine⟨ret_bool ?_,rfl⟩)
 all_goals (first | rfl | (rw[Bool.eq_iff_iff];simp[*];done) | (rw[Bool.eq_iff_iff];simp[*];omega))
theorem rt_begins {w:World} {B n cap:Nat} {A:Option Addr} {l:List Int} (h:RL w B A n cap l) (m:Nat) (i:Int) (hi:i=m) (hm:m≤1300000) :
  Calls Tryz.prog 105 #[.slice A n cap,.int .i64 i] w fun e w'=>e=.returned (.bool (beg (l.drop m)))∧w=w':=by
 have h0:=rt_at h m i hi (by omega);have h1:=rt_at h (m+1) (i+1) (by omega) (by omega);have h2:=rt_may h m i hi (by omega);have h3:=rt_may h (m+1) (i+1) (by omega) (by omega);have hv:beg (l.drop m)=(may (l.drop m) || (decide (pk l m=45) && (may (l.drop (m+1)) || decide (pk l (m+1)=45)))):=by unfold beg;rw[pk_drop,pk_drop,Nat.add_zero,List.tail_drop]
 rw[hv];clear hv;generalize pk l m=c0 at *
 generalize pk l (m+1)=c1 at *
 generalize may (l.drop m)=b0 at *
 generalize may (l.drop (m+1))=b1 at *
 have x1:(0:Int)≤i:=by omega
 have x2:i≤1300000:=by omega
 clear hi;obtain⟨q0,t0⟩:∃ q,(c0 == 45)=q:=⟨_,rfl⟩;have hfin:(b0 || (decide (c0=45) && (b1 || decide (c1=45))))=(b0 || (q0 && (b1 || (c1 == 45)))):=by rw[← t0];rfl
 rw[hfin];clear hfin
 cases b0 with
 | true =>
  go_enter Tryz.func105,Tryz.ntmps105
  go_wp2_with (first | (go_at_call 97;(first | with_reducible refine h0.mono ?_ | with_reducible refine h1.mono ?_);rintro e w' ⟨rfl,rfl⟩) | (go_at_call 137;(first | with_reducible refine h2.mono ?_ | with_reducible refine h3.mono ?_);rintro e w' ⟨rfl,rfl⟩))
  go_ret
  exact⟨rfl,rfl⟩
 | false =>
  cases q0 with
  | false =>
   go_enter Tryz.func105,Tryz.ntmps105
   go_wp2_with (first | (go_at_call 97;(first | with_reducible refine h0.mono ?_ | with_reducible refine h1.mono ?_);rintro e w' ⟨rfl,rfl⟩) | (go_at_call 137;(first | with_reducible refine h2.mono ?_ | with_reducible refine h3.mono ?_);rintro e w' ⟨rfl,rfl⟩))
   go_ret
   exact⟨rfl,rfl⟩
  | true =>
   cases b1 with
   | true =>
    go_enter Tryz.func105,Tryz.ntmps105
    go_wp2_with (first | (go_at_call 97;(first | with_reducible refine h0.mono ?_ | with_reducible refine h1.mono ?_);rintro e w' ⟨rfl,rfl⟩) | (go_at_call 137;(first | with_reducible refine h2.mono ?_ | with_reducible refine h3.mono ?_);rintro e w' ⟨rfl,rfl⟩))
    go_ret
    exact⟨rfl,rfl⟩
   | false =>
    go_enter Tryz.func105,Tryz.ntmps105
    go_wp2_with (first | (go_at_call 97;(first | with_reducible refine h0.mono ?_ | with_reducible refine h1.mono ?_);rintro e w' ⟨rfl,rfl⟩) | (go_at_call 137;(first | with_reducible refine h2.mono ?_ | with_reducible refine h3.mono ?_);rintro e w' ⟨rfl,rfl⟩))
    go_ret
    exact⟨rfl,rfl⟩
end Go.Proofs.YtfhdihdafmahgaaGreatDoor
