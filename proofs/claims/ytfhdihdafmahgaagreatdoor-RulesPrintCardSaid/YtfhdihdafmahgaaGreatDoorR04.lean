import Derived.Test.YtfhdihdafmahgaaGreatDoorR03
set_option linter.unusedVariables false
set_option maxRecDepth 100000
set_option maxHeartbeats 1000000
set_option linter.unusedSimpArgs false
namespace Go.Proofs.YtfhdihdafmahgaaGreatDoor
open Go.RowKit Rn
namespace Rn
def spanF (bs:List UInt8):Nat→Nat→Int→Int→Int×Int
 | 0,_,lo,hi=>(lo,hi)
 | f+1,k,lo,hi=>match bs[k]? with
  | some b=>if b.toNat<128∨191<b.toNat then (-1,-1) else spanF bs f (k+1) (lo * 64+b.toNat-128) (hi * 64+b.toNat-128)
  | none=>spanF bs f (k+1) (lo * 64) (hi * 64+63)
def lowOf (c long:Nat):Int :=
 if long=2∧192≤c∧c<224 then c-192 else if long=3∧224≤c∧c<240 then c-224 else if long=4∧240≤c∧c<248 then c-240 else -1
def spanR (bs:List UInt8) (long:Nat):Int×Int :=
 let l:=lowOf (bs[0]?.getD 0).toNat long
 if l<0 then (-1,-1) else spanF bs (long-1) 1 l l
def most:Nat→Int
 | 1=>31
 | 2=>2047
 | 3=>131071
 | _=>8388607
end Rn
def SpanRel (bs:List UInt8) (L:Nat) (lo hi k:Value):Prop :=
 ∃ (j:Nat) (l h:Int),1≤j∧j≤L∧k=.int .i64 j∧lo=.int .i64 l∧hi=.int .i64 h∧0≤l∧l≤h∧h≤most j∧spanF bs (L-j) j l h=spanR bs L
theorem most_le (k:Nat):most k≤8388607:=by unfold most;split<;>omega
theorem most_step (k:Nat) (h1:1≤k) (h3:k≤3):most k * 64+63≤most (k+1):=by
 obtain rfl | rfl | rfl:k=1∨k=2∨k=3:=by omega
 all_goals (simp[most])
theorem spanF_some {bs:List UInt8} {b:UInt8} {k:Nat} (f:Nat) (lo hi:Int) (h:bs[k]?=some b) (h1:¬ b.toNat<128) (h2:¬ 191<b.toNat):spanF bs (f+1) k lo hi=spanF bs f (k+1) (lo * 64+b.toNat-128) (hi * 64+b.toNat-128):=by
 simp[spanF,h,h1,h2]
theorem spanF_bad {bs:List UInt8} {b:UInt8} {k:Nat} (f:Nat) (lo hi:Int) (h:bs[k]?=some b) (h1:b.toNat<128∨191<b.toNat):spanF bs (f+1) k lo hi=(-1,-1):=by
 simp[spanF,h,h1]
theorem spanF_none {bs:List UInt8} {k:Nat} (f:Nat) (lo hi:Int) (h:bs[k]?=none):spanF bs (f+1) k lo hi=spanF bs f (k+1) (lo * 64) (hi * 64+63):=by
 simp[spanF,h]
theorem ref_span (bs:List UInt8) (A:Option Addr) (n cap B long:Nat) (w:World) (hr:Reads w B 1 A n (bs.map b8)) (hn:0<n) (hcap:n≤9223372036854775807) (hl2:2≤long) (hl4:long≤4) :
  Calls Tryz.prog 132 #[.slice A n cap,.int .i64 long] w fun e w'=>e=.returned (.tuple #[.int .i64 (spanR bs long).1,.int .i64 (spanR bs long).2])∧w=w':=by
 have hlen:bs.length=n:=by simpa using hr.len
 obtain⟨b,off,rfl,hb,hcell⟩:=hr.open_ hn;obtain⟨b0,rest,rfl⟩:=List.exists_cons_of_length_pos (l:=bs) (by omega);have h0:w.cell? ⟨b,off,none⟩=some (.int .u8 b0.toNat):=hcell 0 _ rfl;have hb0:b0.toNat<256:=b0.toNat_lt;have hcb:∀ k b',(b0::rest)[k]?=some b'→w.cell? ⟨b,off+k,none⟩=some (.int .u8 b'.toNat):=fun k b' h=>hcell k _ (by rw[List.getElem?_map,h];rfl)
 have Hcb:=Lib.hid hcb;have Hlen:=Lib.hid hlen;clear hcell hcb hlen hr
 by_cases hv:(long=2∧192≤b0.toNat∧b0.toNat<224)∨(long=3∧224≤b0.toNat∧b0.toNat<240)∨(long=4∧240≤b0.toNat∧b0.toNat<248)
 ·have hsp:Hid (∀ l:Int,l=lowOf b0.toNat long→0≤l→spanF (b0::rest) (long-1) 1 l l=spanR (b0::rest) long):=by
   intro l hl h0;unfold spanR;simp only[List.getElem?_cons_zero,Option.getD_some];rw[← hl,if_neg (by omega)]
  rcases hv with⟨rfl,h1,h2⟩ | ⟨rfl,h1,h2⟩ | ⟨rfl,h1,h2⟩
  ·go_enter Tryz.func132,Tryz.ntmps132
   go_wp2
   go_loop [7,8,9] (fun lo hi k=>SpanRel (b0::rest) 2 lo hi k) (fun _ _ k=>2-(intOf k).toNat)
   case atStart=>exact⟨1,_,_,by omega,by omega,rfl,rfl,rfl,by omega,by omega,by simp only[most];omega,hsp.out _ (by simp[lowOf];omega) (by omega)⟩
   case round =>
    obtain⟨j,l,h,hj1,hj2,rfl,rfl,rfl,hl0,hlh,hhm,hs'⟩:=hrel;have hs:=Lib.hid hs';clear hs'
    by_cases hjL:j<2
    ·have hm1:=most_le j
     have hm2:=most_step j hj1 (by omega);have Hm2:=Lib.hid hm2;have Hsucc:Hid (2-j=(2-(j+1))+1):=by show 2-j=(2-(j+1))+1;omega
     clear hm2
     by_cases hjn:j<n
     ·obtain⟨b',hb'⟩:∃ b',(b0::rest)[j]?=some b':=⟨_,List.getElem?_eq_getElem (by rw[Hlen.out];omega)⟩
      have hbc:=Hcb.out j b' hb';have hb256:b'.toNat<256:=b'.toNat_lt;have Hb':=Lib.hid hb';clear hb'
      by_cases hlo:b'.toNat<128
      ·go_wp2
       go_ret2
       have hx:=spanF_bad (2-(j+1)) l h Hb'.out (.inl hlo);rw[← Hsucc.out,hs.out] at hx
       exact⟨ret2 (by rw[hx]) (by rw[hx]),rfl⟩
      ·by_cases hhi:191<b'.toNat
       ·go_wp2
        go_ret2
        have hx:=spanF_bad (2-(j+1)) l h Hb'.out (.inr hhi);rw[← Hsucc.out,hs.out] at hx
        exact⟨ret2 (by rw[hx]) (by rw[hx]),rfl⟩
       ·go_wp2
        first
        | refine⟨⟨_,_,_,_,_,?rel,rfl,rfl,rfl,rfl,rfl⟩,?measure⟩
        | go_round
        case rel =>
         have hx:=spanF_some (2-(j+1)) l h Hb'.out hlo hhi;rw[← Hsucc.out,hs.out] at hx;have:=Hm2.out
         exact⟨j+1,l * 64+b'.toNat-128,h * 64+b'.toNat-128,by omega,by omega,by go_num,rfl,rfl,by omega,by omega,by omega,hx.symm⟩
        case measure=>simp[intOf];omega
     ·have hnone:Hid ((b0::rest)[j]?=none):=by show _=_;rw[List.getElem?_eq_none];rw[Hlen.out];omega
      go_wp2
      go_round
      case rel =>
       have hx:=spanF_none (2-(j+1)) l h hnone.out;rw[← Hsucc.out,hs.out] at hx;have:=Hm2.out
       exact⟨j+1,l * 64,h * 64+63,by omega,by omega,by go_num,rfl,rfl,by omega,by omega,by omega,hx.symm⟩
      case measure=>simp[intOf];omega
    ·go_wp2
     go_ret2
     obtain rfl:j=2:=by omega
     have hx:=hs.out;simp only[Nat.sub_self,spanF] at hx
     exact⟨ret2 (by rw[← hx]) (by rw[← hx]),rfl⟩
  ·go_enter Tryz.func132,Tryz.ntmps132
   go_wp2
   go_loop [7,8,9] (fun lo hi k=>SpanRel (b0::rest) 3 lo hi k) (fun _ _ k=>3-(intOf k).toNat)
   case atStart=>exact⟨1,_,_,by omega,by omega,rfl,rfl,rfl,by omega,by omega,by simp only[most];omega,hsp.out _ (by simp[lowOf];omega) (by omega)⟩
   case round =>
    obtain⟨j,l,h,hj1,hj2,rfl,rfl,rfl,hl0,hlh,hhm,hs'⟩:=hrel;have hs:=Lib.hid hs';clear hs'
    by_cases hjL:j<3
    ·have hm1:=most_le j
     have hm2:=most_step j hj1 (by omega);have Hm2:=Lib.hid hm2;have Hsucc:Hid (3-j=(3-(j+1))+1):=by show 3-j=(3-(j+1))+1;omega
     clear hm2
     by_cases hjn:j<n
     ·obtain⟨b',hb'⟩:∃ b',(b0::rest)[j]?=some b':=⟨_,List.getElem?_eq_getElem (by rw[Hlen.out];omega)⟩
      have hbc:=Hcb.out j b' hb';have hb256:b'.toNat<256:=b'.toNat_lt;have Hb':=Lib.hid hb';clear hb'
      by_cases hlo:b'.toNat<128
      ·go_wp2
       go_ret2
       have hx:=spanF_bad (3-(j+1)) l h Hb'.out (.inl hlo);rw[← Hsucc.out,hs.out] at hx
       exact⟨ret2 (by rw[hx]) (by rw[hx]),rfl⟩
      ·by_cases hhi:191<b'.toNat
       ·go_wp2
        go_ret2
        have hx:=spanF_bad (3-(j+1)) l h Hb'.out (.inr hhi);rw[← Hsucc.out,hs.out] at hx
        exact⟨ret2 (by rw[hx]) (by rw[hx]),rfl⟩
       ·go_wp2
        first
        | refine⟨⟨_,_,_,_,_,?rel,rfl,rfl,rfl,rfl,rfl⟩,?measure⟩
        | go_round
        case rel =>
         have hx:=spanF_some (3-(j+1)) l h Hb'.out hlo hhi;rw[← Hsucc.out,hs.out] at hx;have:=Hm2.out
         exact⟨j+1,l * 64+b'.toNat-128,h * 64+b'.toNat-128,by omega,by omega,by go_num,rfl,rfl,by omega,by omega,by omega,hx.symm⟩
        case measure=>simp[intOf];omega
     ·have hnone:Hid ((b0::rest)[j]?=none):=by show _=_;rw[List.getElem?_eq_none];rw[Hlen.out];omega
      go_wp2
      go_round
      case rel =>
       have hx:=spanF_none (3-(j+1)) l h hnone.out;rw[← Hsucc.out,hs.out] at hx;have:=Hm2.out
       exact⟨j+1,l * 64,h * 64+63,by omega,by omega,by go_num,rfl,rfl,by omega,by omega,by omega,hx.symm⟩
      case measure=>simp[intOf];omega
    ·go_wp2
     go_ret2
     obtain rfl:j=3:=by omega
     have hx:=hs.out;simp only[Nat.sub_self,spanF] at hx
     exact⟨ret2 (by rw[← hx]) (by rw[← hx]),rfl⟩
  ·go_enter Tryz.func132,Tryz.ntmps132
   go_wp2
   go_loop [7,8,9] (fun lo hi k=>SpanRel (b0::rest) 4 lo hi k) (fun _ _ k=>4-(intOf k).toNat)
   case atStart=>exact⟨1,_,_,by omega,by omega,rfl,rfl,rfl,by omega,by omega,by simp only[most];omega,hsp.out _ (by simp[lowOf];omega) (by omega)⟩
   case round =>
    obtain⟨j,l,h,hj1,hj2,rfl,rfl,rfl,hl0,hlh,hhm,hs'⟩:=hrel;have hs:=Lib.hid hs';clear hs'
    by_cases hjL:j<4
    ·have hm1:=most_le j
     have hm2:=most_step j hj1 (by omega);have Hm2:=Lib.hid hm2;have Hsucc:Hid (4-j=(4-(j+1))+1):=by show 4-j=(4-(j+1))+1;omega
     clear hm2
     by_cases hjn:j<n
     ·obtain⟨b',hb'⟩:∃ b',(b0::rest)[j]?=some b':=⟨_,List.getElem?_eq_getElem (by rw[Hlen.out];omega)⟩
      have hbc:=Hcb.out j b' hb';have hb256:b'.toNat<256:=b'.toNat_lt;have Hb':=Lib.hid hb';clear hb'
      by_cases hlo:b'.toNat<128
      ·go_wp2
       go_ret2
       have hx:=spanF_bad (4-(j+1)) l h Hb'.out (.inl hlo);rw[← Hsucc.out,hs.out] at hx
       exact⟨ret2 (by rw[hx]) (by rw[hx]),rfl⟩
      ·by_cases hhi:191<b'.toNat
       ·go_wp2
        go_ret2
        have hx:=spanF_bad (4-(j+1)) l h Hb'.out (.inr hhi);rw[← Hsucc.out,hs.out] at hx
        exact⟨ret2 (by rw[hx]) (by rw[hx]),rfl⟩
       ·go_wp2
        first
        | refine⟨⟨_,_,_,_,_,?rel,rfl,rfl,rfl,rfl,rfl⟩,?measure⟩
        | go_round
        case rel =>
         have hx:=spanF_some (4-(j+1)) l h Hb'.out hlo hhi;rw[← Hsucc.out,hs.out] at hx;have:=Hm2.out
         exact⟨j+1,l * 64+b'.toNat-128,h * 64+b'.toNat-128,by omega,by omega,by go_num,rfl,rfl,by omega,by omega,by omega,hx.symm⟩
        case measure=>simp[intOf];omega
     ·have hnone:Hid ((b0::rest)[j]?=none):=by show _=_;rw[List.getElem?_eq_none];rw[Hlen.out];omega
      go_wp2
      go_round
      case rel =>
       have hx:=spanF_none (4-(j+1)) l h hnone.out;rw[← Hsucc.out,hs.out] at hx;have:=Hm2.out
       exact⟨j+1,l * 64,h * 64+63,by omega,by omega,by go_num,rfl,rfl,by omega,by omega,by omega,hx.symm⟩
      case measure=>simp[intOf];omega
    ·go_wp2
     go_ret2
     obtain rfl:j=4:=by omega
     have hx:=hs.out;simp only[Nat.sub_self,spanF] at hx
     exact⟨ret2 (by rw[← hx]) (by rw[← hx]),rfl⟩
 ·have hsp:spanR (b0::rest) long=(-1,-1):=by
   have:lowOf b0.toNat long=-1:=by unfold lowOf;rw[if_neg (by omega),if_neg (by omega),if_neg (by omega)]
   simp[spanR,this]
  have Hsp:=Lib.hid hsp;clear hsp;obtain rfl | rfl | rfl:long=2∨long=3∨long=4:=by omega
  all_goals
   go_enter Tryz.func132,Tryz.ntmps132
   go_wp2
   all_goals (first | (exfalso;omega) | (go_ret2;exact⟨ret2 (by rw[Hsp.out]) (by rw[Hsp.out]),rfl⟩))
end Go.Proofs.YtfhdihdafmahgaaGreatDoor
namespace Go.Proofs.YtfhdihdafmahgaaGreatDoor
open Go.RowKit Rn
namespace Rn
def begR (bs:List UInt8) (long:Nat):Bool :=
 let lo:=(spanR bs long).1
 let hi:=(spanR bs long).2
 if lo<0 then false else
 let least:Int:=if long=4 then 65536 else if long=3 then 2048 else 128
 let low:=max lo least
 let high:=min hi 1114111
 let low:=if 55296≤low∧low≤57343 then 57344 else low
 decide (low≤high)
end Rn
theorem spanF_range (bs:List UInt8):∀ (f k:Nat) (lo hi:Int),1≤k→k+f≤4→0≤lo→lo≤hi→hi≤most k →
  spanF bs f k lo hi=(-1,-1)∨(0≤(spanF bs f k lo hi).1∧(spanF bs f k lo hi).1≤(spanF bs f k lo hi).2∧(spanF bs f k lo hi).2≤8388607)
 | 0,k,lo,hi,h1,h2,h3,h4,h5=>.inr ⟨h3,h4,Int.le_trans h5 (most_le k)⟩
 | f+1,k,lo,hi,h1,h2,h3,h4,h5=>by
  have hm:=most_step k h1 (by omega);unfold spanF
  cases hb:bs[k]? with
  | none=>exact spanF_range bs f (k+1) _ _ (by omega) (by omega) (by omega) (by omega) (by omega)
  | some b =>
   simp only
   split
   ·exact .inl rfl
   ·exact spanF_range bs f (k+1) _ _ (by omega) (by omega) (by omega) (by omega) (by omega)
theorem spanR_range (bs:List UInt8) (long:Nat) (h2:2≤long) (h4:long≤4) :
  spanR bs long=(-1,-1)∨(0≤(spanR bs long).1∧(spanR bs long).1≤(spanR bs long).2∧(spanR bs long).2≤8388607):=by
 unfold spanR;simp only
 split
 ·exact .inl rfl
 ·rename_i h
  refine spanF_range bs (long-1) 1 _ _ (by omega) (by omega) (by omega) (by omega) ?_
  unfold lowOf most
  (repeat' split)<;>omega
theorem beg1 (b0:UInt8) (long:Nat) (h0:128≤b0.toNat) (h2:2≤long) (h4:long≤4):begR [b0] long=true↔long=bN b0.toNat:=by
 have:=b0.toNat_lt;obtain rfl | rfl | rfl:long=2∨long=3∨long=4:=by omega
 all_goals
  simp only[begR,spanR,lowOf,List.getElem?_cons_zero,Option.getD_some];generalize b0.toNat=x at *
  simp[spanF]
  unfold bN
  (repeat' split)<;>simp<;>omega
theorem beg2 (b0 b1:UInt8) (long:Nat) (h0:128≤b0.toNat) (hk:2≤long) (h4:long≤4):begR [b0,b1] long=true↔long=bN b0.toNat∧(bLo b0.toNat≤b1.toNat∧b1.toNat≤bHi b0.toNat):=by
 have h0:=b0.toNat_lt;have h1:=b1.toNat_lt;obtain rfl | rfl | rfl:long=2∨long=3∨long=4:=by omega
 all_goals
  simp only[begR,spanR,lowOf,List.getElem?_cons_zero,Option.getD_some]
  simp[spanF]
  generalize b0.toNat=x0 at *
  generalize b1.toNat=x1 at *
  unfold bN bLo bHi
  (repeat' split)<;>simp<;>omega
theorem beg3 (b0 b1 b2:UInt8) (long:Nat) (h0:128≤b0.toNat) (hk:3≤long) (h4:long≤4):begR [b0,b1,b2] long=true↔long=bN b0.toNat∧(bLo b0.toNat≤b1.toNat∧b1.toNat≤bHi b0.toNat)∧(128≤b2.toNat∧b2.toNat≤191):=by
 have h0:=b0.toNat_lt;have h1:=b1.toNat_lt;have h2:=b2.toNat_lt;obtain rfl | rfl:long=3∨long=4:=by omega
 all_goals
  simp only[begR,spanR,lowOf,List.getElem?_cons_zero,Option.getD_some]
  simp[spanF]
  generalize b0.toNat=x0 at *
  generalize b1.toNat=x1 at *
  generalize b2.toNat=x2 at *
  unfold bN bLo bHi
  (repeat' split)<;>simp<;>omega
theorem beg4 (b0 b1 b2 b3:UInt8) (long:Nat) (h0:128≤b0.toNat) (hk:4≤long) (h4:long≤4):begR [b0,b1,b2,b3] long=true↔long=bN b0.toNat∧(bLo b0.toNat≤b1.toNat∧b1.toNat≤bHi b0.toNat)∧(128≤b2.toNat∧b2.toNat≤191)∧(128≤b3.toNat∧b3.toNat≤191):=by
 have h0:=b0.toNat_lt;have h1:=b1.toNat_lt;have h2:=b2.toNat_lt;have h3:=b3.toNat_lt;obtain rfl:long=4:=by omega
 all_goals
  simp only[begR,spanR,lowOf,List.getElem?_cons_zero,Option.getD_some]
  simp[spanF]
  generalize b0.toNat=x0 at *
  generalize b1.toNat=x1 at *
  generalize b2.toNat=x2 at *
  generalize b3.toNat=x3 at *
  unfold bN bLo bHi
  (repeat' split)<;>simp<;>omega
theorem scan_ge_iff (bs:List UInt8) (lo hi:Nat):∀ (f k0 k:Nat),k≤k0+f→(k≤scan bs lo hi f k0↔∀ j,k0≤j→j<k→okAt bs lo hi j=true)
 | 0,k0,k,h=>⟨fun _ j h1 h2=>by omega,fun _=>by simpa [scan] using h⟩
 | f+1,k0,k,h=>by
  unfold scan
  cases hk:okAt bs lo hi k0 with
  | false =>
   simp only[Bool.false_eq_true,if_false]
   constructor
   ·intro h1 j h2 h3;omega
   ·intro h1
    rcases Nat.lt_or_ge k0 k with h2 | h2
    ·have:=h1 k0 (Nat.le_refl _) h2;rw[hk] at this;cases this
    ·exact h2
  | true =>
   simp only[if_true];rw[scan_ge_iff bs lo hi f (k0+1) k (by omega)]
   constructor
   ·intro h1 j h2 h3
    rcases Nat.eq_or_lt_of_le h2 with e | e
    ·rw[← e];exact hk
    ·exact h1 j e h3
   ·intro h1 j h2 h3;exact h1 j (by omega) h3
theorem stop_ge (bs:List UInt8) (k:Nat) (h:k≤bN (bs[0]?.getD 0).toNat) (h1:1≤k):k≤stopP bs↔∀ j,1≤j→j<k→okAt bs (bLo (bs[0]?.getD 0).toNat) (bHi (bs[0]?.getD 0).toNat) j=true:=by
 unfold stopP
 exact scan_ge_iff bs _ _ _ 1 k (by omega)
theorem okAt_iff {bs:List UInt8} {c k:Nat} {b:UInt8} (h:bs[k]?=some b):okAt bs (bLo c) (bHi c) k=true↔(loAt c k≤b.toNat∧b.toNat≤hiAt c k):=by
 rw[okAt_some h];simp
theorem beg_take (bs:List UInt8) (k long:Nat) (h0:128≤(bs[0]?.getD 0).toNat) (h1:1≤k) (hkl:k≤long) (h2:2≤long) (h4:long≤4) (hk:k≤bs.length) :
  begR (bs.take k) long=true↔long=bN (bs[0]?.getD 0).toNat∧k≤stopP bs:=by
 have key:long=bN (bs[0]?.getD 0).toNat→(k≤stopP bs↔∀ j,1≤j→j<k→okAt bs (bLo (bs[0]?.getD 0).toNat) (bHi (bs[0]?.getD 0).toNat) j=true):=fun h=>stop_ge bs k (by omega) h1
 rw[and_congr_right key];clear key;have g:∀ j (h:j<bs.length),bs[j]?=some bs[j]:=fun j h=>List.getElem?_eq_getElem h
 obtain⟨b0,r0,rfl⟩:=List.exists_cons_of_length_pos (l:=bs) (by omega);simp only[List.getElem?_cons_zero,Option.getD_some] at h0 ⊢;obtain rfl | rfl | rfl | rfl:k=1∨k=2∨k=3∨k=4:=by omega
 ·simp only[List.take_succ_cons,List.take_zero]
  rw[beg1 b0 long h0 h2 h4]
  constructor
  ·intro h;exact⟨h,fun j _ _=>by omega⟩
  ·intro h;exact h.1
 ·obtain⟨b1,r1,rfl⟩:=List.exists_cons_of_length_pos (l:=r0) (by simp at hk;omega)
  simp only[List.take_succ_cons,List.take_zero];rw[beg2 b0 b1 long h0 hkl h4]
  refine and_congr_right fun _=>?_
  have e1:=okAt_iff (bs:=b0::b1::r1) (c:=b0.toNat) (k:=1) (b:=b1) rfl;simp only[loAt,hiAt,if_true] at e1;rw[← e1]
  constructor
  ·intro h j h1 h2;obtain rfl:j=1:=by omega
   exact h
  ·intro h;exact h 1 (by omega) (by omega)
 ·obtain⟨b1,r1,rfl⟩:=List.exists_cons_of_length_pos (l:=r0) (by simp at hk;omega)
  obtain⟨b2,r2,rfl⟩:=List.exists_cons_of_length_pos (l:=r1) (by simp at hk;omega);simp only[List.take_succ_cons,List.take_zero];rw[beg3 b0 b1 b2 long h0 hkl h4]
  refine and_congr_right fun _=>?_
  have e1:=okAt_iff (bs:=b0::b1::b2::r2) (c:=b0.toNat) (k:=1) (b:=b1) rfl;have e2:=okAt_iff (bs:=b0::b1::b2::r2) (c:=b0.toNat) (k:=2) (b:=b2) rfl;simp only[loAt,hiAt,if_true,if_neg (show ¬ (2=1) from by omega)] at e1 e2;rw[← e1,← e2]
  constructor
  ·rintro⟨h1,h2⟩ j h3 h4
   obtain rfl | rfl:j=1∨j=2:=by omega
   ·exact h1
   ·exact h2
  ·intro h;exact⟨h 1 (by omega) (by omega),h 2 (by omega) (by omega)⟩
 ·obtain⟨b1,r1,rfl⟩:=List.exists_cons_of_length_pos (l:=r0) (by simp at hk;omega)
  obtain⟨b2,r2,rfl⟩:=List.exists_cons_of_length_pos (l:=r1) (by simp at hk;omega);obtain⟨b3,r3,rfl⟩:=List.exists_cons_of_length_pos (l:=r2) (by simp at hk;omega);simp only[List.take_succ_cons,List.take_zero];rw[beg4 b0 b1 b2 b3 long h0 hkl h4]
  refine and_congr_right fun _=>?_
  have e1:=okAt_iff (bs:=b0::b1::b2::b3::r3) (c:=b0.toNat) (k:=1) (b:=b1) rfl;have e2:=okAt_iff (bs:=b0::b1::b2::b3::r3) (c:=b0.toNat) (k:=2) (b:=b2) rfl;have e3:=okAt_iff (bs:=b0::b1::b2::b3::r3) (c:=b0.toNat) (k:=3) (b:=b3) rfl;simp only[loAt,hiAt,if_true,if_neg (show ¬ (2=1) from by omega),if_neg (show ¬ (3=1) from by omega)] at e1 e2 e3;rw[← e1,← e2,← e3]
  constructor
  ·rintro⟨h1,h2,h3⟩ j h4 h5
   obtain rfl | rfl | rfl:j=1∨j=2∨j=3:=by omega
   ·exact h1
   ·exact h2
   ·exact h3
  ·intro h;exact⟨h 1 (by omega) (by omega),h 2 (by omega) (by omega),h 3 (by omega) (by omega)⟩
theorem span_val (bs:List UInt8) (long:Nat) (h2:2≤long) (h4:long≤4) (hN:long=bN (bs[0]?.getD 0).toNat) (hl:long≤bs.length) (hs:stopP bs=long) :
  (spanR (bs.take long) long).1=val bs long:=by
 have hok:=(stop_ge bs long (by omega) (by omega)).1 (by omega);obtain⟨b0,r0,rfl⟩:=List.exists_cons_of_length_pos (l:=bs) (by omega);simp only[List.getElem?_cons_zero,Option.getD_some] at hN hok;have hb0:=b0.toNat_lt;have hc0:194≤b0.toNat∧b0.toNat≤244:=by revert hN;unfold bN;(repeat' split)<;>omega
 obtain⟨b1,g1,l1,u1⟩:=okAt_mem (hok 1 (by omega) (by omega));obtain⟨b1',r1,rfl⟩:=List.exists_cons_of_length_pos (l:=r0) (by simp at hl;omega);obtain rfl:b1=b1':=by simpa using g1.symm
 have hb1:128≤b1.toNat∧b1.toNat≤191:=by
  revert l1 u1;unfold loAt hiAt bLo bHi;(repeat' split)<;>omega
 obtain rfl | rfl | rfl:long=2∨long=3∨long=4:=by omega
 ·have h1:194≤b0.toNat∧b0.toNat<224:=by revert hN;unfold bN;(repeat' split)<;>omega
  simp only[List.take_succ_cons,List.take_zero,val,spanR,lowOf,List.getElem?_cons_zero,Option.getD_some,List.getElem?_cons_succ,if_neg (show ¬ (2=1) from by omega),if_true]
  simp[spanF]
  (repeat' split)<;>omega
 ·have h1:224≤b0.toNat∧b0.toNat<240:=by revert hN;unfold bN;(repeat' split)<;>omega
  obtain⟨b2,g2,l2,u2⟩:=okAt_mem (hok 2 (by omega) (by omega));obtain⟨b2',r2,rfl⟩:=List.exists_cons_of_length_pos (l:=r1) (by simp at hl;omega);obtain rfl:b2=b2':=by simpa using g2.symm
  have hb2:128≤b2.toNat∧b2.toNat≤191:=by revert l2 u2;unfold loAt hiAt;(repeat' split)<;>omega
  simp only[List.take_succ_cons,List.take_zero,val,spanR,lowOf,List.getElem?_cons_zero,Option.getD_some,List.getElem?_cons_succ,if_neg (show ¬ (3=1) from by omega),if_neg (show ¬ (3=2) from by omega),if_true]
  simp[spanF]
  (repeat' split)<;>omega
 ·have h1:240≤b0.toNat∧b0.toNat≤244:=by revert hN;unfold bN;(repeat' split)<;>omega
  obtain⟨b2,g2,l2,u2⟩:=okAt_mem (hok 2 (by omega) (by omega));obtain⟨b2',r2,rfl⟩:=List.exists_cons_of_length_pos (l:=r1) (by simp at hl;omega);obtain rfl:b2=b2':=by simpa using g2.symm
  obtain⟨b3,g3,l3,u3⟩:=okAt_mem (hok 3 (by omega) (by omega));obtain⟨b3',r3,rfl⟩:=List.exists_cons_of_length_pos (l:=r2) (by simp at hl;omega);obtain rfl:b3=b3':=by simpa using g3.symm
  have hb2:128≤b2.toNat∧b2.toNat≤191:=by revert l2 u2;unfold loAt hiAt;(repeat' split)<;>omega
  have hb3:128≤b3.toNat∧b3.toNat≤191:=by revert l3 u3;unfold loAt hiAt;(repeat' split)<;>omega
  simp only[List.take_succ_cons,List.take_zero,val,spanR,lowOf,List.getElem?_cons_zero,Option.getD_some,List.getElem?_cons_succ,if_neg (show ¬ (4=1) from by omega),if_neg (show ¬ (4=2) from by omega),if_neg (show ¬ (4=3) from by omega)]
  simp[spanF]
  (repeat' split)<;>omega
end Go.Proofs.YtfhdihdafmahgaaGreatDoor
