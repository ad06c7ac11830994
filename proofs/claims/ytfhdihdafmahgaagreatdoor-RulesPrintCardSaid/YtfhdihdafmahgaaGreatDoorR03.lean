import Derived.Test.YtfhdihdafmahgaaGreatDoorR01
import Derived.Lib.RuneBytes
import Derived.Lib.ConvBytes
import Derived.Deep.DeepCutAuto
import Derived.Deep.CutBlock
import Derived.Lib.IndexMore
import Derived.Lib.IndexAny
import Derived.Lib.IndexLaws
import Derived.Lib.Atoi
set_option linter.unusedVariables false
set_option maxRecDepth 100000
set_option maxHeartbeats 8000000
set_option linter.unusedSimpArgs false
namespace Go.Proofs.YtfhdihdafmahgaaGreatDoor
open Go.RowKit Rn
theorem ok_of_stop {bs:List UInt8} {lo hi:Nat}:∀ (f k:Nat),scan bs lo hi f k=k+f→∀ j,k≤j→j<k+f→okAt bs lo hi j=true
 | 0,k,_,j,h1,h2=>by omega
 | f+1,k,h,j,h1,h2=>by
  cases hk:okAt bs lo hi k with
  | false=>simp[scan,hk] at h
  | true =>
   by_cases e:j=k
   ·rw[e];exact hk
   ·simp[scan,hk] at h
    exact ok_of_stop f (k+1) (by omega) j (by omega) (by omega)
theorem okAt_mem {bs:List UInt8} {c k:Nat} (h:okAt bs (bLo c) (bHi c) k=true):∃ b,bs[k]?=some b∧loAt c k≤b.toNat∧b.toNat≤hiAt c k:=by
 cases hb:bs[k]? with
 | none=>simp[okAt,hb] at h
 | some b=>rw[okAt_some hb] at h;exact⟨b,rfl,by simpa using h⟩
theorem decode_valid (bs:List UInt8) (m:Nat) (hl:m≤bs.length) (hm:m=bN (bs[0]?.getD 0).toNat) (hs:stopP bs=m) (h0:0<m) :
  Lib.decodeGo (bytesOf (bs.take m))=(val bs m,m):=by
 have hN:m≤4:=by rw[hm];unfold bN;(repeat' split)<;>omega
 have hs2:scan bs (bLo (bs[0]?.getD 0).toNat) (bHi (bs[0]?.getD 0).toNat) (m-1) 1=1+(m-1):=by
  have h:=hs;unfold stopP at h;simp only at h;rw[← hm] at h
  omega
 have hok:=ok_of_stop (m-1) 1 hs2;have hsz:(bytesOf (bs.take m)).size=m:=by rw[bytesOf_size,List.length_take];omega
 have hg:∀ j,j<m→(bytesOf (bs.take m)).get! j=bs[j]?.getD 0:=fun j hj=>by
  rw[bytesOf_get,List.getElem?_take,if_pos hj]
 unfold Lib.decodeGo;rw[hsz,if_neg (by omega),Lib.decode_at,hsz];have hb0:(bs[0]?.getD 0).toNat<256:=UInt8.toNat_lt _;generalize hc:(bs[0]?.getD 0).toNat=c at *
 have e0:((bytesOf (bs.take m)).get! 0).toNat=c:=by rw[hg 0 h0,hc]
 obtain rfl | rfl | rfl | rfl:m=1∨m=2∨m=3∨m=4:=by omega
 ·have h1:c<128:=by revert hm;unfold bN;(repeat' split)<;>omega
  simp only[Nat.zero_add,e0,Lib.decodeN,if_pos h1,val,if_true,hc]
 ·have h1:194≤c∧c<224:=by revert hm;unfold bN;(repeat' split)<;>omega
  obtain⟨b1,g1,l1,u1⟩:=okAt_mem (hok 1 (by omega) (by omega));have e1:((bytesOf (bs.take 2)).get! (0+1)).toNat=b1.toNat:=by rw[hg 1 (by omega),g1];rfl
  have hb:128≤b1.toNat∧b1.toNat≤191:=by
   revert l1 u1;unfold loAt hiAt bLo bHi;(repeat' split)<;>omega
  simp only[e0,e1,val,hc,g1,Option.getD_some,if_neg (show ¬ (2=1) from by omega),if_true];unfold Lib.decodeN;rw[if_neg (by omega),if_pos (by omega),if_pos (by omega)]
 ·have h1:224≤c∧c<240:=by revert hm;unfold bN;(repeat' split)<;>omega
  obtain⟨b1,g1,l1,u1⟩:=okAt_mem (hok 1 (by omega) (by omega));obtain⟨b2,g2,l2,u2⟩:=okAt_mem (hok 2 (by omega) (by omega));have e1:((bytesOf (bs.take 3)).get! (0+1)).toNat=b1.toNat:=by rw[hg 1 (by omega),g1];rfl
  have e2:((bytesOf (bs.take 3)).get! (0+2)).toNat=b2.toNat:=by rw[hg 2 (by omega),g2];rfl
  have hb:128≤b1.toNat∧b1.toNat≤191∧(c=224→160≤b1.toNat)∧(c=237→b1.toNat≤159):=by
   revert l1 u1;unfold loAt hiAt bLo bHi;(repeat' split)<;>omega
  have hb2:128≤b2.toNat∧b2.toNat≤191:=by
   revert l2 u2;unfold loAt hiAt;(repeat' split)<;>omega
  simp only[e0,e1,e2,val,hc,g1,g2,Option.getD_some,if_neg (show ¬ (3=1) from by omega),if_neg (show ¬ (3=2) from by omega),if_true];unfold Lib.decodeN;rw[if_neg (by omega),if_neg (by omega),if_pos (by omega),if_pos (by omega)]
 ·have h1:240≤c∧c≤244:=by revert hm;unfold bN;(repeat' split)<;>omega
  obtain⟨b1,g1,l1,u1⟩:=okAt_mem (hok 1 (by omega) (by omega));obtain⟨b2,g2,l2,u2⟩:=okAt_mem (hok 2 (by omega) (by omega));obtain⟨b3,g3,l3,u3⟩:=okAt_mem (hok 3 (by omega) (by omega));have e1:((bytesOf (bs.take 4)).get! (0+1)).toNat=b1.toNat:=by rw[hg 1 (by omega),g1];rfl
  have e2:((bytesOf (bs.take 4)).get! (0+2)).toNat=b2.toNat:=by rw[hg 2 (by omega),g2];rfl
  have e3:((bytesOf (bs.take 4)).get! (0+3)).toNat=b3.toNat:=by rw[hg 3 (by omega),g3];rfl
  have hb:128≤b1.toNat∧b1.toNat≤191∧(c=240→144≤b1.toNat)∧(c=244→b1.toNat≤143):=by
   revert l1 u1;unfold loAt hiAt bLo bHi;(repeat' split)<;>omega
  have hb2:128≤b2.toNat∧b2.toNat≤191:=by
   revert l2 u2;unfold loAt hiAt;(repeat' split)<;>omega
  have hb3:128≤b3.toNat∧b3.toNat≤191:=by
   revert l3 u3;unfold loAt hiAt;(repeat' split)<;>omega
  simp only[e0,e1,e2,e3,val,hc,g1,g2,g3,Option.getD_some,if_neg (show ¬ (4=1) from by omega),if_neg (show ¬ (4=2) from by omega),if_neg (show ¬ (4=3) from by omega)];unfold Lib.decodeN;rw[if_neg (by omega),if_neg (by omega),if_neg (by omega),if_pos (by omega),if_pos (by omega)]
abbrev Tabs (w:World):Prop:=Lib.Utf8Tabs 1 2 w
theorem Tabs.lt {w:World} (h:Tabs w):1<w.heap.size∧2<w.heap.size :=
 ⟨World.block_lt_of_cell? _ _ (h.1 0 (by omega)),World.block_lt_of_cell? _ _ (h.2 0 (by omega)).1⟩
theorem Tabs.below {w w':World} (h:Tabs w) (hb:Below w.heap.size w w'):Tabs w' :=
 ⟨fun c hc=>(hb.cell (p:=⟨_,c,none⟩) h.lt.1).trans (h.1 c hc),fun i hi=>⟨(hb.cell (p:=⟨_,2 * i,none⟩) h.lt.2).trans (h.2 i hi).1,(hb.cell (p:=⟨_,2 * i+1,none⟩) h.lt.2).trans (h.2 i hi).2⟩⟩
theorem rn_next_any (bs:List UInt8) (A:Option Addr) (n cap B:Nat) (w:World) (hr:Reads w B 1 A n (bs.map b8)) (hn:0<n) (hm:n≤cap) (hcap:cap≤maxLen) (hT:Tabs w) :
  Calls Tryz.prog 84 #[.slice A n cap] w fun e w'=>e=.returned (.tuple #[.int .i32 (nextC bs),.int .i64 (nextN bs)])∧Below w.heap.size w w':=by
 refine rn_next bs A n cap B w hr hn hm hcap fun m hm1 hm2 hst h0=>?_
 obtain⟨b,off,rfl,hb,hcell⟩:=hr.open_ hn;have hlen:bs.length=n:=by simpa using hr.len
 have hsz:(bytesOf (bs.take m)).size=m:=by rw[bytesOf_size,List.length_take];omega
 have hd:=decode_valid bs m (by omega) hm1 hst h0
 have h:=Tryz.utf8_DecodeRune (bytesOf (bs.take m)) b off cap w hT (fun j hj=>by
  rw[hsz] at hj;rw[bytesOf_get,List.getElem?_take,if_pos hj,hcell j (b8 (bs[j]'(by omega))) (by simp;exact⟨_,List.getElem?_eq_getElem (by omega),rfl⟩)]
  simp[b8,List.getElem?_eq_getElem (show j<bs.length by omega)])
 rw[hd,hsz] at h
 exact h
namespace Rn
def readF:Nat→List UInt8→List Int
 | 0,_=>[]
 | f+1,bs=>if bs=[] then [] else
  let c:=nextC bs
  let rest:=bs.drop (nextN bs)
  if c=0 then 65533::readF f rest
  else if c=13∧rest[0]?=some 10 then readF f rest
  else if c=13∨c=12 then 10::readF f rest
  else c::readF f rest
def readP (bs:List UInt8):List Int:=readF bs.length bs
end Rn
section
variable {rest:List UInt8} (f:Nat) (h:rest≠[])
include h
theorem readF_zero (hc:nextC rest=0):readF (f+1) rest=65533::readF f (rest.drop (nextN rest)):=by simp[readF,h,hc]
theorem readF_skip (hc:nextC rest=13) (hn:(rest.drop (nextN rest))[0]?=some 10):readF (f+1) rest=readF f (rest.drop (nextN rest)):=by
 simp only[readF,h,hc,hn];simp
theorem readF_line (hc:nextC rest=13∧¬ (rest.drop (nextN rest))[0]?=some 10∨nextC rest=12):readF (f+1) rest=10::readF f (rest.drop (nextN rest)):=by
 rcases hc with⟨hc,hn⟩ | hc
 ·simp only[readF,h,hc,hn];simp
 ·simp only[readF,h,hc];simp
theorem readF_char (h0:¬ nextC rest=0) (h1:¬ nextC rest=13) (h2:¬ nextC rest=12):readF (f+1) rest=nextC rest::readF f (rest.drop (nextN rest)):=by
 simp[readF,h,h0,h1,h2]
end
theorem scan_ge (bs:List UInt8) (lo hi:Nat):∀ f k,k≤scan bs lo hi f k
 | 0,k=>Nat.le_refl _
 | f+1,k=>by
  unfold scan;split
  ·exact Nat.le_trans (Nat.le_succ _) (scan_ge bs lo hi f (k+1))
  ·exact Nat.le_refl _
theorem scan_le (bs:List UInt8) (lo hi:Nat):∀ f k,k≤bs.length→scan bs lo hi f k≤bs.length
 | 0,k,h=>h
 | f+1,k,h=>by
  unfold scan;split
  ·rename_i hk
   refine scan_le bs lo hi f (k+1) ?_
   rcases Nat.lt_or_ge k bs.length with h1 | h1
   ·exact h1
   ·rw[okAt_none h1] at hk;cases hk
  ·exact h
theorem nextN_pos (bs:List UInt8):1≤nextN bs:=by
 unfold nextN;simp only;have:=scan_ge bs (bLo (bs[0]?.getD 0).toNat) (bHi (bs[0]?.getD 0).toNat) (bN (bs[0]?.getD 0).toNat-1) 1;have h2:1≤stopP bs:=this
 (repeat' split)<;>omega
theorem nextN_le (bs:List UInt8) (h:bs≠[]):nextN bs≤bs.length:=by
 have hl:1≤bs.length:=List.length_pos_iff.2 h;have h1:stopP bs≤bs.length:=scan_le bs _ _ _ 1 hl
 have h3:stopP bs≤1+(bN (bs[0]?.getD 0).toNat-1):=by
  unfold stopP;simp only;generalize bLo (bs[0]?.getD 0).toNat=lo;generalize bHi (bs[0]?.getD 0).toNat=hi
  have:∀ f k,scan bs lo hi f k≤k+f:=by
   intro f
   induction f with
   | zero=>intro k;exact Nat.le_refl _
   | succ f ih =>
    intro k;unfold scan;split
    ·exact Nat.le_trans (ih (k+1)) (by omega)
    ·omega
  exact this _ 1
 unfold nextN;simp only
 (repeat' split)<;>omega
theorem i32_info:(Tryz.prog.info? 21).map (fun i=>(i.zero,i.size,i.bytes))=some (some (.int .i32 0),1,4):=by kernel_rfl
theorem rn_read (bs:List UInt8) (A:Option Addr) (n cap:Nat) (w:World) (hr:Reads w w.heap.size 1 A n (bs.map b8)) (hm:n≤cap) (hcap:cap≤maxLen) (hn:n≤1000000) (hT:Tabs w) :
  Calls Tryz.prog 54 #[.slice A n cap] w fun e w'=>∃ v,e=.returned v∧w'.ownsRow w.heap.size 21 1 v (readP bs).length ((readP bs).map r32)∧Below w.heap.size w w':=by
 have hcap':=hcap;unfold maxLen at hcap;have hlen:bs.length=n:=by simpa using hr.len
 obtain⟨i0,hi,hz0,hz1,hz2⟩:=info_parts i32_info;have Hlen:=Lib.hid hlen;clear hlen
 go_enter Tryz.func54,Tryz.ntmps54
 go_wp2
 go_loopw [0,3] (fun b o wr=>∃ (rest:List UInt8) (A:Option Addr) (m c:Nat) (done:List Int) (f:Nat),b=.slice A m c∧Reads wr w.heap.size 1 A m (rest.map b8)∧m≤c∧c≤9223372036854775807∧m+done.length≤n
   ∧ wr.ownsRow w.heap.size 21 1 o done.length (done.map r32)∧Below w.heap.size w wr∧Hid (rest.length≤f)∧Hid (done++readF f rest=readP bs)) (fun b _ _=>match b with | .slice _ m _=>m | _=>0)
 case atStart=>exact⟨bs,A,n,cap,[],bs.length,rfl,hr,hm,by omega,by simp,World.ownsRow_nil _ _ _ _,Below.refl _ _,Nat.le_refl _,rfl⟩
 case round =>
  obtain⟨rest,A',m,c,done,f,rfl,hr',hmc,hc,hdm,hown,hb,hf,hd⟩:=hrel
  by_cases h0:0<m
  ·have hT':=hT.below hb
   have hr'':=hr'.more hb.size;have hrl:rest.length=m:=by simpa using hr'.len
   have hN1:=nextN_pos rest;have hN2:nextN rest≤m:=by rw[← hrl];exact nextN_le rest (by intro e;rw[e] at hrl;simp at hrl;omega)
   have hsl:=fun (kd:IntKind) W=>run_cut (P:=Tryz.prog) Tryz.underlying22 (by kernel_rfl) (s:=1) (fun W=>by kernel_rfl) A' m c kd (nextN rest) hN2 W
   have Hrl:=Lib.hid hrl;clear hrl
   go_wp2_with fail
   refine(rn_next_any rest A' m c _ _ hr'' h0 hmc (by unfold maxLen;omega) hT').mono ?_
   rintro e w1 ⟨rfl,hb1⟩;have hb2:=hb.trans (hb1.mono hb.size);have hs2:=hb2.size;have hcut:=(hr'.below (hb1.mono hb.size)).cutA (k:=nextN rest) (c:=c) hN2 hmc;rw[← List.map_drop] at hcut;have hown1:=own_below hown hb1;have hne:Hid (rest≠[]):=by intro e0;have:=Hrl.out;rw[e0] at this;simp at this;omega
   obtain⟨f,hff⟩:∃ g,Hid (f=g+1):=⟨f-1,by have:=hf.out;have:=Hrl.out;show f=f-1+1;omega⟩;rw[hff.out] at hf hd;have hf':Hid ((rest.drop (nextN rest)).length≤f):=by have:=hf.out;show (rest.drop (nextN rest)).length≤f;rw[List.length_drop];omega
   have step:∀ (x:Int),readF (f+1) rest=x::readF f (rest.drop (nextN rest))→Hid ((done++[x])++readF f (rest.drop (nextN rest))=readP bs):=fun x hx=>by
    have:=hd.out;rw[hx] at this;show _=_;rw[← this];simp
   have Hstep:=Lib.hid step;clear step hff;generalize hA2:cutAt A' c (nextN rest) 1=A2 at *
   clear hA2 hr' hr'' hT' hb hown;have hsz:m-nextN rest+(done.length+1)≤n:=by omega
   by_cases c0:nextC rest=0
   ·have c0':(nextC rest == 0)=true:=by simp[c0]
    have HC0:=Lib.hid c0;clear c0
    go_wp2_with (at_builtin;refine wpList_append_own _ rfl _ _ 83 rfl w.heap.size 21 i0 (.int .i32 0) 1 4 Tryz.underlying83 hi hz0 hz1 hz2 rfl (by decide) _ _ _ rfl (hown1.alloc _) ⟨w1.heap.size,0,none⟩ 1 1 [.int .i32 65533] rfl rfl ?c1 ?c2 ?c3 ?c4 ?c5 ?_)
    case c1=>exact cell_one_new _ _ _
    case c2=>intro u hu;simp at hu;subst hu;rfl
    case c3=>unfold maxLen;omega
    case c4=>omega
    case c5=>simp;omega
    intro v' w2 hown' hgrow _;have hbn:=push_below hb2 hs2 hown1 hgrow;have hrn:=push_reads hcut hs2 hown1 hgrow;have hnew:=Hstep.out _ (readF_zero f hne.out HC0.out);clear hgrow hown1 hcut hb2 hb1
    go_wp2
    go_roundw
    case rel=>exact⟨rest.drop (nextN rest),A2,m-nextN rest,c-nextN rest,done++[65533],f,rfl,hrn,by omega,by omega,by simpa using hsz,by simpa [r32] using hown',hbn,hf',hnew⟩
    case measure=>simp;omega
   ·have c0':(nextC rest == 0)=false:=by simp[c0]
    have HC0:=Lib.hid c0;clear c0
    by_cases c1:nextC rest=13
    ·have c1':(nextC rest == 13)=true:=by simp[c1]
     have c1'':(nextC rest == 12)=false:=by simp[c1]
     have HC1:=Lib.hid c1;clear c1
     by_cases hmore:nextN rest<m
     ·obtain⟨b,off,u,hA,_,hx,hcell⟩:=hcut.at_ (k:=0) (by omega)
      subst hA;rw[Nat.add_zero] at hcell
      obtain⟨b',hx'⟩:∃ b',(rest.drop (nextN rest))[0]?=some b':=by
       rw[List.getElem?_map] at hx
       cases h:(rest.drop (nextN rest))[0]? with
       | none=>rw[h] at hx;cases hx
       | some b'=>exact⟨b',rfl⟩
      rw[List.getElem?_map,hx'] at hx;obtain rfl:u=b8 b':=by simpa using hx.symm
      unfold b8 at hcell;have Hx:=Lib.hid hx';clear hx hx'
      by_cases h10:b'=10
      ·have h10':((b'.toNat:Int) == 10)=true:=by simp[h10]
       have H10:=Lib.hid h10;clear h10
       have hnew:Hid (done++readF f (rest.drop (nextN rest))=readP bs):=by
        rw[← readF_skip f hne.out HC1.out (by rw[Hx.out,H10.out])];exact hd
       go_wp2
       go_roundw
       case rel=>exact⟨rest.drop (nextN rest),_,m-nextN rest,c-nextN rest,done,f,rfl,hcut,by omega,by omega,by omega,hown1,hb2,hf',hnew⟩
       case measure=>simp;omega
      ·have h10':((b'.toNat:Int) == 10)=false:=by
        simp only[beq_eq_false_iff_ne];intro e
        exact h10 (UInt8.toNat_inj.1 (by simpa using Int.ofNat.inj e))
       have H10:=Lib.hid h10;clear h10
       go_wp2_with (at_builtin;refine wpList_append_own _ rfl _ _ 83 rfl w.heap.size 21 i0 (.int .i32 0) 1 4 Tryz.underlying83 hi hz0 hz1 hz2 rfl (by decide) _ _ _ rfl (hown1.alloc _) ⟨w1.heap.size,0,none⟩ 1 1 [.int .i32 10] rfl rfl ?c1 ?c2 ?c3 ?c4 ?c5 ?_)
       case c1=>exact cell_one_new _ _ _
       case c2=>intro u hu;simp at hu;subst hu;rfl
       case c3=>unfold maxLen;omega
       case c4=>omega
       case c5=>simp;omega
       intro v' w2 hown' hgrow _;have hbn:=push_below hb2 hs2 hown1 hgrow;have hrn:=push_reads hcut hs2 hown1 hgrow;have hnew:=Hstep.out _ (readF_line f hne.out (.inl ⟨HC1.out,by rw[Hx.out];simpa using H10.out⟩));clear hgrow hown1 hcut hb2 hb1
       go_wp2
       go_roundw
       case rel=>exact⟨rest.drop (nextN rest),_,m-nextN rest,c-nextN rest,done++[10],f,rfl,hrn,by omega,by omega,by simpa using hsz,by simpa [r32] using hown',hbn,hf',hnew⟩
       case measure=>simp;omega
     ·have hmN:¬ nextN rest<m:=hmore
      have hzero:((m-nextN rest:Nat):Int)=0:=by omega
      have hnil:(rest.drop (nextN rest))[0]?=none:=by
       rw[List.getElem?_eq_none];rw[List.length_drop,Hrl.out];omega
      have Hnil:=Lib.hid hnil;clear hnil hzero;have hgt:¬ 0<m-nextN rest:=by omega
      go_wp2_with (at_builtin;refine wpList_append_own _ rfl _ _ 83 rfl w.heap.size 21 i0 (.int .i32 0) 1 4 Tryz.underlying83 hi hz0 hz1 hz2 rfl (by decide) _ _ _ rfl (hown1.alloc _) ⟨w1.heap.size,0,none⟩ 1 1 [.int .i32 10] rfl rfl ?c1 ?c2 ?c3 ?c4 ?c5 ?_)
      case c1=>exact cell_one_new _ _ _
      case c2=>intro u hu;simp at hu;subst hu;rfl
      case c3=>unfold maxLen;omega
      case c4=>omega
      case c5=>simp;omega
      intro v' w2 hown' hgrow _;have hbn:=push_below hb2 hs2 hown1 hgrow;have hrn:=push_reads hcut hs2 hown1 hgrow;have hnew:=Hstep.out _ (readF_line f hne.out (.inl ⟨HC1.out,by rw[Hnil.out];simp⟩));clear hgrow hown1 hcut hb2 hb1
      go_wp2
      go_roundw
      case rel=>exact⟨rest.drop (nextN rest),A2,m-nextN rest,c-nextN rest,done++[10],f,rfl,hrn,by omega,by omega,by simpa using hsz,by simpa [r32] using hown',hbn,hf',hnew⟩
      case measure=>simp;omega
    ·have c1':(nextC rest == 13)=false:=by simp[c1]
     have HC1:=Lib.hid c1;clear c1
     by_cases c2:nextC rest=12
     ·have c2':(nextC rest == 12)=true:=by simp[c2]
      have HC2:=Lib.hid c2;clear c2
      go_wp2_with (at_builtin;refine wpList_append_own _ rfl _ _ 83 rfl w.heap.size 21 i0 (.int .i32 0) 1 4 Tryz.underlying83 hi hz0 hz1 hz2 rfl (by decide) _ _ _ rfl (hown1.alloc _) ⟨w1.heap.size,0,none⟩ 1 1 [.int .i32 10] rfl rfl ?c1 ?c2 ?c3 ?c4 ?c5 ?_)
      case c1=>exact cell_one_new _ _ _
      case c2=>intro u hu;simp at hu;subst hu;rfl
      case c3=>unfold maxLen;omega
      case c4=>omega
      case c5=>simp;omega
      intro v' w2 hown' hgrow _;have hbn:=push_below hb2 hs2 hown1 hgrow;have hrn:=push_reads hcut hs2 hown1 hgrow;have hnew:=Hstep.out _ (readF_line f hne.out (.inr HC2.out));clear hgrow hown1 hcut hb2 hb1
      go_wp2
      go_roundw
      case rel=>exact⟨rest.drop (nextN rest),A2,m-nextN rest,c-nextN rest,done++[10],f,rfl,hrn,by omega,by omega,by simpa using hsz,by simpa [r32] using hown',hbn,hf',hnew⟩
      case measure=>simp;omega
     ·have c2':(nextC rest == 12)=false:=by simp[c2]
      have HC2:=Lib.hid c2;clear c2
      go_wp2_with (at_builtin;refine wpList_append_own _ rfl _ _ 83 rfl w.heap.size 21 i0 (.int .i32 0) 1 4 Tryz.underlying83 hi hz0 hz1 hz2 rfl (by decide) _ _ _ rfl (hown1.alloc _) ⟨w1.heap.size,0,none⟩ 1 1 [.int .i32 (nextC rest)] rfl rfl ?c1 ?c2 ?c3 ?c4 ?c5 ?_)
      case c1=>exact cell_one_new _ _ _
      case c2=>intro u hu;simp at hu;subst hu;rfl
      case c3=>unfold maxLen;omega
      case c4=>omega
      case c5=>simp;omega
      intro v' w2 hown' hgrow _;have hbn:=push_below hb2 hs2 hown1 hgrow;have hrn:=push_reads hcut hs2 hown1 hgrow;have hnew:=Hstep.out _ (readF_char f hne.out HC0.out HC1.out HC2.out);clear hgrow hown1 hcut hb2 hb1
      go_wp2
      go_roundw
      case rel=>exact⟨rest.drop (nextN rest),A2,m-nextN rest,c-nextN rest,done++[(nextC rest)],f,rfl,hrn,by omega,by omega,by simpa using hsz,by simpa [r32] using hown',hbn,hf',hnew⟩
      case measure=>simp;omega
  ·have hm0:m=0:=by omega
   subst hm0
   go_wp2
   go_ret
   have hrl:rest=[]:=by simpa using hr'.len
   have hdn:done=readP bs:=by have:=hd.out;rw[hrl] at this;rw[← this];cases f<;>simp[readF]
   rw[hdn] at hown
   exact⟨_,rfl,hown,hb⟩
end Go.Proofs.YtfhdihdafmahgaaGreatDoor
namespace Go.Proofs.YtfhdihdafmahgaaGreatDoor
open Go.RowKit Rn
namespace Rn
def writeP (l:List Int):List UInt8:=l.flatMap Lib.encodeRune
end Rn
theorem runeCells_b8 (r:Int):Lib.runeCells r=(Lib.encodeRune r).map b8:=by
 unfold Lib.runeCells Lib.encodeRune;rw[List.map_map]
 apply List.map_congr_left
 intro x hx;have:=Lib.encodeRuneZ_byte r x hx;simp only[Function.comp,b8]
 congr 1
 have h2:x.toNat.toUInt8.toNat=x.toNat:=by simp;omega
 rw[h2];omega
theorem encode_len (r:Int):1≤(Lib.encodeRune r).length∧(Lib.encodeRune r).length≤4:=by
 unfold Lib.encodeRune Lib.encodeRuneZ
 (repeat' split)<;>simp
theorem encode_bad (c:Int) (h:isB c=false):Lib.encodeRune c=Lib.encodeRune 65533:=by
 unfold Lib.encodeRune;rw[Lib.encodeRuneZ_bad (by unfold isB at h;simp at h;omega),Lib.encodeRuneZ_three (by omega)]
 rfl
theorem writeP_len (l:List Int):(writeP l).length≤4 * l.length:=by
 induction l with
 | nil=>simp[writeP]
 | cons c l ih =>
  have:=(encode_len c).2;simp only[writeP,List.flatMap_cons,List.length_append,List.length_cons] at ih ⊢
  omega
theorem writeP_snoc (l:List Int) (c:Int):writeP (l++[c])=writeP l++Lib.encodeRune c:=by simp[writeP]
theorem rn_write (l:List Int) (A:Option Addr) (n cap:Nat) (w:World) (hr:Reads w w.heap.size 1 A n (l.map r32)) (hl:∀ c∈l,-2147483648≤c∧c≤2147483647) (hn:n≤1000000) :
  Calls Tryz.prog 122 #[.slice A n cap] w fun e w'=>∃ v,e=.returned v∧w'.ownsRow w.heap.size 5 1 v (writeP l).length ((writeP l).map b8)∧Below w.heap.size w w':=by
 have hlen:l.length=n:=by simpa using hr.len
 have Hlen:=Lib.hid hlen;have Hl:=Lib.hid hl;clear hlen hl
 go_enter Tryz.func122,Tryz.ntmps122
 go_wp2
 go_loopw [3,8] (fun o i wr=>∃ k:Nat,k≤n∧i=.int .i64 k∧wr.ownsRow w.heap.size 5 1 o (writeP (l.take k)).length ((writeP (l.take k)).map b8)∧Below w.heap.size w wr) (fun _ i _=>n-(intOf i).toNat)
 case atStart=>exact⟨0,by omega,rfl,World.ownsRow_nil _ _ _ _,Below.refl _ _⟩
 case round =>
  obtain⟨k,hk,rfl,hown,hb⟩:=hrel;have hs2:=hb.size
  by_cases hlt:k<n
  ·obtain⟨b,off,u,hA,hbw,hx,hcell0⟩:=hr.at_ hlt
   subst hA;obtain⟨c,hc⟩:∃ c,l[k]?=some c:=⟨_,List.getElem?_eq_getElem (by rw[Hlen.out];omega)⟩;rw[List.getElem?_map,hc] at hx;obtain rfl:u=r32 c:=by simpa using hx.symm
   unfold r32 at hcell0;have hcell:wr.cell? ⟨b,off+k,none⟩=some (.int .i32 c):=(hb.cell (p:=⟨b,off+k,none⟩) hbw).trans hcell0;have hcr:=Hl.out c (List.mem_of_getElem? hc);have hwl:=writeP_len (l.take k);rw[List.length_take] at hwl;have hst:writeP (l.take (k+1))=writeP (l.take k)++Lib.encodeRune c:=by rw[take_snoc l k c hc,writeP_snoc]
   have Hst:=Lib.hid hst;have Hc:=Lib.hid hc;clear hst hc hx hcell0
   by_cases his:isB c=true
   ·go_wp2_with (first | (go_at_call 148;refine(rn_is _ _).mono ?_;rintro e w' ⟨rfl,rfl⟩;rw[his]) | (go_at_call 149;refine(Tryz.utf8_AppendRune_plain w.heap.size _ _ _ c hcr.1 hcr.2 _ hown (by omega) hs2).mono ?_;rintro e w2 ⟨v',rfl,hown',o,hg⟩))
    have hbn:=push_below hb hs2 hown hg;rw[runeCells_b8,List.length_map,← List.map_append,← List.length_append,← Hst.out] at hown'
    go_roundw
    case rel=>exact⟨k+1,by omega,by go_num,hown',hbn⟩
    case measure=>simp[intOf];omega
   ·have his':isB c=false:=by simpa using his
    have Hbad:=Lib.hid (encode_bad c his')
    go_wp2_with (first | (go_at_call 148;refine(rn_is _ _).mono ?_;rintro e w' ⟨rfl,rfl⟩;rw[his']) | (go_at_call 149;refine(Tryz.utf8_AppendRune_plain w.heap.size _ _ _ 65533 (by omega) (by omega) _ hown (by omega) hs2).mono ?_;rintro e w2 ⟨v',rfl,hown',o,hg⟩))
    have hbn:=push_below hb hs2 hown hg;rw[runeCells_b8,List.length_map,← List.map_append,← List.length_append,← Hbad.out,← Hst.out] at hown'
    go_roundw
    case rel=>exact⟨k+1,by omega,by go_num,hown',hbn⟩
    case measure=>simp[intOf];omega
  ·obtain rfl:k=n:=by omega
   go_wp2
   go_ret
   rw[List.take_of_length_le (by rw[Hlen.out];omega)] at hown
   exact⟨_,rfl,hown,hb⟩
end Go.Proofs.YtfhdihdafmahgaaGreatDoor
namespace Go.Proofs.YtfhdihdafmahgaaGreatDoor
open Go.RowKit Fx
namespace Fx
def isDAt (l:List UInt8) (i:Nat):Bool:=match l[i]? with
 | some b=>isD b
 | none=>false
end Fx
theorem digs_drop_yes {l:List UInt8} {i:Nat} (h:isDAt l i=true):digs (l.drop i)=digs (l.drop (i+1))+1:=by
 unfold isDAt at h
 split at h
 ·rename_i b hb
  obtain⟨hi,rfl⟩:=List.getElem?_eq_some_iff.1 hb;unfold digs;rw[List.drop_eq_getElem_cons hi,List.takeWhile_cons,if_pos h,List.length_cons]
 ·cases h
theorem digs_drop_no {l:List UInt8} {i:Nat} (h:isDAt l i=false):digs (l.drop i)=0:=by
 unfold isDAt at h
 split at h
 ·rename_i b hb
  obtain⟨hi,rfl⟩:=List.getElem?_eq_some_iff.1 hb;unfold digs;rw[List.drop_eq_getElem_cons hi,List.takeWhile_cons,if_neg (by rw[h];decide)];rfl
 ·rename_i hb
  rw[List.drop_eq_nil_of_le (List.getElem?_eq_none_iff.1 hb)];rfl
theorem rfx_digit (l:List UInt8) (i:Nat) (w:World) (hl:l.length≤9223372036854775807) :
  Calls Tryz.prog 135 #[.string (bytesOf l),.int .i64 i] w fun e w'=>e=.returned (.bool (isDAt l i))∧w=w':=by
 have hs:=bytesOf_size l
 cases hD:l[i]? with
 | none =>
  have hge:=List.getElem?_eq_none_iff.1 hD;have Hv:=Lib.hid (show isDAt l i=false by simp[isDAt,hD]);clear hD
  go_enter Tryz.func135,Tryz.ntmps135
  go_wp2
  go_ret
  exact⟨by rw[Hv.out];rfl,rfl⟩
 | some b =>
  have hlt:i<l.length:=(List.getElem?_eq_some_iff.1 hD).1;have hix:=str_at (P:=Tryz.prog) (T:=9) Tryz.underlying9 l .i64 i b hD;have hv:isDAt l i=decide (48≤b.toNat∧b.toNat≤57):=by simp[isDAt,hD,isD]
  clear hD
  by_cases h1:48≤b.toNat
  ·by_cases h2:b.toNat≤57
   ·have Hv:=Lib.hid (show isDAt l i=true by rw[hv];simp[h1,h2])
    clear hv;have d1:decide ((48:Int)≤b.toNat)=true:=by simp;omega
    have d2:decide ((b.toNat:Int)≤57)=true:=by simp;omega
    go_enter Tryz.func135,Tryz.ntmps135
    go_wp2
    go_ret
    exact⟨by rw[Hv.out];simp[d1,d2],rfl⟩
   ·have Hv:=Lib.hid (show isDAt l i=false by rw[hv];simp[h1,h2])
    clear hv;have d1:decide ((48:Int)≤b.toNat)=true:=by simp;omega
    have d2:decide ((b.toNat:Int)≤57)=false:=by simp;omega
    go_enter Tryz.func135,Tryz.ntmps135
    go_wp2
    go_ret
    exact⟨by rw[Hv.out];simp[d1,d2],rfl⟩
  ·have Hv:=Lib.hid (show isDAt l i=false by rw[hv];simp[h1])
   clear hv;have d1:decide ((48:Int)≤b.toNat)=false:=by simp;omega
   go_enter Tryz.func135,Tryz.ntmps135
   go_wp2
   go_ret
   exact⟨by rw[Hv.out];rfl,rfl⟩
theorem sgn_cases (l:List UInt8) (j:Nat):(l.length≤j∧sgn (l.drop j)=0)∨(∃ b,l[j]?=some b∧((b.toNat=43∧sgn (l.drop j)=1)∨(b.toNat=45∧sgn (l.drop j)=1)∨(¬ b.toNat=43∧¬ b.toNat=45∧sgn (l.drop j)=0))):=by
 by_cases hj:j<l.length
 ·refine .inr ⟨l[j],List.getElem?_eq_getElem hj,?_⟩
  rw[List.drop_eq_getElem_cons hj]
  by_cases h1:l[j].toNat=43
  ·exact .inl ⟨h1,if_pos (.inl h1)⟩
  ·by_cases h2:l[j].toNat=45
   ·exact .inr (.inl ⟨h2,if_pos (.inr h2)⟩)
   ·exact .inr (.inr ⟨h1,h2,if_neg (by omega)⟩)
 ·exact .inl ⟨by omega,by rw[List.drop_eq_nil_of_le (by omega)];rfl⟩
theorem isE_cases (l:List UInt8) (j:Nat):(l.length≤j∧isE l[j]?=false)∨(∃ b,l[j]?=some b∧((b.toNat=101∧isE l[j]?=true)∨(b.toNat=69∧isE l[j]?=true)∨(¬ b.toNat=101∧¬ b.toNat=69∧isE l[j]?=false))):=by
 cases hb:l[j]? with
 | none=>exact .inl ⟨List.getElem?_eq_none_iff.1 hb,rfl⟩
 | some b =>
  refine .inr ⟨b,rfl,?_⟩
  by_cases h1:b.toNat=101
  ·exact .inl ⟨h1,by simp[isE,h1]⟩
  ·by_cases h2:b.toNat=69
   ·exact .inr (.inl ⟨h2,by simp[isE,h2]⟩)
   ·exact .inr (.inr ⟨h1,h2,by simp[isE,h1,h2]⟩)
theorem dot_cases (l:List UInt8) (j:Nat):(l.length≤j∧¬ l[j]?=some 46)∨(∃ b,l[j]?=some b∧((b.toNat=46∧l[j]?=some 46)∨(¬ b.toNat=46∧¬ l[j]?=some 46))):=by
 cases hb:l[j]? with
 | none=>exact .inl ⟨List.getElem?_eq_none_iff.1 hb,by simp⟩
 | some b =>
  refine .inr ⟨b,rfl,?_⟩
  by_cases h1:b.toNat=46
  ·exact .inl ⟨h1,by congr 1;exact UInt8.toNat_inj.1 h1⟩
  ·exact .inr ⟨h1,by intro h;injection h with h;subst h;exact h1 rfl⟩
theorem isDAt_digs (l:List UInt8) (j:Nat):isDAt l j=decide (0<digs (l.drop j)):=by
 cases h:isDAt l j with
 | true=>have:=digs_drop_yes h;simp;omega
 | false=>have:=digs_drop_no h;simp;omega
theorem lenP_none {l:List UInt8} (h:some_ l=false):lenP l=0:=by simp[lenP,h]
theorem lenP_tail {l:List UInt8} {A:Nat} (h:some_ l=true) (hA:bodyLen l=A) :
  (isE l[A]?=false→lenP l=A)∧(isE l[A]?=true→∀ k m,sgn (l.drop (A+1))=k→digs (l.drop (A+1+k))=m→lenP l=if 0<m then A+1+k+m else A):=by
 subst hA
 constructor
 ·intro he;simp[lenP,h,he]
 ·rintro he k m rfl rfl
  have hx:expLen (l.drop (bodyLen l+1))=if 0<digs (l.drop (bodyLen l+1+sgn (l.drop (bodyLen l+1)))) then sgn (l.drop (bodyLen l+1))+digs (l.drop (bodyLen l+1+sgn (l.drop (bodyLen l+1)))) else 0:=by
   simp only[expLen,List.drop_drop]
  simp only[lenP,h,he,hx];rw[if_neg (by simp)]
  by_cases h0:0<digs (l.drop (bodyLen l+1+sgn (l.drop (bodyLen l+1))))
  ·rw[if_pos h0,if_pos ⟨trivial,by omega⟩,if_pos h0];omega
  ·rw[if_neg h0,if_neg (by simp),if_neg h0]
theorem bodyLen_le (l:List UInt8):bodyLen l≤l.length:=by
 have h1:=sgn_le l;have h2:=digs_le (l.drop (sgn l));rw[List.length_drop] at h2;unfold bodyLen;simp only[]
 split
 ·rename_i h
  have h3:=digs_le (l.drop (sgn l+digs (l.drop (sgn l))+1));rw[List.length_drop] at h3;have:=(List.getElem?_eq_some_iff.1 h.1).1
  omega
 ·omega
theorem rfx_length (l:List UInt8) (w:World) (hl:l.length≤9223372036854775806) :
  Calls Tryz.prog 103 #[.string (bytesOf l)] w fun e w'=>e=.returned (.int .i64 (lenP l:Nat))∧w=w':=by
 have hs:=bytesOf_size l;have hsA:=sgn_le l;have hdA:=digs_le (l.drop (sgn l));rw[List.length_drop] at hdA;obtain⟨a,ha⟩:∃ a,sgn l+digs (l.drop (sgn l))=a:=⟨_,rfl⟩;have Ha:=Lib.hid ha;have hsg:=sgn_cases l 0;rw[List.drop_zero] at hsg;have Hsg:=Lib.hid hsg;have Hdot:=Lib.hid (dot_cases l a);have hle:a≤l.length:=by omega
 obtain⟨A,hA⟩:∃ A,bodyLen l=A:=⟨_,rfl⟩;have hAl:=bodyLen_le l;rw[hA] at hAl;have HA:=Lib.hid hA;have hBody:bodyLen l=if l[a]?=some 46∧0<digs (l.drop (a+1)) then a+1+digs (l.drop (a+1)) else a:=by simp only[bodyLen,ha]
 have hSome:some_ l=decide (0<digs (l.drop (sgn l))∨(l[a]?=some 46∧0<digs (l.drop (a+1)))):=by simp only[some_,ha]
 rw[hA] at hBody;have HBody:=Lib.hid hBody;have HSome:=Lib.hid hSome;clear hsg hA hBody hSome
 go_enter Tryz.func103,Tryz.ntmps103
 go_upto_region 2 with (fail)
 go_cut [18] (fun s wx=>s=.bool (decide (0<sgn l))∧wx=w)
 case first =>
  rcases Hsg.out with⟨hge,h⟩ | ⟨b,hb,⟨hb1,h⟩ | ⟨hb1,h⟩ | ⟨hb1,hb2,h⟩⟩
  ·go_wp2_with fail
   go_meet
   exact⟨by rw[h];rfl,rfl⟩
  ·have hlt:0<l.length:=(List.getElem?_eq_some_iff.1 hb).1
   have hix:=str_at (P:=Tryz.prog) (T:=9) Tryz.underlying9 l .i64 0 b hb;rw[Int.ofNat_zero,hb1] at hix
   go_wp2_with fail
   go_meet
   exact⟨by rw[h];rfl,rfl⟩
  ·have hlt:0<l.length:=(List.getElem?_eq_some_iff.1 hb).1
   have hix:=str_at (P:=Tryz.prog) (T:=9) Tryz.underlying9 l .i64 0 b hb;rw[Int.ofNat_zero,hb1] at hix
   go_wp2_with fail
   go_meet
   exact⟨by rw[h];rfl,rfl⟩
  ·have hlt:0<l.length:=(List.getElem?_eq_some_iff.1 hb).1
   have hix:=str_at (P:=Tryz.prog) (T:=9) Tryz.underlying9 l .i64 0 b hb;rw[Int.ofNat_zero] at hix;have hc1:((b.toNat:Int) == 43)=false:=byte_ne hb1;have hc2:((b.toNat:Int) == 45)=false:=byte_ne hb2
   go_wp2_with fail
   go_meet
   exact⟨by rw[h];simp[hc1,hc2],rfl⟩
 case rest =>
  obtain⟨rfl,rfl⟩:=hcut
  go_upto_if 18 with (fail)
  go_cut [3] (fun s wx=>s=.int .i64 (sgn l:Nat)∧wx=wc)
  case first =>
   by_cases ha:0<sgn l
   ·go_wp2_with fail
    go_meet
    exact⟨by congr 1;omega,rfl⟩
   ·go_wp2_with fail
    go_meet
    exact⟨by congr 1;omega,rfl⟩
  case rest =>
   obtain⟨rfl,rfl⟩:=hcut
   go_upto_block 0 with (fail)
   go_cut [3,4] (fun s t wx=>s=.int .i64 (a:Nat)∧t=.bool (decide (0<digs (l.drop (sgn l))))∧wx=wc)
   case first =>
    go_wp2_with fail
    go_loop [3,4] (fun s t=>∃ i:Nat,sgn l≤i∧i+digs (l.drop i)=a∧s=.int .i64 (i:Nat)∧t=.bool (decide (sgn l<i))) (fun s _=>l.length-(intOf s).toNat)
    case atStart=>exact⟨sgn l,Nat.le_refl _,Ha.out,rfl,by simp⟩
    case round =>
     obtain⟨i,hi1,hi2,rfl,rfl⟩:=hrel;have hcall:=rfx_digit l i wc (by omega)
     cases hd:isDAt l i with
     | true =>
      rw[hd] at hcall;have hstep:=digs_drop_yes hd;have Hd:=Lib.hid hd;clear hd
      go_wp2_with fail
      refine hcall.mono ?_
      rintro e w' ⟨rfl,rfl⟩
      go_wp2
      exact⟨⟨i+1,by omega,by omega,rfl,by congr 1;simp;omega⟩,by simp[intOf];omega⟩
     | false =>
      rw[hd] at hcall;have hstep:=digs_drop_no hd;have Hd:=Lib.hid hd;clear hd
      go_wp2_with fail
      refine hcall.mono ?_
      rintro e w' ⟨rfl,rfl⟩
      go_wp2
      go_meet
      have e1:i=a:=by omega
      subst e1
      exact⟨rfl,by congr 1;simp only[decide_eq_decide];have:=Ha.out;omega,rfl⟩
   case rest =>
    obtain⟨rfl,rfl,rfl⟩:=hcut;obtain⟨D,hD⟩:∃ D,decide (l[a]?=some 46∧0<digs (l.drop (a+1)))=D:=⟨_,rfl⟩;have HD:=Lib.hid hD;clear hD
    go_upto_region 8 with (fail)
    go_cut [39] (fun s wx=>s=.bool D∧wx=wc)
    case first =>
     rcases Hdot.out with⟨hge,h⟩ | ⟨b,hb,⟨hb1,h⟩ | ⟨hb1,h⟩⟩
     ·go_wp2_with fail
      go_meet
      exact⟨by rw[← HD.out];simp[h],rfl⟩
     ·have hlt:a<l.length:=(List.getElem?_eq_some_iff.1 hb).1
      have hix:=str_at (P:=Tryz.prog) (T:=9) Tryz.underlying9 l .i64 a b hb;rw[hb1] at hix;have hcall:=rfx_digit l (a+1) wc (by omega);rw[isDAt_digs] at hcall
      push_cast at hcall
      go_wp2_with fail
      refine hcall.mono ?_
      rintro e w' ⟨rfl,rfl⟩
      go_wp2_with fail
      go_meet
      exact⟨by rw[← HD.out];simp[h],rfl⟩
     ·have hlt:a<l.length:=(List.getElem?_eq_some_iff.1 hb).1
      have hix:=str_at (P:=Tryz.prog) (T:=9) Tryz.underlying9 l .i64 a b hb;have hc1:((b.toNat:Int) == 46)=false:=byte_ne hb1
      go_wp2_with fail
      go_meet
      exact⟨by rw[← HD.out];simp[h,hc1],rfl⟩
    case rest =>
     obtain⟨rfl,rfl⟩:=hcut
     go_upto_if 39 with (fail)
     go_cut [3,4] (fun s t wx=>s=.int .i64 (A:Nat)∧t=.bool (some_ l)∧wx=wc)
     case first =>
      cases D with
      | true =>
       have hdot:=of_decide_eq_true HD.out;have hAv:A=a+1+digs (l.drop (a+1)):=by rw[HBody.out,if_pos hdot]
       have hSv:some_ l=true:=by rw[HSome.out];simp[hdot]
       have hda:=digs_le (l.drop (a+1));rw[List.length_drop] at hda;have hal:=(List.getElem?_eq_some_iff.1 hdot.1).1;have HSv:=Lib.hid hSv;clear hSv hdot
       go_wp2_with fail
       go_loop [3] (fun s=>∃ i:Nat,a<i∧i+digs (l.drop i)=A∧s=.int .i64 (i:Nat)) (fun s=>l.length-(intOf s).toNat)
       case atStart=>exact⟨a+1,by omega,by omega,rfl⟩
       case round =>
        obtain⟨i,hi1,hi2,rfl⟩:=hrel;have hcall:=rfx_digit l i wc (by omega);have hdi:=digs_le (l.drop i);rw[List.length_drop] at hdi
        cases hd:isDAt l i with
        | true =>
         rw[hd] at hcall;have hstep:=digs_drop_yes hd;have Hd:=Lib.hid hd;clear hd
         go_wp2_with fail
         refine hcall.mono ?_
         rintro e w' ⟨rfl,rfl⟩
         go_wp2
         exact⟨⟨i+1,by omega,by omega,rfl⟩,by simp[intOf];omega⟩
        | false =>
         rw[hd] at hcall;have hstep:=digs_drop_no hd;have Hd:=Lib.hid hd;clear hd
         go_wp2_with fail
         refine hcall.mono ?_
         rintro e w' ⟨rfl,rfl⟩
         go_wp2_with fail
         go_meet
         exact⟨by congr 1;omega,by rw[HSv.out],rfl⟩
      | false =>
       have hdot:=of_decide_eq_false HD.out;have hAv:A=a:=by rw[HBody.out,if_neg hdot]
       have hSv:some_ l=decide (0<digs (l.drop (sgn l))):=by rw[HSome.out];simp only[hdot,or_false]
       have HSv:=Lib.hid hSv;clear hSv hdot
       go_wp2_with fail
       go_meet
       exact⟨by congr 1;omega,by rw[HSv.out],rfl⟩
     case rest =>
      obtain⟨rfl,rfl,rfl⟩:=hcut
      cases hS:some_ l with
      | false =>
       have Hval:=Lib.hid (lenP_none hS);clear hS
       go_wp2
       go_ret
       exact⟨ret_int (by rw[Hval.out];rfl),rfl⟩
      | true =>
       have htail:=Lib.hid (lenP_tail hS HA.out);clear hS
       go_upto_region 15 with (fail)
       go_cut [64] (fun s wx=>s=.bool (isE l[A]?)∧wx=wc)
       case first =>
        rcases isE_cases l A with⟨hge,h⟩ | ⟨b,hb,⟨hb1,h⟩ | ⟨hb1,h⟩ | ⟨hb1,hb2,h⟩⟩
        ·go_wp2_with fail
         go_meet
         exact⟨by rw[h],rfl⟩
        ·have hlt:A<l.length:=(List.getElem?_eq_some_iff.1 hb).1
         have hix:=str_at (P:=Tryz.prog) (T:=9) Tryz.underlying9 l .i64 A b hb;rw[hb1] at hix
         go_wp2_with fail
         go_meet
         exact⟨by rw[h],rfl⟩
        ·have hlt:A<l.length:=(List.getElem?_eq_some_iff.1 hb).1
         have hix:=str_at (P:=Tryz.prog) (T:=9) Tryz.underlying9 l .i64 A b hb;rw[hb1] at hix
         go_wp2_with fail
         go_meet
         exact⟨by rw[h],rfl⟩
        ·have hlt:A<l.length:=(List.getElem?_eq_some_iff.1 hb).1
         have hix:=str_at (P:=Tryz.prog) (T:=9) Tryz.underlying9 l .i64 A b hb;have hc1:((b.toNat:Int) == 101)=false:=byte_ne hb1;have hc2:((b.toNat:Int) == 69)=false:=byte_ne hb2
         go_wp2_with fail
         go_meet
         exact⟨by first | rw[h];done | (rw[h];simp[hc1,hc2]),rfl⟩
       case rest =>
        obtain⟨rfl,rfl⟩:=hcut
        cases hE:isE l[A]? with
        | false =>
         have Hval:=Lib.hid (htail.out.1 hE);clear hE
         go_wp2
         go_ret
         exact⟨ret_int (by rw[Hval.out]),rfl⟩
        | true =>
         have hAlt:A<l.length:=by
          rcases isE_cases l A with⟨hge,h⟩ | ⟨b,hb,_⟩
          ·rw[hE] at h;cases h
          ·exact(List.getElem?_eq_some_iff.1 hb).1
         obtain⟨k,hk⟩:∃ k,sgn (l.drop (A+1))=k:=⟨_,rfl⟩;have hk1:=sgn_le (l.drop (A+1));rw[hk,List.length_drop] at hk1;obtain⟨m,hm⟩:∃ m,digs (l.drop (A+1+k))=m:=⟨_,rfl⟩;have Hval:=Lib.hid (htail.out.2 hE k m hk hm);have hsg2:=sgn_cases l (A+1);rw[hk] at hsg2;have Hsg2:=Lib.hid hsg2;have hmd:=isDAt_digs l (A+1+k);rw[hm] at hmd;have hm1:=digs_le (l.drop (A+1+k));rw[hm,List.length_drop] at hm1;have Hm:=Lib.hid hm;have hcall0:=rfx_digit l (A+1+k) wc (by omega);rw[hmd] at hcall0;clear hE hk hsg2 hm hmd
         go_upto_region 17 with (fail)
         go_cut [82] (fun s wx=>s=.bool (decide (0<k))∧wx=wc)
         case first =>
          rcases Hsg2.out with⟨hge,h⟩ | ⟨b,hb,⟨hb1,h⟩ | ⟨hb1,h⟩ | ⟨hb1,hb2,h⟩⟩
          ·go_wp2_with fail
           go_meet
           exact⟨by rw[h];rfl,rfl⟩
          ·have hlt:A+1<l.length:=(List.getElem?_eq_some_iff.1 hb).1
           have hix:=str_at (P:=Tryz.prog) (T:=9) Tryz.underlying9 l .i64 (A+1) b hb;rw[hb1] at hix
           push_cast at hix
           go_wp2_with fail
           go_meet
           exact⟨by rw[h];rfl,rfl⟩
          ·have hlt:A+1<l.length:=(List.getElem?_eq_some_iff.1 hb).1
           have hix:=str_at (P:=Tryz.prog) (T:=9) Tryz.underlying9 l .i64 (A+1) b hb;rw[hb1] at hix
           push_cast at hix
           go_wp2_with fail
           go_meet
           exact⟨by rw[h];rfl,rfl⟩
          ·have hlt:A+1<l.length:=(List.getElem?_eq_some_iff.1 hb).1
           have hix:=str_at (P:=Tryz.prog) (T:=9) Tryz.underlying9 l .i64 (A+1) b hb
           push_cast at hix
           have hc1:((b.toNat:Int) == 43)=false:=byte_ne hb1;have hc2:((b.toNat:Int) == 45)=false:=byte_ne hb2
           go_wp2_with fail
           go_meet
           exact⟨by rw[h];simp[hc1,hc2],rfl⟩
         case rest =>
          obtain⟨rfl,rfl⟩:=hcut
          go_upto_if 82 with (fail)
          go_cut [5] (fun s wx=>s=.int .i64 ((A+1+k:Nat):Int)∧wx=wc)
          case first =>
           by_cases hk0:0<k
           ·go_wp2_with fail
            go_meet
            exact⟨by congr 1;omega,rfl⟩
           ·go_wp2_with fail
            go_meet
            exact⟨by congr 1;omega,rfl⟩
          case rest =>
           obtain⟨rfl,rfl⟩:=hcut
           by_cases hm0:0<m
           ·have hdm:decide (0<m)=true:=by simpa using hm0
            rw[hdm] at hcall0
            go_wp2_with fail
            refine hcall0.mono ?_
            rintro e w' ⟨rfl,rfl⟩
            go_wp2_with fail
            go_loop [5] (fun s=>∃ i:Nat,A<i∧i+digs (l.drop i)=A+1+k+m∧s=.int .i64 (i:Nat)) (fun s=>l.length-(intOf s).toNat)
            case atStart=>exact⟨A+1+k,by omega,by rw[Hm.out],rfl⟩
            case round =>
             obtain⟨i,hi1,hi2,rfl⟩:=hrel;have hcall:=rfx_digit l i wc (by omega);have hdi:=digs_le (l.drop i);rw[List.length_drop] at hdi
             cases hd:isDAt l i with
             | true =>
              rw[hd] at hcall;have hstep:=digs_drop_yes hd;have Hd:=Lib.hid hd;clear hd
              go_wp2_with fail
              refine hcall.mono ?_
              rintro e w' ⟨rfl,rfl⟩
              go_wp2
              exact⟨⟨i+1,by omega,by omega,rfl⟩,by simp[intOf];omega⟩
             | false =>
              rw[hd] at hcall;have hstep:=digs_drop_no hd;have Hd:=Lib.hid hd;clear hd
              go_wp2_with fail
              refine hcall.mono ?_
              rintro e w' ⟨rfl,rfl⟩
              go_wp2
              go_ret
              exact⟨ret_int (by rw[Hval.out,if_pos hm0];omega),rfl⟩
           ·have hdm:decide (0<m)=false:=by simpa using hm0
            rw[hdm] at hcall0
            go_wp2_with fail
            refine hcall0.mono ?_
            rintro e w' ⟨rfl,rfl⟩
            go_wp2
            go_ret
            exact⟨ret_int (by rw[Hval.out,if_neg hm0]),rfl⟩
end Go.Proofs.YtfhdihdafmahgaaGreatDoor
namespace Go.Proofs.YtfhdihdafmahgaaGreatDoor
open Go.RowKit Fx
namespace Fx
def dv (b:UInt8):Nat:=b.toNat-48
def val (l:List UInt8):Nat:=l.foldl (fun n b=>10 * n+dv b) 0
def vA (d:List UInt8):Nat→Nat
 | 0=>0
 | i+1=>10 * vA d i+((d[i]?).map dv).getD 0
def M:Nat:=1099511627776
def foldN (d:List UInt8) (p:Int):Nat:=min (vA d p.toNat) M
def powP (x:List UInt8):Int :=
 if x=[] then 0 else
 let n:Nat:=if x.length-sgn x≤6 then val (x.drop (sgn x)) else 999999
 if x[0]?=some 45 then -(n:Int) else (n:Int)
def intP (l:List UInt8):List UInt8:=(l.drop (sgn l)).take (digs (l.drop (sgn l)))
def fracP (l:List UInt8):List UInt8 :=
 let a:=sgn l+digs (l.drop (sgn l))
 if l[a]?=some 46∧0<digs (l.drop (a+1)) then (l.drop (a+1)).take (digs (l.drop (a+1))) else []
def expP (l:List UInt8):List UInt8:=if isE l[bodyLen l]?=true then l.drop (bodyLen l+1) else []
def isP (l:List UInt8):Bool:=decide (l≠[]∧lenP l=l.length)
def numP (l:List UInt8):Nat:=foldN (intP l++fracP l) ((intP l).length+powP (expP l)+3)
def parseP (l:List UInt8):Int:=if isP l=true then (if l[0]?=some 45 then -(numP l:Int) else (numP l:Int)) else 0
end Fx
theorem vA_succ (d:List UInt8) (i:Nat):vA d (i+1)=10 * vA d i+((d[i]?).map dv).getD 0:=rfl
theorem vA_mono (d:List UInt8) {i j:Nat} (h:i≤j):vA d i≤vA d j:=by
 obtain⟨k,rfl⟩:=Nat.exists_eq_add_of_le h;clear h
 induction k with
 | zero=>exact Nat.le_refl _
 | succ k ih=>rw[← Nat.add_assoc,vA_succ];omega
theorem vA_past (d:List UInt8) {i:Nat} (h:d.length≤i) (k:Nat):vA d (i+k)=10 ^ k * vA d i:=by
 induction k with
 | zero=>simp
 | succ k ih =>
  rw[← Nat.add_assoc,vA_succ,List.getElem?_eq_none (by omega),ih,Nat.pow_succ]
  simp;rw[Nat.mul_comm (10 ^ k) 10,Nat.mul_assoc]
theorem vA_step (d:List UInt8) (i:Nat):min (10 * min (vA d i) M+((d[i]?).map dv).getD 0) M=min (vA d (i+1)) M:=by
 rw[vA_succ];omega
theorem vA_full (d:List UInt8) {i j:Nat} (h:i≤j) (hm:M≤vA d i):min (vA d j) M=M:=by
 have:=vA_mono d h;omega
theorem vA_nought (d:List UInt8) {i j:Nat} (h:i≤j) (hd:d.length≤i) (hm:vA d i=0):vA d j=0:=by
 obtain⟨k,rfl⟩:=Nat.exists_eq_add_of_le h;rw[vA_past d hd,hm,Nat.mul_zero]
theorem vA_far (d:List UInt8) {i:Nat} (h:d.length+60≤i) (hm:vA d i≠0):M≤vA d i:=by
 obtain⟨k,rfl⟩:=Nat.exists_eq_add_of_le h;rw[Nat.add_assoc,vA_past d (Nat.le_refl _)] at hm ⊢;have h0:0<vA d d.length:=Nat.pos_of_ne_zero fun h=>hm (by rw[h,Nat.mul_zero])
 calc M≤10 ^ 60:=by decide
  _≤10 ^ (60+k):=Nat.pow_le_pow_right (by omega) (by omega)
  _≤10 ^ (60+k) * vA d d.length:=Nat.le_mul_of_pos_right _ h0
theorem vA_lead0 (z t:List UInt8) (hz:∀ b∈z,b=48):∀ j,j≤z.length→vA (z++t) j=0
 | 0,_=>rfl
 | j+1,h=>by
  have hj:(z++t)[j]?=some z[j]:=by rw[List.getElem?_append_left (by omega),List.getElem?_eq_getElem (by omega)]
  rw[vA_succ,vA_lead0 z t hz j (by omega),hj];have:=hz z[j] (List.getElem_mem _)
  simp[this,dv]
theorem vA_lead (z t:List UInt8) (hz:∀ b∈z,b=48):∀ j,vA (z++t) (z.length+j)=vA t j
 | 0=>by rw[Nat.add_zero,vA_lead0 z t hz _ (Nat.le_refl _)];rfl
 | j+1=>by
  rw[← Nat.add_assoc,vA_succ,vA_lead z t hz j,vA_succ,List.getElem?_append_right (by omega)]
  congr 4;omega
theorem vA_append_len (d t:List UInt8) (i:Nat) (h:i≤d.length):vA (d++t) i=vA d i:=by
 induction i with
 | zero=>rfl
 | succ i ih=>rw[vA_succ,vA_succ,ih (by omega),List.getElem?_append_left (by omega)]
theorem foldN_lead (z t:List UInt8) (hz:∀ b∈z,b=48) (p:Int):foldN (z++t) p=foldN t (p-z.length):=by
 unfold foldN
 by_cases h:p≤z.length
 ·have h1:(p-z.length).toNat=0:=by omega
  rw[h1,vA_lead0 z t hz _ (by omega)];rfl
 ·have h1:p.toNat=z.length+(p-z.length).toNat:=by omega
  rw[h1,vA_lead z t hz]
theorem trim_split (l:List UInt8):∃ z,l=z++l.dropWhile (· == 48)∧(∀ b∈z,b=48):=by
 refine⟨l.takeWhile (· == 48),(List.takeWhile_append_dropWhile).symm,?_⟩
 intro b hb;have:=List.all_takeWhile (p:=fun b:UInt8=>b == 48) (l:=l);rw[List.all_eq_true] at this
 simpa using this b hb
theorem foldN_trim (l:List UInt8) (p:Int):foldN l p=foldN (l.dropWhile (· == 48)) (p-(l.length-(l.dropWhile (· == 48)).length:Nat)):=by
 obtain⟨z,h1,h2⟩:=trim_split l
 have hl:l.length-(l.dropWhile (· == 48)).length=z.length:=by
  have:=congrArg List.length h1;rw[List.length_append] at this;omega
 conv=>lhs;rw[h1]
 rw[foldN_lead z _ h2,hl]
theorem val_snoc (l:List UInt8) (b:UInt8):val (l++[b])=10 * val l+dv b:=by simp[val]
theorem val_vA (l:List UInt8):∀ i,i≤l.length→vA l i=val (l.take i)
 | 0,_=>by simp[vA,val]
 | i+1,h=>by
  rw[vA_succ,val_vA l i (by omega),List.take_add_one,List.getElem?_eq_getElem (by omega)];simp only[Option.map_some,Option.getD_some,Option.toList_some,val_snoc]
end Go.Proofs.YtfhdihdafmahgaaGreatDoor
namespace Go.Proofs.YtfhdihdafmahgaaGreatDoor
open Go.RowKit Rn
namespace Tk
def pk (r:List Int) (n:Nat):Int:=r[n]?.getD (-1)
def esc (r:List Int):Bool:=decide (pk r 0=92∧0≤pk r 1∧pk r 1≠10)
def may (r:List Int):Bool:=beginsB (pk r 0) || esc r
def beg (r:List Int):Bool:=may r || (decide (pk r 0=45) && (may r.tail || decide (pk r 1=45)))
def hexes:Nat→Nat→List Int→Nat×List Int
 | 0,n,r=>(n,r)
 | f+1,n,r=>if 0≤hexI (pk r 0) then hexes f (16 * n+(hexI (pk r 0)).toNat) r.tail else (n,r)
def numC' (n:Nat):Int:=if n=0∨isB n=false then 65533 else n
def meantT (r:List Int):Int×List Int :=
 if hexI (pk r 0)<0 then (pk r 0,r.tail) else
 let h:=hexes 6 0 r
 (numC' h.1,if whiteB (pk h.2 0)=true then h.2.tail else h.2)
end Tk
open Tk
theorem pk_nil (n:Nat):pk [] n=-1:=by simp[pk]
theorem pk_cons0 (c:Int) (r:List Int):pk (c::r) 0=c:=rfl
theorem pk_cons (c:Int) (r:List Int) (n:Nat):pk (c::r) (n+1)=pk r n:=by simp[pk]
theorem pk_tail (r:List Int) (n:Nat):pk r.tail n=pk r (n+1):=by cases r<;>simp[pk]
theorem pk_drop (l:List Int) (k n:Nat):pk (l.drop k) n=pk l (k+n):=by simp[pk,List.getElem?_drop]
theorem hexes_len (f:Nat):∀ n r,(hexes f n r).2.length≤r.length:=by
 induction f with
 | zero=>intro n r;simp[hexes]
 | succ f ih =>
  intro n r;unfold hexes
  split
  ·have:=ih (16 * n+(hexI (pk r 0)).toNat) r.tail
   rw[List.length_tail] at this;omega
  ·exact Nat.le_refl _
theorem meant_len (r:List Int):(meantT r).2.length≤r.length:=by
 unfold meantT
 split
 ·simp
 ·have:=hexes_len 6 0 r
  simp only[]
  split
  ·rw[List.length_tail];omega
  ·exact this
theorem esc_ne {r:List Int} (h:esc r=true):r≠[]:=by rintro rfl;simp[esc,pk] at h
theorem within_ne {r:List Int} (h:withinB (pk r 0)=true):r≠[]:=by rintro rfl;rw[pk_nil] at h;revert h;decide
theorem white_ne {r:List Int} (h:whiteB (pk r 0)=true):r≠[]:=by rintro rfl;rw[pk_nil] at h;revert h;decide
theorem tail_lt {r:List Int} (h:r≠[]):r.tail.length<r.length:=by
 have:=List.length_pos_iff.2 h;rw[List.length_tail];omega
theorem meant_lt {r:List Int} (h:r≠[]):(meantT r.tail).2.length<r.length:=Nat.lt_of_le_of_lt (meant_len _) (tail_lt h)
namespace Tk
def nameT (r:List Int):List Int×List Int :=
 if h:esc r=true then ((meantT r.tail).1::(nameT (meantT r.tail).2).1,(nameT (meantT r.tail).2).2)
 else if h2:withinB (pk r 0)=true then (pk r 0::(nameT r.tail).1,(nameT r.tail).2)
 else ([],r)
termination_by r.length
decreasing_by
 ·exact meant_lt (esc_ne h)
 ·exact tail_lt (within_ne h2)
def skipC:List Int→List Int
 | []=>[]
 | c::r=>if c=42∧pk r 0=47 then r.tail else skipC r
end Tk
theorem skipC_len (r:List Int):(skipC r).length≤r.length:=by
 induction r with
 | nil=>simp[skipC]
 | cons c r ih =>
  unfold skipC
  split
  ·rw[List.length_tail,List.length_cons];omega
  ·rw[List.length_cons];omega
theorem name_len (r:List Int):(nameT r).2.length≤r.length:=by
 fun_induction nameT r with
 | case1 r h ih=>exact Nat.le_trans ih (Nat.le_of_lt (meant_lt (esc_ne h)))
 | case2 r h h2 ih=>exact Nat.le_trans ih (Nat.le_of_lt (tail_lt (within_ne h2)))
 | case3 r=>exact Nat.le_refl _
namespace Tk
def spacesT (r:List Int):Bool×List Int :=
 if h:whiteB (pk r 0)=true then (true,(spacesT r.tail).2)
 else if h2:pk r 0=47∧pk r 1=42 then spacesT (skipC r.tail.tail)
 else (false,r)
termination_by r.length
decreasing_by
 ·exact tail_lt (white_ne h)
 ·have hne:r≠[]:=by rintro rfl;rw[pk_nil] at h2;omega
  refine Nat.lt_of_le_of_lt (skipC_len _) ?_
  have:=List.length_pos_iff.2 hne;rw[List.length_tail,List.length_tail];omega
def quoteT (e:Int) (r:List Int):List Int×Bool×List Int :=
 match h0:r with
 | []=>([],false,[])
 | c::t =>
  if c=10 then ([],true,c::t)
  else if c=e then ([],false,t)
  else if esc (c::t)=true then ((meantT t).1::(quoteT e (meantT t).2).1,(quoteT e (meantT t).2).2)
  else if c=92 then quoteT e t.tail
  else (c::(quoteT e t).1,(quoteT e t).2)
termination_by r.length
decreasing_by
 ·have:=meant_len t;simp only[List.length_cons];omega
 ·simp only[List.length_cons,List.length_tail];omega
 ·simp
def numB (c:Int):Bool:=decide ((48≤c∧c≤57)∨c=43∨c=45∨c=46∨c=101∨c=69)
def byteOf (c:Int):UInt8:=UInt8.ofNat c.toNat
def numText (r:List Int):List UInt8:=(r.takeWhile numB).map byteOf
structure Tok where
 kind:Nat
 text:List UInt8
 n:Int
deriving DecidableEq
def numberT (r:List Int):Option (Tok×List Int) :=
 let x:=numText r
 let n:=Fx.lenP x
 if n=0 then none else
 let v:=Fx.parseP (x.take n)
 let s:=r.drop n
 if beg s=true then some (⟨10,writeP (nameT s).1,v⟩,(nameT s).2)
 else if pk s 0=37 then some (⟨9,[],v⟩,s.tail)
 else some (⟨8,[],v⟩,s)
def signK (c:Int):Nat :=
 if c=40∨c=91∨c=123 then 12 else if c=41∨c=93∨c=125 then 13 else if c=58 then 14 else if c=59 then 15 else if c=44 then 16 else 11
def signT (c:Int):Tok:=⟨signK c,if signK c=11∨signK c=12∨signK c=13 then writeP [c] else [],0⟩
def nextT (r:List Int):Tok×List Int :=
 let c:=pk r 0
 if c=34∨c=39 then (⟨if (quoteT c r.tail).2.1=true then 7 else 6,writeP (quoteT c r.tail).1,0⟩,(quoteT c r.tail).2.2)
 else if c=35∧(withinB (pk r 1) || esc r.tail)=true then (⟨5,writeP (nameT r.tail).1,0⟩,(nameT r.tail).2)
 else match numberT r with
  | some x=>x
  | none =>
   if c=64∧beg r.tail=true then (⟨4,writeP (nameT r.tail).1,0⟩,(nameT r.tail).2)
   else if beg r=true then
    if pk (nameT r).2 0=40 then (⟨3,writeP (nameT r).1,0⟩,(nameT r).2.tail) else (⟨2,writeP (nameT r).1,0⟩,(nameT r).2)
   else (signT c,r.tail)
end Tk
theorem spaces_len (r:List Int):(spacesT r).2.length≤r.length:=by
 fun_induction spacesT r with
 | case1 r h ih=>exact Nat.le_trans ih (Nat.le_of_lt (tail_lt (white_ne h)))
 | case2 r h h2 ih =>
  refine Nat.le_trans ih (Nat.le_trans (skipC_len _) ?_)
  rw[List.length_tail,List.length_tail];omega
 | case3 r=>exact Nat.le_refl _
theorem quoted_len (e:Int) (r:List Int):(quoteT e r).2.2.length≤r.length:=by
 fun_induction quoteT e r with
 | case1=>simp
 | case2=>simp
 | case3 t h=>simp
 | case4 c t h h2 h3 ih=>have:=meant_len t;simp only[List.length_cons];omega
 | case5 t h h2 h3 ih=>simp only[List.length_cons,List.length_tail] at *;omega
 | case6 c t h h2 h3 h4 ih=>simp only[List.length_cons];omega
theorem name_some {r:List Int} (h:esc r=true∨withinB (pk r 0)=true):(nameT r).2.length<r.length∧(nameT r).1≠[]:=by
 rw[nameT]
 split
 ·rename_i h1
  refine⟨Nat.lt_of_le_of_lt (name_len _) (meant_lt (esc_ne h1)),by simp⟩
 ·rename_i h1
  have h2:=h.resolve_left h1;rw[dif_pos h2]
  exact⟨Nat.lt_of_le_of_lt (name_len _) (tail_lt (within_ne h2)),by simp⟩
theorem begins_within {c:Int} (h:beginsB c=true):withinB c=true:=by unfold withinB;rw[h];rfl
theorem beg_first {r:List Int} (h:beg r=true):esc r=true∨withinB (pk r 0)=true:=by
 unfold beg may at h
 rcases hb:beginsB (pk r 0) with _ | _
 ·rcases he:esc r with _ | _
  ·rw[hb,he] at h
   simp at h
   right
   rw[h.1];decide
  ·exact .inl rfl
 ·exact .inr (begins_within hb)
theorem next_lt {r:List Int} (h:r≠[]):(nextT r).2.length<r.length:=by
 have ht:=tail_lt h;unfold nextT;simp only[]
 split
 ·exact Nat.lt_of_le_of_lt (quoted_len _ _) ht
 ·split
  ·exact Nat.lt_of_le_of_lt (name_len _) ht
  ·split
   ·rename_i x hx
    unfold numberT at hx;simp only[] at hx
    split at hx
    ·cases hx
    ·rename_i hn
     have hd:(r.drop (Fx.lenP (numText r))).length<r.length:=by
      have:=List.length_pos_iff.2 h;rw[List.length_drop];omega
     split at hx
     ·cases hx
      exact Nat.lt_of_le_of_lt (name_len _) hd
     ·split at hx
      ·cases hx
       simp only[List.length_tail] at *;omega
      ·cases hx;exact hd
   ·split
    ·exact Nat.lt_of_le_of_lt (name_len _) ht
    ·split
     ·rename_i hb
      have:=(name_some (beg_first hb)).1
      split
      ·simp only[List.length_tail];omega
      ·exact this
     ·exact ht
namespace Tk
def scanT (r:List Int):List Tok :=
 if h:(spacesT r).2=[] then (if (spacesT r).1=true then [⟨1,[],0⟩] else [])
 else (if (spacesT r).1=true then [⟨1,[],0⟩] else [])++(nextT (spacesT r).2).1::scanT (nextT (spacesT r).2).2
termination_by r.length
decreasing_by exact Nat.lt_of_lt_of_le (next_lt h) (spaces_len r)
end Tk
end Go.Proofs.YtfhdihdafmahgaaGreatDoor
namespace Go.Proofs.YtfhdihdafmahgaaGreatDoor
open Go.RowKit Fx
theorem digs_all (l:List UInt8):∀ b∈l.take (digs l),isD b=true:=by
 have h:l.take (digs l)=l.takeWhile isD:=by
  unfold digs
  exact(List.prefix_iff_eq_take.1 (List.takeWhile_prefix isD)).symm
 rw[h];have:=List.all_takeWhile (p:=isD) (l:=l)
 rwa[List.all_eq_true] at this
theorem isD_range {b:UInt8} (h:isD b=true):48≤b.toNat∧b.toNat≤57:=by simpa [isD] using h
structure Dec (l:List UInt8) (sg:List UInt8) (I:List UInt8) (P:List UInt8) (F:List UInt8) (E:List UInt8) (S2:List UInt8) (X:List UInt8):Prop where
 all:l=sg++(I++(P++F))++(E++(S2++X))
 hsg:sg=[]∨∃ b,sg=[b]∧(b.toNat=43∨b.toNat=45)
 hI:∀ b∈I,isD b=true
 hF:∀ b∈F,isD b=true
 hP:(P=[]∧F=[])∨(P=[46]∧F≠[])
 hE:(E=[]∧S2=[]∧X=[])∨(∃ e,E=[e]∧(e.toNat=101∨e.toNat=69)∧X≠[])
 hS:S2=[]∨∃ b,S2=[b]∧(b.toNat=43∨b.toNat=45)
 hX:∀ b∈X,isD b=true
 lsg:sg=l.take (sgn l)
 lI:I=intP l
 lF:F=fracP l
 lA:bodyLen l=sg.length+I.length+P.length+F.length
 lE:S2++X=expP l
 lS2:S2=(expP l).take (sgn (expP l))
 lX:X=(expP l).drop (sgn (expP l))
 some:I≠[]∨F≠[]
theorem sgn_shape (l:List UInt8):l.take (sgn l)=[]∨∃ b,l.take (sgn l)=[b]∧(b.toNat=43∨b.toNat=45):=by
 cases l with
 | nil=>exact .inl rfl
 | cons b l =>
  unfold sgn;simp only[]
  split
  ·rename_i h;exact .inr ⟨b,rfl,h⟩
  ·exact .inl rfl
theorem take_full {α:Type} {l:List α} {n:Nat} (h:l.length=n):l.take n=l:=by subst h;exact List.take_length
theorem dec_of_isP {l:List UInt8} (h:isP l=true):∃ sg I P F E S2 X,Dec l sg I P F E S2 X:=by
 have h':=of_decide_eq_true h;obtain⟨hne,hlen⟩:=h';have hpos:0<l.length:=List.length_pos_iff.2 hne
 have hsome:some_ l=true:=by
  cases hs:some_ l with
  | true=>rfl
  | false=>rw[lenP_none hs] at hlen;omega
 obtain⟨A,hA⟩:∃ A,bodyLen l=A:=⟨_,rfl⟩;have hAl:=bodyLen_le l;have ht:=lenP_tail hsome hA;have hk0:=sgn_le l;have hn0:=digs_le (l.drop (sgn l));rw[List.length_drop] at hn0
 have hIlen:(intP l).length=digs (l.drop (sgn l)):=by
  unfold intP;rw[List.length_take,List.length_drop];omega
 have hbody:∃ P,l.take A=l.take (sgn l)++(intP l++(P++fracP l))∧((P=[]∧fracP l=[])∨(P=[46]∧fracP l≠[]))∧A=(l.take (sgn l)).length+(intP l).length+P.length+(fracP l).length:=by
  have e1:l.take (sgn l+digs (l.drop (sgn l)))=l.take (sgn l)++intP l:=by
   rw[List.take_add];rfl
  by_cases hd:l[sgn l+digs (l.drop (sgn l))]?=Option.some 46∧0<digs (l.drop (sgn l+digs (l.drop (sgn l))+1))
  ·have hF:fracP l=(l.drop (sgn l+digs (l.drop (sgn l))+1)).take (digs (l.drop (sgn l+digs (l.drop (sgn l))+1))):=by
    unfold fracP;simp only[];rw[if_pos hd]
   have hFl:(fracP l).length=digs (l.drop (sgn l+digs (l.drop (sgn l))+1)):=by
    have:=digs_le (l.drop (sgn l+digs (l.drop (sgn l))+1));rw[hF,List.length_take];omega
   have hA2:A=sgn l+digs (l.drop (sgn l))+1+digs (l.drop (sgn l+digs (l.drop (sgn l))+1)):=by
    rw[← hA];unfold bodyLen;simp only[];rw[if_pos hd]
   refine⟨[46],?_,.inr ⟨rfl,?_⟩,?_⟩
   ·rw[hA2,List.take_add,← hF,take_snoc _ _ _ hd.1,e1]
    simp
   ·intro h0;rw[h0] at hFl;simp at hFl;omega
   ·rw[hFl,hIlen,List.length_take];simp;omega
  ·have hF:fracP l=[]:=by unfold fracP;simp only[];rw[if_neg hd]
   have hA2:A=sgn l+digs (l.drop (sgn l)):=by
    rw[← hA];unfold bodyLen;simp only[];rw[if_neg hd]
   refine⟨[],?_,.inl ⟨rfl,hF⟩,?_⟩
   ·rw[hA2,e1,hF];simp
   ·rw[hF,hIlen,List.length_take];simp;omega
 obtain⟨P,hb1,hb2,hb3⟩:=hbody;have hsplit:l=l.take A++l.drop A:=(List.take_append_drop A l).symm;have hItail:∀ b∈intP l,isD b=true:=by unfold intP;exact digs_all _
 have hFtail:∀ b∈fracP l,isD b=true:=by
  unfold fracP;simp only[]
  split
  ·exact digs_all _
  ·simp
 have hsm:intP l≠[]∨fracP l≠[]:=by
  by_cases hd:0<digs (l.drop (sgn l))
  ·left;intro h0;rw[h0] at hIlen;simp at hIlen;omega
  ·right
   unfold some_ at hsome;have hd2:=of_decide_eq_true hsome;have hd3:=hd2.resolve_left hd;intro h0
   have hF:fracP l=(l.drop (sgn l+digs (l.drop (sgn l))+1)).take (digs (l.drop (sgn l+digs (l.drop (sgn l))+1))):=by
    unfold fracP;simp only[];rw[if_pos hd3]
   have hFl:(fracP l).length=digs (l.drop (sgn l+digs (l.drop (sgn l))+1)):=by
    have:=digs_le (l.drop (sgn l+digs (l.drop (sgn l))+1));rw[hF,List.length_take];omega
   rw[h0] at hFl;simp at hFl;omega
 rcases isE_cases l A with⟨hge,hE⟩ | ⟨e,he,hE3⟩
 ·have hX:expP l=[]:=by unfold expP;rw[hA,hE];rfl
  refine⟨l.take (sgn l),intP l,P,fracP l,[],[],[],?_⟩
  exact { all:=by rw[← hb1,take_full (by omega)];simp,hsg:=sgn_shape l,hI:=hItail,hF:=hFtail,hP:=hb2,hE:=.inl ⟨rfl,rfl,rfl⟩,hS:=.inl rfl,hX:=by simp,lsg:=rfl,lI:=rfl,lF:=rfl,lA:=by rw[hA,hb3],lE:=by rw[hX];rfl,lS2:=by rw[hX];rfl,lX:=by rw[hX];rfl,some:=hsm }
 ·have hlt:A<l.length:=(List.getElem?_eq_some_iff.1 he).1
  have hEt:isE l[A]?=true∧(e.toNat=101∨e.toNat=69):=by
   rcases hE3 with⟨h1,h2⟩ | ⟨h1,h2⟩ | ⟨h1,h2,h3⟩
   ·exact⟨h2,.inl h1⟩
   ·exact⟨h2,.inr h1⟩
   ·have:=ht.1 h3;omega
  have hL:=ht.2 hEt.1 _ _ rfl rfl
  have hm2:0<digs (l.drop (A+1+sgn (l.drop (A+1)))):=by
   by_cases hm:0<digs (l.drop (A+1+sgn (l.drop (A+1))))
   ·exact hm
   ·rw[if_neg hm] at hL;omega
  rw[if_pos hm2] at hL;have hX:expP l=l.drop (A+1):=by unfold expP;rw[hA,if_pos hEt.1]
  have hXd:(expP l).drop (sgn (expP l))=l.drop (A+1+sgn (l.drop (A+1))):=by rw[hX,List.drop_drop]
  refine⟨l.take (sgn l),intP l,P,fracP l,[e],(expP l).take (sgn (expP l)),(expP l).drop (sgn (expP l)),?_⟩
  have hda:l.drop A=[e]++((expP l).take (sgn (expP l))++(expP l).drop (sgn (expP l))):=by
   rw[List.take_append_drop,hX];obtain⟨hi,rfl⟩:=List.getElem?_eq_some_iff.1 he
   exact List.drop_eq_getElem_cons hi
  have hXlen:(l.drop (A+1+sgn (l.drop (A+1)))).length=digs (l.drop (A+1+sgn (l.drop (A+1)))):=by
   rw[List.length_drop];omega
  have hXall:∀ b∈(expP l).drop (sgn (expP l)),isD b=true:=by
   rw[hXd];have:=digs_all (l.drop (A+1+sgn (l.drop (A+1))))
   rwa[take_full hXlen] at this
  exact { all:=by rw[← hb1,← hda];exact hsplit,hsg:=sgn_shape l,hI:=hItail,hF:=hFtail,hP:=hb2,hE:=.inr ⟨e,rfl,hEt.2,by rw[hXd];intro h0;have h1:=congrArg List.length h0;rw[hXlen,List.length_nil] at h1;omega⟩,hS:=sgn_shape _,hX:=hXall,lsg:=rfl,lI:=rfl,lF:=rfl,lA:=by rw[hA,hb3],lE:=List.take_append_drop _ _,lS2:=rfl,lX:=rfl,some:=hsm }
theorem fx_length (l:List UInt8) (w:World) (hl:l.length≤9223372036854775806) :
  Calls Tryz.prog 127 #[.string (bytesOf l)] w fun e w'=>e=.returned (.int .i64 (lenP l:Nat))∧Below w.heap.size w w':=by
 have hs:=bytesOf_size l;obtain⟨a0,h0⟩:∃ a0,sgn l=a0:=⟨_,rfl⟩;obtain⟨n0,hn⟩:∃ n0,digs (l.drop a0)=n0:=⟨_,rfl⟩;obtain⟨m,hm⟩:∃ m,digs (l.drop (a0+n0+1))=m:=⟨_,rfl⟩;have ha0:=sgn_le l;have hn0:=digs_le (l.drop a0);rw[h0] at ha0;rw[hn,List.length_drop] at hn0;obtain⟨A,hA⟩:∃ A,bodyLen l=A:=⟨_,rfl⟩;have hAl:=bodyLen_le l;rw[hA] at hAl;have HA:=Lib.hid hA;have hBody:bodyLen l=if l[a0+n0]?=some 46∧0<m then a0+n0+1+m else a0+n0:=by simp only[bodyLen,h0,hn,hm]
 have hSome:some_ l=decide (0<n0∨(l[a0+n0]?=some 46∧0<m)):=by simp only[some_,h0,hn,hm]
 rw[hA] at hBody;have HBody:=Lib.hid hBody;have HSome:=Lib.hid hSome;have Hdot:=Lib.hid (dot_cases l (a0+n0));have hf0:=str_from (P:=Tryz.prog) (T:=9) Tryz.underlying9 l .i64 a0 (by omega);have H0:=Lib.hid h0;have Hn:=Lib.hid hn;have Hm:=Lib.hid hm;clear hA hBody hSome h0 hn hm;obtain⟨D,hD⟩:∃ D,decide (l[a0+n0]?=some 46)=D:=⟨_,rfl⟩;have HD:=Lib.hid hD;clear hD
 go_enter Tryz.func127,Tryz.ntmps127
 go_wp2_with fail
 refine(fx_sign l w (by omega)).mono ?_
 rintro e w1 ⟨rfl,rfl⟩;rw[H0.out]
 go_wp2_with fail
 refine(fx_digits (l.drop a0) w (by rw[List.length_drop];omega)).mono ?_
 rintro e w1 ⟨rfl,hb1⟩;rw[Hn.out]
 go_upto_region 4 with (fail)
 go_cut [26] (fun s wx=>s=.bool D∧wx=w1)
 case first =>
  rcases Hdot.out with⟨hge,h⟩ | ⟨b,hb,⟨hb1,h⟩ | ⟨hb1,h⟩⟩
  ·go_wp2_with fail
   go_meet
   exact⟨by rw[← HD.out];simp[h],rfl⟩
  ·have hlt:a0+n0<l.length:=(List.getElem?_eq_some_iff.1 hb).1
   have hix:=str_at (P:=Tryz.prog) (T:=9) Tryz.underlying9 l .i64 (a0+n0) b hb;rw[hb1] at hix
   push_cast at hix
   go_wp2_with fail
   go_meet
   exact⟨by rw[← HD.out];simp[h],rfl⟩
  ·have hlt:a0+n0<l.length:=(List.getElem?_eq_some_iff.1 hb).1
   have hix:=str_at (P:=Tryz.prog) (T:=9) Tryz.underlying9 l .i64 (a0+n0) b hb
   push_cast at hix
   have hc1:((b.toNat:Int) == 46)=false:=byte_ne hb1
   go_wp2_with fail
   go_meet
   exact⟨by rw[← HD.out];simp[h,hc1],rfl⟩
 case rest =>
  obtain⟨rfl,rfl⟩:=hcut
  go_upto_if 26 with (fail)
  go_cut [3,4] (fun s t wx=>s=.int .i64 (A:Nat)∧(∃ N:Nat,t=.int .i64 (N:Nat)∧some_ l=decide (0<N)∧N≤l.length)∧Below w.heap.size w wx)
  case first =>
   cases D with
   | true =>
    have hdot:=of_decide_eq_true HD.out;have hal:=(List.getElem?_eq_some_iff.1 hdot).1;have hf1:=str_from (P:=Tryz.prog) (T:=9) Tryz.underlying9 l .i64 (a0+n0+1) (by omega)
    push_cast at hf1
    have hm1:=digs_le (l.drop (a0+n0+1));rw[Hm.out,List.length_drop] at hm1;have Hdt:=Lib.hid hdot;clear hdot
    by_cases hm0:0<m
    ·have hdm:decide (0<(m:Int))=true:=by simpa using hm0
     go_wp2_with fail
     refine(fx_digits (l.drop (a0+n0+1)) _ (by rw[List.length_drop];omega)).mono ?_
     rintro e w2 ⟨rfl,hb2⟩;rw[Hm.out]
     go_wp2_with fail
     go_meet
     refine⟨?_,⟨n0+m,by congr 1,?_,by omega⟩,hb1.trans (hb2.mono hb1.size)⟩
     ·congr 1
      rw[HBody.out,if_pos ⟨Hdt.out,hm0⟩];omega
     ·rw[HSome.out,decide_eq_decide]
      constructor
      ·intro _;omega
      ·intro _;exact .inr ⟨Hdt.out,hm0⟩
    ·have hdm:decide (0<(m:Int))=false:=by simpa using hm0
     go_wp2_with fail
     refine(fx_digits (l.drop (a0+n0+1)) _ (by rw[List.length_drop];omega)).mono ?_
     rintro e w2 ⟨rfl,hb2⟩;rw[Hm.out]
     go_wp2_with fail
     go_meet
     refine⟨?_,⟨n0,rfl,?_,by omega⟩,hb1.trans (hb2.mono hb1.size)⟩
     ·congr 1
      rw[HBody.out,if_neg (by omega)];omega
     ·rw[HSome.out,decide_eq_decide];omega
   | false =>
    have hdot:=of_decide_eq_false HD.out;have hN:some_ l=decide (0<n0):=by rw[HSome.out];simp only[hdot,false_and,or_false]
    have hAv:A=a0+n0:=by rw[HBody.out,if_neg (by simp only[hdot,false_and,not_false_eq_true])]
    have HN:=Lib.hid hN;clear hN hdot
    go_wp2_with fail
    go_meet
    exact⟨by congr 1;omega,⟨n0,rfl,HN.out,by omega⟩,hb1⟩
  case rest =>
   obtain⟨rfl,⟨N,rfl,hS,hNl⟩,hb2⟩:=hcut
   cases hS1:some_ l with
   | false =>
    obtain rfl:N=0:=by rw[hS1] at hS;have:=of_decide_eq_false hS.symm;omega
    have Hval:=Lib.hid (lenP_none hS1);clear hS1 hS
    go_wp2
    go_ret
    exact⟨ret_int (by rw[Hval.out];rfl),hb2⟩
   | true =>
    have hN0:0<N:=by rw[hS1] at hS;exact of_decide_eq_true hS.symm
    have htail:=Lib.hid (lenP_tail hS1 HA.out);have hz:((N:Int) == 0)=false:=by simp;omega
    clear hS1 hS
    go_upto_region 11 with (fail)
    go_cut [58] (fun s wx=>s=.bool (isE l[A]?)∧wx=wc)
    case first =>
     rcases isE_cases l A with⟨hge,h⟩ | ⟨b,hb,⟨hb1,h⟩ | ⟨hb1,h⟩ | ⟨hb1,hb2,h⟩⟩
     ·go_wp2_with fail
      go_meet
      exact⟨by rw[h],rfl⟩
     ·have hlt:A<l.length:=(List.getElem?_eq_some_iff.1 hb).1
      have hix:=str_at (P:=Tryz.prog) (T:=9) Tryz.underlying9 l .i64 A b hb;rw[hb1] at hix
      go_wp2_with fail
      go_meet
      exact⟨by rw[h],rfl⟩
     ·have hlt:A<l.length:=(List.getElem?_eq_some_iff.1 hb).1
      have hix:=str_at (P:=Tryz.prog) (T:=9) Tryz.underlying9 l .i64 A b hb;rw[hb1] at hix
      go_wp2_with fail
      go_meet
      exact⟨by rw[h],rfl⟩
     ·have hlt:A<l.length:=(List.getElem?_eq_some_iff.1 hb).1
      have hix:=str_at (P:=Tryz.prog) (T:=9) Tryz.underlying9 l .i64 A b hb;have hc1:((b.toNat:Int) == 101)=false:=byte_ne hb1;have hc2:((b.toNat:Int) == 69)=false:=byte_ne hb2
      go_wp2_with fail
      go_meet
      exact⟨by first | rw[h];done | (rw[h];simp[hc1,hc2]),rfl⟩
    case rest =>
     obtain⟨rfl,rfl⟩:=hcut
     cases hE:isE l[A]? with
     | false =>
      have Hval:=Lib.hid (htail.out.1 hE);clear hE
      go_wp2
      go_ret
      exact⟨ret_int (by rw[Hval.out]),hb2⟩
     | true =>
      have hAlt:A<l.length:=by
       rcases isE_cases l A with⟨hge,h⟩ | ⟨b,hb,_⟩
       ·rw[hE] at h;cases h
       ·exact(List.getElem?_eq_some_iff.1 hb).1
      obtain⟨k,hk⟩:∃ k,sgn (l.drop (A+1))=k:=⟨_,rfl⟩;have hk1:=sgn_le (l.drop (A+1));rw[hk,List.length_drop] at hk1;obtain⟨m2,hm2⟩:∃ m,digs (l.drop (A+1+k))=m:=⟨_,rfl⟩;have Hval:=Lib.hid (htail.out.2 hE k m2 hk hm2);have hm1:=digs_le (l.drop (A+1+k));rw[hm2,List.length_drop] at hm1;have hf2:=str_from (P:=Tryz.prog) (T:=9) Tryz.underlying9 l .i64 (A+1) (by omega);have hf3:=str_from (P:=Tryz.prog) (T:=9) Tryz.underlying9 l .i64 (A+1+k) (by omega)
      push_cast at hf2 hf3
      have Hk:=Lib.hid hk;have Hm2:=Lib.hid hm2;clear hE hk hm2
      by_cases hm0:0<m2
      ·have hdm:decide (0<(m2:Int))=true:=by simpa using hm0
       go_wp2_with fail
       refine(fx_sign (l.drop (A+1)) _ (by rw[List.length_drop];omega)).mono ?_
       rintro e w3 ⟨rfl,rfl⟩;rw[Hk.out]
       go_wp2_with fail
       refine(fx_digits (l.drop (A+1+k)) _ (by rw[List.length_drop];omega)).mono ?_
       rintro e w4 ⟨rfl,hb4⟩;rw[Hm2.out]
       go_wp2
       go_ret
       exact⟨ret_int (by rw[Hval.out,if_pos hm0]<;>omega),hb2.trans (hb4.mono hb2.size)⟩
      ·have hdm:decide (0<(m2:Int))=false:=by simpa using hm0
       go_wp2_with fail
       refine(fx_sign (l.drop (A+1)) _ (by rw[List.length_drop];omega)).mono ?_
       rintro e w3 ⟨rfl,rfl⟩;rw[Hk.out]
       go_wp2_with fail
       refine(fx_digits (l.drop (A+1+k)) _ (by rw[List.length_drop];omega)).mono ?_
       rintro e w4 ⟨rfl,hb4⟩;rw[Hm2.out]
       go_wp2
       go_ret
       exact⟨ret_int (by rw[Hval.out,if_neg hm0]<;>omega),hb2.trans (hb4.mono hb2.size)⟩
end Go.Proofs.YtfhdihdafmahgaaGreatDoor
namespace Go.Proofs.YtfhdihdafmahgaaGreatDoor
open Go.RowKit Rn
namespace Rn
def low8 (b:UInt8):UInt8:=if 65≤b.toNat∧b.toNat≤90 then b+32 else b
def lowerP (bs:List UInt8):List UInt8:=bs.map low8
end Rn
theorem conv_bytes {P:Program} {src dst e:TypeId} (hs:P.underlying src=some .string) (hd:P.underlying dst=some (.slice e)) (he:P.underlying e=some (.int .u8)) (w:World) (s:ByteArray) :
  ∃ c W1,(convert src dst (.string s)).run P w=.ok (.slice (some ⟨w.heap.size,0,none⟩) s.size c) W1∧s.size≤c∧Below w.heap.size w W1∧RowAt W1 w.heap.size (s.data.toList.map b8):=by
 refine⟨_,_,run_bytes_of_string w src dst e s hs hd he,grownCap_ge _ _ _ _,((Below.refl _ _).drew).alloc (Nat.le_refl _) _,by simp,fun j u hu=>?_⟩
 have hj:j<s.data.toList.length:=by
  have:=(List.getElem?_eq_some_iff.1 hu).1
  simpa using this
 have hu':u=b8 s.data.toList[j]:=by
  rw[List.getElem?_map,List.getElem?_eq_getElem hj] at hu
  simpa using hu.symm
 subst hu';have hj2:j<s.data.size:=by simpa using hj
 have hj3:j<s.size:=hj2
 refine⟨?_,?_⟩
 ·simp only[World.cell?,World.drew,World.alloc]
  simp[bytesRow,Array.getElem?_append,b8]
  rw[if_pos hj3,Array.getElem?_eq_getElem hj2]
  rfl
 ·simp only[World.frozen?,World.drew,World.alloc]
  simp[bytesRow]
  omega
def LowRel (s:List UInt8) (g B:Nat) (w:World) (i:Value) (wr:World):Prop:=∃ k:Nat,k≤s.length∧i=.int .i64 k∧RowAt wr g ((lowerP (s.take k)++s.drop k).map b8)∧Below B w wr
theorem rn_lower (s:ByteArray) (w:World) (hs:s.size≤1000000) :
  Calls Tryz.prog 28 #[.string s] w fun e w'=>e=.returned (.string (bytesOf (lowerP s.data.toList)))∧Below w.heap.size w w':=by
 obtain⟨c,W1,hconv,hc,hb1,hrow⟩:=conv_bytes (P:=Tryz.prog) Tryz.underlying9 Tryz.underlying22 Tryz.underlying5 w s;have hlen:s.data.toList.length=s.size:=Array.length_toList;have Hlen:=Lib.hid hlen;have Hrow:=Lib.hid hrow;clear hlen hrow
 go_enter Tryz.func28,Tryz.ntmps28
 go_wp2
 clear hconv
 go_loopw [10] (fun i wr=>LowRel s.data.toList w.heap.size w.heap.size w i wr) (fun i _=>s.size-(intOf i).toNat)
 case atStart=>exact⟨0,by omega,rfl,by simpa [lowerP] using Hrow.out,hb1⟩
 case round =>
  obtain⟨k,hk,rfl,hrow,hb⟩:=hrel;rw[Hlen.out] at hk
  by_cases hlt:k<s.size
  ·obtain⟨x,hx⟩:∃ x,s.data.toList[k]?=some x:=⟨_,List.getElem?_eq_getElem (by rw[Hlen.out];exact hlt)⟩
   have hkl:(lowerP (s.data.toList.take k)).length=k:=by rw[lowerP,List.length_map,List.length_take,Hlen.out];omega
   have hat:((lowerP (s.data.toList.take k)++s.data.toList.drop k).map b8)[k]?=some (b8 x):=by
    rw[List.getElem?_map,List.getElem?_append_right (by omega),hkl,Nat.sub_self,List.getElem?_drop,Nat.add_zero,hx];rfl
   obtain⟨hcell,hfr⟩:=hrow.2 k _ hat
   have hnew:∀ y,y=low8 x→RowAt (wr.setCell ⟨w.heap.size,k,none⟩ (b8 y)) w.heap.size ((lowerP (s.data.toList.take (k+1))++s.data.toList.drop (k+1)).map b8):=by
    intro y hy;have h1:=hrow.store k (b8 y);rw[← List.map_set,List.set_append_right _ _ (by omega),hkl,Nat.sub_self] at h1
    have hd:s.data.toList.drop k=x::s.data.toList.drop (k+1):=by
     rw[List.drop_eq_getElem_cons (by rw[Hlen.out];exact hlt)];rw[List.getElem?_eq_getElem (by rw[Hlen.out];exact hlt)] at hx
     injection hx with hx;rw[hx]
    rw[hd,List.set_cons_zero] at h1;rw[take_snoc _ k x hx,lowerP,List.map_append,hy] at *
    simpa [lowerP] using h1
   have hsame:low8 x=x→RowAt wr w.heap.size ((lowerP (s.data.toList.take (k+1))++s.data.toList.drop (k+1)).map b8):=by
    intro hy
    have hd:s.data.toList.drop k=x::s.data.toList.drop (k+1):=by
     rw[List.drop_eq_getElem_cons (by rw[Hlen.out];exact hlt)];rw[List.getElem?_eq_getElem (by rw[Hlen.out];exact hlt)] at hx
     injection hx with hx;rw[hx]
    rw[hd] at hrow;rw[take_snoc _ k x hx,lowerP,List.map_append]
    simpa [lowerP,hy] using hrow
   unfold b8 at hcell;have hx256:x.toNat<256:=x.toNat_lt;have Hnew:=Lib.hid hnew;have Hsame:=Lib.hid hsame;clear hnew hsame hat hkl hrow hx
   by_cases hup:65≤x.toNat∧x.toNat≤90
   ·obtain⟨u1,u2⟩:=hup
    have hy:(b8 (x+32))=.int .u8 ((x.toNat:Int)+32):=by
     unfold b8;congr 1;have:(x+32).toNat=x.toNat+32:=by rw[UInt8.toNat_add];simp;omega
     rw[this];rfl
    have hfin:=Hnew.out (x+32) (by simp[low8,u1,u2]);rw[hy] at hfin;have Hfin:=Lib.hid hfin;clear hy hfin Hnew Hsame;have hbn:Below w.heap.size w (wr.setCell ⟨w.heap.size,k,none⟩ (.int .u8 ((x.toNat:Int)+32))):=hb.setCell (Nat.le_refl _) _
    go_wp2
    go_roundw
    case rel=>exact⟨k+1,by rw[Hlen.out];omega,by go_num,Hfin.out,hbn⟩
    case measure=>simp[intOf];omega
   ·have hfin:=Hsame.out (by simp[low8];omega)
    have Hfin:=Lib.hid hfin;clear hfin Hnew Hsame
    by_cases u1:65≤x.toNat
    all_goals
     go_wp2
     go_roundw
     case rel=>exact⟨k+1,by rw[Hlen.out];omega,by go_num,Hfin.out,hb⟩
     case measure=>simp[intOf];omega
  ·obtain rfl:k=s.size:=by omega
   have hfull:RowAt wr w.heap.size ((lowerP s.data.toList).map b8):=by
    rw[List.take_of_length_le (by rw[Hlen.out];omega),List.drop_of_length_le (by rw[Hlen.out];omega),List.append_nil] at hrow
    exact hrow
   have hrd:=hfull.reads (B:=w.heap.size+1) (by omega);rw[List.length_map,show (lowerP s.data.toList).length=s.size from by rw[lowerP,List.length_map];exact Hlen.out] at hrd;have hback:=run_str (P:=Tryz.prog) (src:=22) (dst:=9) Tryz.underlying22 Tryz.underlying5 Tryz.underlying9 c hrd;clear hrow hfull hrd
   go_wp2
   go_ret
   exact⟨rfl,hb⟩
end Go.Proofs.YtfhdihdafmahgaaGreatDoor
namespace Go.Proofs.YtfhdihdafmahgaaGreatDoor
open Go.RowKit Rn
theorem byte_info:(Tryz.prog.info? 5).map (fun i=>(i.zero,i.size,i.bytes))=some (some (.int .u8 0),1,1):=by kernel_rfl
theorem enc_cells (c:Int):((Lib.encodeRune c).map b8).toArray=((Lib.encodeRuneZ c).map (fun x=>Value.int .u8 x)).toArray:=by
 rw[← runeCells_b8];rfl
theorem ref_bytes (c:Int) (w:World) (hc:isB c=true) :
  Calls Tryz.prog 162 #[.int .i64 c] w fun e w'=>e=.returned (.slice (some ⟨w.heap.size,0,none⟩) (Lib.encodeRune c).length (Lib.encodeRune c).length)∧w'=w.alloc (.cells ((Lib.encodeRune c).map b8).toArray 5):=by
 have hc':0≤c∧c≤1114111∧(c<55296∨57343<c):=by simpa [isB] using hc
 clear hc;obtain⟨h0,h1,h2⟩:=hc';have hl:(Lib.encodeRune c).length=(Lib.encodeRuneZ c).length:=by simp[Lib.encodeRune]
 rw[hl]
 by_cases c1:c<128
 ·have hz:=Lib.hid (Lib.encodeRuneZ_one h0 (by omega:c≤127))
  go_enter Tryz.func162,Tryz.ntmps162
  go_wp2
  go_ret
  rw[enc_cells,hz.out]
  exact⟨rfl,rfl⟩
 ·by_cases c2:c<2048
  ·have hz:=Lib.hid (Lib.encodeRuneZ_two (by omega:128≤c) (by omega))
   go_enter Tryz.func162,Tryz.ntmps162
   go_wp2
   go_ret
   rw[enc_cells,hz.out]
   exact⟨rfl,rfl⟩
  ·by_cases c3:c<65536
   ·have hz:=Lib.hid (Lib.encodeRuneZ_three (r:=c) (by omega))
    go_enter Tryz.func162,Tryz.ntmps162
    go_wp2
    go_ret
    rw[enc_cells,hz.out]
    exact⟨rfl,rfl⟩
   ·have hz:=Lib.hid (Lib.encodeRuneZ_four (by omega:65536≤c) h1)
    go_enter Tryz.func162,Tryz.ntmps162
    go_wp2
    go_ret
    rw[enc_cells,hz.out]
    exact⟨rfl,rfl⟩
theorem enc_row (w:World) (c:Int):∀ j u,((Lib.encodeRune c).map b8)[j]?=some u→(w.alloc (.cells ((Lib.encodeRune c).map b8).toArray 5)).cell? ((⟨w.heap.size,0,none⟩:Addr).add j)=some u:=by
 refine World.news_of_block (t:=5) (fr:=(0,0)) (cs:=((Lib.encodeRune c).map b8).toArray) ?_
 exact heap_alloc_new w _
theorem ref_write (l:List Int) (A:Option Addr) (n cap:Nat) (w:World) (hr:Reads w w.heap.size 1 A n (l.map n64)) (hl:∀ c∈l,-2147483648≤c∧c≤2147483647) (hn:n≤1000000) :
  Calls Tryz.prog 138 #[.slice A n cap] w fun e w'=>∃ v,e=.returned v∧w'.ownsRow w.heap.size 5 1 v (writeP l).length ((writeP l).map b8)∧Below w.heap.size w w':=by
 have hlen:l.length=n:=by simpa using hr.len
 obtain⟨i0,hi,hz0,hz1,hz2⟩:=info_parts byte_info;have Hlen:=Lib.hid hlen;have Hl:=Lib.hid hl;clear hlen hl
 go_enter Tryz.func138,Tryz.ntmps138
 go_wp2
 go_loopw [3,4] (fun o i wr=>∃ k:Nat,k≤n∧i=.int .i64 k∧wr.ownsRow w.heap.size 5 1 o (writeP (l.take k)).length ((writeP (l.take k)).map b8)∧Below w.heap.size w wr) (fun _ i _=>n-(intOf i).toNat)
 case atStart=>exact⟨0,by omega,rfl,World.ownsRow_nil _ _ _ _,Below.refl _ _⟩
 case round =>
  obtain⟨k,hk,rfl,hown,hb⟩:=hrel;have hs2:=hb.size
  by_cases hlt:k<n
  ·obtain⟨b,off,u,hA,hbw,hx,hcell0⟩:=hr.at_ hlt
   subst hA;obtain⟨c,hc⟩:∃ c,l[k]?=some c:=⟨_,List.getElem?_eq_getElem (by rw[Hlen.out];omega)⟩;rw[List.getElem?_map,hc] at hx;obtain rfl:u=n64 c:=by simpa using hx.symm
   unfold n64 at hcell0;have hcell:wr.cell? ⟨b,off+k,none⟩=some (.int .i64 c):=(hb.cell (p:=⟨b,off+k,none⟩) hbw).trans hcell0;have hcr:=Hl.out c (List.mem_of_getElem? hc);have hwl:=writeP_len (l.take k);rw[List.length_take] at hwl;have hst:writeP (l.take (k+1))=writeP (l.take k)++Lib.encodeRune c:=by rw[take_snoc l k c hc,writeP_snoc]
   have hel:=encode_len c;have hel2:=encode_len 65533;have Hst:=Lib.hid hst;have Hc:=Lib.hid hc;clear hst hc hx hcell0
   by_cases his:isB c=true
   ·have Hrow:=Lib.hid (enc_row wr c)
    have Hby:=Lib.hid (ref_bytes c wr his)
    go_wp2_with (first | (go_at_call 161;refine(ref_is _ _ (by omega) (by omega)).mono ?_;rintro e w' ⟨rfl,rfl⟩;rw[his]) | (go_at_call 162;refine(Hby.out).mono ?_;rintro e w2 ⟨rfl,rfl⟩) | (at_builtin;refine wpList_append_own _ rfl _ _ 22 rfl w.heap.size 5 i0 (.int .u8 0) 1 1 Tryz.underlying22 hi hz0 hz1 hz2 rfl (by decide) _ _ _ rfl (hown.alloc _) ⟨wr.heap.size,0,none⟩ _ _ ((Lib.encodeRune c).map b8) rfl (by simp) ?c1 ?c2 ?c3 ?c4 ?c5 ?_))
    case c1=>exact Hrow.out
    case c2=>intro u hu;simp at hu;obtain⟨x,_,rfl⟩:=hu;rfl
    case c3=>unfold maxLen;omega
    case c4=>omega
    case c5=>simp;omega
    intro v' w2 hown' hgrow _;have hbn:=push_below hb hs2 hown hgrow;rw[← List.map_append,← List.length_append,← Hst.out] at hown';clear hgrow hown hb
    go_wp2
    go_roundw
    case rel=>exact⟨k+1,by omega,by go_num,hown',hbn⟩
    case measure=>simp[intOf];omega
   ·have his':isB c=false:=by simpa using his
    have Hbad:=Lib.hid (encode_bad c his');have Hrow:=Lib.hid (enc_row wr 65533);have Hby:=Lib.hid (ref_bytes 65533 wr (by decide))
    go_wp2_with (first | (go_at_call 161;refine(ref_is _ _ (by omega) (by omega)).mono ?_;rintro e w' ⟨rfl,rfl⟩;rw[his']) | (go_at_call 162;refine(Hby.out).mono ?_;rintro e w2 ⟨rfl,rfl⟩) | (at_builtin;refine wpList_append_own _ rfl _ _ 22 rfl w.heap.size 5 i0 (.int .u8 0) 1 1 Tryz.underlying22 hi hz0 hz1 hz2 rfl (by decide) _ _ _ rfl (hown.alloc _) ⟨wr.heap.size,0,none⟩ _ _ ((Lib.encodeRune 65533).map b8) rfl (by simp) ?d1 ?d2 ?d3 ?d4 ?d5 ?_))
    case d1=>exact Hrow.out
    case d2=>intro u hu;simp at hu;obtain⟨x,_,rfl⟩:=hu;rfl
    case d3=>unfold maxLen;omega
    case d4=>omega
    case d5=>simp;omega
    intro v' w2 hown' hgrow _;have hbn:=push_below hb hs2 hown hgrow;rw[← List.map_append,← List.length_append,← Hbad.out,← Hst.out] at hown';clear hgrow hown hb
    go_wp2
    go_roundw
    case rel=>exact⟨k+1,by omega,by go_num,hown',hbn⟩
    case measure=>simp[intOf];omega
  ·obtain rfl:k=n:=by omega
   go_wp2
   go_ret
   rw[List.take_of_length_le (by rw[Hlen.out];omega)] at hown
   exact⟨_,rfl,hown,hb⟩
end Go.Proofs.YtfhdihdafmahgaaGreatDoor
