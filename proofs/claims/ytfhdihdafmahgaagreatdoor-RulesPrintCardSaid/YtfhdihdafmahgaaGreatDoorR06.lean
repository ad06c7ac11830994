import Derived.Test.YtfhdihdafmahgaaGreatDoorR03
import Derived.Maps.RangeWalk
set_option linter.unusedVariables false
set_option linter.unusedSimpArgs false
set_option maxRecDepth 100000
set_option maxHeartbeats 2000000
namespace Go.Proofs.YtfhdihdafmahgaaGreatDoor
open Go.RowKit Rn
def hexText:ByteArray:=⟨#[48,49,50,51,52,53,54,55,56,57,97,98,99,100,101,102]⟩
theorem hex_ascii:∀ c:Fin 128,Lib.indexByte hexText.data.toList (low8 (UInt8.ofNat c.val))=hexI (c.val:Int):=by decide +kernel
theorem hex_high:∀ c:Fin 256,128≤c.val→Lib.indexByte hexText.data.toList (low8 (UInt8.ofNat c.val))=-1:=by decide +kernel
theorem hex_first (c:Int) (hc:-2147483648≤c∧c≤2147483647):∃ b0,(lowerP (writeP [c]))[0]?=some b0∧Lib.indexByte hexText.data.toList b0=hexI c:=by
 have hw:writeP [c]=Lib.encodeRune c:=by simp[writeP]
 rw[hw]
 by_cases ha:0≤c∧c≤127
 ·refine⟨low8 (UInt8.ofNat c.toNat),?_,?_⟩
  ·simp only[Lib.encodeRune,Lib.encodeRuneZ_one ha.1 ha.2,lowerP,List.map_cons,List.map_nil,List.getElem?_cons_zero]
  ·have:=hex_ascii ⟨c.toNat,by omega⟩
   rw[this];have e:((c.toNat:Nat):Int)=c:=by omega
   show hexI ((c.toNat:Nat):Int)=hexI c
   rw[e]
 ·have hx:hexI c=-1:=by unfold hexI;(repeat' split)<;>omega
  have:∃ z:Int,128≤z∧z<256∧(Lib.encodeRune c)[0]?=some (UInt8.ofNat z.toNat):=by
   unfold Lib.encodeRune
   by_cases h2:128≤c∧c≤2047
   ·rw[Lib.encodeRuneZ_two h2.1 h2.2];exact⟨192+c / 64,by omega,by omega,rfl⟩
   ·by_cases h3:(2048≤c∧c<55296)∨(57343<c∧c≤65535)
    ·rw[Lib.encodeRuneZ_three h3];exact⟨224+c / 4096,by omega,by omega,rfl⟩
    ·by_cases h4:65536≤c∧c≤1114111
     ·rw[Lib.encodeRuneZ_four h4.1 h4.2];exact⟨240+c / 262144,by omega,by omega,rfl⟩
     ·rw[Lib.encodeRuneZ_bad (by omega)];exact⟨239,by omega,by omega,rfl⟩
  obtain⟨z,z1,z2,hz⟩:=this
  refine⟨low8 (UInt8.ofNat z.toNat),by rw[lowerP,List.getElem?_map,hz];rfl,?_⟩
  rw[hx]
  exact hex_high ⟨z.toNat,by omega⟩ (by simp;omega)
theorem rn_hex (c:Int) (w:World) (hc:-2147483648≤c∧c≤2147483647) :
  Calls Tryz.prog 150 #[.int .i32 c] w fun e w'=>e=.returned (.int .i64 (hexI c))∧Below w.heap.size w w':=by
 obtain⟨b0,hb0,hx⟩:=hex_first c hc;have Hb0:=Lib.hid hb0;have Hx:=Lib.hid hx;clear hb0 hx
 go_enter Tryz.func150,Tryz.ntmps150
 go_wp2_with fail
 have hrow:RowAt (w.alloc (.cells #[.int .i32 c] 21)) w.heap.size ([c].map r32):=RowAt.new _ _ _;have hr:=(hrow.reads (B:=w.heap.size+1) (by omega));have hsz:(w.alloc (.cells #[.int .i32 c] 21)).heap.size=w.heap.size+1:=by simp
 refine(rn_write [c] _ 1 1 _ (by rw[hsz];exact hr) (by intro d hd;simp at hd;subst hd;exact hc) (by omega)).mono ?_
 rintro e w1 ⟨v,rfl,hown,hb1⟩;obtain⟨A,cp,rfl,_,_⟩:=own_form hown;have hrd:=Reads.of_own hown;have hstr:=run_str (P:=Tryz.prog) (src:=22) (dst:=9) Tryz.underlying22 Tryz.underlying5 Tryz.underlying9 cp hrd;have hbw:Below w.heap.size w w1:=((Below.refl _ _).alloc (Nat.le_refl _) _).trans (hb1.mono (by rw[hsz];omega));have hlen:=writeP_len [c];clear hrd hown hrow hr hb1
 go_wp2_with fail
 refine(rn_lower (bytesOf (writeP [c])) _ (by rw[bytesOf_size];simp at hlen;omega)).mono ?_
 rintro e w2 ⟨rfl,hb2⟩;have hfin:Below w.heap.size w w2:=hbw.trans (hb2.mono hbw.size);have hS:(bytesOf (lowerP (bytesOf (writeP [c])).data.toList)).data.toList[0]?=some b0:=by simpa [bytesOf] using Hb0.out
 generalize bytesOf (lowerP (bytesOf (writeP [c])).data.toList)=S at *
 have hS0:0<S.size:=by
  rcases Nat.eq_zero_or_pos S.size with h | h
  ·have:S.data.toList=[]:=List.eq_nil_of_length_eq_zero (by rw[Array.length_toList];exact h)
   rw[this] at hS;cases hS
  ·exact h
 have hS1:S[0]'hS0=b0:=by
  have:S.data.toList[0]?=some (S[0]'hS0):=by
   rw[List.getElem?_eq_getElem (by rw[Array.length_toList];exact hS0)];rfl
  rw[this] at hS;injection hS
 have HS1:=Lib.hid hS1;clear hS hS1 hstr hbw hb2 hlen
 go_wp2_with fail
 refine(Tryz.strings_IndexByte _ _ _).mono ?_
 rintro e w3 ⟨rfl,rfl⟩
 go_wp2
 go_ret
 refine⟨ret_int ?_,hfin⟩
 rw[HS1.out]
 exact Hx.out
end Go.Proofs.YtfhdihdafmahgaaGreatDoor
namespace Go.Proofs.YtfhdihdafmahgaaGreatDoor
open Go.RowKit Rn Tk
structure At (w:World) (B S P:Nat) (A:Option Addr) (n cap:Nat) (l:List Int) (k:Nat):Prop where
 s0:w.cell? ⟨S,0,none⟩=some (.pointer (some ⟨P,0,none⟩))
 p0:w.cell? ⟨P,0,none⟩=some (.slice A n cap)
 p1:w.cell? ⟨P,1,none⟩=some (.int .i64 (k:Int))
 fz:w.frozen? ⟨P,1,none⟩=false
 rd:Reads w B 1 A n (l.map r32)
 hB:B≤P
 hPS:P<S
 hS:S<w.heap.size
 hk:k≤n
 hn:n≤1000000
 hc:n≤cap
 hm:cap≤maxLen
abbrev Mv (P:Nat) (w w':World):Prop:=w.grownBy w' (some P)
section
variable {w w':World} {B S P n cap k:Nat} {A:Option Addr} {l:List Int}
theorem At.len (h:At w B S P A n cap l k):l.length=n:=by simpa using h.rd.len
theorem At.mv (h:At w B S P A n cap l k) (hb:w.grownBy w' none):At w' B S P A n cap l k:=by
 have hS:=h.hS;have hP:=h.hPS;have key:∀ p:Addr,p.block<w.heap.size→w'.cell? p=w.cell? p:=fun p hp=>hb.cell_far p hp (by simp)
 exact { s0:=(key _ hS).trans h.s0,p0:=(key _ (Nat.lt_trans hP hS)).trans h.p0,p1:=(key _ (Nat.lt_trans hP hS)).trans h.p1,fz:=(hb.frozen_far _ (Nat.lt_trans hP hS) (by simp)).trans h.fz,rd:=h.rd.keep fun p hp=>key p (Nat.lt_of_lt_of_le hp (by have:=h.hB;omega)),hB:=h.hB,hPS:=h.hPS,hS:=Nat.lt_of_lt_of_le hS hb.size,hk:=h.hk,hn:=h.hn,hc:=h.hc,hm:=h.hm }
theorem At.store (h:At w B S P A n cap l k) {k':Nat} (hk:k'≤n):At (w.setCell ⟨P,1,none⟩ (.int .i64 (k':Int))) B S P A n cap l k':=by
 have hS:=h.hS;have hP:=h.hPS;have hB:=h.hB;have other:∀ p:Addr,p≠⟨P,1,none⟩→(w.setCell ⟨P,1,none⟩ (.int .i64 (k':Int))).cell? p=w.cell? p:=fun p hp=>World.cell?_setCell_other w _ _ _ (Ne.symm hp)
 exact { s0:=(other _ (by intro e;injection e;omega)).trans h.s0,p0:=(other _ (by intro e;injection e;omega)).trans h.p0,p1:=World.cell?_setCell_same _ _ _ h.p1,fz:=(World.frozen?_setCell _ _ _ _).trans h.fz,rd:=h.rd.setCell hB _,hB:=hB,hPS:=hP,hS:=by simpa [World.setCell] using hS,hk:=hk,hn:=h.hn,hc:=h.hc,hm:=h.hm }
end
theorem Mv.refl (P:Nat) (w:World):Mv P w w:=World.grownBy.refl _ _
theorem Mv.store (w:World) (P:Nat) (v:Value):Mv P w (w.setCell ⟨P,1,none⟩ v):=by
 refine⟨rfl,rfl,rfl,by simp[World.setCell],fun i hi hne=>?_⟩
 simp only[World.setCell];rw[Array.getElem?_modify];rw[if_neg (fun e=>hne (by rw[e]))]
theorem Mv.of {P:Nat} {w w':World} (h:w.grownBy w' none):Mv P w w':=h.but _
theorem grown_below {w w':World} (h:w.grownBy w' none):Below w.heap.size w w':=⟨h.os,h.tape,h.output,h.size,fun i hi=>h.block i hi (by simp)⟩
theorem below_grown {w w':World} (h:Below w.heap.size w w'):w.grownBy w' none:=⟨h.os,h.tape,h.output,h.size,fun i hi _=>h.block i hi⟩
theorem grown_drewN (w:World) (q:Nat):w.grownBy (w.drewN q) none:=⟨rfl,rfl,rfl,Nat.le_refl _,fun _ _ _=>rfl⟩
theorem pk_at {l:List Int} {k m:Nat} (h:k+m<l.length):l[k+m]?=some (pk (l.drop k) m):=by
 rw[pk_drop,pk,List.getElem?_eq_getElem h];rfl
theorem pk_end {l:List Int} {k m:Nat} (h:l.length≤k+m):pk (l.drop k) m=-1:=by
 rw[pk_drop,pk,List.getElem?_eq_none h];rfl
theorem tk_peek {w:World} {B S P n cap k:Nat} {A:Option Addr} {l:List Int} (m:Nat) (h:At w B S P A n cap l k) (hm:m≤100) :
  Calls Tryz.prog 56 #[.pointer (some ⟨P,0,none⟩),.int .i64 (m:Int)] w fun e w'=>e=.returned (.int .i32 (pk (l.drop k) m))∧w.grownBy w' none:=by
 have hlen:=h.len;have hk:=h.hk;have hn:=h.hn;have p0:=h.p0;have p1:=h.p1
 by_cases hlt:k+m<n
 ·obtain⟨b,off,u,hA,hbB,hu,hcell⟩:=h.rd.at_ hlt
  subst hA
  have hv:u=.int .i32 (pk (l.drop k) m):=by
   rw[List.getElem?_map,pk_at (by omega)] at hu
   simp at hu
   rw[← hu];rfl
  subst hv;have hx1:(0:Int)≤(k:Int)+(m:Int):=by omega
  have hx2:(k:Int)+(m:Int)<(n:Int):=by omega
  have hx3:((k:Int)+(m:Int)).toNat=k+m:=by omega
  generalize pk (l.drop k) m=c at *
  go_enter Tryz.func56,Tryz.ntmps56
  go_wp2_with fail
  go_quiet (fail)
  go_wp2_with fail
  go_quiet (fail)
  go_wp2
  go_ret
  exact⟨rfl,(grown_drewN _ _).trans (grown_drewN _ _)⟩
 ·have hv:pk (l.drop k) m=-1:=pk_end (by omega)
  rw[hv];have hx2:(n:Int)≤(k:Int)+(m:Int):=by omega
  go_enter Tryz.func56,Tryz.ntmps56
  go_wp2_with fail
  go_quiet (fail)
  go_wp2
  go_ret
  exact⟨rfl,grown_drewN _ _⟩
theorem pk_shift (l:List Int) (k m i:Nat):pk (l.drop k) (m+i)=pk (l.drop (k+m)) i:=by rw[pk_drop,pk_drop,Nat.add_assoc]
theorem eq_f {a b:Int} (h:¬ a=b):(a == b)=false:=by simpa using h
theorem eq_t {a b:Int} (h:a=b):(a == b)=true:=by simpa using h
theorem tk_escape {w:World} {B S P n cap k:Nat} {A:Option Addr} {l:List Int} (m:Nat) (h:At w B S P A n cap l k) (hm:m≤50) :
  Calls Tryz.prog 88 #[.pointer (some ⟨S,0,none⟩),.int .i64 (m:Int)] w fun e w'=>e=.returned (.bool (esc (l.drop (k+m))))∧w.grownBy w' none:=by
 have s0:=h.s0;have hp0:=tk_peek m h (by omega);have hp1:=fun w' (g:w.grownBy w' none)=>tk_peek (m+1) (h.mv g) (by omega)
 have hv:esc (l.drop (k+m))=decide (pk (l.drop k) m=92∧0≤pk (l.drop k) (m+1)∧pk (l.drop k) (m+1)≠10):=by
  unfold esc;rw[← pk_shift,← pk_shift];rfl
 rw[hv];clear hv;generalize pk (l.drop k) m=c0 at *
 generalize pk (l.drop k) (m+1)=c1 at *
 have hcast:((m+1:Nat):Int)=(m:Int)+1:=by omega
 rw[hcast] at hp1
 by_cases e0:c0=92
 ·have b0:=eq_t e0
  by_cases e1:0≤c1
  ·have b1:decide (0≤c1)=true:=by simpa using e1
   have hfin:decide (c0=92∧0≤c1∧c1≠10)=(c1 != 10):=by rw[Bool.eq_iff_iff];simp[e0,e1]
   rw[hfin];clear e0 hfin
   go_enter Tryz.func88,Tryz.ntmps88
   go_wp2_with fail
   refine hp0.mono ?_
   rintro e w1 ⟨rfl,g1⟩;have s1:=(h.mv g1).s0
   go_wp2_with fail
   refine(hp1 w1 g1).mono ?_
   rintro e w2 ⟨rfl,g2⟩;have g2:=g1.trans g2;have s2:=(h.mv g2).s0
   go_wp2_with fail
   refine(hp1 w2 g2).mono ?_
   rintro e w3 ⟨rfl,g3⟩;have g3:=g2.trans g3
   go_wp2
   go_ret
   exact⟨rfl,g3⟩
  ·have b1:decide (0≤c1)=false:=by simpa using e1
   have hfin:decide (c0=92∧0≤c1∧c1≠10)=false:=by simp[e1]
   rw[hfin];clear e0 hfin
   go_enter Tryz.func88,Tryz.ntmps88
   go_wp2_with fail
   refine hp0.mono ?_
   rintro e w1 ⟨rfl,g1⟩;have s1:=(h.mv g1).s0
   go_wp2_with fail
   refine(hp1 w1 g1).mono ?_
   rintro e w2 ⟨rfl,g2⟩;have g2:=g1.trans g2
   go_wp2
   go_ret
   exact⟨rfl,g2⟩
 ·have b0:=eq_f e0
  have hfin:decide (c0=92∧0≤c1∧c1≠10)=false:=by simp[e0]
  rw[hfin]
  go_enter Tryz.func88,Tryz.ntmps88
  go_wp2_with fail
  refine hp0.mono ?_
  rintro e w1 ⟨rfl,g1⟩
  go_wp2
  go_ret
  exact⟨rfl,g1⟩
theorem tk_may {w:World} {B S P n cap k X:Nat} {A:Option Addr} {l:List Int} (m:Nat) (h:At w B S P A n cap l k) (hm:m≤50) (hX:w.cell? ⟨X,0,none⟩=some (.pointer (some ⟨S,0,none⟩))) (hXl:X<w.heap.size) :
  Calls Tryz.prog 129 #[.int .i64 (m:Int),.pointer (some ⟨X,0,none⟩)] w fun e w'=>e=.returned (.bool (may (l.drop (k+m))))∧w.grownBy w' none:=by
 have s0:=h.s0;have hp0:=tk_peek m h (by omega);have hp1:=fun w' (g:w.grownBy w' none)=>tk_escape m (h.mv g) (by omega)
 have hv:may (l.drop (k+m))=(beginsB (pk (l.drop k) m) || esc (l.drop (k+m))):=by unfold may;rw[← pk_shift];rfl
 rw[hv];clear hv;generalize pk (l.drop k) m=c0 at *
 generalize esc (l.drop (k+m))=b1 at *
 cases hb:beginsB c0 with
 | true =>
  rw[Bool.true_or]
  go_enter Tryz.func129,Tryz.ntmps129
  go_wp2_with fail
  refine hp0.mono ?_
  rintro e w1 ⟨rfl,g1⟩
  go_wp2_with fail
  refine(rn_begins c0 w1).mono ?_
  rintro e w2 ⟨rfl,rfl⟩;rw[hb]
  go_wp2
  go_ret
  exact⟨rfl,g1⟩
 | false =>
  rw[Bool.false_or]
  go_enter Tryz.func129,Tryz.ntmps129
  go_wp2_with fail
  refine hp0.mono ?_
  rintro e w1 ⟨rfl,g1⟩;have hX1:=(g1.cell_far ⟨X,0,none⟩ hXl (by simp)).trans hX
  go_wp2_with fail
  refine(rn_begins c0 w1).mono ?_
  rintro e w2 ⟨rfl,rfl⟩;rw[hb]
  go_wp2_with fail
  refine(hp1 w1 g1).mono ?_
  rintro e w2 ⟨rfl,g2⟩;have g2:=g1.trans g2
  go_wp2
  go_ret
  exact⟨rfl,g2⟩
theorem tk_begins {w:World} {B S P n cap k:Nat} {A:Option Addr} {l:List Int} (m:Nat) (h:At w B S P A n cap l k) (hm:m≤20) :
  Calls Tryz.prog 91 #[.pointer (some ⟨S,0,none⟩),.int .i64 (m:Int)] w fun e w'=>e=.returned (.bool (beg (l.drop (k+m))))∧w.grownBy w' none:=by
 have ga:w.grownBy (w.alloc (.cells #[.pointer (some ⟨S,0,none⟩)] 81)) none:=World.grownBy_alloc _ _ _;have hXa:(w.alloc (.cells #[.pointer (some ⟨S,0,none⟩)] 81)).cell? ⟨w.heap.size,0,none⟩=some (.pointer (some ⟨S,0,none⟩)):=((RowAt.new w _ #[_]).2 0 _ rfl).1;have hXl:w.heap.size<(w.alloc (.cells #[.pointer (some ⟨S,0,none⟩)] 81)).heap.size:=by simp
 have hv:beg (l.drop (k+m))=(may (l.drop (k+m)) || (decide (pk (l.drop k) m=45) && (may (l.drop (k+(m+1))) || decide (pk (l.drop k) (m+1)=45)))):=by
  unfold beg;rw[List.tail_drop,← pk_shift,← pk_shift];rfl
 rw[hv];clear hv;obtain⟨w0,hw0⟩:∃ w0,w.alloc (.cells #[.pointer (some ⟨S,0,none⟩)] 81)=w0:=⟨_,rfl⟩;rw[hw0] at ga hXa hXl;have h0:=h.mv ga;have kX:∀ w',w0.grownBy w' none→w'.cell? ⟨w.heap.size,0,none⟩=some (.pointer (some ⟨S,0,none⟩)):=fun w' g=>(g.cell_far ⟨w.heap.size,0,none⟩ hXl (by simp)).trans hXa
 have kL:∀ w',w0.grownBy w' none→w.heap.size<w'.heap.size:=fun w' g=>Nat.lt_of_lt_of_le hXl g.size
 have cM:=tk_may m h0 (by omega) hXa hXl;have cM1:=fun w' (g:w0.grownBy w' none)=>tk_may (m+1) (h0.mv g) (by omega) (kX w' g) (kL w' g)
 have cP:=fun w' (g:w0.grownBy w' none)=>tk_peek m (h0.mv g) (by omega)
 have cP1:=fun w' (g:w0.grownBy w' none)=>tk_peek (m+1) (h0.mv g) (by omega)
 have kS:∀ w',w0.grownBy w' none→w'.cell? ⟨S,0,none⟩=some (.pointer (some ⟨P,0,none⟩)):=fun w' g=>(h0.mv g).s0
 have hcast:((m+1:Nat):Int)=(m:Int)+1:=by omega
 rw[hcast] at cM1 cP1;generalize pk (l.drop k) m=c0 at *
 generalize pk (l.drop k) (m+1)=c1 at *
 generalize may (l.drop (k+m))=b0 at *
 generalize may (l.drop (k+(m+1)))=b1 at *
 clear h h0
 cases b0 with
 | true =>
  go_enter Tryz.func91,Tryz.ntmps91
  go_wp2_with fail
  refine cM.mono ?_
  rintro e w1 ⟨rfl,g1⟩
  go_wp2
  go_ret
  exact⟨rfl,ga.trans g1⟩
 | false =>
  by_cases e0:c0=45
  ·have t0:=eq_t e0
   cases b1 with
   | true =>
    have hfin:(false || (decide (c0=45) && (true || decide (c1=45))))=true:=by simp[e0]
    rw[hfin];clear e0 hfin
    go_enter Tryz.func91,Tryz.ntmps91
    go_wp2_with fail
    refine cM.mono ?_
    rintro e w1 ⟨rfl,g1⟩;have x1:=kX w1 g1;have y1:=kS w1 g1
    go_wp2_with fail
    refine(cP w1 g1).mono ?_
    rintro e w2 ⟨rfl,g2⟩;have g2:=g1.trans g2
    go_wp2_with fail
    refine(cM1 w2 g2).mono ?_
    rintro e w3 ⟨rfl,g3⟩;have g3:=g2.trans g3
    go_wp2
    go_ret
    exact⟨rfl,ga.trans g3⟩
   | false =>
    have hfin:(false || (decide (c0=45) && (false || decide (c1=45))))=(c1 == 45):=by rw[Bool.eq_iff_iff];simp[e0]
    rw[hfin];clear e0 hfin
    go_enter Tryz.func91,Tryz.ntmps91
    go_wp2_with fail
    refine cM.mono ?_
    rintro e w1 ⟨rfl,g1⟩;have x1:=kX w1 g1;have y1:=kS w1 g1
    go_wp2_with fail
    refine(cP w1 g1).mono ?_
    rintro e w2 ⟨rfl,g2⟩;have g2:=g1.trans g2
    go_wp2_with fail
    refine(cM1 w2 g2).mono ?_
    rintro e w3 ⟨rfl,g3⟩;have g3:=g2.trans g3;have x3:=kX w3 g3;have y3:=kS w3 g3
    go_wp2_with fail
    refine(cP1 w3 g3).mono ?_
    rintro e w4 ⟨rfl,g4⟩;have g4:=g3.trans g4
    go_wp2
    go_ret
    exact⟨rfl,ga.trans g4⟩
  ·have t0:=eq_f e0
   have hfin:(false || (decide (c0=45) && (b1 || decide (c1=45))))=false:=by simp[e0]
   rw[hfin];clear hfin
   go_enter Tryz.func91,Tryz.ntmps91
   go_wp2_with fail
   refine cM.mono ?_
   rintro e w1 ⟨rfl,g1⟩;have x1:=kX w1 g1;have y1:=kS w1 g1
   go_wp2_with fail
   refine(cP w1 g1).mono ?_
   rintro e w2 ⟨rfl,g2⟩;have g2:=g1.trans g2
   go_wp2
   go_ret
   exact⟨rfl,ga.trans g2⟩
end Go.Proofs.YtfhdihdafmahgaaGreatDoor
