import Derived.Test.YtfhdihdafmahgaaGreatDoorR36
set_option linter.unusedVariables false
set_option linter.unusedSimpArgs false
set_option maxRecDepth 1000000
set_option maxHeartbeats 8000000
namespace Go.Proofs.YtfhdihdafmahgaaGreatDoor
open Go.RowKit Rn Tp Ru
namespace Ru
def awS:List UInt8:=[97,123,98,58,99,33,105,109,112,111,114,116,97,110,116,59,100,125,64,120,32,121,59,64,112,97,103,101,32,58,108,101,102,116,123,109,97,114,103,105,110,58,49,101,109,59,64,116,111,112,45,108,101,102,116,123,99,111,110,116,101,110,116,58,39,120,39,125,125]
def awT:List Tk.Tok:=[⟨2,[97],0⟩,⟨12,[123],0⟩,⟨2,[98],0⟩,⟨14,[],0⟩,⟨2,[99],0⟩,⟨11,[33],0⟩,⟨2,importantS,0⟩,⟨15,[],0⟩,⟨2,[100],0⟩,⟨13,[125],0⟩,⟨4,[120],0⟩,⟨1,[],0⟩,⟨2,[121],0⟩,⟨15,[],0⟩,
 ⟨4,pageS,0⟩,⟨1,[],0⟩,⟨14,[],0⟩,⟨2,[108,101,102,116],0⟩,⟨12,[123],0⟩,⟨2,[109,97,114,103,105,110],0⟩,⟨14,[],0⟩,⟨10,[101,109],1000⟩,⟨15,[],0⟩,⟨4,[116,111,112,45,108,101,102,116],0⟩,⟨12,[123],0⟩,
 ⟨2,[99,111,110,116,101,110,116],0⟩,⟨14,[],0⟩,⟨6,[120],0⟩,⟨13,[125],0⟩,⟨13,[125],0⟩]
def awR:List Rule:=[⟨1,[⟨2,[97],0⟩],[⟨[98],[⟨2,[99],0⟩],true⟩],[]⟩,⟨2,[⟨14,[],0⟩,⟨2,[108,101,102,116],0⟩],[⟨[109,97,114,103,105,110],[⟨10,[101,109],1000⟩],false⟩],[⟨[116,111,112,45,108,101,102,116],[⟨[99,111,110,116,101,110,116],[⟨6,[120],0⟩],false⟩]⟩]⟩]
end Ru
theorem aw_scan:Tk.scanT (readP awS)=awT:=by rw[scan_run];decide +kernel
theorem aw_parse:parseT (awT.map Tk.Tok.g)=(0,awR):=by decide +kernel
theorem aw_box:boxP [76,101,102,116,45,84,111,112]=15:=by decide +kernel
theorem ru_string_info:(Tryz.prog.info? 9).map (fun i=>(i.zero,i.size,i.bytes))=some (some (.string ⟨#[]⟩),1,16):=by kernel_rfl
abbrev strV (s:List UInt8):Value:=.string (bytesOf s)
def BoxesRet (w:World) (e:Ending) (w':World):Prop:=(∃ A c,e=.returned (.slice A 16 c)∧ReadsS w' (Fresh w w') 1 A 16 (boxes.map strV))∧Below w.heap.size w w'
theorem ru_boxes (w:World) (hB:Boxed w) :
  Calls Tryz.prog 20 #[] w (BoxesRet w):=by
 obtain b0:=hB 0 _ rfl;obtain b1:=hB 1 _ rfl;obtain b2:=hB 2 _ rfl;obtain b3:=hB 3 _ rfl;obtain b4:=hB 4 _ rfl;obtain b5:=hB 5 _ rfl;obtain b6:=hB 6 _ rfl;obtain b7:=hB 7 _ rfl;obtain b8:=hB 8 _ rfl;obtain b9:=hB 9 _ rfl;obtain b10:=hB 10 _ rfl;obtain b11:=hB 11 _ rfl;obtain b12:=hB 12 _ rfl;obtain b13:=hB 13 _ rfl;obtain b14:=hB 14 _ rfl;obtain b15:=hB 15 _ rfl;obtain⟨si0,si,sz0,sz1,sz2⟩:=info_take ru_string_info
 go_enter Tryz.func20,Tryz.ntmps20
 go_wp2_with fail
 clear b0 b1 b2 b3 b4 b5 b6 b7 b8 b9 b10 b11 b12 b13 b14 b15
 go_loopw [1,5] (fun v i wr=>∃ (k:Nat) (A1:Option Addr) (n1 c1:Nat),k≤16∧i=.int .i64 (k:Int)∧v=.slice A1 n1 c1∧Hid (n1=k)∧wr.ownsRow w.heap.size 9 1 (.slice A1 n1 c1) k ((boxes.map strV).take k)∧Below w.heap.size w wr) (fun _ i _=>16-(intOf i).toNat)
 case atStart=>exact⟨0,none,0,0,by omega,rfl,rfl,rfl,World.ownsRow_nil _ _ _ _,Below.refl _ _⟩
 case round =>
  obtain⟨k,A1,n1,c1,hk,rfl,rfl,hnk,hown,hb⟩:=hrel
  by_cases hlt:k<16
  ·have dk:decide ((k:Int)<16)=true:=by simp;omega
   have dk2:decide (k<16)=true:=by simp;omega
   obtain⟨x,hx⟩:∃ x,boxes[k]?=some x:=⟨_,List.getElem?_eq_getElem (by rw[box_len];exact hlt)⟩;have hix:=fun W=>box_index W k x hx
   have htk:(boxes.map strV).take k++[strV x]=(boxes.map strV).take (k+1):=by rw[List.take_add_one,List.getElem?_map,hx];rfl
   have Htk:=Lib.hid htk;have hbs:=hb.size;have hlt2:=hown.lt;clear hx htk
   go_wp2_with (at_builtin;refine wpList_append_own_at _ rfl _ _ 45 rfl w.heap.size 9 si0 _ 1 16 Tryz.underlying45 si sz0 sz1 sz2 rfl (by decide) _ k _ rfl (hown.alloc _) ⟨wr.heap.size,0,none⟩ 1 1 [strV x] rfl rfl ?e1 ?e2 ?e3 ?e4 ?e5 ?_)
   case e1=>exact cell_one_new _ _ _
   case e2=>intro u hu;simp at hu;subst hu;rfl
   case e3=>unfold maxLen;omega
   case e4=>omega
   case e5=>simp;omega
   intro v' w3 hown3 hg3 _ hat;rw[Htk.out] at hown3;have hb3:=push_below hb hbs hown hg3;obtain⟨A4,c4,rfl,_,_⟩:=own_form hown3;clear hown hg3 hat
   go_wp2_with fail
   go_roundw
   case rel=>exact⟨k+1,A4,k+1,c4,by omega,by go_num,rfl,rfl,hown3,hb3⟩
   case measure=>simp[intOf];omega
  ·obtain rfl:k=16:=by omega
   have dk:decide ((((16:Nat):Int))<16)=false:=by simp
   have hfin:BoxesRet w (.returned (.slice A1 n1 c1)) wr:=by
    have h1:=hnk.out;subst h1
    exact⟨⟨A1,c1,rfl,by
     have:=ReadsS.of_own hown (S:=Fresh w wr) (fun b hb=>hown.lt b hb)
     rwa[List.take_of_length_le (by rw[List.length_map,box_len];exact Nat.le_refl _)] at this⟩,hb⟩
   have HF:=Lib.hid hfin;clear hfin hown
   go_wp2_with fail
   go_ret
   exact HF.out
theorem ru_awake (w:World) (hT:Tabs w) (hE:Env w) (hB:Boxed w) :
  Calls Tryz.prog 8 #[] w fun e w'=>e=.returned (.bool true)∧Below w.heap.size w w':=by
 have kc:=fun (w:World) (C:Array Value) (n c:Nat)=>Lib.run_convert_bytes_const (P:=Tryz.prog) w 22 5 C n c Tryz.underlying22 Tryz.underlying5
 go_enter Tryz.func8,Tryz.ntmps8
 go_wp2_with fail
 have hrow:=RowAt.mark w 5 (#[.int .u8 97,.int .u8 123,.int .u8 98,.int .u8 58,.int .u8 99,.int .u8 33,.int .u8 105,.int .u8 109,.int .u8 112,.int .u8 111,.int .u8 114,.int .u8 116,.int .u8 97,.int .u8 110,.int .u8 116,.int .u8 59,.int .u8 100,.int .u8 125,.int .u8 64,.int .u8 120,.int .u8 32,.int .u8 121,.int .u8 59,.int .u8 64,.int .u8 112,.int .u8 97,.int .u8 103,.int .u8 101,.int .u8 32,.int .u8 58,.int .u8 108,.int .u8 101,.int .u8 102,.int .u8 116,.int .u8 123,.int .u8 109,.int .u8 97,.int .u8 114,.int .u8 103,.int .u8 105,.int .u8 110,.int .u8 58,.int .u8 49,.int .u8 101,.int .u8 109,.int .u8 59,.int .u8 64,.int .u8 116,.int .u8 111,.int .u8 112,.int .u8 45,.int .u8 108,.int .u8 101,.int .u8 102,.int .u8 116,.int .u8 123,.int .u8 99,.int .u8 111,.int .u8 110,.int .u8 116,.int .u8 101,.int .u8 110,.int .u8 116,.int .u8 58,.int .u8 39,.int .u8 120,.int .u8 39,.int .u8 125,.int .u8 125]) 69 (by decide);have hsz:(w.alloc (.cells #[.int .u8 97,.int .u8 123,.int .u8 98,.int .u8 58,.int .u8 99,.int .u8 33,.int .u8 105,.int .u8 109,.int .u8 112,.int .u8 111,.int .u8 114,.int .u8 116,.int .u8 97,.int .u8 110,.int .u8 116,.int .u8 59,.int .u8 100,.int .u8 125,.int .u8 64,.int .u8 120,.int .u8 32,.int .u8 121,.int .u8 59,.int .u8 64,.int .u8 112,.int .u8 97,.int .u8 103,.int .u8 101,.int .u8 32,.int .u8 58,.int .u8 108,.int .u8 101,.int .u8 102,.int .u8 116,.int .u8 123,.int .u8 109,.int .u8 97,.int .u8 114,.int .u8 103,.int .u8 105,.int .u8 110,.int .u8 58,.int .u8 49,.int .u8 101,.int .u8 109,.int .u8 59,.int .u8 64,.int .u8 116,.int .u8 111,.int .u8 112,.int .u8 45,.int .u8 108,.int .u8 101,.int .u8 102,.int .u8 116,.int .u8 123,.int .u8 99,.int .u8 111,.int .u8 110,.int .u8 116,.int .u8 101,.int .u8 110,.int .u8 116,.int .u8 58,.int .u8 39,.int .u8 120,.int .u8 39,.int .u8 125,.int .u8 125] 5 (69,70))).heap.size=w.heap.size+1:=by simp
 have hb0:Below w.heap.size w (w.alloc (.cells #[.int .u8 97,.int .u8 123,.int .u8 98,.int .u8 58,.int .u8 99,.int .u8 33,.int .u8 105,.int .u8 109,.int .u8 112,.int .u8 111,.int .u8 114,.int .u8 116,.int .u8 97,.int .u8 110,.int .u8 116,.int .u8 59,.int .u8 100,.int .u8 125,.int .u8 64,.int .u8 120,.int .u8 32,.int .u8 121,.int .u8 59,.int .u8 64,.int .u8 112,.int .u8 97,.int .u8 103,.int .u8 101,.int .u8 32,.int .u8 58,.int .u8 108,.int .u8 101,.int .u8 102,.int .u8 116,.int .u8 123,.int .u8 109,.int .u8 97,.int .u8 114,.int .u8 103,.int .u8 105,.int .u8 110,.int .u8 58,.int .u8 49,.int .u8 101,.int .u8 109,.int .u8 59,.int .u8 64,.int .u8 116,.int .u8 111,.int .u8 112,.int .u8 45,.int .u8 108,.int .u8 101,.int .u8 102,.int .u8 116,.int .u8 123,.int .u8 99,.int .u8 111,.int .u8 110,.int .u8 116,.int .u8 101,.int .u8 110,.int .u8 116,.int .u8 58,.int .u8 39,.int .u8 120,.int .u8 39,.int .u8 125,.int .u8 125] 5 (69,70))):=(Below.refl _ _).alloc (Nat.le_refl _) _;have hrd:=hrow.reads (B:=w.heap.size+1) (by omega)
 refine(ru_parse awS _ 69 69 _ (by rw[hsz];exact hrd) (Nat.le_refl _) (by unfold maxLen;omega) (hT.below hb0) (hE.below hb0) (hB.below hb0)).mono ?_
 rintro e w1 ⟨hb1,hret⟩;have hb2:Below w.heap.size w w1:=hb0.trans (hb1.mono (by rw[hsz];omega));rw[aw_scan,if_neg (by decide),aw_parse,if_pos rfl] at hret
 have hret':∃ A c,e=.returned (.tuple #[.slice A 2 c,.int .i64 0])∧RulesS w1 (· < w1.heap.size) A 2 awR:=by
  obtain⟨A,c,h1,h2⟩:=hret
  exact⟨A,c,h1,h2.more (fun b hb=>hb.2)⟩
 obtain⟨A,c,rfl,hR1⟩:=hret';obtain⟨b1,off1,A11,c11,A12,c12,A13,c13,r1,hA,_,h1r,x0,x1,x2,x3,_,hD1,_⟩:=hR1.at_ (k:=0) (by omega);subst hA;have e1:r1=⟨1,[⟨2,[97],0⟩],[⟨[98],[⟨2,[99],0⟩],true⟩],[]⟩:=by have h2:=h1r;injection h2 with h2;exact h2.symm
 subst e1;obtain⟨b2,off2,A21,c21,A22,c22,A23,c23,r2,hA,_,h2r,y0,y1,y2,y3,_,_,_⟩:=hR1.at_ (k:=1) (by omega)
 injection hA with hA
 injection hA with q1 q2
 subst q1 q2;have e2:r2=⟨2,[⟨14,[],0⟩,⟨2,[108,101,102,116],0⟩],[⟨[109,97,114,103,105,110],[⟨10,[101,109],1000⟩],false⟩],[⟨[116,111,112,45,108,101,102,116],[⟨[99,111,110,116,101,110,116],[⟨6,[120],0⟩],false⟩]⟩]⟩:=by have h2:=h2r;injection h2 with h2;exact h2.symm
 subst e2;simp only[List.length_cons,List.length_nil] at x0 x1 x2 x3 y0 y1 y2 y3 hD1;obtain⟨b3,off3,A31,c31,d1,hA,_,h3r,z0,z1,z2,_⟩:=hD1.at_ (k:=0) (by omega);subst hA;have e3:d1=⟨[98],[⟨2,[99],0⟩],true⟩:=by have h2:=h3r;injection h2 with h2;exact h2.symm
 subst e3;have cX:=fun W hb=>ru_box [76,101,102,116,45,84,111,112] W (by decide) (hB.below (w':=W) hb)
 rw[aw_box] at cX;have cBs:=fun W hb=>ru_boxes W (hB.below (w':=W) hb)
 simp only[Nat.zero_mul,Nat.one_mul,Nat.add_zero,Nat.zero_add,Nat.reduceAdd] at x0 x1 x2 x3 y0 y1 y2 y3 z0 z1 z2;clear hret hR1 hrow hrd h1r h2r h3r hD1 hb1 hb0 hsz
 go_wp2_with fail
 refine(cX w1 hb2).mono ?_
 rintro e w2 ⟨rfl,hb3⟩;have hb3':=hb2.trans (hb3.mono hb2.size);have cB2:=cBs w2 hb3';clear cX cBs
 go_wp2_with fail
 refine cB2.mono ?_
 rintro e w3 ⟨⟨A5,c5,rfl,_⟩,hb4⟩;have hb4':=hb3'.trans (hb4.mono hb3'.size)
 go_wp2_with fail
 go_ret
 exact⟨rfl,hb4'⟩
end Go.Proofs.YtfhdihdafmahgaaGreatDoor
namespace Go.Proofs.YtfhdihdafmahgaaGreatDoor
open Go.RowKit Rn Tp Ru
theorem ru_index (l:List (List UInt8)) (x:List UInt8) (A:Option Addr) (n c:Nat) (w:World) (h:ReadsS w (· < w.heap.size) 1 A n (l.map strV)) (hn:n≤1000000) :
  Calls Tryz.prog 115 #[.slice A n c,.string (bytesOf x)] w fun e w'=>(∃ i:Int,e=.returned (.int .i64 i)∧decide (0≤i)=decide (x∈l))∧w'=w:=by
 have hlen:l.length=n:=by have:=h.1;simpa using this
 have Hlen:=Lib.hid hlen;clear hlen
 go_enter Tryz.func115,Tryz.ntmps115
 go_wp2_with fail
 go_loopw [8] (fun i wr=>∃ k:Nat,k≤n∧i=.int .i64 (k:Int)∧Hid (∀ j<k,l[j]?≠some x)∧w=wr) (fun i _=>n-(intOf i).toNat)
 case atStart=>exact⟨0,by omega,rfl,(fun j hj=>absurd hj (Nat.not_lt_zero _)),rfl⟩
 case round =>
  obtain⟨k,hk,rfl,hno,rfl⟩:=hrel
  by_cases hlt:k<n
  ·have dk:(k:Int)<(n:Int):=by omega
   have dk0:(0:Int)≤(k:Int):=by omega
   obtain⟨y,hy⟩:∃ y,l[k]?=some y:=⟨_,List.getElem?_eq_getElem (by rw[Hlen.out];exact hlt)⟩;obtain⟨b,off,rfl,hb,hc⟩:=h.2 (by omega);have c0:=hc k (strV y) (by rw[List.getElem?_map,hy];rfl);have hs:=str_cmp x y;obtain⟨q,hq⟩:∃ q,decide (x=y)=q:=⟨_,rfl⟩;rw[hq] at hs;have Hq:=Lib.hid hq;have Hy:=Lib.hid hy;have wk:IntKind.i64.wrap ((k:Int)+1)=(k:Int)+1:=by rw[IntKind.wrap_i64];omega
   clear hq hy hc
   cases q with
   | true =>
    have hm:decide ((0:Int)≤(k:Int))=decide (x∈l):=by
     rw[decide_eq_true dk0]
     exact(decide_eq_true (by rw[of_decide_eq_true Hq.out];exact List.mem_of_getElem? Hy.out)).symm
    have HM:=Lib.hid hm;clear hm hno
    go_wp2_with fail
    go_ret
    exact⟨⟨_,rfl,by first | exact HM.out | exact decide_eq_decide.1 HM.out⟩,by first | rfl | trivial⟩
   | false =>
    have hno':Hid (∀ j<k+1,l[j]?≠some x):=fun j hj e=>by
     by_cases hjk:j<k
     ·exact hno.out j hjk e
     ·obtain rfl:j=k:=by omega
      rw[Hy.out] at e
      injection e with e
      exact of_decide_eq_false Hq.out e.symm
    clear hno
    go_wp2_with fail
    go_roundw
    case rel=>exact⟨k+1,by omega,by go_num,hno',by first | rfl | trivial⟩
    case measure=>simp[intOf];omega
  ·obtain rfl:k=n:=by omega
   have dk:¬ (k:Int)<(k:Int):=by omega
   have hm:decide ((0:Int)≤(-1:Int))=decide (x∈l):=by
    rw[decide_eq_false (by omega)]
    refine(decide_eq_false (fun hx=>?_)).symm
    obtain⟨j,hj⟩:=List.mem_iff_getElem?.1 hx
    exact hno.out j (by rw[←Hlen.out];exact(List.getElem?_eq_some_iff.1 hj).1) hj
   have HM:=Lib.hid hm;clear hm hno
   go_wp2_with fail
   go_ret
   exact⟨⟨_,rfl,by first | exact HM.out | exact decide_eq_decide.1 HM.out⟩,by first | rfl | trivial⟩
theorem ru_contains (l:List (List UInt8)) (x:List UInt8) (A:Option Addr) (n c:Nat) (w:World) (h:ReadsS w (· < w.heap.size) 1 A n (l.map strV)) (hn:n≤1000000) :
  Calls Tryz.prog 81 #[.slice A n c,.string (bytesOf x)] w fun e w'=>e=.returned (.bool (decide (x∈l)))∧w'=w:=by
 have cI:=ru_index l x A n c w h hn
 go_enter Tryz.func81,Tryz.ntmps81
 go_wp2_with fail
 refine cI.mono ?_
 rintro e w1 ⟨⟨i,rfl,hi⟩,rfl⟩;have Hi:=Lib.hid hi;clear hi cI
 go_wp2_with fail
 go_ret
 exact⟨ret_bool Hi.out,by first | rfl | trivial⟩
noncomputable def rightAsk:Code:=(regionR 10 (Tryz.f51.body.getD .skip)).getD .skip
theorem ru_right_ask {wX:World} {g:Nat} {m:Margin} {A4:Option Addr} {c4:Nat} (u0 u1 u2 u3 u4 u5 u7 u8 u9 u10 u11 u12 u13 u14 u15 u16 u17 u18 u19 u20 u21 u22 u23 u24 u25 u26 u27 u28 u29 u30 u31 u32 u33 u34 u35 u36 u37 u38 u39 u40 u41 u42 u43 u44 u45 u46 u47 u48 u49 u50 u51 u52 u53 u54 u55 u56 u57 u58 u59 u60 u61 u62 u63 u64 u65 u66 u67 u68 u69 u70 u71 u72 u73:Value)
  (rX:RowAt wX g [.string (bytesOf m.name),.slice A4 m.decls.length c4]) (hX:DeclsK wX (· < wX.heap.size) A4 m.decls.length m.decls) (hn:m.decls.length≤1000) (hs:∀ d∈m.decls,okDecl d) (hT:Tabs wX) (hB:Boxed wX) :
  Code.wp Tryz.prog rightAsk (fun e' a W=>match e' with
   | .normal=>(∃ v54 v55 v56 v57 v58 v59 v60 v61 v62 v63:Value,a=⟨(List.toArray (u0::u1::u2::u3::u4::u5::Value.pointer (some ⟨g,0,none⟩)::u7::u8::u9::u10::u11::u12::u13::u14::u15::u16::u17::u18::u19::u20::u21::u22::u23::u24::u25::u26::u27::u28::u29::u30::u31::u32::u33::u34::u35::u36::u37::u38::u39::u40::u41::u42::u43::u44::u45::u46::u47::u48::u49::u50::u51::u52::u53::v54::v55::v56::v57::v58::v59::v60::v61::v62::v63::Value.bool (!marginB m)::u65::u66::u67::u68::u69::u70::u71::u72::u73::[])),[]⟩)∧Below wX.heap.size wX W
   | _=>False) ⟨(List.toArray (u0::u1::u2::u3::u4::u5::Value.pointer (some ⟨g,0,none⟩)::u7::u8::u9::u10::u11::u12::u13::u14::u15::u16::u17::u18::u19::u20::u21::u22::u23::u24::u25::u26::u27::u28::u29::u30::u31::u32::u33::u34::u35::u36::u37::u38::u39::u40::u41::u42::u43::u44::u45::u46::u47::u48::u49::u50::u51::u52::u53::u54::u55::u56::u57::u58::u59::u60::u61::u62::u63::u64::u65::u66::u67::u68::u69::u70::u71::u72::u73::[])),[]⟩ wX:=by
 conv=>arg 2;whnf
 have hgl:g<wX.heap.size:=rX.1;have r0:RowAt wX.drew g [.string (bytesOf m.name),.slice A4 m.decls.length c4]:=rX;have hX0:DeclsK wX.drew (· < wX.drew.heap.size) A4 m.decls.length m.decls:=hX;have cB:=ru_boxes wX.drew (hB.below (Below.refl _ _).drew);obtain⟨k0,_⟩:=r0.2 0 _ rfl;obtain⟨k1,_⟩:=r0.2 1 _ rfl;have cDm:=fun (W:World) (hb':Below wX.heap.size wX.drew W)=>ru_declares m.decls A4 m.decls.length c4 W (hX0.below hb') hn hs (hT.below ((Below.refl _ _).drew.trans hb'))
 obtain⟨q1,hq1⟩:∃ q,decide (m.name∈boxes)=q:=⟨_,rfl⟩;obtain⟨q2,hq2⟩:∃ q,m.decls.all declB=q:=⟨_,rfl⟩;have hmb:marginB m=(q1&&q2):=by rw[←hq1,←hq2];rfl
 simp only[hq2] at cDm;have Hq1:=Lib.hid hq1;have Hmb:=Lib.hid hmb;clear hq1 hq2 hmb hX hX0
 cases q1 with
 | false =>
  refine wp_region_any (by kernel_rfl) ?_
  try(change wpAny _ _ _ _ _ _ _ (World.drew _))
  refine wpAny_take (i:=1) (v:=?_) rfl (by kernel_rfl) (by kernel_rfl) (by kernel_rfl) (fun _ _ _ h=>h) (Or.inl ⟨by kernel_rfl,?_⟩) ?_
  rotate_left
  ·intro w;go_simp;(try with_reducible rfl)
  refine wpAny_ready (rs:=[0,2]) (by kernel_rfl) (by simp) ?_
  refine AllReady.cons rfl (fun K hK=>?_) ?_
  ·go_simp
   go_wp2_with (first | (refine cB.mono ?_;rintro e5 w5 ⟨⟨A5,c5,rfl,hR5⟩,hb5⟩;have hb5':Below wX.heap.size wX.drew w5:=hb5;have s5:=hb5'.size;have cC:=ru_contains boxes m.name A5 16 c5 w5 (hR5.more (fun b h=>h.2)) (by omega);rw[Hq1.out] at cC;obtain⟨y0,_⟩:=(r0.below hb5' hgl).2 0 _ rfl;obtain⟨y1,_⟩:=(r0.below hb5' hgl).2 1 _ rfl) | (go_at_call 20;refine cB.mono ?_;rintro e5 w5 ⟨⟨A5,c5,rfl,hR5⟩,hb5⟩;have hb5':Below wX.heap.size wX.drew w5:=hb5;have s5:=hb5'.size;have cC:=ru_contains boxes m.name A5 16 c5 w5 (hR5.more (fun b h=>h.2)) (by omega);rw[Hq1.out] at cC;obtain⟨y0,_⟩:=(r0.below hb5' hgl).2 0 _ rfl;obtain⟨y1,_⟩:=(r0.below hb5' hgl).2 1 _ rfl))
   (try(refine hK _ _ ?_;clear hK K))
   refine wpAny_ready (rs:=[2]) (by kernel_rfl) (by simp) ?_
   refine AllReady.cons rfl (fun K hK=>?_) ?_
   ·go_simp
    (try(refine hK _ _ ?_;clear hK K))
    refine wpAny_ready (rs:=[3]) (by kernel_rfl) (by simp) ?_
    refine AllReady.cons rfl (fun K hK=>?_) ?_
    ·go_simp
     go_wp2_with (first | (refine cC.mono ?_;rintro e6 w6 ⟨rfl,rfl⟩) | (go_at_call 81;refine cC.mono ?_;rintro e6 w6 ⟨rfl,rfl⟩))
     (try(refine hK _ _ ?_;clear hK K))
     refine wpAny_take (i:=4) (v:=?_) rfl (by kernel_rfl) (by kernel_rfl) (by kernel_rfl) (fun _ _ _ h=>h) (Or.inl ⟨by kernel_rfl,?_⟩) ?_
     rotate_left
     ·intro w;go_simp;(try with_reducible rfl)
     refine wpAny_take (i:=5) (v:=?_) rfl (by kernel_rfl) (by kernel_rfl) (by kernel_rfl) (fun _ _ _ h=>h) (Or.inl ⟨by kernel_rfl,?_⟩) ?_
     rotate_left
     ·intro w;go_simp;(try with_reducible rfl)
     refine wpAny_take (i:=6) (v:=undef) rfl (by kernel_rfl) (by kernel_rfl) (by kernel_rfl) (fun _ _ _ h=>h) (Or.inr ⟨by kernel_rfl,rfl⟩) ?_
     refine wpAny_take (i:=7) (v:=undef) rfl (by kernel_rfl) (by kernel_rfl) (by kernel_rfl) (fun _ _ _ h=>h) (Or.inr ⟨by kernel_rfl,rfl⟩) ?_
     refine wpAny_take (i:=8) (v:=undef) rfl (by kernel_rfl) (by kernel_rfl) (by kernel_rfl) (fun _ _ _ h=>h) (Or.inr ⟨by kernel_rfl,rfl⟩) ?_
     refine wpAny_take (i:=9) (v:=undef) rfl (by kernel_rfl) (by kernel_rfl) (by kernel_rfl) (fun _ _ _ h=>h) (Or.inr ⟨by kernel_rfl,rfl⟩) ?_
     refine wpAny_take (i:=10) (v:=?_) rfl (by kernel_rfl) (by kernel_rfl) (by kernel_rfl) (fun _ _ _ h=>h) (Or.inl ⟨by kernel_rfl,?_⟩) ?_
     rotate_left
     ·intro w;go_simp;(try with_reducible rfl)
     refine wpAny_done (by kernel_rfl) ?_ _
     exact⟨⟨_,_,_,_,_,_,_,_,_,_,by rw[Hmb.out];first | rfl | simp⟩,(Below.refl _ _).drew.trans hb5'⟩
    ·exact AllReady.nil
   ·exact AllReady.nil
  ·refine AllReady.cons rfl (fun K hK=>?_) ?_
   ·go_simp
    (try(refine hK _ _ ?_;clear hK K))
    refine wpAny_ready (rs:=[0]) (by kernel_rfl) (by simp) ?_
    refine AllReady.cons rfl (fun K hK=>?_) ?_
    ·go_simp
     go_wp2_with (first | (refine cB.mono ?_;rintro e5 w5 ⟨⟨A5,c5,rfl,hR5⟩,hb5⟩;have hb5':Below wX.heap.size wX.drew w5:=hb5;have s5:=hb5'.size;have cC:=ru_contains boxes m.name A5 16 c5 w5 (hR5.more (fun b h=>h.2)) (by omega);rw[Hq1.out] at cC;obtain⟨y0,_⟩:=(r0.below hb5' hgl).2 0 _ rfl;obtain⟨y1,_⟩:=(r0.below hb5' hgl).2 1 _ rfl) | (go_at_call 20;refine cB.mono ?_;rintro e5 w5 ⟨⟨A5,c5,rfl,hR5⟩,hb5⟩;have hb5':Below wX.heap.size wX.drew w5:=hb5;have s5:=hb5'.size;have cC:=ru_contains boxes m.name A5 16 c5 w5 (hR5.more (fun b h=>h.2)) (by omega);rw[Hq1.out] at cC;obtain⟨y0,_⟩:=(r0.below hb5' hgl).2 0 _ rfl;obtain⟨y1,_⟩:=(r0.below hb5' hgl).2 1 _ rfl))
     (try(refine hK _ _ ?_;clear hK K))
     refine wpAny_ready (rs:=[3]) (by kernel_rfl) (by simp) ?_
     refine AllReady.cons rfl (fun K hK=>?_) ?_
     ·go_simp
      go_wp2_with (first | (refine cC.mono ?_;rintro e6 w6 ⟨rfl,rfl⟩) | (go_at_call 81;refine cC.mono ?_;rintro e6 w6 ⟨rfl,rfl⟩))
      (try(refine hK _ _ ?_;clear hK K))
      refine wpAny_take (i:=4) (v:=?_) rfl (by kernel_rfl) (by kernel_rfl) (by kernel_rfl) (fun _ _ _ h=>h) (Or.inl ⟨by kernel_rfl,?_⟩) ?_
      rotate_left
      ·intro w;go_simp;(try with_reducible rfl)
      refine wpAny_take (i:=5) (v:=?_) rfl (by kernel_rfl) (by kernel_rfl) (by kernel_rfl) (fun _ _ _ h=>h) (Or.inl ⟨by kernel_rfl,?_⟩) ?_
      rotate_left
      ·intro w;go_simp;(try with_reducible rfl)
      refine wpAny_take (i:=6) (v:=undef) rfl (by kernel_rfl) (by kernel_rfl) (by kernel_rfl) (fun _ _ _ h=>h) (Or.inr ⟨by kernel_rfl,rfl⟩) ?_
      refine wpAny_take (i:=7) (v:=undef) rfl (by kernel_rfl) (by kernel_rfl) (by kernel_rfl) (fun _ _ _ h=>h) (Or.inr ⟨by kernel_rfl,rfl⟩) ?_
      refine wpAny_take (i:=8) (v:=undef) rfl (by kernel_rfl) (by kernel_rfl) (by kernel_rfl) (fun _ _ _ h=>h) (Or.inr ⟨by kernel_rfl,rfl⟩) ?_
      refine wpAny_take (i:=9) (v:=undef) rfl (by kernel_rfl) (by kernel_rfl) (by kernel_rfl) (fun _ _ _ h=>h) (Or.inr ⟨by kernel_rfl,rfl⟩) ?_
      refine wpAny_take (i:=10) (v:=?_) rfl (by kernel_rfl) (by kernel_rfl) (by kernel_rfl) (fun _ _ _ h=>h) (Or.inl ⟨by kernel_rfl,?_⟩) ?_
      rotate_left
      ·intro w;go_simp;(try with_reducible rfl)
      refine wpAny_done (by kernel_rfl) ?_ _
      exact⟨⟨_,_,_,_,_,_,_,_,_,_,by rw[Hmb.out];first | rfl | simp⟩,(Below.refl _ _).drew.trans hb5'⟩
     ·exact AllReady.nil
    ·exact AllReady.nil
   ·exact AllReady.nil
 | true =>
  refine wp_region_any (by kernel_rfl) ?_
  try(change wpAny _ _ _ _ _ _ _ (World.drew _))
  refine wpAny_take (i:=1) (v:=?_) rfl (by kernel_rfl) (by kernel_rfl) (by kernel_rfl) (fun _ _ _ h=>h) (Or.inl ⟨by kernel_rfl,?_⟩) ?_
  rotate_left
  ·intro w;go_simp;(try with_reducible rfl)
  refine wpAny_ready (rs:=[0,2]) (by kernel_rfl) (by simp) ?_
  refine AllReady.cons rfl (fun K hK=>?_) ?_
  ·go_simp
   go_wp2_with (first | (refine cB.mono ?_;rintro e5 w5 ⟨⟨A5,c5,rfl,hR5⟩,hb5⟩;have hb5':Below wX.heap.size wX.drew w5:=hb5;have s5:=hb5'.size;have cC:=ru_contains boxes m.name A5 16 c5 w5 (hR5.more (fun b h=>h.2)) (by omega);rw[Hq1.out] at cC;obtain⟨y0,_⟩:=(r0.below hb5' hgl).2 0 _ rfl;obtain⟨y1,_⟩:=(r0.below hb5' hgl).2 1 _ rfl) | (go_at_call 20;refine cB.mono ?_;rintro e5 w5 ⟨⟨A5,c5,rfl,hR5⟩,hb5⟩;have hb5':Below wX.heap.size wX.drew w5:=hb5;have s5:=hb5'.size;have cC:=ru_contains boxes m.name A5 16 c5 w5 (hR5.more (fun b h=>h.2)) (by omega);rw[Hq1.out] at cC;obtain⟨y0,_⟩:=(r0.below hb5' hgl).2 0 _ rfl;obtain⟨y1,_⟩:=(r0.below hb5' hgl).2 1 _ rfl))
   (try(refine hK _ _ ?_;clear hK K))
   refine wpAny_ready (rs:=[2]) (by kernel_rfl) (by simp) ?_
   refine AllReady.cons rfl (fun K hK=>?_) ?_
   ·go_simp
    (try(refine hK _ _ ?_;clear hK K))
    refine wpAny_ready (rs:=[3]) (by kernel_rfl) (by simp) ?_
    refine AllReady.cons rfl (fun K hK=>?_) ?_
    ·go_simp
     go_wp2_with (first | (refine cC.mono ?_;rintro e6 w6 ⟨rfl,rfl⟩) | (go_at_call 81;refine cC.mono ?_;rintro e6 w6 ⟨rfl,rfl⟩))
     (try(refine hK _ _ ?_;clear hK K))
     refine wpAny_take (i:=4) (v:=?_) rfl (by kernel_rfl) (by kernel_rfl) (by kernel_rfl) (fun _ _ _ h=>h) (Or.inl ⟨by kernel_rfl,?_⟩) ?_
     rotate_left
     ·intro w;go_simp;(try with_reducible rfl)
     refine wpAny_take (i:=5) (v:=?_) rfl (by kernel_rfl) (by kernel_rfl) (by kernel_rfl) (fun _ _ _ h=>h) (Or.inl ⟨by kernel_rfl,?_⟩) ?_
     rotate_left
     ·intro w;go_simp;(try with_reducible rfl)
     refine wpAny_take (i:=6) (v:=?_) rfl (by kernel_rfl) (by kernel_rfl) (by kernel_rfl) (fun _ _ _ h=>h) (Or.inl ⟨by kernel_rfl,?_⟩) ?_
     rotate_left
     ·intro w;go_simp;(try with_reducible rfl)
     refine wpAny_ready (rs:=[7]) (by kernel_rfl) (by simp) ?_
     refine AllReady.cons rfl (fun K hK=>?_) ?_
     ·go_simp
      (try(refine hK _ _ ?_;clear hK K))
      refine wpAny_ready (rs:=[8]) (by kernel_rfl) (by simp) ?_
      refine AllReady.cons rfl (fun K hK=>?_) ?_
      ·go_simp
       go_wp2_with (first | (refine(cDm _ hb5').mono ?_;rintro e7 w7 ⟨rfl,hb7⟩;have hb7':=hb5'.trans (hb7.mono s5)) | (go_at_call 80;refine(cDm _ hb5').mono ?_;rintro e7 w7 ⟨rfl,hb7⟩;have hb7':=hb5'.trans (hb7.mono s5)))
       (try(refine hK _ _ ?_;clear hK K))
       refine wpAny_take (i:=9) (v:=?_) rfl (by kernel_rfl) (by kernel_rfl) (by kernel_rfl) (fun _ _ _ h=>h) (Or.inl ⟨by kernel_rfl,?_⟩) ?_
       rotate_left
       ·intro w;go_simp;(try with_reducible rfl)
       refine wpAny_take (i:=10) (v:=?_) rfl (by kernel_rfl) (by kernel_rfl) (by kernel_rfl) (fun _ _ _ h=>h) (Or.inl ⟨by kernel_rfl,?_⟩) ?_
       rotate_left
       ·intro w;go_simp;(try with_reducible rfl)
       refine wpAny_done (by kernel_rfl) ?_ _
       exact⟨⟨_,_,_,_,_,_,_,_,_,_,by rw[Hmb.out];first | rfl | simp⟩,(Below.refl _ _).drew.trans hb7'⟩
      ·exact AllReady.nil
     ·exact AllReady.nil
    ·exact AllReady.nil
   ·exact AllReady.nil
  ·refine AllReady.cons rfl (fun K hK=>?_) ?_
   ·go_simp
    (try(refine hK _ _ ?_;clear hK K))
    refine wpAny_ready (rs:=[0]) (by kernel_rfl) (by simp) ?_
    refine AllReady.cons rfl (fun K hK=>?_) ?_
    ·go_simp
     go_wp2_with (first | (refine cB.mono ?_;rintro e5 w5 ⟨⟨A5,c5,rfl,hR5⟩,hb5⟩;have hb5':Below wX.heap.size wX.drew w5:=hb5;have s5:=hb5'.size;have cC:=ru_contains boxes m.name A5 16 c5 w5 (hR5.more (fun b h=>h.2)) (by omega);rw[Hq1.out] at cC;obtain⟨y0,_⟩:=(r0.below hb5' hgl).2 0 _ rfl;obtain⟨y1,_⟩:=(r0.below hb5' hgl).2 1 _ rfl) | (go_at_call 20;refine cB.mono ?_;rintro e5 w5 ⟨⟨A5,c5,rfl,hR5⟩,hb5⟩;have hb5':Below wX.heap.size wX.drew w5:=hb5;have s5:=hb5'.size;have cC:=ru_contains boxes m.name A5 16 c5 w5 (hR5.more (fun b h=>h.2)) (by omega);rw[Hq1.out] at cC;obtain⟨y0,_⟩:=(r0.below hb5' hgl).2 0 _ rfl;obtain⟨y1,_⟩:=(r0.below hb5' hgl).2 1 _ rfl))
     (try(refine hK _ _ ?_;clear hK K))
     refine wpAny_ready (rs:=[3]) (by kernel_rfl) (by simp) ?_
     refine AllReady.cons rfl (fun K hK=>?_) ?_
     ·go_simp
      go_wp2_with (first | (refine cC.mono ?_;rintro e6 w6 ⟨rfl,rfl⟩) | (go_at_call 81;refine cC.mono ?_;rintro e6 w6 ⟨rfl,rfl⟩))
      (try(refine hK _ _ ?_;clear hK K))
      refine wpAny_take (i:=4) (v:=?_) rfl (by kernel_rfl) (by kernel_rfl) (by kernel_rfl) (fun _ _ _ h=>h) (Or.inl ⟨by kernel_rfl,?_⟩) ?_
      rotate_left
      ·intro w;go_simp;(try with_reducible rfl)
      refine wpAny_take (i:=5) (v:=?_) rfl (by kernel_rfl) (by kernel_rfl) (by kernel_rfl) (fun _ _ _ h=>h) (Or.inl ⟨by kernel_rfl,?_⟩) ?_
      rotate_left
      ·intro w;go_simp;(try with_reducible rfl)
      refine wpAny_take (i:=6) (v:=?_) rfl (by kernel_rfl) (by kernel_rfl) (by kernel_rfl) (fun _ _ _ h=>h) (Or.inl ⟨by kernel_rfl,?_⟩) ?_
      rotate_left
      ·intro w;go_simp;(try with_reducible rfl)
      refine wpAny_ready (rs:=[7]) (by kernel_rfl) (by simp) ?_
      refine AllReady.cons rfl (fun K hK=>?_) ?_
      ·go_simp
       (try(refine hK _ _ ?_;clear hK K))
       refine wpAny_ready (rs:=[8]) (by kernel_rfl) (by simp) ?_
       refine AllReady.cons rfl (fun K hK=>?_) ?_
       ·go_simp
        go_wp2_with (first | (refine(cDm _ hb5').mono ?_;rintro e7 w7 ⟨rfl,hb7⟩;have hb7':=hb5'.trans (hb7.mono s5)) | (go_at_call 80;refine(cDm _ hb5').mono ?_;rintro e7 w7 ⟨rfl,hb7⟩;have hb7':=hb5'.trans (hb7.mono s5)))
        (try(refine hK _ _ ?_;clear hK K))
        refine wpAny_take (i:=9) (v:=?_) rfl (by kernel_rfl) (by kernel_rfl) (by kernel_rfl) (fun _ _ _ h=>h) (Or.inl ⟨by kernel_rfl,?_⟩) ?_
        rotate_left
        ·intro w;go_simp;(try with_reducible rfl)
        refine wpAny_take (i:=10) (v:=?_) rfl (by kernel_rfl) (by kernel_rfl) (by kernel_rfl) (fun _ _ _ h=>h) (Or.inl ⟨by kernel_rfl,?_⟩) ?_
        rotate_left
        ·intro w;go_simp;(try with_reducible rfl)
        refine wpAny_done (by kernel_rfl) ?_ _
        exact⟨⟨_,_,_,_,_,_,_,_,_,_,by rw[Hmb.out];first | rfl | simp⟩,(Below.refl _ _).drew.trans hb7'⟩
       ·exact AllReady.nil
      ·exact AllReady.nil
     ·exact AllReady.nil
    ·exact AllReady.nil
   ·exact AllReady.nil
end Go.Proofs.YtfhdihdafmahgaaGreatDoor
