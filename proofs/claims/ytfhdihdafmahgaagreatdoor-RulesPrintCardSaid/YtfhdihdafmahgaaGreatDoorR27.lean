import Derived.Test.YtfhdihdafmahgaaGreatDoorR24
import Derived.Lib.Bytealg
import Derived.Lib.OthersKept
import Derived.Test.YtfhdihdafmahgaaGreatDoorR11
import Derived.Test.YtfhdihdafmahgaaGreatDoorR23
set_option linter.unusedVariables false
set_option linter.unusedSimpArgs false
set_option maxRecDepth 100000
set_option maxHeartbeats 8000000
namespace Go.Proofs.YtfhdihdafmahgaaGreatDoor
open Go.RowKit Rn Tp
namespace Tp
def plainB (l:List UInt8):Bool:=match utfP l with
 | none=>false
 | some cs=>!decide ((0:Int)∈cs)
end Tp
theorem index_mem (l:List UInt8) (b:UInt8):(0≤Lib.indexByte l b)↔b∈l:=by
 induction l with
 | nil=>simp[Lib.indexByte]
 | cons c l ih =>
  have hg:=Lib.indexByte_ge l b;unfold Lib.indexByte
  by_cases h:c=b
  ·subst h;simp
  ·simp only[List.mem_cons]
   rw[if_neg (by simpa using h)];have hb:¬ b=c:=fun e=>h e.symm
   simp only[hb,false_or];rw[←ih]
   split
   ·rename_i h1
    have h1:Lib.indexByte l b=-1:=by simpa using h1
    omega
   ·rename_i h1
    have h1:¬ Lib.indexByte l b=-1:=by simpa using h1
    omega
theorem enc_zero {c:Int} (hc:isB c=true):(0:UInt8)∈Lib.encodeRune c↔c=0:=by
 have hr:=isB_range' hc;have hc':0≤c∧c≤1114111∧(c<55296∨57343<c):=by simpa [isB] using hc
 constructor
 ·intro h
  by_cases c1:c<128
  ·have e:Lib.encodeRune c=[c.toNat.toUInt8]:=by simp[Lib.encodeRune,Lib.encodeRuneZ_one hr.1 (by omega:c≤127)]
   have g0:=b_of c hr.1 (by omega);rw[e] at h;have:(0:UInt8)=c.toNat.toUInt8:=by simpa using h
   rw[←this] at g0;have:(0:UInt8).toNat=0:=rfl
   omega
  ·exfalso
   by_cases c2:c<2048
   ·have e:Lib.encodeRune c=[(192+c / 64).toNat.toUInt8,(128+c % 64).toNat.toUInt8]:=by simp[Lib.encodeRune,Lib.encodeRuneZ_two (by omega:128≤c) (by omega)]
    have g0:=b_of (192+c / 64) (by omega) (by omega);have g1:=b_of (128+c % 64) (by omega) (by omega);rw[e] at h;have z:(0:UInt8).toNat=0:=rfl;simp only[List.mem_cons,List.not_mem_nil,or_false] at h
    rcases h with h|h
    ·rw[←h] at g0;omega
    ·rw[←h] at g1;omega
   ·by_cases c3:c<65536
    ·have e:Lib.encodeRune c=[(224+c / 4096).toNat.toUInt8,(128+c / 64 % 64).toNat.toUInt8,(128+c % 64).toNat.toUInt8]:=by simp[Lib.encodeRune,Lib.encodeRuneZ_three (r:=c) (by omega)]
     have g0:=b_of (224+c / 4096) (by omega) (by omega);have g1:=b_of (128+c / 64 % 64) (by omega) (by omega);have g2:=b_of (128+c % 64) (by omega) (by omega);rw[e] at h;have z:(0:UInt8).toNat=0:=rfl;simp only[List.mem_cons,List.not_mem_nil,or_false] at h
     rcases h with h|h|h
     ·rw[←h] at g0;omega
     ·rw[←h] at g1;omega
     ·rw[←h] at g2;omega
    ·have e:Lib.encodeRune c=[(240+c / 262144).toNat.toUInt8,(128+c / 4096 % 64).toNat.toUInt8,(128+c / 64 % 64).toNat.toUInt8,(128+c % 64).toNat.toUInt8]:=by simp[Lib.encodeRune,Lib.encodeRuneZ_four (by omega:65536≤c) (by omega)]
     have g0:=b_of (240+c / 262144) (by omega) (by omega);have g1:=b_of (128+c / 4096 % 64) (by omega) (by omega);have g2:=b_of (128+c / 64 % 64) (by omega) (by omega);have g3:=b_of (128+c % 64) (by omega) (by omega);rw[e] at h;have z:(0:UInt8).toNat=0:=rfl;simp only[List.mem_cons,List.not_mem_nil,or_false] at h
     rcases h with h|h|h|h
     ·rw[←h] at g0;omega
     ·rw[←h] at g1;omega
     ·rw[←h] at g2;omega
     ·rw[←h] at g3;omega
 ·rintro rfl;decide
theorem zero_write:∀ (cs:List Int),(∀ c∈cs,isB c=true)→((0:UInt8)∈writeP cs↔(0:Int)∈cs)
 | [],_=>by simp[writeP]
 | c::cs,h=>by
  have ih:=zero_write cs (fun d hd=>h d (by simp[hd]));have h0:=enc_zero (h c (by simp));have e:writeP (c::cs)=Lib.encodeRune c++writeP cs:=by simp[writeP]
  rw[e,List.mem_append,ih,h0,List.mem_cons]
  constructor
  ·rintro (h|h)
   ·exact .inl h.symm
   ·exact .inr h
  ·rintro (h|h)
   ·exact .inl h.symm
   ·exact .inr h
theorem tp_plain (l:List UInt8) (w:World) (hl:l.length≤maxLen) (hT:Tabs w) :
  Calls Tryz.prog 117 #[.string (bytesOf l)] w fun e w'=>e=.returned (.bool (plainB l))∧Below w.heap.size w w':=by
 have hz:=bytesOf_size l;unfold maxLen at hl;have hv:=Tryz.utf8_ValidString (bytesOf l) w (by omega) hT;rw[bytesOf_list,utf_valid] at hv;unfold plainB
 cases hu:utfP l with
 | none =>
  rw[hu] at hv;simp only[Option.isSome_none] at hv
  go_enter Tryz.func117,Tryz.ntmps117
  go_wp2_with fail
  refine hv.mono ?_
  rintro e w1 ⟨rfl,hb⟩
  go_wp2
  go_ret
  exact⟨rfl,hb⟩
 | some cs =>
  rw[hu] at hv;simp only[Option.isSome_some] at hv;obtain⟨u1,u2⟩:=utf_some hu;have hc:=fun w=>Tryz.strings_ContainsRune_ascii (bytesOf l) 0 w (by omega) (by omega)
  have hd:decide (0≤Lib.indexByte (bytesOf l).data.toList (0:Int).toNat.toUInt8)=decide ((0:Int)∈cs):=by
   rw[bytesOf_list,Bool.eq_iff_iff,decide_eq_true_iff,decide_eq_true_iff,index_mem,u1]
   exact zero_write cs u2
  rw[hd] at hc;clear hd u1 u2 hu
  show Calls _ _ _ _ fun e w'=>e=.returned (.bool (!decide ((0:Int)∈cs)))∧_
  generalize decide ((0:Int)∈cs)=m at *
  go_enter Tryz.func117,Tryz.ntmps117
  go_wp2_with fail
  refine hv.mono ?_
  rintro e w1 ⟨rfl,hb⟩
  go_wp2_with fail
  refine(hc w1).mono ?_
  rintro e w2 ⟨rfl,rfl⟩
  go_wp2
  go_ret
  exact⟨rfl,hb⟩
def oneS:List UInt8:=[34,39,40,41,91,93,123,125,58,59,44,12,13]
theorem oneS_at:∀ c:Fin 128,decide (0≤Lib.indexByte (bytesOf oneS).data.toList (c.val:Int).toNat.toUInt8)=decide ((c.val:Int)∈([34,39,40,41,91,93,123,125,58,59,44,12,13]:List Int)):=by decide +kernel
theorem tp_one (l:List UInt8) (cs:List Int) (w:World) (hl:l.length≤maxLen) (hT:Tabs w) (hu:utfP l=some cs) :
  Calls Tryz.prog 118 #[.string (bytesOf l)] w fun e w'=>e=.returned (.bool (kindB 11 cs))∧Below w.heap.size w w':=by
 have hz:=bytesOf_size l;unfold maxLen at hl;obtain⟨u1,u2⟩:=utf_some hu;have hd:=Tryz.utf8_DecodeRuneInString (bytesOf l) w hT
 cases cs with
 | nil =>
  have hn:l=[]:=by rw[u1];simp[writeP]
  subst hn;have e0:Lib.decodeGo (bytesOf [])=(65533,0):=by rfl
  rw[e0] at hd;obtain⟨s1,s2⟩:=str_none;clear u1 u2 hu
  show Calls _ _ _ _ fun e w'=>e=.returned (.bool false)∧_
  go_enter Tryz.func118,Tryz.ntmps118
  go_wp2_with fail
  refine hd.mono ?_
  rintro e w1 ⟨rfl,hb⟩
  go_wp2
  go_ret
  exact⟨rfl,hb⟩
 | cons c r =>
  have hc:=u2 c (by simp);have hcr:=isB_range' hc;have hw:l=Lib.encodeRune c++writeP r:=by rw[u1];simp[writeP]
  have hne:l≠[]:=by rw[hw];exact enc_ne c _
  have hdl:=decL_write c hc (writeP r);rw[←hw] at hdl
  have e0:Lib.decodeGo (bytesOf l)=(c.toNat,(Lib.encodeRune c).length):=by
   unfold Lib.decodeGo;have:=List.length_pos_iff.2 hne;rw[if_neg (by omega)]
   exact hdl
  rw[e0] at hd;have hel:=encode_len c;have hll:l.length=(Lib.encodeRune c).length+(writeP r).length:=by rw[hw,List.length_append]
  rw[show ((c.toNat:Nat):Int)=c by omega] at hd;obtain⟨s1,s2⟩:=str_some hne;obtain⟨k,hk⟩:∃ k,(Lib.encodeRune c).length=k:=⟨_,rfl⟩;rw[hk] at hd hel hll
  cases r with
  | cons d r =>
   have h2:0<(writeP (d::r)).length:=by
    have e:writeP (d::r)=Lib.encodeRune d++writeP r:=by simp[writeP]
    rw[e,List.length_append];have:=encode_len d;omega
   have tn:((k:Int) != ((bytesOf l).size:Int))=true:=by rw[hz];simp;omega
   clear u1 u2 hu hw hdl e0 hk
   show Calls _ _ _ _ fun e w'=>e=.returned (.bool false)∧_
   go_enter Tryz.func118,Tryz.ntmps118
   go_wp2_with fail
   refine hd.mono ?_
   rintro e w1 ⟨rfl,hb⟩
   go_wp2
   go_ret
   exact⟨rfl,hb⟩
  | nil =>
   have h2:(writeP []).length=0:=by simp[writeP]
   have tn:((k:Int) != ((bytesOf l).size:Int))=false:=by rw[hz];simp;omega
   clear u1 u2 hu hw hdl e0 hk
   show Calls _ _ _ _ fun e w'=>e=.returned (.bool (delimB c))∧_
   have hB:=fun w=>rn_begins c w
   have hW:=fun w=>rn_white c w
   have hD:=fun w=>rn_digit c w
   have hS:beginsB c=false→∀ w,Calls Tryz.prog 126 #[.string ⟨#[34,39,40,41,91,93,123,125,58,59,44,12,13]⟩,.int .i32 c] w fun e w'=>e=.returned (.bool (decide (c∈([34,39,40,41,91,93,123,125,58,59,44,12,13]:List Int))))∧w'=w:=by
    intro hb w
    have hlow:c<128:=by
     unfold beginsB at hb;rw[hc] at hb
     simp at hb;omega
    have h:=Tryz.strings_ContainsRune_ascii (bytesOf oneS) c w hcr.1 hlow;have h1:=oneS_at ⟨c.toNat,by omega⟩;have e:((c.toNat:Nat):Int)=c:=by omega
    simp only[e] at h1;rw[h1] at h
    exact h
   have hdel:delimB c=(!whiteB c&&!beginsB c&&!digitB c&&!decide (c∈([34,39,40,41,91,93,123,125,58,59,44,12,13]:List Int))):=by
    unfold delimB
    congr 1
    rw[Bool.eq_iff_iff];simp
   rw[hdel];generalize decide (c∈([34,39,40,41,91,93,123,125,58,59,44,12,13]:List Int))=m at *
   generalize whiteB c=b1 at *
   generalize beginsB c=b2 at *
   generalize digitB c=b3 at *
   clear hdel;have hun:(undef:Value)=.tuple #[]:=rfl
   cases b1 with
   | true =>
    go_enter Tryz.func118,Tryz.ntmps118
    go_wp2_with fail
    refine hd.mono ?_
    rintro e w1 ⟨rfl,hb⟩
    go_wp2_with fail
    refine(hW w1).mono ?_
    rintro e w2 ⟨rfl,rfl⟩
    go_wp2
    go_ret
    exact⟨rfl,hb⟩
   | false =>
    cases b2 with
    | true =>
     go_enter Tryz.func118,Tryz.ntmps118
     go_wp2_with fail
     refine hd.mono ?_
     rintro e w1 ⟨rfl,hb⟩
     go_wp2_with fail
     refine(hW w1).mono ?_
     rintro e w2 ⟨rfl,rfl⟩
     go_wp2_with fail
     refine(hB w1).mono ?_
     rintro e w2 ⟨rfl,rfl⟩
     go_wp2
     go_ret
     exact⟨rfl,hb⟩
    | false =>
     have hS2:=hS rfl;clear hS
     cases b3 with
     | true =>
      go_enter Tryz.func118,Tryz.ntmps118
      go_wp2_with fail
      refine hd.mono ?_
      rintro e w1 ⟨rfl,hb⟩
      go_wp2_with fail
      refine(hW w1).mono ?_
      rintro e w2 ⟨rfl,rfl⟩
      go_wp2_with fail
      refine(hB w1).mono ?_
      rintro e w2 ⟨rfl,rfl⟩
      go_wp2_with fail
      refine(hD w1).mono ?_
      rintro e w2 ⟨rfl,rfl⟩
      go_wp2
      go_ret
      exact⟨rfl,hb⟩
     | false =>
      go_enter Tryz.func118,Tryz.ntmps118
      go_wp2_with fail
      refine hd.mono ?_
      rintro e w1 ⟨rfl,hb⟩
      go_wp2_with fail
      refine(hW w1).mono ?_
      rintro e w2 ⟨rfl,rfl⟩
      go_wp2_with fail
      refine(hB w1).mono ?_
      rintro e w2 ⟨rfl,rfl⟩
      go_wp2_with fail
      refine(hD w1).mono ?_
      rintro e w2 ⟨rfl,rfl⟩
      go_wp2_with fail
      refine(hS2 w1).mono ?_
      rintro e w2 ⟨rfl,rfl⟩
      go_wp2
      go_ret
      exact⟨rfl,hb⟩
end Go.Proofs.YtfhdihdafmahgaaGreatDoor
namespace Go.Proofs.YtfhdihdafmahgaaGreatDoor
open Go.RowKit Rn Tp Fx
theorem str_not {l c:List UInt8} (h:l≠c):¬ (bytesOf l).toList=c∧((bytesOf l).toList==c)=false:=by
 rw[bytesOf_toList];exact⟨h,by simpa using h⟩
theorem str_is {l c:List UInt8} (h:l=c):(bytesOf l).toList=c∧((bytesOf l).toList==c)=true:=by
 rw[bytesOf_toList];exact⟨h,by simpa using h⟩
theorem utf_empty {l:List UInt8} {cs:List Int} (h:utfP l=some cs):l=[]↔cs=[]:=by
 obtain⟨h1,_⟩:=utf_some h
 constructor
 ·rintro rfl
  rw[utfP_nil] at h;injection h with h;exact h.symm
 ·rintro rfl
  rw[h1];simp[writeP]
theorem utf_low {l:List UInt8} {cs:List Int} (h:utfP l=some cs) (b:UInt8) (hb:b.toNat<128):l=[b]↔cs=[(b.toNat:Int)]:=by
 obtain⟨h1,h2⟩:=utf_some h
 constructor
 ·intro e
  have hw:writeP [(b.toNat:Int)]=[b]:=by rw[write_one,enc_low b hb]
  have hu:=utf_write [(b.toNat:Int)] (fun c hc=>by
   obtain rfl:c=(b.toNat:Int):=by simpa using hc
   unfold isB;simp;omega)
  rw[hw,←e,h] at hu
  injection hu
 ·rintro rfl
  rw[h1,write_one,enc_low b hb]
def badB (t:GTok):Bool:=(decide (t.n≠0)&&(decide (t.kind<8)||decide (10<t.kind)))||decide (t.n≠stopZ t.n)||!plainB t.text
theorem one_bad {t:GTok} (h:badB t=true):oneB t=false:=by
 unfold badB at h;unfold oneB;unfold plainB at h
 cases hu:utfP t.text with
 | none=>rfl
 | some l =>
  rw[hu] at h;simp only[] at h ⊢;rw[Bool.and_eq_false_iff,Bool.and_eq_false_iff]
  left
  simp only[Bool.or_eq_true,Bool.and_eq_true,decide_eq_true_eq,Bool.not_eq_true',Bool.not_eq_false'] at h;unfold numOk
  rcases h with (h|h)|h
  ·right;simp;omega
  ·right;simp;intro e;omega
  ·left;simpa using h
theorem one_good {t:GTok} (h:badB t=false):∃ cs,utfP t.text=some cs∧oneB t=kindB t.kind cs:=by
 unfold badB at h;unfold plainB at h
 cases hu:utfP t.text with
 | none=>rw[hu] at h;simp at h
 | some l =>
  rw[hu] at h
  refine⟨l,rfl,?_⟩
  unfold oneB;rw[hu];simp only[Bool.or_eq_false_iff,Bool.and_eq_false_iff,decide_eq_false_iff_not,Bool.not_eq_false',Bool.not_not] at h;obtain⟨⟨h1,h2⟩,h3⟩:=h;have h4:decide ((0:Int)∉l)=true:=by simpa using h3
  have h5:numOk t.kind t.n=true:=by
   unfold numOk
   simp
   refine⟨by omega,?_⟩
   by_cases h0:t.n=0
   ·exact .inr h0
   ·rcases h1 with h1|h1
    ·exact absurd h0 h1
    ·left;omega
  simp only[h4,h5,Bool.true_and]
abbrev tokG (t:GTok):Value:=.agg #[.int .i64 t.kind,.string (bytesOf t.text),.int .i64 t.n]
theorem tp_right (t:GTok) (w:World) (hl:t.text.length≤maxLen) (hn:-9223372036854775808≤t.n∧t.n≤9223372036854775807) (hT:Tabs w) :
  Calls Tryz.prog 83 #[tokG t] w fun e w'=>e=.returned (.bool (oneB t))∧Below w.heap.size w w':=by
 obtain⟨kind,text,n⟩:=t;simp only[] at hl hn;obtain⟨wA,hwA⟩:∃ wA,w.alloc (.cells #[.int .i64 kind,.string (bytesOf text),.int .i64 n] 58)=wA:=⟨_,rfl⟩;have bA:Below w.heap.size w wA:=by rw[←hwA];exact(Below.refl _ _).alloc (Nat.le_refl _) _
 have rA:RowAt wA w.heap.size [.int .i64 kind,.string (bytesOf text),.int .i64 n]:=by rw[←hwA];exact RowAt.new _ _ _
 obtain⟨x0,_⟩:=rA.2 0 _ rfl;obtain⟨x1,_⟩:=rA.2 1 _ rfl;obtain⟨x2,_⟩:=rA.2 2 _ rfl;have hTA:=hT.below bA;obtain⟨R,hR⟩:∃ R,oneB ⟨kind,text,n⟩=R:=⟨_,rfl⟩;rw[hR];have HR:=Lib.hid hR;clear hR;obtain⟨bad,hbad⟩:∃ b,badB ⟨kind,text,n⟩=b:=⟨_,rfl⟩;have Hbad:=Lib.hid hbad;obtain⟨s,hs⟩:∃ s,stopZ n=s:=⟨_,rfl⟩;obtain⟨pl,hpl⟩:∃ p,plainB text=p:=⟨_,rfl⟩;have hb2:bad=((decide (n≠0)&&(decide (kind<8)||decide (10<kind)))||decide (n≠s)||!pl):=by rw[←hbad,←hs,←hpl];rfl
 have hstop:=fun w=>fx_stop n w hn.1 hn.2
 rw[hs] at hstop;have hplain:∀ w',Tabs w'→Calls Tryz.prog 117 #[.string (bytesOf text)] w' fun e w2=>e=.returned (.bool pl)∧Below w'.heap.size w' w2:=fun w' h=>by rw[←hpl];exact tp_plain text w' hl h
 clear hs hpl hbad;have y0:=bw_cell (B:=wA.heap.size) x0 rA.1;have y1:=bw_cell (B:=wA.heap.size) x1 rA.1;have y2:=bw_cell (B:=wA.heap.size) x2 rA.1
 go_enter Tryz.func83,Tryz.ntmps83
 go_upto_region 1 with (fail)
 go_cut [29] (fun x wx=>x=.bool bad∧Below wA.heap.size wA wx)
 case first =>
  by_cases n0:n=0
  ·have t0:(n != 0)=false:=by simp[n0]
   by_cases ns:n=s
   ·have t1:(n != s)=false:=by simp[ns]
    have hfin:bad=!pl:=by rw[hb2];simp[n0,←ns]
    clear ns hb2 n0
    refine wp_region_bw wA.heap.size (by kernel_rfl) (by kernel_rfl) ?_
    repeat(go_big_quiet_step (first | (go_at_call 116;exact calls_bw_same (hstop _)) | (go_at_call 117;rename_i W;exact calls_bw (Nat.le_refl _) (hplain _ (hTA.below W.is)))))
    refine wpQuiet_nil ?_
    intro _ hw';obtain⟨W,rfl⟩:=hw'
    go_wp2_with fail
    go_meet
    exact⟨by rw[hfin],W.is⟩
   ·have t1:(n != s)=true:=by simp[ns]
    have hfin:bad=true:=by rw[hb2];simp[ns]
    clear ns hb2 n0
    refine wp_region_bw wA.heap.size (by kernel_rfl) (by kernel_rfl) ?_
    repeat(go_big_quiet_step (first | (go_at_call 116;exact calls_bw_same (hstop _)) | (go_at_call 117;rename_i W;exact calls_bw (Nat.le_refl _) (hplain _ (hTA.below W.is)))))
    refine wpQuiet_nil ?_
    intro _ hw';obtain⟨W,rfl⟩:=hw'
    go_wp2_with fail
    go_meet
    exact⟨by rw[hfin],W.is⟩
  ·have t0:(n != 0)=true:=by simp[n0]
   by_cases k8:kind<8
   ·have t8:decide (kind<8)=true:=by simp[k8]
    have hfin:bad=true:=by rw[hb2];simp[n0,k8]
    clear n0 k8 hb2
    refine wp_region_bw wA.heap.size (by kernel_rfl) (by kernel_rfl) ?_
    repeat(go_big_quiet_step (first | (go_at_call 116;exact calls_bw_same (hstop _)) | (go_at_call 117;rename_i W;exact calls_bw (Nat.le_refl _) (hplain _ (hTA.below W.is)))))
    refine wpQuiet_nil ?_
    intro _ hw';obtain⟨W,rfl⟩:=hw'
    go_wp2_with fail
    go_meet
    exact⟨by rw[hfin],W.is⟩
   ·have t8:decide (kind<8)=false:=by simp;omega
    by_cases k10:10<kind
    ·have t10:decide (10<kind)=true:=by simp[k10]
     have hfin:bad=true:=by rw[hb2];simp[n0,k10]
     clear n0 k8 k10 hb2
     refine wp_region_bw wA.heap.size (by kernel_rfl) (by kernel_rfl) ?_
     repeat(go_big_quiet_step (first | (go_at_call 116;exact calls_bw_same (hstop _)) | (go_at_call 117;rename_i W;exact calls_bw (Nat.le_refl _) (hplain _ (hTA.below W.is)))))
     refine wpQuiet_nil ?_
     intro _ hw';obtain⟨W,rfl⟩:=hw'
     go_wp2_with fail
     go_meet
     exact⟨by rw[hfin],W.is⟩
    ·have t10:decide (10<kind)=false:=by simp;omega
     by_cases ns:n=s
     ·have t1:(n != s)=false:=by simp[ns]
      have hfin:bad=!pl:=by rw[hb2];simp[t8,t10,←ns]
      clear ns hb2 n0 k8 k10
      refine wp_region_bw wA.heap.size (by kernel_rfl) (by kernel_rfl) ?_
      repeat(go_big_quiet_step (first | (go_at_call 116;exact calls_bw_same (hstop _)) | (go_at_call 117;rename_i W;exact calls_bw (Nat.le_refl _) (hplain _ (hTA.below W.is)))))
      refine wpQuiet_nil ?_
      intro _ hw';obtain⟨W,rfl⟩:=hw'
      go_wp2_with fail
      go_meet
      exact⟨by rw[hfin],W.is⟩
     ·have t1:(n != s)=true:=by simp[ns]
      have hfin:bad=true:=by rw[hb2];simp[ns]
      clear ns hb2 n0 k8 k10
      refine wp_region_bw wA.heap.size (by kernel_rfl) (by kernel_rfl) ?_
      repeat(go_big_quiet_step (first | (go_at_call 116;exact calls_bw_same (hstop _)) | (go_at_call 117;rename_i W;exact calls_bw (Nat.le_refl _) (hplain _ (hTA.below W.is)))))
      refine wpQuiet_nil ?_
      intro _ hw';obtain⟨W,rfl⟩:=hw'
      go_wp2_with fail
      go_meet
      exact⟨by rw[hfin],W.is⟩
 case rest =>
  obtain⟨rfl,hbx⟩:=hcut;have hTx:=hTA.below hbx;have bx:Below w.heap.size w wc:=bA.trans (hbx.mono bA.size);have z0:=(hbx.cell (p:=⟨w.heap.size,0,none⟩) rA.1).trans x0;have z1:=(hbx.cell (p:=⟨w.heap.size,1,none⟩) rA.1).trans x1;clear hstop hplain y0 y1 y2 x0 x1 x2 hwA hb2
  cases bad with
  | true =>
   obtain rfl:R=false:=by rw[←HR.out];exact one_bad Hbad.out
   go_wp2
   go_ret
   exact⟨rfl,bx⟩
  | false =>
   obtain⟨cs,hu,hO1⟩:=one_good Hbad.out;simp only[] at hO1 hu;have hO:R=kindB kind cs:=by rw[←HR.out];exact hO1
   have he:=utf_empty hu;clear hO1 Hbad HR;have hK:kind=2∨kind=3∨kind=4∨kind=5∨kind=10∨kind=6∨kind=7∨kind=11∨kind=12∨kind=13∨((kind==2)=false∧(kind==3)=false∧(kind==4)=false∧(kind==5)=false∧(kind==10)=false∧(kind==6)=false∧(kind==7)=false∧(kind==11)=false∧(kind==12)=false∧(kind==13)=false):=by simp;omega
   rcases hK with rfl|rfl|rfl|rfl|rfl|rfl|rfl|rfl|rfl|rfl|⟨h2,h3,h4,h5,h10,h6,h7,h11,h12,h13⟩
   case inr.inr.inr.inr.inr.inr.inr.inl =>
    have h1:=tp_one text cs wc hl hTx hu;subst hO;clear hu he
    go_wp2_with fail
    refine h1.mono ?_
    rintro e w2 ⟨rfl,hb2⟩
    go_wp2
    go_ret
    exact⟨rfl,bx.trans (hb2.mono bx.size)⟩
   case inr.inr.inr.inr.inr.inr.inr.inr.inl =>
    have u1:=utf_low hu 40 (by decide);have u2:=utf_low hu 91 (by decide);have u3:=utf_low hu 123 (by decide)
    have hfin:kindB 12 cs=(decide (text=[40])||decide (text=[91])||decide (text=[123])):=by
     unfold kindB;simp only[u1,u2,u3];rw[Bool.eq_iff_iff];simp[or_assoc]
    clear u1 u2 u3 hu he
    by_cases c1:text=[40]
    ·obtain⟨f1,g1⟩:=str_is c1
     obtain rfl:R=true:=by rw[hO,hfin];simp[c1]
     clear hO hfin c1
     go_wp2
     go_ret
     exact⟨rfl,bx⟩
    ·obtain⟨d1,e1⟩:=str_not c1
     by_cases c2:text=[91]
     ·obtain⟨f2,g2⟩:=str_is c2
      obtain rfl:R=true:=by rw[hO,hfin];simp[c2]
      clear hO hfin c2
      go_wp2
      go_ret
      exact⟨rfl,bx⟩
     ·obtain⟨d2,e2⟩:=str_not c2
      by_cases c3:text=[123]
      ·obtain⟨f3,g3⟩:=str_is c3
       obtain rfl:R=true:=by rw[hO,hfin];simp[c3]
       clear hO hfin c3
       go_wp2
       go_ret
       exact⟨rfl,bx⟩
      ·obtain⟨d3,e3⟩:=str_not c3
       obtain rfl:R=false:=by rw[hO,hfin];simp[c1,c2,c3]
       clear hO hfin c1 c2 c3
       go_wp2
       go_ret
       exact⟨rfl,bx⟩
   case inr.inr.inr.inr.inr.inr.inr.inr.inr.inl =>
    have u1:=utf_low hu 41 (by decide);have u2:=utf_low hu 93 (by decide);have u3:=utf_low hu 125 (by decide)
    have hfin:kindB 13 cs=(decide (text=[41])||decide (text=[93])||decide (text=[125])):=by
     unfold kindB;simp only[u1,u2,u3];rw[Bool.eq_iff_iff];simp[or_assoc]
    clear u1 u2 u3 hu he
    by_cases c1:text=[41]
    ·obtain⟨f1,g1⟩:=str_is c1
     obtain rfl:R=true:=by rw[hO,hfin];simp[c1]
     clear hO hfin c1
     go_wp2
     go_ret
     exact⟨rfl,bx⟩
    ·obtain⟨d1,e1⟩:=str_not c1
     by_cases c2:text=[93]
     ·obtain⟨f2,g2⟩:=str_is c2
      obtain rfl:R=true:=by rw[hO,hfin];simp[c2]
      clear hO hfin c2
      go_wp2
      go_ret
      exact⟨rfl,bx⟩
     ·obtain⟨d2,e2⟩:=str_not c2
      by_cases c3:text=[125]
      ·obtain⟨f3,g3⟩:=str_is c3
       obtain rfl:R=true:=by rw[hO,hfin];simp[c3]
       clear hO hfin c3
       go_wp2
       go_ret
       exact⟨rfl,bx⟩
      ·obtain⟨d3,e3⟩:=str_not c3
       obtain rfl:R=false:=by rw[hO,hfin];simp[c1,c2,c3]
       clear hO hfin c1 c2 c3
       go_wp2
       go_ret
       exact⟨rfl,bx⟩
   case inr.inr.inr.inr.inr.inr.inr.inr.inr.inr =>
    have hfin:kindB kind cs=(decide (1≤kind)&&(decide (kind≤16)&&decide (text=[]))):=by
     simp at h2 h3 h4 h5 h10 h6 h7 h11 h12 h13
     unfold kindB;rw[if_neg (by omega),if_neg (by omega),if_neg h11,if_neg h12,if_neg h13];rw[Bool.eq_iff_iff];simp[he]
    clear hu he
    by_cases k1:1≤kind
    ·have e1:decide (1≤kind)=true:=by simp[k1]
     by_cases k16:kind≤16
     ·have e16:decide (kind≤16)=true:=by simp[k16]
      by_cases ht:text=[]
      ·subst ht
       obtain⟨s1,s2⟩:=str_none;obtain rfl:R=true:=by rw[hO,hfin];simp[k1,k16]
       clear hO hfin k1 k16
       go_wp2
       go_ret
       exact⟨rfl,bx⟩
      ·obtain⟨s1,s2⟩:=str_some ht
       obtain rfl:R=false:=by rw[hO,hfin];simp[ht]
       clear hO hfin k1 k16 ht
       go_wp2
       go_ret
       exact⟨rfl,bx⟩
     ·have e16:decide (kind≤16)=false:=by simp;omega
      obtain rfl:R=false:=by rw[hO,hfin];simp[e16]
      clear hO hfin k1 k16
      go_wp2
      go_ret
      exact⟨rfl,bx⟩
    ·have e1:decide (1≤kind)=false:=by simp;omega
     obtain rfl:R=false:=by rw[hO,hfin];simp[e1]
     clear hO hfin k1
     go_wp2
     go_ret
     exact⟨rfl,bx⟩
   case inr.inr.inr.inr.inr.inl =>
    obtain rfl:R=true:=by rw[hO];rfl
    clear hu he hO
    go_wp2
    go_ret
    exact⟨rfl,bx⟩
   case inr.inr.inr.inr.inr.inr.inl =>
    obtain rfl:R=true:=by rw[hO];rfl
    clear hu he hO
    go_wp2
    go_ret
    exact⟨rfl,bx⟩
   all_goals
    have hgen:∀ k,((2≤k∧k≤5)∨k=10)→kindB k cs=!decide (text=[]):=by
     intro k hk;unfold kindB;rw[if_pos hk,Bool.eq_iff_iff];simp[he]
    rw[hgen _ (by omega)] at hO;clear hgen hu he
    by_cases ht:text=[]
    ·subst ht
     obtain⟨s1,s2⟩:=str_none;obtain rfl:R=false:=by rw[hO];simp
     clear hO
     go_wp2
     go_ret
     exact⟨rfl,bx⟩
    ·obtain⟨s1,s2⟩:=str_some ht
     obtain rfl:R=true:=by rw[hO];simp[ht]
     clear hO ht
     go_wp2
     go_ret
     exact⟨rfl,bx⟩
end Go.Proofs.YtfhdihdafmahgaaGreatDoor
namespace Go.Proofs.YtfhdihdafmahgaaGreatDoor
open Go.RowKit Rn Tp
theorem decU_drop (l:List UInt8) (p:Nat):Utf8.decode (bytesOf l) p=Lib.decodeL (l.drop p):=by
 rw[decL_N,Lib.decode_at,bytesOf_size,bytesOf_get,bytesOf_get,bytesOf_get,bytesOf_get,List.length_drop,List.getElem?_drop,List.getElem?_drop,List.getElem?_drop,List.getElem?_drop];rfl
def posU (cs:List Int) (k:Nat):Nat:=(writeP (cs.take k)).length
theorem posU_split (cs:List Int) (k:Nat):writeP cs=writeP (cs.take k)++writeP (cs.drop k):=by rw[←write_app,List.take_append_drop]
theorem posU_drop (cs:List Int) (k:Nat):(writeP cs).drop (posU cs k)=writeP (cs.drop k):=by
 conv=>lhs;rw[posU_split cs k]
 unfold posU;rw[List.drop_left]
theorem posU_succ {cs:List Int} {k:Nat} {c:Int} (h:cs[k]?=some c):posU cs (k+1)=posU cs k+(Lib.encodeRune c).length:=by
 unfold posU;rw[take_snoc cs k c h,write_app,List.length_append,write_one]
theorem posU_ge (cs:List Int):∀ k,k≤cs.length→k≤posU cs k
 | 0,_=>Nat.zero_le _
 | k+1,h=>by
  have:=posU_ge cs k (by omega);rw[posU_succ (List.getElem?_eq_getElem (by omega))];have:=(encode_len cs[k]).1
  omega
theorem posU_zero (cs:List Int):posU cs 0=0:=by unfold posU;simp[writeP]
theorem posU_end (cs:List Int):posU cs cs.length=(writeP cs).length:=by unfold posU;rw[List.take_length]
theorem posU_step {cs:List Int} (hv:∀ c∈cs,isB c=true) {k:Nat} {c:Int} (h:cs[k]?=some c):Utf8.decode (bytesOf (writeP cs)) (posU cs k)=(c.toNat,(Lib.encodeRune c).length)∧posU cs k<(writeP cs).length:=by
 have hc:=hv c (List.mem_of_getElem? h);have hk:k<cs.length:=(List.getElem?_eq_some_iff.1 h).1
 have hd:cs.drop k=c::cs.drop (k+1):=by
  rw[List.drop_eq_getElem_cons hk];rw[List.getElem?_eq_getElem hk] at h
  injection h with h
  rw[h]
 refine⟨?_,?_⟩
 ·rw[decU_drop,posU_drop,hd,write_cons]
  exact decL_write c hc _
 ·have:=congrArg List.length (posU_split cs k)
  rw[List.length_append,hd,write_cons,List.length_append] at this;have h4:=(encode_len c).1;unfold posU
  omega
theorem enc_two {c:Int} (hc:isB c=true) (h:128≤c):2≤(Lib.encodeRune c).length:=by
 have hc':0≤c∧c≤1114111∧(c<55296∨57343<c):=by simpa [isB] using hc
 by_cases c2:c<2048
 ·have e:Lib.encodeRune c=[(192+c / 64).toNat.toUInt8,(128+c % 64).toNat.toUInt8]:=by simp[Lib.encodeRune,Lib.encodeRuneZ_two (by omega:128≤c) (by omega)]
  rw[e];simp
 ·by_cases c3:c<65536
  ·have e:Lib.encodeRune c=[(224+c / 4096).toNat.toUInt8,(128+c / 64 % 64).toNat.toUInt8,(128+c % 64).toNat.toUInt8]:=by simp[Lib.encodeRune,Lib.encodeRuneZ_three (r:=c) (by omega)]
   rw[e];simp
  ·have e:Lib.encodeRune c=[(240+c / 262144).toNat.toUInt8,(128+c / 4096 % 64).toNat.toUInt8,(128+c / 64 % 64).toNat.toUInt8,(128+c % 64).toNat.toUInt8]:=by simp[Lib.encodeRune,Lib.encodeRuneZ_four (by omega:65536≤c) (by omega)]
   rw[e];simp
theorem enc_low1 {c:Int} (h0:0≤c) (h:c<128):∃ b:UInt8,Lib.encodeRune c=[b]∧(b.toNat:Int)=c:=by
 have e:Lib.encodeRune c=[c.toNat.toUInt8]:=by simp[Lib.encodeRune,Lib.encodeRuneZ_one h0 (by omega:c≤127)]
 have g0:=b_of c h0 (by omega)
 exact⟨_,e,by rw[g0];omega⟩
theorem encode_is {c:Int} (hc:isB c=true):Utf8.encode c=bytesOf (Lib.encodeRune c):=by
 have hc':0≤c∧c≤1114111∧(c<55296∨57343<c):=by simpa [isB] using hc
 obtain⟨n,rfl⟩:∃ n:Nat,c=n:=⟨c.toNat,by omega⟩;have hv:Utf8.valid (n:Int)=true:=by unfold Utf8.valid;simp;omega
 have e:(n:Int).toNat=n:=by omega
 unfold Utf8.encode;simp only[hv,if_true,e]
 by_cases c1:n<128
 ·rw[if_pos c1]
  simp[Lib.encodeRune,Lib.encodeRuneZ_one (by omega:(0:Int)≤n) (by omega:(n:Int)≤127),bytesOf]
 ·rw[if_neg c1]
  by_cases c2:n<2048
  ·rw[if_pos c2]
   have z0:(192+(n:Int) / 64).toNat=192+n / 64:=by omega
   have z1:(128+(n:Int) % 64).toNat=128+n % 64:=by omega
   simp[Lib.encodeRune,Lib.encodeRuneZ_two (by omega:(128:Int)≤n) (by omega:(n:Int)≤2047),bytesOf,z0,z1]
  ·rw[if_neg c2]
   by_cases c3:n<65536
   ·rw[if_pos c3]
    have z0:(224+(n:Int) / 4096).toNat=224+n / 4096:=by omega
    have z1:(128+(n:Int) / 64 % 64).toNat=128+n / 64 % 64:=by omega
    have z2:(128+(n:Int) % 64).toNat=128+n % 64:=by omega
    simp[Lib.encodeRune,Lib.encodeRuneZ_three (r:=(n:Int)) (by omega),bytesOf,z0,z1,z2]
   ·rw[if_neg c3]
    have z0:(240+(n:Int) / 262144).toNat=240+n / 262144:=by omega
    have z1:(128+(n:Int) / 4096 % 64).toNat=128+n / 4096 % 64:=by omega
    have z2:(128+(n:Int) / 64 % 64).toNat=128+n / 64 % 64:=by omega
    have z3:(128+(n:Int) % 64).toNat=128+n % 64:=by omega
    simp[Lib.encodeRune,Lib.encodeRuneZ_four (by omega:(65536:Int)≤n) (by omega),bytesOf,z0,z1,z2,z3]
theorem first_cases {cs:List Int} (hv:∀ c∈cs,isB c=true) {k:Nat} (hk:k<cs.length) :
  (posU cs k=0∧k=0∧decide (k=0∨k=1∧cs[0]?=some 45)=true)∨(k≠0∧posU cs k=1∧∃ b:UInt8,(writeP cs)[0]?=some b∧((b.toNat=45∧decide (k=0∨k=1∧cs[0]?=some 45)=true)∨(b.toNat≠45∧decide (k=0∨k=1∧cs[0]?=some 45)=false)))∨(k≠0∧2≤posU cs k∧decide (k=0∨k=1∧cs[0]?=some 45)=false):=by
 cases k with
 | zero=>exact .inl ⟨posU_zero cs,rfl,by simp⟩
 | succ k =>
  right
  have hge:=posU_ge cs (k+1) (by omega);obtain⟨c0,r,rfl⟩:=List.exists_cons_of_length_pos (l:=cs) (by omega);have hc0:=hv c0 (by simp);have hr0:=isB_range' hc0
  have hp1:posU (c0::r) 1=(Lib.encodeRune c0).length:=by
   have:posU (c0::r) 1=posU (c0::r) 0+(Lib.encodeRune c0).length:=posU_succ (cs:=c0::r) (k:=0) (c:=c0) rfl;rw[posU_zero] at this;omega
  by_cases h2:2≤posU (c0::r) (k+1)
  ·right
   refine⟨by omega,h2,?_⟩
   simp only[decide_eq_false_iff_not,not_or,not_and]
   refine⟨by omega,fun h1 h3=>?_⟩
   obtain rfl:k=0:=by omega
   have h3:c0=45:=by simpa using h3
   subst h3;rw[hp1] at h2
   exact absurd h2 (by decide)
  ·left
   obtain rfl:k=0:=by omega
   have hlen:(Lib.encodeRune c0).length=1:=by rw[hp1] at h2;have:=encode_len c0;omega
   have hlow:c0<128:=by
    by_cases h:c0<128
    ·exact h
    ·have:=enc_two hc0 (by omega);omega
   obtain⟨b,e,hb⟩:=enc_low1 hr0.1 hlow
   refine⟨by omega,by rw[hp1];exact hlen,b,by rw[write_cons,e];rfl,?_⟩
   by_cases h45:c0=45
   ·left;exact⟨by omega,by simp[h45]⟩
   ·right;exact⟨by omega,by simp[h45]⟩
theorem part_len {c:Int} (hc:isB c=true) (b:Bool):(partP c b).length≤10:=by
 unfold partP
 split
 ·exact esc_len c hc
 ·have:=(encode_len c).2;omega
theorem tp_name (cs:List Int) (dim:Bool) (w:World) (hv:∀ c∈cs,isB c=true) (hl:cs.length≤1000000) (hD:Db w) :
  Calls Tryz.prog 113 #[.string (bytesOf (writeP cs)),.bool dim] w fun e w'=>e=.returned (.string (bytesOf (nameP cs dim)))∧Below w.heap.size w w':=by
 have hwl:=writeP_len cs;have hz:=bytesOf_size (writeP cs);have Hv:=Lib.hid hv;have hu:=utf_write cs hv;have h45:=utf_low hu 45 (by decide);have Hu:=Lib.hid h45;clear hv hu h45;have hit0:(w.iter (bytesOf (writeP cs)) 0).heap[w.heap.size]?=some (.stringIter (bytesOf (writeP cs)) 0):=World.iter_heap _ _ _;have hb0:Below w.heap.size w (w.iter (bytesOf (writeP cs)) 0):=(Below.refl _ _).alloc (Nat.le_refl _) _
 go_enter Tryz.func113,Tryz.ntmps113
 go_wp2_with fail
 go_loopw [5] (fun o wr=>∃ (k:Nat) (out:List UInt8),k≤cs.length∧Hid (out++nameF cs dim k (cs.drop k)=nameP cs dim)∧out.length≤10 * k∧o=.string (bytesOf out)∧wr.heap[w.heap.size]?=some (.stringIter (bytesOf (writeP cs)) (posU cs k))∧Below w.heap.size w wr) (fun _ wr=>(writeP cs).length-wr.iterPos w.heap.size)
 case atStart=>exact⟨0,[],Nat.zero_le _,rfl,by simp,rfl,by rw[posU_zero];exact hit0,hb0⟩
 case round =>
  obtain⟨k,out,hk,hrun,hol,rfl,hit,hb⟩:=hrel;have hip:=iterPos_of hit;have hoz:=bytesOf_size out
  by_cases hlt:k<cs.length
  ·obtain⟨c,hc⟩:∃ c,cs[k]?=some c:=⟨_,List.getElem?_eq_getElem hlt⟩
   have hcB:=Hv.out c (List.mem_of_getElem? hc);have hcr:=isB_range' hcB;obtain⟨hdec,hpl⟩:=posU_step Hv.out hc;have hsuc:=posU_succ hc;have hel:=encode_len c;have hfc:=first_cases Hv.out hlt
   have hdrop:cs.drop k=c::cs.drop (k+1):=by
    rw[List.drop_eq_getElem_cons hlt];rw[List.getElem?_eq_getElem hlt] at hc
    injection hc with hc
    rw[hc]
   have hnx:∀ ty,(Instr.next (.pointer (some ⟨w.heap.size,0,none⟩)) true ty).run Tryz.prog wr=_:=fun ty=>Lib.run_next_any_at wr w.heap.size (bytesOf (writeP cs)) (posU cs k) ty hit (by rw[hz];exact hpl)
   have hit1:=Lib.iterAt_heap wr w.heap.size (bytesOf (writeP cs)) (posU cs k) (posU cs k+(Lib.encodeRune c).length) hit;have hb1:=Lib.below_iterAt hb (k:=w.heap.size) (Nat.le_refl _) (bytesOf (writeP cs)) (posU cs k+(Lib.encodeRune c).length);rw[hdec] at hnx;simp only[] at hnx;rw[show ((c.toNat:Nat):Int)=c by omega] at hnx;obtain⟨F,hF⟩:∃ F,decide (k=0∨k=1∧cs[0]?=some 45)=F:=⟨_,rfl⟩;obtain⟨nd,hnd⟩:∃ nd,needB c F (decide (cs=[45])) (dim&&decide (k=0))=nd:=⟨_,rfl⟩
   have hnew:Hid ((out++partP c nd)++nameF cs dim (k+1) (cs.drop (k+1))=nameP cs dim):=by
    show _=_
    rw[←hrun.out,hdrop,←hnd,←hF,List.append_assoc];rfl
   have hpl10:=part_len hcB nd;have hpz:=bytesOf_size (partP c nd);rw[hF] at hfc;rw[←hsuc] at hnx hit1 hb1;have Hnd:=Lib.hid hnd;have HcB:=Lib.hid hcB;have HF:=Lib.hid hfc;generalize wr.iterAt w.heap.size (bytesOf (writeP cs)) (posU cs (k+1))=W1 at *
   obtain⟨p,hp⟩:∃ p,posU cs k=p:=⟨_,rfl⟩;rw[hp] at hnx HF hpl hip hsuc;clear hrun hdrop hc hF hnd hdec hcB hit hfc hp
   go_upto_region 5 with (fail)
   go_cut [8] (fun x wx=>x=.bool F∧wx=W1)
   case first =>
    have hun:(undef:Value)=.tuple #[]:=rfl
    rcases HF.out with⟨h0,_,hF⟩|⟨_,h1,b,hb,⟨hbb,hF⟩|⟨hbb,hF⟩⟩|⟨_,h2,hF⟩
    ·have t0:((p:Int)==0)=true:=by simp;omega
     clear h0 HF Hnd hnew;have HN:=Lib.hid hF;clear hF
     go_wp2_with fail
     go_meet
     exact⟨by rw[HN.out],rfl⟩
    ·have t0:((p:Int)==0)=false:=by simp;omega
     have t1:((p:Int)==1)=true:=by simp;omega
     have hix:∀ W,(Instr.index 9 (.string (bytesOf (writeP cs))) (.int .i64 0)).run Tryz.prog W=.ok (.int .u8 (b.toNat:Int)) W:=fun W=>str_at (P:=Tryz.prog) (T:=9) Tryz.underlying9 (writeP cs) .i64 0 b hb W
     have tb:((b.toNat:Int)==45)=true:=by simp;omega
     clear h1 HF Hnd hnew hb hbb;have HN:=Lib.hid hF;clear hF
     go_wp2_with fail
     go_meet
     exact⟨by rw[HN.out],rfl⟩
    ·have t0:((p:Int)==0)=false:=by simp;omega
     have t1:((p:Int)==1)=true:=by simp;omega
     have hix:∀ W,(Instr.index 9 (.string (bytesOf (writeP cs))) (.int .i64 0)).run Tryz.prog W=.ok (.int .u8 (b.toNat:Int)) W:=fun W=>str_at (P:=Tryz.prog) (T:=9) Tryz.underlying9 (writeP cs) .i64 0 b hb W
     have tb:((b.toNat:Int)==45)=false:=by simp;omega
     clear h1 HF Hnd hnew hb hbb;have HN:=Lib.hid hF;clear hF
     go_wp2_with fail
     go_meet
     exact⟨by rw[HN.out],rfl⟩
    ·have t0:((p:Int)==0)=false:=by simp;omega
     have t1:((p:Int)==1)=false:=by simp;omega
     clear h2 HF Hnd hnew;have HN:=Lib.hid hF;clear hF
     go_wp2_with fail
     go_meet
     exact⟨by rw[HN.out],rfl⟩
   case rest =>
    obtain⟨rfl,rfl⟩:=hcut
    have hkp:decide (k=0)=((p:Int)==0):=by
     rcases HF.out with⟨h0,hk0,_⟩|⟨hk0,h1,_⟩|⟨hk0,h2,_⟩
     ·rw[Bool.eq_iff_iff];simp[h0,hk0]
     ·rw[Bool.eq_iff_iff];simp[hk0];omega
     ·rw[Bool.eq_iff_iff];simp[hk0];omega
    have hnd2:=Hnd.out;rw[hkp] at hnd2;obtain⟨E,hE⟩:∃ E,(dim&&((p:Int)==0)&&decide (c=101∨c=69))=E:=⟨_,rfl⟩;have hnd3:(!withinB c||(F&&digitB c)||decide (cs=[45])||E)=nd:=by rw[←hnd2,←hE];unfold needB;rfl
    have Hnd3:=Lib.hid hnd3;have HE:=Lib.hid hE;clear hnd2 hnd3 hE hkp Hnd HF
    go_upto_region 6 with (fail)
    go_cut [9] (fun x wx=>x=.bool E∧wx=wc)
    case first =>
     have hun:(undef:Value)=.tuple #[]:=rfl;have hE:=HE.out
     cases dim with
     | false =>
      simp only[Bool.false_and] at hE;have HN:=Lib.hid hE;clear hE
      go_wp2_with fail
      go_meet
      exact⟨by rw[HN.out],rfl⟩
     | true =>
      cases hp0:((p:Int)==0) with
      | false =>
       rw[hp0] at hE;simp only[Bool.and_false,Bool.false_and] at hE;have HN:=Lib.hid hE;clear hE
       go_wp2_with fail
       go_meet
       exact⟨by rw[HN.out],rfl⟩
      | true =>
       rw[hp0] at hE;simp only[Bool.and_true,Bool.true_and] at hE
       by_cases c1:c=101
       ·have t1:=eq_t c1
        have hE2:E=true:=by rw[←hE];simp[c1]
        have HN:=Lib.hid hE2;clear c1 hE hE2
        go_wp2_with fail
        go_meet
        exact⟨by rw[HN.out],rfl⟩
       ·have t1:=eq_f c1
        have hE2:E=(c==69):=by rw[←hE,Bool.eq_iff_iff];simp[c1]
        have HN:=Lib.hid hE2;clear c1 hE hE2
        go_wp2_with fail
        go_meet
        exact⟨by rw[HN.out],rfl⟩
    case rest =>
     obtain⟨rfl,rfl⟩:=hcut;clear HE hnx
     go_upto_region 7 with (fail)
     go_cut [56] (fun x wx=>x=.bool nd∧wx=wc)
     case first =>
      have hun:(undef:Value)=.tuple #[]:=rfl;have hW:=fun w=>rn_within c w
      have hD1:=fun w=>rn_digit c w
      have hnd:=Hnd3.out;generalize withinB c=b1 at *
      generalize digitB c=b2 at *
      have hU:=Hu.out;obtain⟨o,ho⟩:∃ o,decide (cs=[45])=o:=⟨_,rfl⟩;rw[ho] at hnd
      have hS:(o=true∧(bytesOf (writeP cs)).toList=[45]∧((bytesOf (writeP cs)).toList==[45])=true)∨(o=false∧¬ (bytesOf (writeP cs)).toList=[45]∧((bytesOf (writeP cs)).toList==[45])=false):=by
       by_cases h:cs=[45]
       ·left;exact⟨by rw[←ho];simp[h],str_is (hU.2 h)⟩
       ·right;exact⟨by rw[←ho];simp[h],str_not (fun e=>h (hU.1 e))⟩
      clear ho hU
      cases b1 with
      | false =>
       simp only[Bool.not_false,Bool.true_or] at hnd;clear hS;have HN:=Lib.hid hnd;clear hnd
       go_wp2_with (first | (go_at_call 87;refine(hW _).mono ?_;rintro e w' ⟨rfl,rfl⟩))
       go_meet
       exact⟨by rw[HN.out],rfl⟩
      | true =>
       simp only[Bool.not_true,Bool.false_or] at hnd
       cases F with
       | true =>
        simp only[Bool.true_and] at hnd
        cases b2 with
        | true =>
         simp only[Bool.true_or] at hnd;clear hS;have HN:=Lib.hid hnd;clear hnd
         go_wp2_with (first | (go_at_call 87;refine(hW _).mono ?_;rintro e w' ⟨rfl,rfl⟩) | (go_at_call 125;refine(hD1 _).mono ?_;rintro e w' ⟨rfl,rfl⟩))
         go_meet
         exact⟨by rw[HN.out],rfl⟩
        | false =>
         simp only[Bool.false_or] at hnd
         rcases hS with⟨rfl,s1,s2⟩|⟨rfl,s1,s2⟩
         ·simp only[Bool.true_or] at hnd
          have HN:=Lib.hid hnd;clear hnd
          go_wp2_with (first | (go_at_call 87;refine(hW _).mono ?_;rintro e w' ⟨rfl,rfl⟩) | (go_at_call 125;refine(hD1 _).mono ?_;rintro e w' ⟨rfl,rfl⟩))
          go_meet
          exact⟨by rw[HN.out],rfl⟩
         ·simp only[Bool.false_or] at hnd
          have HN:=Lib.hid hnd;clear hnd
          go_wp2_with (first | (go_at_call 87;refine(hW _).mono ?_;rintro e w' ⟨rfl,rfl⟩) | (go_at_call 125;refine(hD1 _).mono ?_;rintro e w' ⟨rfl,rfl⟩))
          go_meet
          exact⟨by rw[HN.out],rfl⟩
       | false =>
        simp only[Bool.false_and,Bool.false_or] at hnd
        rcases hS with⟨rfl,s1,s2⟩|⟨rfl,s1,s2⟩
        ·simp only[Bool.true_or] at hnd
         have HN:=Lib.hid hnd;clear hnd
         go_wp2_with (first | (go_at_call 87;refine(hW _).mono ?_;rintro e w' ⟨rfl,rfl⟩))
         go_meet
         exact⟨by rw[HN.out],rfl⟩
        ·simp only[Bool.false_or] at hnd
         have HN:=Lib.hid hnd;clear hnd
         go_wp2_with (first | (go_at_call 87;refine(hW _).mono ?_;rintro e w' ⟨rfl,rfl⟩))
         go_meet
         exact⟨by rw[HN.out],rfl⟩
     case rest =>
      obtain⟨rfl,rfl⟩:=hcut;have hbs:=hb1.size;clear Hnd3 Hu
      cases nd with
      | true =>
       have hesc:=tp_escaped c wc HcB.out (hD.below hb1);have hpe:partP c true=escP c:=rfl;rw[hpe] at hnew hpl10 hpz;clear hpe
       go_wp2_with fail
       refine hesc.mono ?_
       rintro e w2 ⟨rfl,hb2⟩;have hit2:=(hb2.block w.heap.size (Array.getElem?_eq_some_iff.1 hit1).1).trans hit1;have hip2:=iterPos_of hit2
       go_wp2_with fail
       refine⟨⟨k+1,out++escP c,by omega,hnew,by rw[List.length_append];omega,by rw[bytesOf_append],hit2,hb1.trans (hb2.mono hbs)⟩,?_⟩
       rw[hip2,hip];omega
      | false =>
       have henc:=encode_is HcB.out;have hpe:partP c false=Lib.encodeRune c:=rfl;rw[hpe] at hnew hpl10 hpz;clear hpe;have hip2:=iterPos_of hit1
       go_wp2_with fail
       refine⟨⟨k+1,out++Lib.encodeRune c,by omega,hnew,by rw[List.length_append];omega,by rw[bytesOf_append],hit1,hb1⟩,?_⟩
       rw[hip2,hip];omega
  ·obtain rfl:k=cs.length:=by omega
   have hfin:out=nameP cs dim:=by rw[←hrun.out,List.drop_length];simp[nameF]
   have hnx:∀ ty,(Instr.next (.pointer (some ⟨w.heap.size,0,none⟩)) true ty).run Tryz.prog wr=_:=fun ty=>Lib.run_next_end_at wr w.heap.size (bytesOf (writeP cs)) (posU cs cs.length) ty hit (by rw[hz,posU_end];omega)
   have HN:=Lib.hid hfin;clear hfin hrun
   go_wp2
   go_ret
   exact⟨congrArg (fun x=>Ending.returned (Value.string (bytesOf x))) HN.out,hb⟩
theorem tp_quoted (cs:List Int) (w:World) (hv:∀ c∈cs,isB c=true) (hl:cs.length≤1000000) (hD:Db w) :
  Calls Tryz.prog 114 #[.string (bytesOf (writeP cs))] w fun e w'=>e=.returned (.string (bytesOf (quotedP cs)))∧Below w.heap.size w w':=by
 have hwl:=writeP_len cs;have hz:=bytesOf_size (writeP cs);have Hv:=Lib.hid hv;clear hv;have hit0:(w.iter (bytesOf (writeP cs)) 0).heap[w.heap.size]?=some (.stringIter (bytesOf (writeP cs)) 0):=World.iter_heap _ _ _;have hb0:Below w.heap.size w (w.iter (bytesOf (writeP cs)) 0):=(Below.refl _ _).alloc (Nat.le_refl _) _
 go_enter Tryz.func114,Tryz.ntmps114
 go_wp2_with fail
 go_loopw [3] (fun o wr=>∃ (k:Nat) (out:List UInt8),k≤cs.length∧Hid (out++(cs.drop k).flatMap (fun c=>partP c (quoteB c))=quotedP cs)∧out.length≤10 * k+1∧o=.string (bytesOf out)∧wr.heap[w.heap.size]?=some (.stringIter (bytesOf (writeP cs)) (posU cs k))∧Below w.heap.size w wr) (fun _ wr=>(writeP cs).length-wr.iterPos w.heap.size)
 case atStart=>exact⟨0,[34],Nat.zero_le _,rfl,by simp,rfl,by rw[posU_zero];exact hit0,hb0⟩
 case round =>
  obtain⟨k,out,hk,hrun,hol,rfl,hit,hb⟩:=hrel;have hip:=iterPos_of hit;have hoz:=bytesOf_size out
  by_cases hlt:k<cs.length
  ·obtain⟨c,hc⟩:∃ c,cs[k]?=some c:=⟨_,List.getElem?_eq_getElem hlt⟩
   have hcB:=Hv.out c (List.mem_of_getElem? hc);have hcr:=isB_range' hcB;obtain⟨hdec,hpl⟩:=posU_step Hv.out hc;have hsuc:=posU_succ hc;have hel:=encode_len c
   have hdrop:cs.drop k=c::cs.drop (k+1):=by
    rw[List.drop_eq_getElem_cons hlt];rw[List.getElem?_eq_getElem hlt] at hc
    injection hc with hc
    rw[hc]
   have hnx:∀ ty,(Instr.next (.pointer (some ⟨w.heap.size,0,none⟩)) true ty).run Tryz.prog wr=_:=fun ty=>Lib.run_next_any_at wr w.heap.size (bytesOf (writeP cs)) (posU cs k) ty hit (by rw[hz];exact hpl)
   have hit1:=Lib.iterAt_heap wr w.heap.size (bytesOf (writeP cs)) (posU cs k) (posU cs k+(Lib.encodeRune c).length) hit;have hb1:=Lib.below_iterAt hb (k:=w.heap.size) (Nat.le_refl _) (bytesOf (writeP cs)) (posU cs k+(Lib.encodeRune c).length);rw[hdec] at hnx;simp only[] at hnx;rw[show ((c.toNat:Nat):Int)=c by omega] at hnx;obtain⟨nd,hnd⟩:∃ nd,quoteB c=nd:=⟨_,rfl⟩
   have hnew:Hid ((out++partP c nd)++(cs.drop (k+1)).flatMap (fun c=>partP c (quoteB c))=quotedP cs):=by
    show _=_
    rw[←hrun.out,hdrop,←hnd,List.append_assoc];rfl
   have hpl10:=part_len hcB nd;have hpz:=bytesOf_size (partP c nd);rw[←hsuc] at hnx hit1 hb1;have HcB:=Lib.hid hcB
   have hnd2:(c=34∧nd=true)∨(c=92∧nd=true)∨(c=10∧nd=true)∨(c=12∧nd=true)∨(c=13∧nd=true)∨((c==34)=false∧(c==92)=false∧(c==10)=false∧(c==12)=false∧(c==13)=false∧nd=false):=by
    rw[←hnd];unfold quoteB
    simp;omega
   have Hnd:=Lib.hid hnd2;generalize wr.iterAt w.heap.size (bytesOf (writeP cs)) (posU cs (k+1))=W1 at *
   obtain⟨p,hp⟩:∃ p,posU cs k=p:=⟨_,rfl⟩;rw[hp] at hnx hpl hip hsuc;clear hrun hdrop hc hnd hdec hcB hit hp hnd2
   go_upto_region 5 with (fail)
   go_cut [28] (fun x wx=>x=.bool nd∧wx=W1)
   case first =>
    have hun:(undef:Value)=.tuple #[]:=rfl
    rcases Hnd.out with⟨h,hn⟩|⟨h,hn⟩|⟨h,hn⟩|⟨h,hn⟩|⟨h,hn⟩|⟨e1,e2,e3,e4,e5,hn⟩
    case inr.inr.inr.inr.inr =>
     have HN:=Lib.hid hn;clear hn Hnd hnew
     go_wp2_with fail
     go_meet
     exact⟨by rw[HN.out],rfl⟩
    case inl =>
     have HN:=Lib.hid hn;have e0:(c==34)=true:=by rw[h];decide
     clear h hn Hnd hnew
     go_wp2_with fail
     go_meet
     exact⟨by rw[HN.out],rfl⟩
    case inr.inl =>
     have HN:=Lib.hid hn;have e0:(c==34)=false:=by rw[h];decide
     have e1:(c==92)=true:=by rw[h];decide
     clear h hn Hnd hnew
     go_wp2_with fail
     go_meet
     exact⟨by rw[HN.out],rfl⟩
    case inr.inr.inl =>
     have HN:=Lib.hid hn;have e0:(c==34)=false:=by rw[h];decide
     have e1:(c==92)=false:=by rw[h];decide
     have e2:(c==10)=true:=by rw[h];decide
     clear h hn Hnd hnew
     go_wp2_with fail
     go_meet
     exact⟨by rw[HN.out],rfl⟩
    case inr.inr.inr.inl =>
     have HN:=Lib.hid hn;have e0:(c==34)=false:=by rw[h];decide
     have e1:(c==92)=false:=by rw[h];decide
     have e2:(c==10)=false:=by rw[h];decide
     have e3:(c==12)=true:=by rw[h];decide
     clear h hn Hnd hnew
     go_wp2_with fail
     go_meet
     exact⟨by rw[HN.out],rfl⟩
    case inr.inr.inr.inr.inl =>
     have HN:=Lib.hid hn;have e0:(c==34)=false:=by rw[h];decide
     have e1:(c==92)=false:=by rw[h];decide
     have e2:(c==10)=false:=by rw[h];decide
     have e3:(c==12)=false:=by rw[h];decide
     have e4:(c==13)=true:=by rw[h];decide
     clear h hn Hnd hnew
     go_wp2_with fail
     go_meet
     exact⟨by rw[HN.out],rfl⟩
   case rest =>
    obtain⟨rfl,rfl⟩:=hcut;have hbs:=hb1.size;clear Hnd
    cases nd with
    | true =>
     have hesc:=tp_escaped c wc HcB.out (hD.below hb1);have hpe:partP c true=escP c:=rfl;rw[hpe] at hnew hpl10 hpz;clear hpe
     go_wp2_with fail
     refine hesc.mono ?_
     rintro e w2 ⟨rfl,hb2⟩;have hit2:=(hb2.block w.heap.size (Array.getElem?_eq_some_iff.1 hit1).1).trans hit1;have hip2:=iterPos_of hit2
     go_wp2_with fail
     refine⟨⟨k+1,out++escP c,by omega,hnew,by rw[List.length_append];omega,by rw[bytesOf_append],hit2,hb1.trans (hb2.mono hbs)⟩,?_⟩
     rw[hip2,hip];omega
    | false =>
     have henc:=encode_is HcB.out;have hpe:partP c false=Lib.encodeRune c:=rfl;rw[hpe] at hnew hpl10 hpz;clear hpe;have hip2:=iterPos_of hit1
     go_wp2_with fail
     refine⟨⟨k+1,out++Lib.encodeRune c,by omega,hnew,by rw[List.length_append];omega,by rw[bytesOf_append],hit1,hb1⟩,?_⟩
     rw[hip2,hip];omega
  ·obtain rfl:k=cs.length:=by omega
   have hfin:out=quotedP cs:=by rw[←hrun.out,List.drop_length];simp
   have hnx:∀ ty,(Instr.next (.pointer (some ⟨w.heap.size,0,none⟩)) true ty).run Tryz.prog wr=_:=fun ty=>Lib.run_next_end_at wr w.heap.size (bytesOf (writeP cs)) (posU cs cs.length) ty hit (by rw[hz,posU_end];omega)
   have HN:=Lib.hid hfin;clear hfin hrun
   go_wp2
   go_ret
   exact⟨congrArg (fun x=>Ending.returned (Value.string (bytesOf x))) HN.out,hb⟩
end Go.Proofs.YtfhdihdafmahgaaGreatDoor
namespace Go.Proofs.YtfhdihdafmahgaaGreatDoor
open Go.RowKit Rn Tp Tk
theorem doc_lead (b:UInt8) (r:List UInt8) (z:Int) (hz:(b.toNat:Int)=z):(240≤z∧docN (b::r)=4∧docV (b::r) 0=z-240)∨(z<240∧224≤z∧docN (b::r)=3∧docV (b::r) 0=z-224)∨(z<240∧z<224∧128≤z∧docN (b::r)=2∧docV (b::r) 0=z-192)∨(z<240∧z<224∧z<128∧docN (b::r)=1∧docV (b::r) 0=z):=by
 have e:docB (b::r) 0=z:=hz;unfold docN docV;simp only[e]
 by_cases h1:240≤z
 ·simp only[h1,if_true]
  exact .inl ⟨trivial,(by first | trivial | rfl),(by first | trivial | rfl)⟩
 ·simp only[h1,if_false]
  right
  by_cases h2:224≤z
  ·simp only[h2,if_true]
   exact .inl ⟨by omega,trivial,(by first | trivial | rfl),(by first | trivial | rfl)⟩
  ·simp only[h2,if_false]
   right
   by_cases h3:128≤z
   ·simp only[h3,if_true]
    exact .inl ⟨by omega,by omega,trivial,(by first | trivial | rfl),(by first | trivial | rfl)⟩
   ·simp only[h3,if_false]
    exact .inr ⟨by omega,by omega,by omega,(by first | trivial | rfl),(by first | trivial | rfl)⟩
theorem rp_chars (l:List UInt8) (w:World) (hl:l.length≤1000000) :
  Calls Tryz.prog 139 #[.string (bytesOf l)] w fun e w'=>(match utfP l with
   | none=>∃ v,e=.returned (.tuple #[v,.bool false])
   | some cs=>∃ v,e=.returned (.tuple #[v,.bool true])∧w'.ownsRow w.heap.size 3 1 v cs.length (cs.map n64))∧Below w.heap.size w w':=by
 obtain⟨U,hU⟩:∃ U,utfP l=U:=⟨_,rfl⟩;rw[hU];have HU:=Lib.hid hU;clear hU;obtain⟨c0,W1,hcv,hcc,hcm,hbc,hrc⟩:=conv_text (P:=Tryz.prog) (src:=9) (dst:=22) Tryz.underlying9 Tryz.underlying22 Tryz.underlying5 w (bytesOf l) l rfl (by unfold maxLen;omega);obtain⟨i0,hi,hz0,hz1,hz2⟩:=info_parts int_info;have hb1:=hbc.size;have Hcc:=Lib.hid hcc;unfold maxLen at hcm
 go_enter Tryz.func139,Tryz.ntmps139
 go_wp2_with fail
 go_loopw [4,5] (fun o b wr=>∃ (rest:List UInt8) (A:Option Addr) (m c:Nat) (done:List Int),b=.slice A m c∧Reads wr W1.heap.size 1 A m (rest.map b8)∧m≤c∧c≤9223372036854775807∧wr.ownsRow W1.heap.size 3 1 o done.length (done.map n64)∧Below W1.heap.size W1 wr∧Hid (utfP l=(utfP rest).map (done++·))∧done.length+m≤l.length) (fun _ b _=>match b with | .slice _ m _=>m | _=>0)
 case atStart=>exact⟨l,_,l.length,c0,[],rfl,hrc,hcc,by omega,World.ownsRow_nil _ _ _ _,Below.refl _ _,(by show _=_;cases utfP l<;>simp),by simp⟩
 case round =>
  obtain⟨rest,A,m,c,done,rfl,hr,hmc,hc,hown,hb,hrun,hdm⟩:=hrel;have hrl:rest.length=m:=by simpa using hr.len
  have hbs:=hb.size;obtain⟨Ao,co,rfl,hco,hcom⟩:=own_form hown
  by_cases h0:0<m
  ·obtain⟨b0,r,hrest⟩:=List.exists_cons_of_length_pos (l:=rest) (by omega)
   have hne:rest≠[]:=by rw[hrest];simp
   have hstep:=doc_step hne;obtain⟨bk,off,u,hA,hbk,hu,hcell⟩:=hr.at_ h0;subst hA
   have hu0:u=.int .u8 (b0.toNat:Int):=by
    rw[hrest] at hu
    simpa [b8] using hu.symm
   subst hu0;rw[Nat.add_zero] at hcell;obtain⟨z,hz⟩:∃ z:Int,(b0.toNat:Int)=z:=⟨_,rfl⟩;have hz256:0≤z∧z≤255:=by have:=UInt8.toNat_lt b0;omega
   have hlead:=doc_lead b0 r z hz;rw[hz] at hcell;rw[←hrest] at hlead;have hvr:=docV_range rest;obtain⟨nd,hnd⟩:∃ nd,docN rest=nd:=⟨_,rfl⟩;have hnr:=docN_range rest;have hdc:docC rest=docV rest (nd-1):=by unfold docC;rw[hnd]
   have hVs:∀ k,docV rest (k+1)=docV rest k * 64+docB rest (k+1)-128:=fun k=>rfl
   have hOk:docOk rest=(decide (nd≤m∧0≤docC rest)&&isB (docC rest)&&decide (Lib.encodeRune (docC rest)=rest.take nd)):=by unfold docOk;rw[hnd,hrl]
   rw[hnd] at hnr hlead hstep;generalize docC rest=DC at *
   generalize docV rest=V at *
   generalize docOk rest=ok at *
   have HOk:=Lib.hid hOk;have HVs:=Lib.hid hVs;have Hvr:=Lib.hid hvr;have Hdc:=Lib.hid hdc;have HS:=Lib.hid hstep;clear hOk hVs hvr hdc hstep;have HL:=Lib.hid hlead;have Hnd:=Lib.hid hnd;have Hrl:=Lib.hid hrl;have dm:decide ((0:Int)<(m:Int))=true:=by simp;omega
   clear hlead hnd hu hrest hrl hne hz
   go_upto_if 21 with (fail)
   go_cut [6,7] (fun x y wx=>x=.int .i64 (nd:Int)∧y=.int .i64 (V 0)∧wx=wr)
   case first =>
    go_wp2_with fail
    all_goals
     go_meet
     refine⟨congrArg (Value.int IntKind.i64) ?_,congrArg (Value.int IntKind.i64) ?_,rfl⟩
     all_goals (have hL:=HL.out;simp only[decide_eq_true_eq,decide_eq_false_iff_not] at *;omega)
   case rest =>
    obtain⟨rfl,rfl,hwc⟩:=hcut;have hwc2:=hwc.symm;subst hwc2;clear HL
    by_cases hnm:nd≤m
    ·have dn:decide ((m:Int)<(nd:Int))=false:=by simp;omega
     go_wp2_with fail
     go_loopw [7,8] (fun x k wy=>∃ j:Nat,1≤j∧j≤nd∧k=.int .i64 (j:Int)∧x=.int .i64 (V (j-1))∧wr=wy) (fun _ k _=>nd-(intOf k).toNat)
     case atStart=>exact⟨1,by omega,by omega,rfl,rfl,rfl⟩
     case round =>
      obtain⟨j,hj1,hjn,rfl,rfl,rfl⟩:=hrel
      by_cases hjl:j<nd
      ·obtain⟨bk',off',u,hA,_,hu,hcj⟩:=hr.at_ (show j<m by omega)
       injection hA with hA
       injection hA with e1 e2
       subst e1 e2;obtain⟨bj,hbj⟩:∃ bj,rest[j]?=some bj:=⟨_,List.getElem?_eq_getElem (by rw[Hrl.out];omega)⟩
       have hu1:u=.int .u8 (docB rest j):=by
        rw[List.getElem?_map,hbj] at hu;unfold docB;rw[hbj]
        simpa [b8] using hu.symm
       subst hu1;have hbr:0≤docB rest j∧docB rest j≤255:=by unfold docB;have:=UInt8.toNat_lt (rest[j]?.getD 0);omega
       have hv1:=Hvr.out (j-1) (by omega);have hv2:=Hvr.out j (by omega)
       have hvs:V j=V (j-1) * 64+docB rest j-128:=by
        have:=HVs.out (j-1);rw[show j-1+1=j by omega] at this
        exact this
       have HV:=Lib.hid hvs;generalize docB rest j=z1 at *
       obtain⟨v1,hv1e⟩:∃ v1,V (j-1)=v1:=⟨_,rfl⟩;rw[hv1e] at hv1 HV ⊢;have dj:decide ((j:Int)<(nd:Int))=true:=by simp;omega
       have Hv2:=Lib.hid hv2;clear hvs hu hbj hv1e hv2
       go_wp2_with fail
       refine⟨⟨j+1,by omega,by omega,by go_num,congrArg (Value.int IntKind.i64) (by rw[Nat.add_sub_cancel];exact HV.out.symm),trivial⟩,by simp[intOf];omega⟩
      ·obtain rfl:j=nd:=by omega
       have dj:decide ((j:Int)<(j:Int))=false:=by simp
       rw[←Hdc.out];have hDr:-100000000≤DC∧DC≤100000000:=by rw[Hdc.out];exact Hvr.out _ (by omega)
       have cI:=fun W=>ref_is DC W (by omega) (by omega)
       have hok:=HOk.out;have HS2:=HS;clear HS
       go_upto_region 21 with (fail)
       go_cut [70] (fun x wx=>x=.bool (!ok)∧Below wr.heap.size wr wx)
       case first =>
        rename_i JJ KK hJJ hKK
        by_cases hneg:DC<0
        ·have tN:decide (DC<0)=true:=by simp[hneg]
         have hfin:ok=false:=by rw[hok];simp;omega
         have HN:=Lib.hid hfin;clear hfin hok HOk hneg
         refine wp_region_bw wr.heap.size (by kernel_rfl) (by kernel_rfl) ?_
         repeat(go_big_quiet_step (fail))
         refine wpQuiet_nil ?_
         intro _ hw';obtain⟨W,rfl⟩:=hw'
         go_wp2_with fail
         go_meet
         exact⟨by rw[HN.out];rfl,W.is⟩
        ·have tN:decide (DC<0)=false:=by simp;omega
         cases hI:isB DC with
         | false =>
          have hfin:ok=false:=by rw[hok,hI];simp
          have HN:=Lib.hid hfin;rw[hI] at cI;clear hfin hok HOk hneg hI
          refine wp_region_bw wr.heap.size (by kernel_rfl) (by kernel_rfl) ?_
          repeat(go_big_quiet_step (first | (go_at_call 161;exact calls_bw_same (cI _))))
          refine wpQuiet_nil ?_
          intro _ hw';obtain⟨W,rfl⟩:=hw'
          go_wp2_with fail
          go_meet
          exact⟨by rw[HN.out];rfl,W.is⟩
         | true =>
          rw[hI] at cI;have hfin:ok=decide (Lib.encodeRune DC=rest.take j):=by rw[hok,hI];simp;omega
          have HN:=Lib.hid hfin;have htk:=hr.take (k:=j) (by omega);rw[←List.map_take] at htk
          have hconvT:∀ W:World,Below wr.heap.size wr W→(convert 22 9 (.slice (some ⟨bk,off,none⟩) j c)).run Tryz.prog W=.ok (.string (bytesOf (rest.take j))) W:=fun W hW =>
           run_str (P:=Tryz.prog) Tryz.underlying22 Tryz.underlying5 Tryz.underlying9 c (htk.below (hW.mono hbs))
          have hsl:∀ W,(Instr.slice 22 (.slice (some ⟨bk,off,none⟩) m c) none (some (.int .i64 (j:Int))) none).run Tryz.prog W=.ok (.slice (some ⟨bk,off,none⟩) j c) W:=fun W=>by
           rw[run_slice_h W 22 (some ⟨bk,off,none⟩) m c Tryz.underlying22 .i64 (j:Int) (by omega) (by omega)]
           go_simp
          refine Code.wp_mono ?_ (rp_cmp _ _ _ _ _ _ _ _ _ _ _ _ _ _ _ _ _ _ _ _ _ _ _ _ _ _ _ _ _ _ _ _ _ _ _ _ _ _ _ _ _ _ _ _ _ _ _ _ _ _ _ _ _ _ _ _ _ _ _ _ _ _ _ _ _ _ _ _ _ _ _ _ _ _ _ _ tN hI hDr rfl hnm hmc hconvT hsl)
          intro e a W hQ
          cases e<;>first | exact hQ.elim | skip
          obtain⟨⟨v54,v55,v56,v57,v58,v59,v60,v61,v62,v63,v64,v65,v66,v67,v68,v69,rfl⟩,hbW⟩:=hQ;rw[←HN.out]
          refine hKK _ _ ?_
          go_meet
          exact⟨rfl,hbW⟩
       case rest =>
        obtain⟨rfl,hbx⟩:=hcut;have hbw:Below W1.heap.size W1 wc:=hb.trans (hbx.mono hbs);have hwc:=hbx.size;clear cI hok
        cases ok with
        | false =>
         obtain rfl:U=none:=by rw[←HU.out,hrun.out,HS2.out];rfl
         clear HU hrun HS2 HOk
         go_wp2
         go_ret2
         exact⟨⟨_,rfl⟩,hbc.trans (hbw.mono hb1)⟩
        | true =>
         have hownc:=own_below hown hbx;have hrc2:=hr.below (hbx.mono hbs);have hsl2:=fun (kd:IntKind) W=>run_cut (P:=Tryz.prog) Tryz.underlying22 (by kernel_rfl) (s:=1) (fun W=>by kernel_rfl) (some ⟨bk,off,none⟩) m c kd j hnm W
         have hcut2:=hrc2.cutA (k:=j) (c:=c) hnm hmc;rw[←List.map_drop] at hcut2
         have hnew:Hid (utfP l=(utfP (rest.drop j)).map ((done++[DC])++·)):=by
          show _=_
          rw[hrun.out,HS2.out,if_pos rfl]
          cases utfP (rest.drop j)<;>simp
         generalize cutAt (some ⟨bk,off,none⟩) c j 1=A2 at *
         clear hrun HS2 HOk hcell
         go_wp2_with (at_builtin;refine wpList_append_own _ rfl _ _ 51 rfl W1.heap.size 3 i0 (.int .i64 0) 1 8 Tryz.underlying51 hi hz0 hz1 hz2 rfl (by decide) _ _ _ rfl (hownc.alloc _) ⟨wc.heap.size,0,none⟩ 1 1 [.int .i64 DC] rfl rfl ?c1 ?c2 ?c3 ?c4 ?c5 ?_)
         case c1=>exact cell_one_new _ _ _
         case c2=>intro u hu;simp at hu;subst hu;rfl
         case c3=>unfold maxLen;omega
         case c4=>omega
         case c5=>simp;omega
         intro v' w2 hown2 hg2 _;have hb2:Below W1.heap.size W1 w2:=push_below hbw (by omega) hownc hg2;have hrd2:=push_reads hcut2 (by omega) hownc hg2
         go_wp2_with fail
         refine⟨⟨rest.drop j,A2,m-j,c-j,done++[DC],rfl,hrd2,by omega,by omega,by simpa [n64] using hown2,hb2,hnew,by simp;omega⟩,?_⟩
         show m-j<m
         omega
    ·have dn:decide ((m:Int)<(nd:Int))=true:=by simp;omega
     have hno:ok=false:=by rw[HOk.out];simp;omega
     obtain rfl:U=none:=by rw[←HU.out,hrun.out,HS.out,hno];rfl
     clear HU hrun HS HOk hno
     go_wp2
     go_ret2
     exact⟨⟨_,rfl⟩,hbc.trans (hb.mono hb1)⟩
  ·obtain rfl:m=0:=by omega
   have hr0:rest=[]:=List.eq_nil_of_length_eq_zero (by omega);have hfin:U=some done:=by rw[←HU.out,hrun.out,hr0,utfP_nil];simp
   subst hfin;clear HU hrun hr0
   go_wp2
   go_ret2
   exact⟨⟨_,rfl,own_less hown hb1⟩,hbc.trans (hb.mono hb1)⟩
end Go.Proofs.YtfhdihdafmahgaaGreatDoor
