import Derived.Test.YtfhdihdafmahgaaGreatDoorR27
import Derived.Test.YtfhdihdafmahgaaGreatDoorR28
import Derived.Maps.StringElems
import Derived.Lib.Builder
import Derived.Lib.AppendStr
set_option linter.unusedVariables false
set_option linter.unusedSimpArgs false
set_option maxRecDepth 100000
set_option maxHeartbeats 8000000
namespace Go.Proofs.YtfhdihdafmahgaaGreatDoor
open Go.RowKit Go.Maps Rn Tp Fx
theorem tp_num (n:Int) (g:Nat) (w:World) (h1:-9223372036854775808≤n) (h2:n≤9223372036854775807) (hE:Env w) (hc:w.cell? ⟨g,2,none⟩=some (.int .i64 n)) :
  Calls Tryz.prog 111 #[.pointer (some ⟨g,0,none⟩)] w fun e w'=>e=.returned (.string (bytesOf (Fx.printP n)))∧Below w.heap.size w w':=by
 go_enter Tryz.func111,Tryz.ntmps111
 go_wp2_with fail
 refine(fx_print n w h1 h2 hE).mono ?_
 rintro e w1 ⟨rfl,hb⟩
 go_wp2
 go_ret
 exact⟨rfl,hb⟩
theorem keyedInt:Keyed Tryz.prog 3:=int_keyed Tryz.underlying3
theorem zero_str (w:World):(zeroValue 9).run Tryz.prog w=.ok (.string ⟨#[]⟩) w:=by kernel_rfl
abbrev SMap (w:World) (b n:Nat) (D:DataW Unit):Prop:=w.ownsMap Tryz.prog 3 (plainElem Tryz.prog 9) b n D
theorem smap_put {w:World} {b n:Nat} {D:DataW Unit} (h:SMap w b n D) (hn:n<100) (k:Int) (s:List UInt8) (hk:(Lit.int .i64 k).wf=true) (hs:s.length≤100) :
  ∃ w',(Instr.mapUpdate 139 (.map (some b)) (.int .i64 k) (.string (bytesOf s))).run Tryz.prog w=.ok () w'∧SMap w' b (n+1) (D.put (.int .i64 k) (.lit (.string s)))∧w.grownBy w' (some b) :=
 h.update keyedInt Tryz.underlying139 (by unfold maxLen;omega) (keyOf_int_mk Tryz.underlying3 hk) (by
  have:=plainElem_string (H:=Unit) (P:=Tryz.prog) (e:=9) Tryz.underlying9 (s:=bytesOf s) (by rw[bytesOf_size];unfold maxLen;omega);rw[bytesOf_list] at this
  exact this)
def sepD:DataW Unit:=.map [(.int .i64 14,.lit (.string [58])),(.int .i64 15,.lit (.string [59])),(.int .i64 16,.lit (.string [44]))]
theorem sepD_puts:(((DataW.map []:DataW Unit).put (.int .i64 14) (.lit (.string [58]))).put (.int .i64 15) (.lit (.string [59]))).put (.int .i64 16) (.lit (.string [44]))=sepD:=by rfl
theorem sep_at {k:Int} (hk:k=11∨k=12∨k=13∨k=14∨k=15∨k=16):∃ s:List UInt8,s=(if k=14 then [58] else if k=15 then [59] else if k=16 then [44] else [])∧sepD.atKey (.int .i64 k) (.lit (.string []))=.lit (.string s):=by
 rcases hk with rfl | rfl | rfl | rfl | rfl | rfl<;>exact⟨_,rfl,rfl⟩
theorem nameF_len (l:List Int) (dim:Bool):∀ (r:List Int) (i:Nat),(∀ c∈r,isB c=true)→(nameF l dim i r).length≤10 * r.length
 | [],i,_=>by simp[nameF]
 | c::r,i,h=>by
  unfold nameF;have:=nameF_len l dim r (i+1) (fun d hd=>h d (by simp[hd]));have h2:=part_len (h c (by simp)) (needB c (decide (i=0∨i=1∧l[0]?=some 45)) (decide (l=[45])) (dim&&decide (i=0)));rw[List.length_append,List.length_cons];omega
theorem nameP_len {l:List Int} (dim:Bool) (h:∀ c∈l,isB c=true):(nameP l dim).length≤10 * l.length:=nameF_len l dim l 0 h
theorem quotedP_len {l:List Int} (h:∀ c∈l,isB c=true):(quotedP l).length≤10 * l.length+1:=by
 have key:∀ r:List Int,(∀ c∈r,isB c=true)→(r.flatMap (fun c=>partP c (quoteB c))).length≤10 * r.length:=by
  intro r
  induction r with
  | nil=>simp
  | cons c r ih =>
   intro h;have h1:=ih (fun d hd=>h d (by simp[hd]));have h2:=part_len (h c (by simp)) (quoteB c);rw[List.flatMap_cons,List.length_append,List.length_cons];omega
 have:=key l h;unfold quotedP;rw[List.length_cons];omega
theorem sep_map (W:World) (k:Int) (hk:k=11∨k=12∨k=13∨k=14∨k=15∨k=16):∃ w1 w2 w3 s,s=(if k=14 then [58] else if k=15 then [59] else if k=16 then [44] else ([]:List UInt8)) ∧
  (Instr.mapUpdate 139 (.map (some W.heap.size)) (.int .i64 14) (.string ⟨#[58]⟩)).run Tryz.prog (W.alloc (.map #[] 0))=.ok () w1 ∧
  (Instr.mapUpdate 139 (.map (some W.heap.size)) (.int .i64 15) (.string ⟨#[59]⟩)).run Tryz.prog w1=.ok () w2 ∧
  (Instr.mapUpdate 139 (.map (some W.heap.size)) (.int .i64 16) (.string ⟨#[44]⟩)).run Tryz.prog w2=.ok () w3 ∧
  (Instr.lookup 139 (.map (some W.heap.size)) (.int .i64 k) false).run Tryz.prog w3=.ok (.string (bytesOf s)) w3∧Below W.heap.size W w3:=by
 have K0:SMap (W.alloc (.map #[] 0)) W.heap.size 0 (.map []):=World.ownsMap_made _ _ _ _;obtain⟨w1,r1,K1,g1⟩:=smap_put K0 (by omega) 14 [58] (by decide) (by simp);obtain⟨w2,r2,K2,g2⟩:=smap_put K1 (by omega) 15 [59] (by decide) (by simp);obtain⟨w3,r3,K3,g3⟩:=smap_put K2 (by omega) 16 [44] (by decide) (by simp);rw[sepD_puts] at K3;have hcw:(Lit.int .i64 k).wf=true:=by rcases hk with rfl | rfl | rfl | rfl | rfl | rfl<;>decide
 have hzs:=plainElem_string (H:=Unit) (P:=Tryz.prog) (e:=9) Tryz.underlying9 (s:=bytesOf []) (by rw[bytesOf_size];unfold maxLen;simp);rw[bytesOf_list] at hzs;obtain⟨v,ps,rl,hv⟩:=K3.lookup keyedInt Tryz.underlying139 (zero_str _) hzs (keyOf_int_mk Tryz.underlying3 hcw);obtain⟨x,rfl,hx,_⟩:=plainElem_string_inv Tryz.underlying9 hv;obtain⟨s,hs,hat⟩:=sep_at hk;have hx':=(Prod.mk.inj hx).1;rw[hat] at hx'
 have hxs:x=bytesOf s:=by
  injection hx' with hx'
  injection hx' with hx'
  rw[hx',bytesOf_eta]
 rw[hxs] at rl
 refine⟨w1,w2,w3,s,hs,r1,r2,r3,rl,?_⟩
 have g:(W.alloc (.map #[] 0)).grownBy w3 (some W.heap.size):=(g1.trans g2).trans g3
 exact((Below.refl _ _).alloc (Nat.le_refl _) _).grown g (by simp) (fun k hk=>by injection hk with hk;omega)
theorem tp_token (t:GTok) (w:World) (hl:t.text.length≤1000000) (hn:-9223372036854775808≤t.n∧t.n≤9223372036854775807) (hT:Tabs w) (hE:Env w) (hD:Db w) :
  Calls Tryz.prog 76 #[tokG t] w fun e w'=>e=.returned (.string (bytesOf (tokenP t)))∧Below w.heap.size w w':=by
 obtain⟨wA,hwA⟩:∃ wA,w.alloc (.cells #[.int .i64 t.kind,.string (bytesOf t.text),.int .i64 t.n] 58)=wA:=⟨_,rfl⟩;have bA:Below w.heap.size w wA:=by rw[←hwA];exact(Below.refl _ _).alloc (Nat.le_refl _) _
 have rA:RowAt wA w.heap.size [.int .i64 t.kind,.string (bytesOf t.text),.int .i64 t.n]:=by rw[←hwA];exact RowAt.new _ _ _
 obtain⟨x0,_⟩:=rA.2 0 _ rfl;obtain⟨x1,_⟩:=rA.2 1 _ rfl;obtain⟨x2,_⟩:=rA.2 2 _ rfl;have hR:=tp_right t wA (by unfold maxLen;omega) hn (hT.below bA)
 cases hO:oneB t with
 | false =>
  have htp:tokenP t=[]:=by unfold tokenP;rw[if_neg (by rw[hO];decide)]
  rw[hO] at hR;have HT:=Lib.hid htp;clear htp hO
  go_enter Tryz.func76,Tryz.ntmps76
  go_wp2_with fail
  refine hR.mono ?_
  rintro e w1 ⟨rfl,hb⟩
  go_wp2
  go_ret
  exact⟨by rw[HT.out];rfl,bA.trans (hb.mono bA.size)⟩
 | true =>
  obtain⟨e1,e2,e3,e4,e5⟩:=one_facts hO;obtain⟨k1,k2⟩:=kind_range hO;have htp:tokenP t=tokenP t:=rfl
  conv at htp =>
   rhs
   unfold tokenP;rw[if_pos hO]
  have hx:(utfP t.text).getD []=textC t:=rfl;simp only[hx] at htp
  have htx:11≤t.kind→(14≤t.kind→t.text=[]):=by
   intro _ h14
   have hl:textC t=[]:=by
    have:=e5;unfold kindB at this;rw[if_neg (by omega),if_neg (by omega),if_neg (by omega),if_neg (by omega),if_neg (by omega)] at this
    exact(of_decide_eq_true this).2.2
   rw[←e3,hl];simp[writeP]
  obtain⟨R,hRR⟩:∃ R,tokenP t=R:=⟨_,rfl⟩;rw[hRR] at htp ⊢;rw[hO] at hR;obtain⟨kind,text,n⟩:=t;simp only[] at *
  generalize textC ⟨kind,text,n⟩=cs at *
  have hv:∀ c∈cs,isB c=true:=fun c hc=>(e2 c hc).1
  have hcl:cs.length≤1000000:=by
   have:=posU_ge cs cs.length (Nat.le_refl _);rw[posU_end,e3] at this;omega
  subst e3;clear hRR hO hx e1 e2 e4 e5;have HP:=Lib.hid htp;have HX:=Lib.hid htx;clear htp htx;have hEA:=hE.below bA;have hDA:=hD.below bA;have cN:=fun (dim:Bool) (W:World) (h:Below wA.heap.size wA W)=>tp_name cs dim W hv hcl (hDA.below h)
  have cQ:=fun (W:World) (h:Below wA.heap.size wA W)=>tp_quoted cs W hv hcl (hDA.below h)
  have cF:=fun (W:World) (h:Below wA.heap.size wA W)=>tp_num n w.heap.size W hn.1 hn.2 (hEA.below h) ((h.cell (p:=⟨w.heap.size,2,none⟩) rA.1).trans x2)
  have hK:kind=1∨kind=2∨kind=3∨kind=4∨kind=5∨kind=6∨kind=7∨kind=8∨kind=9∨kind=10∨(kind=11∨kind=12∨kind=13∨kind=14∨kind=15∨kind=16):=by omega
  have hNz:=fun dim=>bytesOf_size (nameP cs dim)
  have hNl:=fun dim=>nameP_len (l:=cs) dim hv
  have hQz:=bytesOf_size (quotedP cs);have hQl:=quotedP_len (l:=cs) hv;have hFz:=bytesOf_size (Fx.printP n);have hFl:=printP_len n;have hTz:=bytesOf_size (writeP cs);have hNz0:=hNz false;have hNl0:=hNl false;have hNz1:=hNz true;have hNl1:=hNl true;clear hNz hNl;have base:∀ {W1:World},Below wA.heap.size wA W1→Below w.heap.size w W1:=fun h=>bA.trans (h.mono bA.size)
  have cells:∀ {W1:World},Below wA.heap.size wA W1→W1.cell? ⟨w.heap.size,0,none⟩=some (.int .i64 kind)∧W1.cell? ⟨w.heap.size,1,none⟩=some (.string (bytesOf (writeP cs)))∧W1.cell? ⟨w.heap.size,2,none⟩=some (.int .i64 n):=fun h=>⟨(h.cell (p:=⟨w.heap.size,0,none⟩) rA.1).trans x0,(h.cell (p:=⟨w.heap.size,1,none⟩) rA.1).trans x1,(h.cell (p:=⟨w.heap.size,2,none⟩) rA.1).trans x2⟩
  rcases hK with rfl|rfl|rfl|rfl|rfl|rfl|rfl|rfl|rfl|rfl|hK
  case inl =>
   go_enter Tryz.func76,Tryz.ntmps76
   go_wp2_with fail
   refine hR.mono ?_
   rintro e w1 ⟨rfl,hb⟩;obtain⟨y0,y1,y2⟩:=cells hb
   go_wp2
   go_ret
   exact⟨congrArg (fun b=>Ending.returned (Value.string b)) (by rw[HP.out];rfl),base hb⟩
  case inr.inl =>
   go_enter Tryz.func76,Tryz.ntmps76
   go_wp2_with fail
   refine hR.mono ?_
   rintro e w1 ⟨rfl,hb⟩;obtain⟨y0,y1,y2⟩:=cells hb
   go_wp2_with fail
   refine(cN false _ hb).mono ?_
   rintro e w2 ⟨rfl,hb2⟩
   go_wp2
   go_ret
   refine⟨congrArg (fun b=>Ending.returned (Value.string b)) ?_,base (hb.trans (hb2.mono hb.size))⟩
   rw[HP.out]
   rfl
  case inr.inr.inl =>
   go_enter Tryz.func76,Tryz.ntmps76
   go_wp2_with fail
   refine hR.mono ?_
   rintro e w1 ⟨rfl,hb⟩;obtain⟨y0,y1,y2⟩:=cells hb
   go_wp2_with fail
   refine(cN false _ hb).mono ?_
   rintro e w2 ⟨rfl,hb2⟩
   go_wp2
   go_ret
   refine⟨congrArg (fun b=>Ending.returned (Value.string b)) ?_,base (hb.trans (hb2.mono hb.size))⟩
   rw[HP.out]
   exact bytesOf_append (nameP cs false) [40]
  case inr.inr.inr.inl =>
   go_enter Tryz.func76,Tryz.ntmps76
   go_wp2_with fail
   refine hR.mono ?_
   rintro e w1 ⟨rfl,hb⟩;obtain⟨y0,y1,y2⟩:=cells hb
   go_wp2_with fail
   refine(cN false _ hb).mono ?_
   rintro e w2 ⟨rfl,hb2⟩
   go_wp2
   go_ret
   refine⟨congrArg (fun b=>Ending.returned (Value.string b)) ?_,base (hb.trans (hb2.mono hb.size))⟩
   rw[HP.out]
   exact bytesOf_append [64] (nameP cs false)
  case inr.inr.inr.inr.inl =>
   go_enter Tryz.func76,Tryz.ntmps76
   go_wp2_with fail
   refine hR.mono ?_
   rintro e w1 ⟨rfl,hb⟩;obtain⟨y0,y1,y2⟩:=cells hb
   go_wp2_with fail
   refine(cN false _ hb).mono ?_
   rintro e w2 ⟨rfl,hb2⟩
   go_wp2
   go_ret
   refine⟨congrArg (fun b=>Ending.returned (Value.string b)) ?_,base (hb.trans (hb2.mono hb.size))⟩
   rw[HP.out]
   exact bytesOf_append [35] (nameP cs false)
  case inr.inr.inr.inr.inr.inl =>
   go_enter Tryz.func76,Tryz.ntmps76
   go_wp2_with fail
   refine hR.mono ?_
   rintro e w1 ⟨rfl,hb⟩;obtain⟨y0,y1,y2⟩:=cells hb
   go_wp2_with fail
   refine(cQ _ hb).mono ?_
   rintro e w2 ⟨rfl,hb2⟩
   go_wp2
   go_ret
   refine⟨congrArg (fun b=>Ending.returned (Value.string b)) ?_,base (hb.trans (hb2.mono hb.size))⟩
   rw[HP.out]
   exact bytesOf_append (quotedP cs) [34]
  case inr.inr.inr.inr.inr.inr.inl =>
   go_enter Tryz.func76,Tryz.ntmps76
   go_wp2_with fail
   refine hR.mono ?_
   rintro e w1 ⟨rfl,hb⟩;obtain⟨y0,y1,y2⟩:=cells hb
   go_wp2_with fail
   refine(cQ _ hb).mono ?_
   rintro e w2 ⟨rfl,hb2⟩
   go_wp2
   go_ret
   refine⟨congrArg (fun b=>Ending.returned (Value.string b)) ?_,base (hb.trans (hb2.mono hb.size))⟩
   rw[HP.out]
   rfl
  case inr.inr.inr.inr.inr.inr.inr.inl =>
   go_enter Tryz.func76,Tryz.ntmps76
   go_wp2_with fail
   refine hR.mono ?_
   rintro e w1 ⟨rfl,hb⟩;obtain⟨y0,y1,y2⟩:=cells hb
   go_wp2_with fail
   refine(cF _ hb).mono ?_
   rintro e w2 ⟨rfl,hb2⟩
   go_wp2
   go_ret
   refine⟨congrArg (fun b=>Ending.returned (Value.string b)) ?_,base (hb.trans (hb2.mono hb.size))⟩
   rw[HP.out]
   rfl
  case inr.inr.inr.inr.inr.inr.inr.inr.inl =>
   go_enter Tryz.func76,Tryz.ntmps76
   go_wp2_with fail
   refine hR.mono ?_
   rintro e w1 ⟨rfl,hb⟩;obtain⟨y0,y1,y2⟩:=cells hb
   go_wp2_with fail
   refine(cF _ hb).mono ?_
   rintro e w2 ⟨rfl,hb2⟩
   go_wp2
   go_ret
   refine⟨congrArg (fun b=>Ending.returned (Value.string b)) ?_,base (hb.trans (hb2.mono hb.size))⟩
   rw[HP.out]
   exact bytesOf_append (Fx.printP n) [37]
  case inr.inr.inr.inr.inr.inr.inr.inr.inr.inl =>
   go_enter Tryz.func76,Tryz.ntmps76
   go_wp2_with fail
   refine hR.mono ?_
   rintro e w1 ⟨rfl,hb⟩;obtain⟨y0,y1,y2⟩:=cells hb;have hlt:w.heap.size<w1.heap.size:=Nat.lt_of_lt_of_le rA.1 hb.size;have z1:=bw_cell (B:=w1.heap.size) y1 hlt
   go_wp2_with fail
   refine wp_region_bw w1.heap.size (by kernel_rfl) (by kernel_rfl) ?_
   repeat(go_big_quiet_step (first | (go_at_call 111;rename_i W;exact calls_bw (Nat.le_refl _) (cF W.val (hb.trans (W.is.mono hb.size)))) | (go_at_call 113;rename_i W;exact calls_bw (Nat.le_refl _) (cN true W.val (hb.trans (W.is.mono hb.size))))))
   refine wpQuiet_nil ?_
   intro _ hw';obtain⟨W,rfl⟩:=hw'
   go_wp2
   go_ret
   refine⟨congrArg (fun b=>Ending.returned (Value.string b)) ?_,base (hb.trans (W.is.mono hb.size))⟩
   rw[HP.out]
   exact bytesOf_append (Fx.printP n) (nameP cs true)
  case inr.inr.inr.inr.inr.inr.inr.inr.inr.inr =>
   have hfin:R=(if kind=14 then [58] else if kind=15 then [59] else if kind=16 then [44] else [])++writeP cs:=by
    rw[HP.out]
    rcases hK with rfl|rfl|rfl|rfl|rfl|rfl
    ·rfl
    ·rfl
    ·rfl
    ·rw[HX.out (by omega) (by omega)];rfl
    ·rw[HX.out (by omega) (by omega)];rfl
    ·rw[HX.out (by omega) (by omega)];rfl
   have HF:=Lib.hid hfin;have hks:(kind==1)=false∧(kind==2)=false∧(kind==3)=false∧(kind==4)=false∧(kind==5)=false∧(kind==6)=false∧(kind==7)=false∧(kind==8)=false∧(kind==9)=false∧(kind==10)=false:=by simp;omega
   obtain⟨q1,q2,q3,q4,q5,q6,q7,q8,q9,q10⟩:=hks;have HK:=Lib.hid hK;clear hfin HP HX hK
   go_enter Tryz.func76,Tryz.ntmps76
   go_wp2_with fail
   refine hR.mono ?_
   rintro e w1 ⟨rfl,hb⟩;obtain⟨y0,y1,y2⟩:=cells hb;have hlt:w.heap.size<w1.heap.size:=Nat.lt_of_lt_of_le rA.1 hb.size;obtain⟨m1,m2,m3,s,hs,r1,r2,r3,rl,hbm⟩:=sep_map w1 kind HK.out;have z0:=(hbm.cell (p:=⟨w.heap.size,0,none⟩) hlt).trans y0;have z1:=(hbm.cell (p:=⟨w.heap.size,1,none⟩) hlt).trans y1;have hmm:=@run_makeMap Tryz.prog;have hsl:s.length≤1:=by rw[hs];split<;>(try simp)<;>split<;>(try simp)<;>split<;>simp
   have hsz:=bytesOf_size s;have HS:=Lib.hid hs;clear hs
   go_wp2
   go_ret
   refine⟨congrArg (fun b=>Ending.returned (Value.string b)) ?_,base (hb.trans (hbm.mono hb.size))⟩
   rw[HF.out,←HS.out]
   exact bytesOf_append s (writeP cs)
end Go.Proofs.YtfhdihdafmahgaaGreatDoor
namespace Go.Proofs.YtfhdihdafmahgaaGreatDoor
open Go.RowKit Rn Tp
theorem bd_size:(Tryz.prog.info? 109).map (·.size)=some 2:=by kernel_rfl
theorem bd_lies:liesAt Tryz.prog Tryz.prog.depth 109 (2 / Tryz.prog.cellsOf 109) 0 109 1=true:=by kernel_rfl
theorem bd_byte:(Tryz.prog.info? 5).map (fun i=>(i.zero,i.size,i.bytes))=some (some (.int .u8 0),1,1):=by kernel_rfl
abbrev IsB (B b:Nat) (l:List UInt8) (w:World):Prop:=Lib.IsBuilder 109 5 B b (Lib.byteCells l) w
theorem tp_copy_used (b:Nat) (w:World) (h0:w.cell? ⟨b,0,none⟩=some (.pointer (some ⟨b,0,none⟩))) :
  Calls Tryz.prog 110 #[.pointer (some ⟨b,0,none⟩)] w fun e w'=>e=.returned (.tuple #[])∧w'=w:=by
 obtain⟨j,hj,_⟩:=Option.map_eq_some_iff.1 bd_size
 go_enter Tryz.func110,Tryz.ntmps110
 go_wp2
 rw[Lib.run_neq_ptr_same w _ Tryz.underlying107 hj]
 go_wp2
 go_end0
 exact⟨rfl,rfl⟩
theorem tp_copy_fresh (b:Nat) (w:World) (h0:w.cell? ⟨b,0,none⟩=some (.pointer none)) (hsh:w.shape? b=some (109,2)) (hfz:w.frozen? ⟨b,0,none⟩=false) :
  Calls Tryz.prog 110 #[.pointer (some ⟨b,0,none⟩)] w fun e w'=>e=.returned (.tuple #[])∧w'=w.setCell ⟨b,0,none⟩ (.pointer (some ⟨b,0,none⟩)):=by
 obtain⟨j,hj,hjs⟩:=Option.map_eq_some_iff.1 bd_size
 go_enter Tryz.func110,Tryz.ntmps110
 go_wp2
 rw[Lib.run_to_unsafe w ⟨b,0,none⟩ Tryz.underlying107 Tryz.underlying159 hj (by rw[hjs];decide) hsh (Nat.zero_lt_succ 1)];simp only[Result.andThen];rw[Oper.upon_value]
 go_wp2
 rw[run_callFunc_extern Tryz.func141 (by kernel_rfl) (by kernel_rfl) (by kernel_rfl) (e:=Extern.AbiNoEscape.same) (by kernel_rfl)];rw[Lib.run_noEscape];simp only[Result.andThen];rw[Oper.upon_value]
 go_wp2
 rw[Lib.run_from_unsafe w ⟨b,0,none⟩ Tryz.underlying159 Tryz.underlying107 hj hsh bd_lies];simp only[Result.andThen];rw[Oper.upon_value]
 go_wp2
 go_end0
 exact⟨rfl,rfl⟩
theorem tp_copy (B b:Nat) (bs:List Value) (w:World) (h:Lib.IsBuilder 109 5 B b bs w) :
  Calls Tryz.prog 110 #[.pointer (some ⟨b,0,none⟩)] w fun e w'=>e=.returned (.tuple #[])∧(Lib.BuilderAt 109 5 B b (.pointer (some ⟨b,0,none⟩)) bs w'∧Below B w w'∧Lib.OthersKept 5 (some b) w w'):=by
 rcases h with h|h
 ·refine(tp_copy_fresh b w h.cell0 h.shape h.frozen0).mono ?_
  rintro e w' ⟨rfl,rfl⟩
  exact⟨rfl,h.used _,(Below.refl B w).setCell (p:=⟨b,0,none⟩) h.1 _,(Lib.OthersKept.refl _ _ w).setCell ⟨b,0,none⟩ rfl _⟩
 ·refine(tp_copy_used b w h.cell0).mono ?_
  rintro e w' ⟨rfl,rfl⟩
  exact⟨rfl,h,Below.refl B _,Lib.OthersKept.refl _ _ _⟩
theorem tp_wstr (B b:Nat) (bs l:List UInt8) (w:World) (h:IsB B b bs w) (hlen:bs.length+l.length≤140737488355328) (hBw:B≤w.heap.size) :
  Calls Tryz.prog 75 #[.pointer (some ⟨b,0,none⟩),.string (bytesOf l)] w fun e w'=>e=.returned (.tuple #[.int .i64 l.length,.nilIface])∧IsB B b (bs++l) w'∧Below B w w'∧Lib.OthersKept 5 (some b) w w':=by
 obtain⟨i0,hi,hz0,hz1,hz2⟩:=info_parts bd_byte;have hbl:=Lib.byteCells_length bs;have hz:=bytesOf_size l;have hsc:Lib.strCells (bytesOf l)=Lib.byteCells l:=by unfold Lib.strCells;rw[bytesOf_list];rfl
 go_enter Tryz.func75,Tryz.ntmps75
 go_wp2_with (go_at_call 110;refine(tp_copy B b (Lib.byteCells bs) _ h).mono ?_)
 rintro e w1 ⟨rfl,h1,hb1,ko1⟩;obtain⟨hB,v,hbk,hown,hne⟩:=h1;have c0:w1.cell? ⟨b,0,none⟩=some (.pointer (some ⟨b,0,none⟩)):=by rw[Lib.cell_of_heap hbk];rfl
 have c1:w1.cell? ⟨b,1,none⟩=some v:=by rw[Lib.cell_of_heap hbk];rfl
 go_wp2_with (at_builtin;refine Lib.wpList_append_own_string _ rfl _ _ 22 9 rfl B 5 i0 Tryz.underlying22 Tryz.underlying9 hi hz0 hz1 hz2 _ _ _ rfl hown (bytesOf l) rfl ?c3 ?c4 ?c5 ?_)
 case c3=>unfold maxLen;omega
 case c4=>omega
 case c5=>have:=hb1.size;omega
 intro v' w2 hown' hgrow _
 have hlt:b<w1.heap.size:=by
  rcases Nat.lt_or_ge b w1.heap.size with h' | h'
  ·exact h'
  ·simp[Array.getElem?_eq_none h'] at hbk
 have hb2:w2.heap[b]?=some (.cells #[.pointer (some ⟨b,0,none⟩),v] 109 (0,0)):=by
  rw[hgrow.block b hlt (fun e=>hne e.symm)]
  exact hbk
 have d0:w2.cell? ⟨b,0,none⟩=some (.pointer (some ⟨b,0,none⟩)):=by rw[Lib.cell_of_heap hb2];rfl
 have d1:w2.cell? ⟨b,1,none⟩=some v:=by rw[Lib.cell_of_heap hb2];rfl
 have f1:w2.frozen? ⟨b,1,none⟩=false:=Lib.frozen_of_heap hb2 1
 obtain⟨ao,n',cap,rfl⟩:∃ ao n' cap,v'=.slice ao n' cap:=by
  rcases hown'.2 with⟨hv,_⟩|⟨g,cap,cur,hv,_⟩
  ·exact⟨_,_,_,hv⟩
  ·exact⟨_,_,_,hv⟩
 go_wp2
 go_ret2
 refine⟨?_,?_,?_,?_⟩
 ·rw[←hz];rfl
 ·refine .inr ?_
  have happ:Lib.byteCells (bs++l)=Lib.byteCells bs++Lib.strCells (bytesOf l):=by rw[hsc,Lib.byteCells_append]
  rw[happ]
  exact Lib.BuilderAt.put (T:=109) (e:=5) hB hb2 (bs':=Lib.byteCells bs++Lib.strCells (bytesOf l)) (by rw[List.length_append,Lib.strCells_length];simpa [hsc,hbl,hz] using hown') (by decide)
 ·exact(hb1.grown hgrow (by have:=hb1.size;omega) (fun k hk=>(hown.lt k hk).1)).setCell (p:=⟨b,1,none⟩) hB _
 ·refine(ko1.grown hgrow (fun g hg=>?_)).setCell ⟨b,1,none⟩ rfl _
  rcases hown.2 with⟨rfl,_⟩|⟨g',cap',cur',rfl,_,hg',_⟩
  ·simp[Value.ownBlock] at hg
  ·simp only[Value.ownBlock,Option.some.injEq] at hg
   subst hg
   exact⟨_,_,hg'⟩
end Go.Proofs.YtfhdihdafmahgaaGreatDoor
