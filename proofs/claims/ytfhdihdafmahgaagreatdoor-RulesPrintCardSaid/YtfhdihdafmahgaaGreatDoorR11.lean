import Derived.Test.YtfhdihdafmahgaaGreatDoorR08
set_option linter.unusedVariables false
set_option linter.unusedSimpArgs false
set_option maxRecDepth 1000000
set_option maxHeartbeats 4000000
namespace Go.Proofs.YtfhdihdafmahgaaGreatDoor
open Go.RowKit Rn Tp
theorem tp_apart (a b:Int) (w:World) :
  Calls Tryz.prog 74 #[.int .i64 a,.int .i64 b] w fun e w'=>e=.returned (.bool (apartB a b))∧w=w':=by
 have ha:a=1∨a=3∨a=12∨a=13∨a=6∨a=14∨a=15∨a=16∨((a==1)=false∧(a==3)=false∧(a==12)=false∧(a==13)=false∧(a==6)=false∧(a==14)=false∧(a==15)=false∧(a==16)=false):=by simp;omega
 have hb:b=1∨b=13∨b=6∨b=14∨b=15∨b=16∨((b==1)=false∧(b==13)=false∧(b==6)=false∧(b==14)=false∧(b==15)=false∧(b==16)=false):=by simp;omega
 obtain⟨r,hr⟩:∃ r,apartB a b=r:=⟨_,rfl⟩;have Hr:=Lib.hid hr;rw[hr];clear hr
 rcases ha with rfl|rfl|rfl|rfl|rfl|rfl|rfl|rfl|⟨a1,a2,a3,a4,a5,a6,a7,a8⟩
 case inr.inr.inr.inr.inr.inr.inr.inr =>
  rcases hb with rfl|rfl|rfl|rfl|rfl|rfl|⟨b1,b2,b3,b4,b5,b6⟩
  all_goals
   go_enter Tryz.func74,Tryz.ntmps74
   go_wp2
   go_ret
   refine⟨ret_bool ?_,rfl⟩
   rw[←Hr.out];unfold apartB
   simp at *
   (try simp[*])
 all_goals
  clear hb
  go_enter Tryz.func74,Tryz.ntmps74
  go_wp2
  go_ret
  refine⟨ret_bool ?_,rfl⟩
  rw[←Hr.out];unfold apartB
  simp
theorem hexT_eight (n:Nat) (h:n<4294967296):(hexT n).length≤8:=by
 have key:∀ k n,n<16 ^ (k+1)→(hexT n).length≤k+1:=by
  intro k
  induction k with
  | zero=>intro n h;rw[hexT,dif_pos (by simpa using h)];simp
  | succ k ih =>
   intro n h;rw[hexT]
   split
   ·simp
   ·have:=ih (n / 16) (by rw[Nat.div_lt_iff_lt_mul (by omega)];rw[Nat.pow_succ] at h;exact h)
    simp;omega
 exact key 7 n (by show n<4294967296;exact h)
theorem rp_in (l:List Int) (A:Option Addr) (n cap:Nat) (c:Int) (w:World) (hr:Reads w w.heap.size 1 A n (l.map n64)) (hn:n≤1000000) :
  Calls Tryz.prog 140 #[.slice A n cap,.int .i64 c] w fun e w'=>e=.returned (.bool (decide (c∈l)))∧w=w':=by
 have hlen:l.length=n:=by simpa using hr.len
 have Hlen:=Lib.hid hlen;clear hlen
 go_enter Tryz.func140,Tryz.ntmps140
 go_wp2_with fail
 go_loopw [5] (fun i wr=>∃ k:Nat,k≤n∧i=.int .i64 k∧w=wr∧Hid (c∉l.take k)) (fun i _=>n-(intOf i).toNat)
 case atStart=>exact⟨0,by omega,rfl,rfl,(by show c∉_;simp)⟩
 case round =>
  obtain⟨k,hk,rfl,rfl,hx⟩:=hrel
  by_cases hlt:k<n
  ·obtain⟨b,off,u,hA,hbw,hu,hcell⟩:=hr.at_ hlt
   subst hA;obtain⟨d,hd⟩:∃ d,l[k]?=some d:=⟨_,List.getElem?_eq_getElem (by rw[Hlen.out];omega)⟩;rw[List.getElem?_map,hd] at hu;obtain rfl:u=n64 d:=by simpa using hu.symm
   unfold n64 at hcell;have dk:decide ((k:Int)<(n:Int))=true:=by simp;omega
   by_cases hdc:d=c
   ·have te:(d==c)=true:=by simp[hdc]
    have hmem:c∈l:=hdc ▸ List.mem_of_getElem? hd;have Hm:=Lib.hid hmem;clear hdc hd hu hx hmem
    go_wp2
    go_ret
    exact⟨ret_bool (by simp[Hm.out]),rfl⟩
   ·have te:(d==c)=false:=by simp[hdc]
    have hnew:Hid (c∉l.take (k+1)):=by
     show c∉_
     rw[take_snoc l k d hd];have:=hx.out;simp only[List.mem_append,List.mem_singleton,not_or]
     exact⟨this,fun e=>hdc e.symm⟩
    clear hdc hd hu hx
    go_wp2_with fail
    go_roundw
    case rel=>exact⟨k+1,by omega,by go_num,trivial,hnew⟩
    case measure=>simp[intOf];omega
  ·obtain rfl:k=n:=by omega
   have dk:decide ((k:Int)<(k:Int))=false:=by simp
   have hy:=hx.out;rw[←Hlen.out,List.take_length] at hy;have Hy:=Lib.hid hy;clear hx hlt hk hy
   go_wp2
   go_ret
   exact⟨ret_bool (by simp[Hy.out]),rfl⟩
def Db (w:World):Prop:=w.cell? ⟨8,15,none⟩=some (.int .u8 4)
theorem Db.below {w w':World} (h:Db w) (hb:Below w.heap.size w w'):Db w':=(hb.cell (p:=⟨_,15,none⟩) (World.block_lt_of_cell? _ _ h)).trans h
theorem tp_pow2 (w:World):Calls Tryz.prog 204 #[.int .i64 16] w fun e w'=>e=.returned (.bool true)∧w=w':=by
 have h1:bits .and .i64 16 15=0:=by decide
 go_enter Tryz.func204,Tryz.ntmps204
 go_wp2
 go_ret
 exact⟨rfl,rfl⟩
theorem tp_tz64 (w:World) (h:Db w):Calls Tryz.prog 211 #[.int .u64 16] w fun e w'=>e=.returned (.int .i64 4)∧w=w':=by
 unfold Db at h;have h1:bits .and .u64 16 (IntKind.u64.wrap (-16))=16:=by decide
 have h2:IntKind.u64.wrap (16 * 285870213051353865) / 288230376151711744=15:=by decide
 go_enter Tryz.func211,Tryz.ntmps211
 go_wp2
 go_ret
 exact⟨rfl,rfl⟩
theorem tp_tz (w:World) (h:Db w):Calls Tryz.prog 205 #[.int .u64 16] w fun e w'=>e=.returned (.int .i64 4)∧w=w':=by
 go_enter Tryz.func205,Tryz.ntmps205
 go_wp2_with fail
 refine(tp_tz64 w h).mono ?_
 rintro e w1 ⟨rfl,rfl⟩
 go_wp2
 go_ret
 exact⟨rfl,rfl⟩
def digS:List UInt8:=[48,49,50,51,52,53,54,55,56,57,97,98,99,100,101,102,103,104,105,106,107,108,109,110,111,112,113,114,115,116,117,118,119,120,121,122]
theorem digS_at:∀ k:Fin 16,digS[k.val]?=some (hexd k.val):=by decide
theorem dig_index (n:Nat) (h:n<16) (W:World):(Instr.index 9 (.string ⟨#[48,49,50,51,52,53,54,55,56,57,97,98,99,100,101,102,103,104,105,106,107,108,109,110,111,112,113,114,115,116,117,118,119,120,121,122]⟩) (.int .u64 (n:Int))).run Tryz.prog W=.ok (.int .u8 ((hexd n).toNat:Int)) W :=
 str_at (P:=Tryz.prog) (T:=9) Tryz.underlying9 digS .u64 n _ (digS_at ⟨n,h⟩) W
theorem and15 (n:Nat) (h:n<18446744073709551616):bits .and .u64 (n:Int) 15=((n % 16:Nat):Int):=by
 have:=u64_and_nat n 15 h (by omega);rw[nat_mask4] at this
 exact this
def Filled (w:World) (g:Nat) (T:List UInt8):Prop:=∃ xs:List Value,xs.length=65∧RowAt w g xs∧∀ (j:Nat) (b:UInt8),T[j]?=some b→xs[65-T.length+j]?=some (b8 b)
theorem Filled.put {w:World} {g:Nat} {T:List UInt8} (h:Filled w g T) (hl:T.length<65) (b:UInt8):Filled (w.setCell ⟨g,64-T.length,none⟩ (.int .u8 (b.toNat:Int))) g (b::T):=by
 obtain⟨xs,h1,h2,h3⟩:=h
 refine⟨xs.set (64-T.length) (.int .u8 (b.toNat:Int)),by rw[List.length_set];exact h1,h2.store _ _,fun j c hj=>?_⟩
 have e:65-(b::T).length=64-T.length:=by rw[List.length_cons];omega
 rw[e]
 cases j with
 | zero =>
  simp at hj;subst hj
  rw[Nat.add_zero,List.getElem?_set_self (by omega)];rfl
 | succ j =>
  rw[List.getElem?_set_ne (by omega)];have:=h3 j c (by simpa using hj);rw[show 64-T.length+(j+1)=65-T.length+j by omega];exact this
theorem Filled.at_ {w:World} {g:Nat} {T:List UInt8} (h:Filled w g T) (j:Nat) (hj:j<65):(∃ v,w.cell? ⟨g,j,none⟩=some v)∧w.frozen? ⟨g,j,none⟩=false:=by
 obtain⟨xs,h1,h2,_⟩:=h;have:=h2.2 j (xs[j]'(by omega)) (List.getElem?_eq_getElem (by omega))
 exact⟨⟨_,this.1⟩,this.2⟩
theorem Filled.reads {w:World} {g:Nat} {T:List UInt8} (h:Filled w g T) (hl:T.length≤65) (hT:T≠[]):Reads w (g+1) 1 (some ⟨g,65-T.length,none⟩) T.length (T.map b8):=by
 obtain⟨xs,h1,h2,h3⟩:=h
 refine⟨by simp,fun _=>⟨g,65-T.length,rfl,by omega,fun j u hu=>?_⟩⟩
 rw[List.getElem?_map] at hu
 cases hj:T[j]? with
 | none=>rw[hj] at hu;cases hu
 | some b =>
  rw[hj] at hu
  injection hu with hu
  subst hu
  exact(h2.2 _ _ (h3 j b hj)).1
theorem filled_new (w:World) (t:TypeId) (Z:Array Value) (hZ:Z.size=65):Filled (w.alloc (.cells Z t)) w.heap.size [] :=
 ⟨Z.toList,by simpa using hZ,RowAt.new _ _ _,fun j b h=>by simp at h⟩
theorem zero65:Tryz.zeroCells203.size=65:=by kernel_rfl
theorem arr65:Tryz.prog.arrayLen 203=65:=by kernel_rfl
theorem hex_step {n u:Nat} {T:List UInt8} (h:hexT n=hexT u++T) (hu:16≤u):hexT n=hexT (u / 16)++hexd (u % 16)::T:=by
 rw[h,show hexT u=hexT (u / 16)++[hexd (u % 16)] by rw[hexT,dif_neg (by omega)]];simp
theorem tp_bits (n:Nat) (w:World) (hn:n≤2147483647) (hD:Db w) :
  Calls Tryz.prog 192 #[.slice none 0 0,.int .u64 (n:Int),.int .i64 16,.bool false,.bool false] w fun e w'=>(∃ v,e=.returned (.tuple #[v,.string (bytesOf (hexT n))]))∧Below w.heap.size w w':=by
 have hl8:=hexT_eight n (by omega);obtain⟨wA,hwA⟩:∃ wA,w.alloc (.cells Tryz.zeroCells203 203)=wA:=⟨_,rfl⟩;have bA:Below w.heap.size w wA:=by rw[←hwA];exact(Below.refl _ _).alloc (Nat.le_refl _) _
 have fA:Filled wA w.heap.size []:=by rw[←hwA];exact filled_new _ _ _ zero65
 have hDA:=hD.below bA
 go_enter Tryz.func192,Tryz.ntmps192
 go_wp2_with fail
 refine(tp_pow2 _).mono ?_
 rintro e w1 ⟨rfl,rfl⟩
 go_wp2_with fail
 refine(tp_tz _ hDA).mono ?_
 rintro e w1 ⟨rfl,rfl⟩
 go_wp2_with fail
 go_loopw [1,13] (fun x i wr=>∃ (u:Nat) (T:List UInt8),u≤n∧Hid (hexT n=hexT u++T)∧x=.int .u64 (u:Nat)∧i=.int .i64 ((65-T.length:Nat):Int)∧Filled wr w.heap.size T∧Below w.heap.size w wr) (fun x _ _=>(intOf x).toNat)
 case atStart=>exact⟨n,[],Nat.le_refl _,(by show _=_;simp),rfl,rfl,fA,bA⟩
 case round =>
  obtain⟨u,T,hun,hrun,rfl,rfl,hF,hb⟩:=hrel;have hTl:T.length≤8:=by have:=congrArg List.length hrun.out;rw[List.length_append] at this;omega
  have hTl7:T.length≤7:=by
   have:=congrArg List.length hrun.out;have:=List.length_pos_iff.2 (show hexT u≠[] from by rw[hexT];split<;>simp)
   rw[List.length_append] at *;omega
  obtain⟨⟨v0,hv0⟩,hfz⟩:=hF.at_ (64-T.length) (by omega);have hg:=hF.choose_spec.2.1.1;obtain⟨i,hi⟩:∃ i:Nat,64-T.length=i:=⟨_,rfl⟩;have hi65:65-T.length=i+1:=by omega
  have hw1:IntKind.i64.wrap (((i+1:Nat):Int)-1)=(i:Int):=by rw[IntKind.wrap_i64];omega
  have hib:(0:Int)≤(i:Int)∧(i:Int)<65:=by omega
  rw[hi] at hv0 hfz;rw[hi65]
  by_cases h16:16≤u
  ·have t16:decide ((16:Int)≤(u:Int))=true:=by simp;omega
   obtain⟨q,hq⟩:∃ q,u / 16=q:=⟨_,rfl⟩;obtain⟨r,hr⟩:∃ r,u % 16=r:=⟨_,rfl⟩;have hstep:=hex_step hrun.out h16;rw[hq,hr] at hstep;have hand:=and15 u (by omega);rw[hr] at hand;have hix:=dig_index r (by omega);have hqi:(u:Int) / 16=(q:Int):=by omega
   have hput:=hF.put (by omega) (hexd r);rw[hi] at hput;have hbp:Below w.heap.size w (wr.setCell ⟨w.heap.size,i,none⟩ (.int .u8 ((hexd r).toNat:Int))):=hb.setCell (p:=⟨w.heap.size,i,none⟩) (Nat.le_refl _) _;have Hstep:=Lib.hid hstep;clear hstep hr hq hrun
   go_wp2_with fail
   refine⟨⟨q,hexd r::T,by omega,Hstep,rfl,congrArg (Value.int IntKind.i64) (by rw[List.length_cons];omega),hput,hbp⟩,by simp[intOf];omega⟩
  ·have t16:decide ((16:Int)≤(u:Int))=false:=by simp;omega
   have hstep:hexT n=hexd u::T:=by rw[hrun.out,hexT,dif_pos (by omega)];rfl
   have hix:=dig_index u (by omega);have hput:=hF.put (by omega) (hexd u);rw[hi] at hput;have hbp:Below w.heap.size w (wr.setCell ⟨w.heap.size,i,none⟩ (.int .u8 ((hexd u).toNat:Int))):=hb.setCell (p:=⟨w.heap.size,i,none⟩) (Nat.le_refl _) _;have hrd:=hput.reads (by rw[List.length_cons];omega) (by simp);rw[←hstep] at hrd;have hlen:(hexT n).length=65-i:=by rw[hstep,List.length_cons];omega
   have hoff:65-(hexT n).length=i:=by omega
   rw[hoff,hlen] at hrd;have hstr:=run_str (P:=Tryz.prog) (src:=22) (dst:=9) Tryz.underlying22 Tryz.underlying5 Tryz.underlying9 (65-i) hrd
   have hsl:∀ W,(Instr.sliceAt 203 (.pointer (some ⟨w.heap.size,0,none⟩)) (some (.int .i64 (i:Int))) none none).run Tryz.prog W=.ok (.slice (some ⟨w.heap.size,i,none⟩) (65-i) (65-i)) W:=fun W=>by
    rw[run_sliceAt_array_l W 203 ⟨w.heap.size,0,none⟩ (by rw[arr65];exact Tryz.underlying203) .i64 (i:Int) (by omega) (by rw[arr65];omega)];rw[arr65]
    go_simp
    omega
   clear hstep hrun hrd hlen hoff
   go_wp2_with fail
   go_ret2
   exact⟨⟨_,rfl⟩,hbp⟩
theorem tp_fmt0 (n:Nat) (w:World) (hn:n≤2147483647) (hD:Db w) :
  Calls Tryz.prog 183 #[.int .i64 (n:Int),.int .i64 16] w fun e w'=>e=.returned (.string (bytesOf (hexT n)))∧Below w.heap.size w w':=by
 have t0:decide ((n:Int)<0)=false:=by simp
 have hw:IntKind.u64.wrap (n:Int)=(n:Int):=by rw[IntKind.wrap_u64];omega
 go_enter Tryz.func183,Tryz.ntmps183
 go_wp2_with fail
 refine(tp_bits n w hn hD).mono ?_
 rintro e w1 ⟨⟨v,rfl⟩,hb⟩
 go_wp2
 go_ret
 exact⟨rfl,hb⟩
theorem tp_fmt (n:Nat) (w:World) (hn:n≤2147483647) (hD:Db w) :
  Calls Tryz.prog 168 #[.int .i64 (n:Int),.int .i64 16] w fun e w'=>e=.returned (.string (bytesOf (hexT n)))∧Below w.heap.size w w':=by
 go_enter Tryz.func168,Tryz.ntmps168
 go_wp2_with fail
 refine(tp_fmt0 n w hn hD).mono ?_
 rintro e w1 ⟨rfl,hb⟩
 go_wp2
 go_ret
 exact⟨rfl,hb⟩
theorem tp_escaped (c:Int) (w:World) (hc:isB c=true) (hD:Db w) :
  Calls Tryz.prog 144 #[.int .i32 c] w fun e w'=>e=.returned (.string (bytesOf (escP c)))∧Below w.heap.size w w':=by
 have hr:=isB_range' hc;obtain⟨n,rfl⟩:∃ n:Nat,c=n:=⟨c.toNat,by omega⟩;have hz1:=bytesOf_size (hexT n);have hl1:=hexT_eight n (by omega);have hE:escP (n:Int)=[92]++hexT n++[32]:=by unfold escP;simp
 have HE:=Lib.hid hE;clear hE hc;have hw:IntKind.i64.wrap (n:Int)=(n:Int):=by rw[IntKind.wrap_i64];omega
 go_enter Tryz.func144,Tryz.ntmps144
 go_wp2_with fail
 refine(tp_fmt n w (by omega) hD).mono ?_
 rintro e w1 ⟨rfl,hb⟩
 go_wp2
 go_ret
 refine⟨congrArg (fun b=>Ending.returned (Value.string b)) ?_,hb⟩
 rw[HE.out]
 show bytesOf [92]++bytesOf (hexT n)++bytesOf [32]=_
 rw[bytesOf_append,bytesOf_append]
theorem esc_len (c:Int) (hc:isB c=true):(escP c).length≤10:=by
 have hr:=isB_range' hc;have:=hexT_eight c.toNat (by omega);unfold escP;simp;omega
def regionOf (r:Nat):Code→Option Code
 | .seq a b=>match regionOf r a with
  | some c=>some c
  | none=>regionOf r b
 | .block _ c=>regionOf r c
 | .loop c=>regionOf r c
 | .scope c=>regionOf r c
 | .cond _ a b=>match regionOf r a with
  | some c=>some c
  | none=>regionOf r b
 | .region k x y=>if k=r then some (.region k x y) else none
 | _=>none
noncomputable def charsTest:Code:=(regionOf 21 (Tryz.f139.body.getD .skip)).getD .skip
theorem rp_cmp {wc:World} {A:Option Addr} {m c j:Nat} {DC:Int} {E T:List UInt8} (u0 u1 u2 u3 u4 u8 u9 u10 u11 u12 u13 u14 u15 u16 u17 u18 u19 u20 u21 u22 u23 u24 u25 u26 u27 u28 u29 u30 u31 u32 u33 u34 u35 u36 u37 u38 u39 u40 u41 u42 u43 u44 u45 u46 u47 u48 u49 u50 u51 u52 u53 u54 u55 u56 u57 u58 u59 u60 u61 u62 u63 u64 u65 u66 u67 u68 u69 u70 u71 u72 u73 u74 u75 u76 u77 u78:Value)
  (tN:decide (DC<0)=false) (hI:isB DC=true) (hDr:-100000000≤DC∧DC≤100000000) (hE:Lib.encodeRune DC=E) (hjm:j≤m) (hmc:m≤c)
  (hconvT:∀ W:World,Below wc.heap.size wc W→(convert 22 9 (.slice A j c)).run Tryz.prog W=.ok (.string (bytesOf T)) W)
  (hsl:∀ W,(Instr.slice 22 (.slice A m c) none (some (.int .i64 (j:Int))) none).run Tryz.prog W=.ok (.slice A j c) W) :
  Code.wp Tryz.prog charsTest (fun e a W=>match e with
   | .normal=>(∃ v54 v55 v56 v57 v58 v59 v60 v61 v62 v63 v64 v65 v66 v67 v68 v69:Value,a=⟨(List.toArray (u0::u1::u2::u3::u4::Value.slice A m c::Value.int .i64 (j:Int)::Value.int .i64 DC::u8::u9::u10::u11::u12::u13::u14::u15::u16::u17::u18::u19::u20::u21::u22::u23::u24::u25::u26::u27::u28::u29::u30::u31::u32::u33::u34::u35::u36::u37::u38::u39::u40::u41::u42::u43::u44::u45::u46::u47::u48::u49::u50::u51::u52::u53::v54::v55::v56::v57::v58::v59::v60::v61::v62::v63::v64::v65::v66::v67::v68::v69::Value.bool (!decide (E=T))::u71::u72::u73::u74::u75::u76::u77::u78::[])),[]⟩)∧Below wc.heap.size wc W
   | _=>False) ⟨(List.toArray (u0::u1::u2::u3::u4::Value.slice A m c::Value.int .i64 (j:Int)::Value.int .i64 DC::u8::u9::u10::u11::u12::u13::u14::u15::u16::u17::u18::u19::u20::u21::u22::u23::u24::u25::u26::u27::u28::u29::u30::u31::u32::u33::u34::u35::u36::u37::u38::u39::u40::u41::u42::u43::u44::u45::u46::u47::u48::u49::u50::u51::u52::u53::u54::u55::u56::u57::u58::u59::u60::u61::u62::u63::u64::u65::u66::u67::u68::u69::u70::u71::u72::u73::u74::u75::u76::u77::u78::[])),[]⟩ wc:=by
 conv=>arg 2;whnf
 have cI:∀ W:World,Calls Tryz.prog 161 #[.int .i64 DC] W fun e w'=>e=.returned (.bool true)∧W=w':=fun W=>by
  have h:=ref_is DC W (by omega) (by omega);rw[hI] at h;exact h
 have cB:=fun W=>ref_bytes DC W hI
 rw[hE] at cB;have hrow0:RowAt (wc.alloc (.cells (E.map b8).toArray 5)) wc.heap.size (E.map b8):=by simpa using RowAt.new wc 5 (E.map b8).toArray
 have hrow:∀ k:Nat,RowAt ((wc.alloc (.cells (E.map b8).toArray 5)).drewN k) wc.heap.size (E.map b8):=fun k=>hrow0
 have hconv:∀ k:Nat,(convert 22 9 (.slice (some ⟨wc.heap.size,0,none⟩) E.length E.length)).run Tryz.prog ((wc.alloc (.cells (E.map b8).toArray 5)).drewN k)=.ok (.string (bytesOf E)) ((wc.alloc (.cells (E.map b8).toArray 5)).drewN k):=fun k=>by
  have hrd:=(hrow k).reads (B:=wc.heap.size+1) (by omega);rw[List.length_map] at hrd
  exact run_str (P:=Tryz.prog) Tryz.underlying22 Tryz.underlying5 Tryz.underlying9 E.length hrd
 have k0:(convert 22 9 (.slice (some ⟨wc.heap.size,0,none⟩) E.length E.length)).run Tryz.prog (wc.alloc (.cells (E.map b8).toArray 5))=.ok (.string (bytesOf E)) (wc.alloc (.cells (E.map b8).toArray 5)):=hconv 0;have k1:(convert 22 9 (.slice (some ⟨wc.heap.size,0,none⟩) E.length E.length)).run Tryz.prog ((wc.alloc (.cells (E.map b8).toArray 5)).drew)=.ok (.string (bytesOf E)) ((wc.alloc (.cells (E.map b8).toArray 5)).drew):=hconv 1;have k2:(convert 22 9 (.slice (some ⟨wc.heap.size,0,none⟩) E.length E.length)).run Tryz.prog (wc.drew.alloc (.cells (E.map b8).toArray 5))=.ok (.string (bytesOf E)) (wc.drew.alloc (.cells (E.map b8).toArray 5)):=hconv 1;have m0:=hconvT (wc) (Below.refl _ _);have m1:=hconvT (wc.drew) (Below.refl _ _).drew;have m2:=hconvT (wc.alloc (.cells (E.map b8).toArray 5)) ((Below.refl _ _).alloc (Nat.le_refl _) _);have m3:=hconvT ((wc.alloc (.cells (E.map b8).toArray 5)).drew) ((Below.refl _ _).alloc (Nat.le_refl _) _).drew;have m4:=hconvT (wc.drew.alloc (.cells (E.map b8).toArray 5)) ((Below.refl _ _).drew.alloc (Nat.le_refl _) _);have hb:Below wc.heap.size wc (wc.alloc (.cells (E.map b8).toArray 5)).drew:=((Below.refl _ _).alloc (Nat.le_refl _) _).drew;clear hconv hconvT hrow hrow0 hE hI
 have hne:(E=T∧((bytesOf E).toList==(bytesOf T).toList)=true)∨(E≠T∧¬ (bytesOf E).toList=(bytesOf T).toList∧((bytesOf E).toList==(bytesOf T).toList)=false):=by
  by_cases h:E=T
  ·left;exact⟨h,by rw[h];simp⟩
  ·right;rw[bytesOf_toList,bytesOf_toList];exact⟨h,h,by simpa using h⟩
 rcases hne with⟨h,q1⟩|⟨h,q1,q2⟩
 ·have Hh:=Lib.hid h
  clear h
  refine wp_region_any (by kernel_rfl) ?_
  try(change wpAny _ _ _ _ _ _ _ (World.drew _))
  refine wpAny_take (i:=0) (v:=?_) rfl (by kernel_rfl) (by kernel_rfl) (by kernel_rfl) (fun _ _ _ h=>h) (Or.inl ⟨by kernel_rfl,?_⟩) ?_
  rotate_left
  ·intro w;go_simp;(try with_reducible rfl)
  refine wpAny_take (i:=1) (v:=?_) rfl (by kernel_rfl) (by kernel_rfl) (by kernel_rfl) (fun _ _ _ h=>h) (Or.inl ⟨by kernel_rfl,?_⟩) ?_
  rotate_left
  ·intro w;go_simp;(try with_reducible rfl)
  refine wpAny_take (i:=2) (v:=?_) rfl (by kernel_rfl) (by kernel_rfl) (by kernel_rfl) (fun _ _ _ h=>h) (Or.inl ⟨by kernel_rfl,?_⟩) ?_
  rotate_left
  ·intro w;go_simp;(try with_reducible rfl)
  refine wpAny_take (i:=3) (v:=?_) rfl (by kernel_rfl) (by kernel_rfl) (by kernel_rfl) (fun _ _ _ h=>h) (Or.inl ⟨by kernel_rfl,?_⟩) ?_
  rotate_left
  ·intro w;go_simp;(try with_reducible rfl)
  refine wpAny_ready (rs:=[4]) (by kernel_rfl) (by simp) ?_
  refine AllReady.cons rfl (fun K hK=>?_) ?_
  ·go_simp
   go_wp2_with (go_at_call 161;refine(cI _).mono ?_;rintro e w' ⟨rfl,rfl⟩)
   (try(refine hK _ _ ?_;clear hK K))
   refine wpAny_take (i:=5) (v:=?_) rfl (by kernel_rfl) (by kernel_rfl) (by kernel_rfl) (fun _ _ _ h=>h) (Or.inl ⟨by kernel_rfl,?_⟩) ?_
   rotate_left
   ·intro w;go_simp;(try with_reducible rfl)
   refine wpAny_take (i:=6) (v:=?_) rfl (by kernel_rfl) (by kernel_rfl) (by kernel_rfl) (fun _ _ _ h=>h) (Or.inl ⟨by kernel_rfl,?_⟩) ?_
   rotate_left
   ·intro w;go_simp;(try with_reducible rfl)
   refine wpAny_take (i:=7) (v:=?_) rfl (by kernel_rfl) (by kernel_rfl) (by kernel_rfl) (fun _ _ _ h=>h) (Or.inl ⟨by kernel_rfl,?_⟩) ?_
   rotate_left
   ·intro w;go_simp;(try with_reducible rfl)
   refine wpAny_take (i:=8) (v:=?_) rfl (by kernel_rfl) (by kernel_rfl) (by kernel_rfl) (fun _ _ _ h=>h) (Or.inl ⟨by kernel_rfl,?_⟩) ?_
   rotate_left
   ·intro w;go_simp;(try with_reducible rfl)
   refine wpAny_take (i:=11) (v:=?_) rfl (by kernel_rfl) (by kernel_rfl) (by kernel_rfl) (fun _ _ _ h=>h) (Or.inl ⟨by kernel_rfl,?_⟩) ?_
   rotate_left
   ·intro w;go_simp;(try with_reducible rfl)
   refine wpAny_take (i:=12) (v:=?_) rfl (by kernel_rfl) (by kernel_rfl) (by kernel_rfl) (fun _ _ _ h=>h) (Or.inl ⟨by kernel_rfl,?_⟩) ?_
   rotate_left
   ·intro w;go_simp;(try with_reducible rfl)
   refine wpAny_take (i:=13) (v:=?_) rfl (by kernel_rfl) (by kernel_rfl) (by kernel_rfl) (fun _ _ _ h=>h) (Or.inl ⟨by kernel_rfl,?_⟩) ?_
   rotate_left
   ·intro w;go_simp;(try with_reducible rfl)
   refine wpAny_ready (rs:=[9,14]) (by kernel_rfl) (by simp) ?_
   refine AllReady.cons rfl (fun K hK=>?_) ?_
   ·go_simp
    go_wp2_with (go_at_call 162;refine(cB _).mono ?_;rintro e w' ⟨rfl,rfl⟩)
    (try(refine hK _ _ ?_;clear hK K))
    refine wpAny_ready (rs:=[10,14]) (by kernel_rfl) (by simp) ?_
    refine AllReady.cons rfl (fun K hK=>?_) ?_
    ·go_simp
     (try(refine hK _ _ ?_;clear hK K))
     refine wpAny_ready (rs:=[14]) (by kernel_rfl) (by simp) ?_
     refine AllReady.cons rfl (fun K hK=>?_) ?_
     ·go_simp
      (try(refine hK _ _ ?_;clear hK K))
      refine wpAny_take (i:=15) (v:=?_) rfl (by kernel_rfl) (by kernel_rfl) (by kernel_rfl) (fun _ _ _ h=>h) (Or.inl ⟨by kernel_rfl,?_⟩) ?_
      rotate_left
      ·intro w;go_simp;(try with_reducible rfl)
      refine wpAny_take (i:=16) (v:=?_) rfl (by kernel_rfl) (by kernel_rfl) (by kernel_rfl) (fun _ _ _ h=>h) (Or.inl ⟨by kernel_rfl,?_⟩) ?_
      rotate_left
      ·intro w;go_simp;(try with_reducible rfl)
      refine wpAny_done (by kernel_rfl) ?_ _
      (go_simp;exact Hh.out)
     ·exact AllReady.nil
    ·refine AllReady.cons rfl (fun K hK=>?_) ?_
     ·go_simp
      (try(refine hK _ _ ?_;clear hK K))
      refine wpAny_ready (rs:=[10]) (by kernel_rfl) (by simp) ?_
      refine AllReady.cons rfl (fun K hK=>?_) ?_
      ·go_simp
       (try(refine hK _ _ ?_;clear hK K))
       refine wpAny_take (i:=15) (v:=?_) rfl (by kernel_rfl) (by kernel_rfl) (by kernel_rfl) (fun _ _ _ h=>h) (Or.inl ⟨by kernel_rfl,?_⟩) ?_
       rotate_left
       ·intro w;go_simp;(try with_reducible rfl)
       refine wpAny_take (i:=16) (v:=?_) rfl (by kernel_rfl) (by kernel_rfl) (by kernel_rfl) (fun _ _ _ h=>h) (Or.inl ⟨by kernel_rfl,?_⟩) ?_
       rotate_left
       ·intro w;go_simp;(try with_reducible rfl)
       refine wpAny_done (by kernel_rfl) ?_ _
       (go_simp;exact Hh.out)
      ·exact AllReady.nil
     ·exact AllReady.nil
   ·refine AllReady.cons rfl (fun K hK=>?_) ?_
    ·go_simp
     (try(refine hK _ _ ?_;clear hK K))
     refine wpAny_ready (rs:=[9]) (by kernel_rfl) (by simp) ?_
     refine AllReady.cons rfl (fun K hK=>?_) ?_
     ·go_simp
      go_wp2_with (go_at_call 162;refine(cB _).mono ?_;rintro e w' ⟨rfl,rfl⟩)
      (try(refine hK _ _ ?_;clear hK K))
      refine wpAny_ready (rs:=[10]) (by kernel_rfl) (by simp) ?_
      refine AllReady.cons rfl (fun K hK=>?_) ?_
      ·go_simp
       (try(refine hK _ _ ?_;clear hK K))
       refine wpAny_take (i:=15) (v:=?_) rfl (by kernel_rfl) (by kernel_rfl) (by kernel_rfl) (fun _ _ _ h=>h) (Or.inl ⟨by kernel_rfl,?_⟩) ?_
       rotate_left
       ·intro w;go_simp;(try with_reducible rfl)
       refine wpAny_take (i:=16) (v:=?_) rfl (by kernel_rfl) (by kernel_rfl) (by kernel_rfl) (fun _ _ _ h=>h) (Or.inl ⟨by kernel_rfl,?_⟩) ?_
       rotate_left
       ·intro w;go_simp;(try with_reducible rfl)
       refine wpAny_done (by kernel_rfl) ?_ _
       (go_simp;exact Hh.out)
      ·exact AllReady.nil
     ·exact AllReady.nil
    ·exact AllReady.nil
  ·exact AllReady.nil
 ·have Hh:=Lib.hid h
  clear h
  refine wp_region_any (by kernel_rfl) ?_
  try(change wpAny _ _ _ _ _ _ _ (World.drew _))
  refine wpAny_take (i:=0) (v:=?_) rfl (by kernel_rfl) (by kernel_rfl) (by kernel_rfl) (fun _ _ _ h=>h) (Or.inl ⟨by kernel_rfl,?_⟩) ?_
  rotate_left
  ·intro w;go_simp;(try with_reducible rfl)
  refine wpAny_take (i:=1) (v:=?_) rfl (by kernel_rfl) (by kernel_rfl) (by kernel_rfl) (fun _ _ _ h=>h) (Or.inl ⟨by kernel_rfl,?_⟩) ?_
  rotate_left
  ·intro w;go_simp;(try with_reducible rfl)
  refine wpAny_take (i:=2) (v:=?_) rfl (by kernel_rfl) (by kernel_rfl) (by kernel_rfl) (fun _ _ _ h=>h) (Or.inl ⟨by kernel_rfl,?_⟩) ?_
  rotate_left
  ·intro w;go_simp;(try with_reducible rfl)
  refine wpAny_take (i:=3) (v:=?_) rfl (by kernel_rfl) (by kernel_rfl) (by kernel_rfl) (fun _ _ _ h=>h) (Or.inl ⟨by kernel_rfl,?_⟩) ?_
  rotate_left
  ·intro w;go_simp;(try with_reducible rfl)
  refine wpAny_ready (rs:=[4]) (by kernel_rfl) (by simp) ?_
  refine AllReady.cons rfl (fun K hK=>?_) ?_
  ·go_simp
   go_wp2_with (go_at_call 161;refine(cI _).mono ?_;rintro e w' ⟨rfl,rfl⟩)
   (try(refine hK _ _ ?_;clear hK K))
   refine wpAny_take (i:=5) (v:=?_) rfl (by kernel_rfl) (by kernel_rfl) (by kernel_rfl) (fun _ _ _ h=>h) (Or.inl ⟨by kernel_rfl,?_⟩) ?_
   rotate_left
   ·intro w;go_simp;(try with_reducible rfl)
   refine wpAny_take (i:=6) (v:=?_) rfl (by kernel_rfl) (by kernel_rfl) (by kernel_rfl) (fun _ _ _ h=>h) (Or.inl ⟨by kernel_rfl,?_⟩) ?_
   rotate_left
   ·intro w;go_simp;(try with_reducible rfl)
   refine wpAny_take (i:=7) (v:=?_) rfl (by kernel_rfl) (by kernel_rfl) (by kernel_rfl) (fun _ _ _ h=>h) (Or.inl ⟨by kernel_rfl,?_⟩) ?_
   rotate_left
   ·intro w;go_simp;(try with_reducible rfl)
   refine wpAny_take (i:=8) (v:=?_) rfl (by kernel_rfl) (by kernel_rfl) (by kernel_rfl) (fun _ _ _ h=>h) (Or.inl ⟨by kernel_rfl,?_⟩) ?_
   rotate_left
   ·intro w;go_simp;(try with_reducible rfl)
   refine wpAny_take (i:=11) (v:=?_) rfl (by kernel_rfl) (by kernel_rfl) (by kernel_rfl) (fun _ _ _ h=>h) (Or.inl ⟨by kernel_rfl,?_⟩) ?_
   rotate_left
   ·intro w;go_simp;(try with_reducible rfl)
   refine wpAny_take (i:=12) (v:=?_) rfl (by kernel_rfl) (by kernel_rfl) (by kernel_rfl) (fun _ _ _ h=>h) (Or.inl ⟨by kernel_rfl,?_⟩) ?_
   rotate_left
   ·intro w;go_simp;(try with_reducible rfl)
   refine wpAny_take (i:=13) (v:=?_) rfl (by kernel_rfl) (by kernel_rfl) (by kernel_rfl) (fun _ _ _ h=>h) (Or.inl ⟨by kernel_rfl,?_⟩) ?_
   rotate_left
   ·intro w;go_simp;(try with_reducible rfl)
   refine wpAny_ready (rs:=[9,14]) (by kernel_rfl) (by simp) ?_
   refine AllReady.cons rfl (fun K hK=>?_) ?_
   ·go_simp
    go_wp2_with (go_at_call 162;refine(cB _).mono ?_;rintro e w' ⟨rfl,rfl⟩)
    (try(refine hK _ _ ?_;clear hK K))
    refine wpAny_ready (rs:=[10,14]) (by kernel_rfl) (by simp) ?_
    refine AllReady.cons rfl (fun K hK=>?_) ?_
    ·go_simp
     (try(refine hK _ _ ?_;clear hK K))
     refine wpAny_ready (rs:=[14]) (by kernel_rfl) (by simp) ?_
     refine AllReady.cons rfl (fun K hK=>?_) ?_
     ·go_simp
      (try(refine hK _ _ ?_;clear hK K))
      refine wpAny_take (i:=15) (v:=?_) rfl (by kernel_rfl) (by kernel_rfl) (by kernel_rfl) (fun _ _ _ h=>h) (Or.inl ⟨by kernel_rfl,?_⟩) ?_
      rotate_left
      ·intro w;go_simp;(try with_reducible rfl)
      refine wpAny_take (i:=16) (v:=?_) rfl (by kernel_rfl) (by kernel_rfl) (by kernel_rfl) (fun _ _ _ h=>h) (Or.inl ⟨by kernel_rfl,?_⟩) ?_
      rotate_left
      ·intro w;go_simp;(try with_reducible rfl)
      refine wpAny_done (by kernel_rfl) ?_ _
      (go_simp;exact Hh.out)
     ·exact AllReady.nil
    ·refine AllReady.cons rfl (fun K hK=>?_) ?_
     ·go_simp
      (try(refine hK _ _ ?_;clear hK K))
      refine wpAny_ready (rs:=[10]) (by kernel_rfl) (by simp) ?_
      refine AllReady.cons rfl (fun K hK=>?_) ?_
      ·go_simp
       (try(refine hK _ _ ?_;clear hK K))
       refine wpAny_take (i:=15) (v:=?_) rfl (by kernel_rfl) (by kernel_rfl) (by kernel_rfl) (fun _ _ _ h=>h) (Or.inl ⟨by kernel_rfl,?_⟩) ?_
       rotate_left
       ·intro w;go_simp;(try with_reducible rfl)
       refine wpAny_take (i:=16) (v:=?_) rfl (by kernel_rfl) (by kernel_rfl) (by kernel_rfl) (fun _ _ _ h=>h) (Or.inl ⟨by kernel_rfl,?_⟩) ?_
       rotate_left
       ·intro w;go_simp;(try with_reducible rfl)
       refine wpAny_done (by kernel_rfl) ?_ _
       (go_simp;exact Hh.out)
      ·exact AllReady.nil
     ·exact AllReady.nil
   ·refine AllReady.cons rfl (fun K hK=>?_) ?_
    ·go_simp
     (try(refine hK _ _ ?_;clear hK K))
     refine wpAny_ready (rs:=[9]) (by kernel_rfl) (by simp) ?_
     refine AllReady.cons rfl (fun K hK=>?_) ?_
     ·go_simp
      go_wp2_with (go_at_call 162;refine(cB _).mono ?_;rintro e w' ⟨rfl,rfl⟩)
      (try(refine hK _ _ ?_;clear hK K))
      refine wpAny_ready (rs:=[10]) (by kernel_rfl) (by simp) ?_
      refine AllReady.cons rfl (fun K hK=>?_) ?_
      ·go_simp
       (try(refine hK _ _ ?_;clear hK K))
       refine wpAny_take (i:=15) (v:=?_) rfl (by kernel_rfl) (by kernel_rfl) (by kernel_rfl) (fun _ _ _ h=>h) (Or.inl ⟨by kernel_rfl,?_⟩) ?_
       rotate_left
       ·intro w;go_simp;(try with_reducible rfl)
       refine wpAny_take (i:=16) (v:=?_) rfl (by kernel_rfl) (by kernel_rfl) (by kernel_rfl) (fun _ _ _ h=>h) (Or.inl ⟨by kernel_rfl,?_⟩) ?_
       rotate_left
       ·intro w;go_simp;(try with_reducible rfl)
       refine wpAny_done (by kernel_rfl) ?_ _
       (go_simp;exact Hh.out)
      ·exact AllReady.nil
     ·exact AllReady.nil
    ·exact AllReady.nil
  ·exact AllReady.nil
end Go.Proofs.YtfhdihdafmahgaaGreatDoor
