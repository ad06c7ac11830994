import Derived.Test.YtfhdihdafmahgaaGreatDoorR08
import Derived.Maps.OwnSet
set_option linter.unusedVariables false
set_option linter.unusedSimpArgs false
set_option maxRecDepth 100000
set_option maxHeartbeats 1000000
namespace Go.Proofs.YtfhdihdafmahgaaGreatDoor
open Go.RowKit Rn Tk Fx
namespace Nm
def StopM (y:List UInt8):Prop:=∀ b t,y=b::t→isD b=false∧b.toNat≠46∧b.toNat≠101∧b.toNat≠69
theorem stop_isD {y:List UInt8} (h:StopM y):digs y=0:=by
 cases y with
 | nil=>rfl
 | cons b t =>
  unfold digs;rw[List.takeWhile_cons,if_neg (by simp[(h b t rfl).1])];rfl
theorem digs_app (x y:List UInt8) (h:StopM y):digs (x++y)=digs x:=by
 induction x with
 | nil=>rw[List.nil_append,stop_isD h];rfl
 | cons b t ih =>
  unfold digs at ih ⊢;rw[List.cons_append,List.takeWhile_cons,List.takeWhile_cons]
  split
  ·simp only[List.length_cons,ih]
  ·rfl
theorem sgn_app (x y:List UInt8) (h:x≠[]):sgn (x++y)=sgn x:=by
 obtain⟨b,t,rfl⟩:=List.exists_cons_of_ne_nil h
 rfl
theorem get_app (x y:List UInt8) (h:StopM y) {i:Nat} (hi:i≤x.length):((x++y)[i]?=some 46↔x[i]?=some 46)∧isE (x++y)[i]?=isE x[i]?:=by
 by_cases hl:i<x.length
 ·rw[List.getElem?_append_left hl];exact⟨Iff.rfl,rfl⟩
 ·rw[List.getElem?_append_right (by omega),show i-x.length=0 by omega,List.getElem?_eq_none (by omega:x.length≤i)]
  cases y with
  | nil=>exact⟨Iff.rfl,rfl⟩
  | cons b t =>
   have:=h b t rfl
   refine⟨⟨fun hb=>?_,fun hb=>by cases hb⟩,?_⟩
   ·simp at hb;subst hb;exact absurd rfl this.2.1
   ·simp[isE];omega
theorem frac_app (x y:List UInt8) (h:StopM y) {a:Nat} (ha:a≤x.length):((x++y)[a]?=some 46∧0<digs ((x++y).drop (a+1)))↔(x[a]?=some 46∧0<digs (x.drop (a+1))):=by
 have hg:=(get_app x y h ha).1
 constructor
 ·rintro⟨h1,h2⟩
  have h3:=hg.1 h1;have hlt:=(List.getElem?_eq_some_iff.1 h3).1;rw[Np.drop_app x y (by omega),digs_app _ y h] at h2
  exact⟨h3,h2⟩
 ·rintro⟨h1,h2⟩
  have hlt:=(List.getElem?_eq_some_iff.1 h1).1;rw[Np.drop_app x y (by omega),digs_app _ y h]
  exact⟨hg.2 h1,h2⟩
theorem body_app (x y:List UInt8) (hx:x≠[]) (h:StopM y):bodyLen (x++y)=bodyLen x:=by
 unfold bodyLen;simp only[sgn_app x y hx,Np.drop_app x y (Np.sgn_len x),digs_app _ y h];have hf:=frac_app x y h (Np.int_len x)
 by_cases hc:x[sgn x+digs (x.drop (sgn x))]?=some 46∧0<digs (x.drop (sgn x+digs (x.drop (sgn x))+1))
 ·have hlt:=(List.getElem?_eq_some_iff.1 hc.1).1
  rw[if_pos hc,if_pos (hf.2 hc),Np.drop_app x y (by omega),digs_app _ y h]
 ·rw[if_neg hc,if_neg (fun h'=>hc (hf.1 h'))]
theorem some_app (x y:List UInt8) (hx:x≠[]) (h:StopM y):some_ (x++y)=some_ x:=by
 unfold some_;simp only[sgn_app x y hx,Np.drop_app x y (Np.sgn_len x),digs_app _ y h];rw[Bool.eq_iff_iff,decide_eq_true_iff,decide_eq_true_iff,frac_app x y h (Np.int_len x)]
theorem len_app (x y:List UInt8) (hx:x≠[]) (h:StopM y) (hb:bodyLen x=x.length):lenP (x++y)=lenP x:=by
 unfold lenP;rw[some_app x y hx h]
 split
 ·rfl
 simp only[body_app x y hx h];have hg:=(get_app x y h (i:=bodyLen x) (by omega)).2;have hn:isE x[bodyLen x]?=false:=by rw[hb,List.getElem?_eq_none (Nat.le_refl _)];rfl
 rw[hg,hn]
 simp
end Nm
theorem dig_frac:∀ r:Fin 1000,∀ b∈fracT r.val,isD b=true∨b=46:=by decide +kernel
theorem printP_bytes (n:Int):∀ b∈Fx.printP n,isD b=true∨b=45∨b=46:=by
 intro b hb;unfold Fx.printP at hb
 rcases List.mem_append.1 hb with hb|hb
 ·split at hb
  ·exact .inr (.inl (by simpa using hb))
  ·cases hb
 ·unfold printN at hb
  rcases List.mem_append.1 hb with hb|hb
  ·exact .inl ((dec_facts _ _ (Nat.le_refl _)).1 b hb)
  ·have hm:(stopZ n).natAbs % 1000<1000:=Nat.mod_lt _ (by omega)
   rcases dig_frac ⟨_,hm⟩ b hb with h|h
   ·exact .inl h
   ·exact .inr (.inr h)
theorem printP_ne (n:Int):Fx.printP n≠[]:=by
 have h:=(dec_facts _ ((stopZ n).natAbs / 1000) (Nat.le_refl _)).2.2;unfold Fx.printP printN;intro e;have:=(List.append_eq_nil_iff.1 e).2
 exact h (List.append_eq_nil_iff.1 this).1
theorem printP_body (n:Int):bodyLen (Fx.printP n)=(Fx.printP n).length:=by
 have hp:=(parse_print n).2.1;have hb:=Np.body_len (Fx.printP n);have hne:=printP_ne n;have hpos:=List.length_pos_iff.2 hne
 have hE:isE (Fx.printP n)[bodyLen (Fx.printP n)]?=false:=by
  cases h:(Fx.printP n)[bodyLen (Fx.printP n)]? with
  | none=>rfl
  | some b =>
   have:=printP_bytes n b (List.mem_of_getElem? h);unfold isE;simp only
   rcases this with h1|rfl|rfl
   ·unfold isD at h1;simp at h1 ⊢;omega
   ·decide
   ·decide
 unfold lenP at hp
 split at hp
 ·omega
 ·simp only[hE] at hp
  simpa using hp
end Go.Proofs.YtfhdihdafmahgaaGreatDoor
namespace Go.Proofs.YtfhdihdafmahgaaGreatDoor
open Go.RowKit Go.Maps Rn Tk
def tokV (t:Tok):Value:=.agg #[.int .i64 (t.kind:Int),.string (bytesOf t.text),.int .i64 t.n]
theorem results_tok {fn:Func} {p:Tmp} (h:fn.results=#[.cell p 58]) (tmps:Array Value) (w:World) (g:Nat) (a b c:Value) (hp:tmps.getD p undef=.pointer (some ⟨g,0,none⟩)) (hr:RowAt w g [a,b,c]):(results fn tmps).run Tryz.prog w=.ok (.agg #[a,b,c]) w:=by
 obtain⟨c0,_⟩:=hr.2 0 _ rfl;obtain⟨c1,_⟩:=hr.2 1 _ rfl;obtain⟨c2,_⟩:=hr.2 2 _ rfl;have hp':tmps[p]?.getD undef=.pointer (some ⟨g,0,none⟩):=by simpa using hp
 simp[results,h,hp',asAddr,go_sem,c0,c1,c2]
theorem keyed32:Keyed Tryz.prog 21:=int_keyed Tryz.underlying21
theorem zero_int (w:World):(zeroValue 3).run Tryz.prog w=.ok (.int .i64 0) w:=by kernel_rfl
abbrev KMap (w:World) (b n:Nat) (D:DataW Unit):Prop:=w.ownsMap Tryz.prog 21 (plainElem Tryz.prog 3) b n D
theorem kmap_put {w:World} {b n:Nat} {D:DataW Unit} (h:KMap w b n D) (hn:n<100) (k v:Int) (hk:(Lit.int .i32 k).wf=true) (hv:(Lit.int .i64 v).wf=true) :
  ∃ w',(Instr.mapUpdate 150 (.map (some b)) (.int .i32 k) (.int .i64 v)).run Tryz.prog w=.ok () w'∧KMap w' b (n+1) (D.put (.int .i32 k) (.lit (.int .i64 v)))∧w.grownBy w' (some b) :=
 h.update keyed32 Tryz.underlying150 (by unfold maxLen;omega) (keyOf_int_mk Tryz.underlying21 hk) (plainElem_int Tryz.underlying3 hv)
def signD:DataW Unit:=.map [(.int .i32 40,.lit (.int .i64 12)),(.int .i32 41,.lit (.int .i64 13)),(.int .i32 44,.lit (.int .i64 16)),(.int .i32 58,.lit (.int .i64 14)),(.int .i32 59,.lit (.int .i64 15)),(.int .i32 91,.lit (.int .i64 12)),(.int .i32 93,.lit (.int .i64 13)),(.int .i32 123,.lit (.int .i64 12)),(.int .i32 125,.lit (.int .i64 13))]
theorem signD_puts:(((((((((DataW.map []:DataW Unit).put (.int .i32 40) (.lit (.int .i64 12))).put (.int .i32 91) (.lit (.int .i64 12))).put (.int .i32 123) (.lit (.int .i64 12))).put (.int .i32 41) (.lit (.int .i64 13))).put (.int .i32 93) (.lit (.int .i64 13))).put (.int .i32 125) (.lit (.int .i64 13))).put (.int .i32 58) (.lit (.int .i64 14))).put (.int .i32 59) (.lit (.int .i64 15))).put (.int .i32 44) (.lit (.int .i64 16))=signD:=by rfl
theorem sign_at (c:Int):(Maps.has signD (.int .i32 c)=true∧signD.atKey (.int .i32 c) (.lit (.int .i64 0))=.lit (.int .i64 (signK c))∧signK c≠11)∨(Maps.has signD (.int .i32 c)=false∧signK c=11):=by
 by_cases h:c=40∨c=41∨c=44∨c=58∨c=59∨c=91∨c=93∨c=123∨c=125
 ·left
  rcases h with rfl | rfl | rfl | rfl | rfl | rfl | rfl | rfl | rfl<;>exact⟨rfl,rfl,by decide⟩
 ·right
  constructor
  ·simp only[Maps.has,signD,List.any_cons,List.any_nil,Lit.sameKey]
   simp;omega
  ·unfold signK
   rw[if_neg (by omega),if_neg (by omega),if_neg (by omega),if_neg (by omega),if_neg (by omega)]
theorem grown_new {w W:World} {row:Option Nat} (h:w.grownBy W row) {p:Addr} (hp:w.heap.size≤p.block) (v:Value):w.grownBy (W.setCell p v) row:=by
 refine⟨h.os,h.tape,h.output,by simpa [World.setCell] using h.size,fun i hi hne=>?_⟩
 rw[←h.block i hi hne];simp only[World.setCell];rw[Array.getElem?_modify,if_neg (by omega)]
theorem grownBy_set (W:World) (p:Addr) (v:Value):W.grownBy (W.setCell p v) (some p.block):=by
 refine⟨rfl,rfl,rfl,by simp[World.setCell],fun i hi hne=>?_⟩
 simp only[World.setCell];rw[Array.getElem?_modify,if_neg (fun e=>hne (by rw[e]))]
theorem RowAt.grown {w w':World} {g:Nat} {xs:List Value} {row:Option Nat} (h:RowAt w g xs) (hg:w.grownBy w' row) (hne:some g≠row):RowAt w' g xs :=
 ⟨Nat.lt_of_lt_of_le h.1 hg.size,fun j u hu=>⟨(hg.cell_far ⟨g,j,none⟩ h.1 hne).trans (h.2 j u hu).1,(hg.frozen_far ⟨g,j,none⟩ h.1 hne).trans (h.2 j u hu).2⟩⟩
theorem tk_sign (c:Int) (w:World) (hc:-2147483648≤c∧c≤2147483647) :
  Calls Tryz.prog 92 #[.int .i32 c] w fun e w'=>e=.returned (tokV (signT c))∧w.grownBy w' none:=by
 obtain⟨wA,hwA⟩:∃ wA,w.alloc (.cells #[.int .i64 0,.string ⟨#[]⟩,.int .i64 0] 58)=wA:=⟨_,rfl⟩;have hszA:wA.heap.size=w.heap.size+1:=by rw[←hwA];simp
 have K0:KMap (wA.alloc (.map #[] 0)) wA.heap.size 0 (.map []):=World.ownsMap_made _ _ _ _;rw[hszA] at K0;obtain⟨w1,r1,K1,g1⟩:=kmap_put K0 (by omega) 40 12 (by decide) (by decide);obtain⟨w2,r2,K2,g2⟩:=kmap_put K1 (by omega) 91 12 (by decide) (by decide);obtain⟨w3,r3,K3,g3⟩:=kmap_put K2 (by omega) 123 12 (by decide) (by decide);obtain⟨w4,r4,K4,g4⟩:=kmap_put K3 (by omega) 41 13 (by decide) (by decide);obtain⟨w5,r5,K5,g5⟩:=kmap_put K4 (by omega) 93 13 (by decide) (by decide);obtain⟨w6,r6,K6,g6⟩:=kmap_put K5 (by omega) 125 13 (by decide) (by decide);obtain⟨w7,r7,K7,g7⟩:=kmap_put K6 (by omega) 58 14 (by decide) (by decide);obtain⟨w8,r8,K8,g8⟩:=kmap_put K7 (by omega) 59 15 (by decide) (by decide);obtain⟨w9,r9,K9,g9⟩:=kmap_put K8 (by omega) 44 16 (by decide) (by decide);rw[signD_puts] at K9;have g:(wA.alloc (.map #[] 0)).grownBy w9 (some (w.heap.size+1)):=(((((((g1.trans g2).trans g3).trans g4).trans g5).trans g6).trans g7).trans g8).trans g9;have hcw:(Lit.int .i32 c).wf=true:=WalkArith.wf_i32 (by omega);obtain⟨v,ps,rl,hv⟩:=K9.look_ok keyed32 Tryz.underlying150 (zero_int _) (plainElem_int Tryz.underlying3 (by decide)) (keyOf_int_mk Tryz.underlying21 hcw);obtain⟨x,rfl,hx,_⟩:=plainElem_int_inv Tryz.underlying3 hv;have hx':=(Prod.mk.inj hx).1;clear g1 g2 g3 g4 g5 g6 g7 g8 g9 K1 K2 K3 K4 K5 K6 K7 K8 K9 K0 hv hx;have hmm:=@run_makeMap Tryz.prog
 have hR:RowAt w9 w.heap.size [.int .i64 0,.string ⟨#[]⟩,.int .i64 0]:=by
  refine RowAt.grown (w:=wA.alloc (.map #[] 0)) (RowAt.grown (w:=wA) ?_ (World.grownBy_alloc _ _ none) (by simp)) g (by intro e;injection e with e;omega)
  rw[←hwA];exact RowAt.new _ _ _
 have gw9:w.grownBy w9 none:=by
  have e1:w.grownBy wA none:=by rw[←hwA];exact World.grownBy_alloc _ _ _
  exact(e1.trans (World.grownBy_alloc _ _ _)).andThen g fun j hj=>by injection hj with hj;exact .inl (by omega)
 obtain⟨Kd,hKd⟩:∃ K,signK c=K:=⟨_,rfl⟩;have hsz9:w.heap.size+1<w9.heap.size:=by have:=g.size;simp at this;omega
 have HA:=Lib.hid hszA;have HK:=Lib.hid hKd
 have hb:∃ b,Maps.has signD (.int .i32 c)=b∧(b=true→x=(Kd:Int))∧(b=false→Kd=11):=by
  rcases sign_at c with⟨h1,h2,_⟩|⟨h1,h2⟩
  ·refine⟨true,h1,fun _=>?_,fun h=>(by cases h)⟩
   rw[hx',hKd] at h2;injection h2 with h2;injection h2
  ·exact⟨false,h1,fun h=>(by cases h),fun _=>(by rw[←hKd];exact h2)⟩
 obtain⟨b,hb1,hb2,hb3⟩:=hb;rw[hb1] at rl;clear hb1 hx' hKd
 go_enter Tryz.func92,Tryz.ntmps92
 go_upto_if 16 with (fail)
 go_cut [4] (fun y wx=>y=.int .i64 (Kd:Int)∧wx=w9)
 case first =>
  cases b with
  | true =>
   have:=hb2 rfl
   go_wp2_with fail
   go_meet
   exact⟨rfl,rfl⟩
  | false =>
   have:=hb3 rfl
   go_wp2_with fail
   go_meet
   exact⟨by rw[this];rfl,rfl⟩
 case rest =>
  obtain⟨rfl,rfl⟩:=hcut;have hKc:Kd=11∨Kd=12∨Kd=13∨Kd=14∨Kd=15∨Kd=16:=by rw[←HK.out];unfold signK;(repeat' split)<;>simp
  clear r1 r2 r3 r4 r5 r6 r7 r8 r9 rl g hb2 hb3 hcw
  rcases hKc with rfl|rfl|rfl|rfl|rfl|rfl
  case inr.inr.inr.inl | inr.inr.inr.inr.inl | inr.inr.inr.inr.inr =>
   have hsg:signT c=⟨signK c,[],0⟩:=by unfold signT;rw[HK.out];rfl
   have HS:=Lib.hid hsg;obtain⟨x0,y0⟩:=hR.2 0 _ rfl;obtain⟨x1,y1⟩:=hR.2 1 _ rfl;obtain⟨x2,y2⟩:=hR.2 2 _ rfl;have hlt:w.heap.size<wc.heap.size:=hR.1;clear hsg
   go_wp2_with fail
   have hfin:=(((hR.store 0 (.int .i64 ((signK c:Nat):Int))).store 1 (.string ⟨#[]⟩)).store 2 (.int .i64 0)).grown (World.grownBy_alloc _ (.cells #[.int .i64 ((signK c:Nat):Int),.string ⟨#[]⟩,.int .i64 0] 58) none) (by simp);rw[HK.out] at hfin
   refine bodyPost_ret (results_tok rfl _ _ _ _ _ _ rfl hfin) rfl ?_
   refine⟨by rw[HS.out,HK.out];rfl,?_⟩
   repeat(first | exact gw9 | refine grown_new ?_ (Nat.le_refl _) _ | refine World.grownBy.trans ?_ (World.grownBy_alloc _ _ _))
  all_goals
   have hsg:signT c=⟨signK c,writeP [c],0⟩:=by unfold signT;rw[HK.out];rfl
   have HS:=Lib.hid hsg;have hlt:w.heap.size<wc.heap.size:=hR.1;clear hsg
   have hrow:∀ K:Int,RowAt ((wc.alloc (.cells #[.int .i64 K,.string ⟨#[]⟩,.int .i64 0] 58)).alloc (.cells #[.int .i32 c] 21)) (wc.heap.size+1) ([c].map r32):=fun K=>by
    have h:=RowAt.new (wc.alloc (.cells #[.int .i64 K,.string ⟨#[]⟩,.int .i64 0] 58)) 21 #[.int .i32 c];have e:(wc.alloc (.cells #[.int .i64 K,.string ⟨#[]⟩,.int .i64 0] 58)).heap.size=wc.heap.size+1:=by simp
    rw[e] at h;exact h
   have hrT:∀ K:Int,RowAt ((wc.alloc (.cells #[.int .i64 K,.string ⟨#[]⟩,.int .i64 0] 58)).alloc (.cells #[.int .i32 c] 21)) wc.heap.size [.int .i64 K,.string ⟨#[]⟩,.int .i64 0]:=fun K =>
    (RowAt.new _ _ _).grown (World.grownBy_alloc _ _ none) (by simp)
   have hrR:∀ K:Int,RowAt ((wc.alloc (.cells #[.int .i64 K,.string ⟨#[]⟩,.int .i64 0] 58)).alloc (.cells #[.int .i32 c] 21)) w.heap.size [.int .i64 0,.string ⟨#[]⟩,.int .i64 0]:=fun K =>
    (hR.grown (World.grownBy_alloc _ _ none) (by simp)).grown (World.grownBy_alloc _ _ none) (by simp)
   have hg:∀ K:Int,w.grownBy ((wc.alloc (.cells #[.int .i64 K,.string ⟨#[]⟩,.int .i64 0] 58)).alloc (.cells #[.int .i32 c] 21)) none:=fun K =>
    (gw9.trans (World.grownBy_alloc _ _ _)).trans (World.grownBy_alloc _ _ _)
   have hsz:∀ K:Int,((wc.alloc (.cells #[.int .i64 K,.string ⟨#[]⟩,.int .i64 0] 58)).alloc (.cells #[.int .i32 c] 21)).heap.size=wc.heap.size+2:=fun K=>by simp
   go_wp2_with fail
   refine(rn_write [c] _ 1 1 _ (by rw[hsz];exact(hrow _).reads (by omega)) (by intro d hd;simp at hd;subst hd;exact hc) (by omega)).mono ?_
   rintro e w10 ⟨v10,rfl,hown,hb10⟩;obtain⟨A,cp,rfl,_,_⟩:=own_form hown;have hrd10:=Reads.of_own hown;have hstr:=run_str (P:=Tryz.prog) (src:=22) (dst:=9) Tryz.underlying22 Tryz.underlying5 Tryz.underlying9 cp hrd10;have g10:=below_grown hb10;have gw:=(hg _).trans g10;have rT:=(hrT _).grown g10 (by simp);have rR:=(hrR _).grown g10 (by simp);obtain⟨x0,y0⟩:=rR.2 0 _ rfl;obtain⟨x1,y1⟩:=rR.2 1 _ rfl;obtain⟨x2,y2⟩:=rR.2 2 _ rfl;obtain⟨t0,u0⟩:=rT.2 0 _ rfl;obtain⟨t1,u1⟩:=rT.2 1 _ rfl;obtain⟨t2,u2⟩:=rT.2 2 _ rfl;have hne:¬ w.heap.size=wc.heap.size:=by omega
   have hne2:¬ wc.heap.size=w.heap.size:=by omega
   have hfin:=(((rR.grown (grownBy_set w10 ⟨wc.heap.size,1,none⟩ (.string (bytesOf (writeP [c])))) (by simp;omega)).store 0 (.int .i64 ((signK c:Nat):Int))).store 1 (.string (bytesOf (writeP [c])))).store 2 (.int .i64 0);rw[HK.out] at hfin;clear hrow hrT hrR hg hown hrd10 hb10 hR
   go_wp2_with fail
   refine bodyPost_ret (results_tok rfl _ _ _ _ _ _ rfl hfin) rfl ?_
   refine⟨by rw[HS.out,HK.out];rfl,?_⟩
   exact grown_new (grown_new (grown_new (grown_new gw (Nat.le_of_lt hlt) _) (Nat.le_refl _) _) (Nat.le_refl _) _) (Nat.le_refl _) _
end Go.Proofs.YtfhdihdafmahgaaGreatDoor
