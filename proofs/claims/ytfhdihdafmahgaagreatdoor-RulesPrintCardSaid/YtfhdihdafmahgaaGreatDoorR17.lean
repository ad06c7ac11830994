import Derived.Test.YtfhdihdafmahgaaGreatDoorR15
import Derived.Laws.Cover4
import Derived.Laws.ResultCell
import Derived.Test.YtfhdihdafmahgaaGreatDoorR12
import Derived.Test.YtfhdihdafmahgaaGreatDoorR09
set_option linter.unusedVariables false
set_option linter.unusedSimpArgs false
set_option maxRecDepth 100000
set_option maxHeartbeats 2000000
namespace Go.Proofs.YtfhdihdafmahgaaGreatDoor
open Go.RowKit Rn Tk
def EnvP (P:Nat) (w:World):Prop:=∃ w0,Env w0∧Below w0.heap.size w0 w∧w0.heap.size≤P
theorem EnvP.env {P:Nat} {w:World} (h:EnvP P w):Env w:=by obtain⟨w0,h1,h2,_⟩:=h;exact h1.below h2
theorem EnvP.mv {P:Nat} {w w':World} (h:EnvP P w) (g:Mv P w w'):EnvP P w':=by
 obtain⟨w0,h1,h2,h3⟩:=h
 exact⟨w0,h1,h2.grown g h2.size (fun k hk=>by injection hk with hk;omega),h3⟩
theorem numB_ascii {c:Int} (h:numB c=true):0≤c∧c<128:=by unfold numB at h;simp at h;omega
theorem encode_low {c:Int} (h0:0≤c) (h1:c<128):Utf8.encode c=bytesOf [Tk.byteOf c]:=by
 have:∀ k:Fin 128,Utf8.encode (k.val:Int)=bytesOf [Tk.byteOf (k.val:Int)]:=by decide +kernel
 have h:=this ⟨c.toNat,by omega⟩;have e:((c.toNat:Nat):Int)=c:=by omega
 simp only[e] at h;exact h
theorem runes_ascii (ns:List Int) (h:∀ c∈ns,0≤c∧c<128):runesBytes ns=bytesOf (ns.map Tk.byteOf):=by
 have key:∀ (ns:List Int) (p:List UInt8),(∀ c∈ns,0≤c∧c<128)→ns.foldl (fun r n=>r++Utf8.encode n) (bytesOf p)=bytesOf (p++ns.map Tk.byteOf):=by
  intro ns
  induction ns with
  | nil=>intro p _;simp
  | cons c ns ih =>
   intro p h;have hc:=h c (by simp);rw[List.foldl_cons,encode_low hc.1 hc.2,bytesOf_append,ih _ (fun d hd=>h d (by simp[hd]))]
   simp
 exact key ns [] h
theorem run_num {P:Program} {src dst e:TypeId} (hs:P.underlying src=some (.slice e)) (he:P.underlying e=some (.int .i32)) (hd:P.underlying dst=some .string)
  {w:World} {B m:Nat} {A:Option Addr} {ns:List Int} (c:Nat) (hr:Reads w B 1 A m (ns.map r32)) (hn:∀ c∈ns,0≤c∧c<128):(convert src dst (.slice A m c)).run P w=.ok (.string (bytesOf (ns.map Tk.byteOf))) w:=by
 have hlen:ns.length=m:=by simpa using hr.len
 subst hlen
 rcases Nat.eq_zero_or_pos ns.length with h0|h0
 ·have:ns=[]:=List.eq_nil_of_length_eq_zero h0
  subst this
  cases A with
  | none=>exact run_convert_runes_nil w src dst e 0 c hs he hd
  | some a=>exact run_convert_runes w src dst e a 0 c [] (by simp) hs he hd (fun j hj=>by simp at hj)
 ·obtain⟨b,off,rfl,_,hc⟩:=hr.open_ h0
  have:=run_convert_runes w src dst e ⟨b,off,none⟩ ns.length c ns (Nat.le_refl _) hs he hd (fun j hj=>by
   have h1:=hc j (r32 ns[j]) (by simp[List.getElem?_eq_getElem hj]);have ha:(⟨b,off,none⟩:Addr).add j=⟨b,off+j,none⟩:=by unfold Addr.add;split<;>simp_all
   rw[ha,h1]
   simp[r32,List.getD,List.getElem?_eq_getElem hj])
  rw[this,List.take_length,runes_ascii ns hn]
theorem run_mid {P:Program} {T e s:Nat} (ht:P.underlying T=some (.slice e)) (hel:P.elem T=e) (hs:∀ W,(sizeOf e).run P W=.ok s W) (A:Option Addr) (n c:Nat) (kd:IntKind) (a b:Nat) (hab:a≤b) (hb:b≤c) (W:World) :
  (Instr.slice T (.slice A n c) (some (.int kd (a:Int))) (some (.int kd (b:Int))) none).run P W=.ok (.slice (cutAt A c a s) (b-a) (c-a)) W:=by
 rw[run_slice_lh W T A n c (by rw[hel];exact ht) kd kd (a:Int) (b:Int) (by omega) (by omega) (by omega),hel,hs]
 simp[sliced,cutAt]
theorem results_tok2 {fn:Func} {p u:Tmp} (h:fn.results=#[.cell p 58,.tmp u]) (tmps:Array Value) (w:World) (g:Nat) (a b c:Value) (hp:tmps.getD p undef=.pointer (some ⟨g,0,none⟩)) (hr:RowAt w g [a,b,c]):(results fn tmps).run Tryz.prog w=.ok (.tuple #[.agg #[a,b,c],tmps.getD u undef]) w:=by
 obtain⟨c0,_⟩:=hr.2 0 _ rfl;obtain⟨c1,_⟩:=hr.2 1 _ rfl;obtain⟨c2,_⟩:=hr.2 2 _ rfl;have hp':tmps[p]?.getD undef=.pointer (some ⟨g,0,none⟩):=by simpa using hp
 simp[results,h,hp',asAddr,go_sem,c0,c1,c2]
theorem take_while_step {p:Int→Bool} {l:List Int} {j:Nat} (hj:j<l.length):(l.drop j).takeWhile p=if p (pk (l.drop j) 0)=true then pk (l.drop j) 0::(l.drop (j+1)).takeWhile p else []:=by
 rw[List.drop_eq_getElem_cons hj,pk_cons0,List.takeWhile_cons]
theorem nums_ascii (l:List Int):∀ c∈l.takeWhile numB,0≤c∧c<128:=by
 intro c hc;have:=List.all_takeWhile (p:=numB) (l:=l);rw[List.all_eq_true] at this
 exact numB_ascii (this c hc)
theorem tk_number {w:World} {B S P n cap k:Nat} {A:Option Addr} {l:List Int} (h:At w B S P A n cap l k) (hch:Chars l) (hw:EnvP P w) :
  Calls Tryz.prog 90 #[.pointer (some ⟨S,0,none⟩)] w fun e w'=>Mv P w w'∧(match numberT (l.drop k) with
   | none=>e=.returned (.tuple #[tokV ⟨0,[],0⟩,.bool false])∧At w' B S P A n cap l k
   | some x=>e=.returned (.tuple #[tokV x.1,.bool true])∧∃ k',k<k'∧l.drop k'=x.2∧At w' B S P A n cap l k'):=by
 have hlen:=h.len;have hn:=h.hn;have hS:=h.hS;have hPS:=h.hPS;have Hch:=Lib.hid hch;clear hch;obtain⟨wA,hwA⟩:∃ wA,w.alloc (.cells #[.int .i64 0,.string ⟨#[]⟩,.int .i64 0] 58)=wA:=⟨_,rfl⟩;have gA:w.grownBy wA none:=by rw[←hwA];exact World.grownBy_alloc _ _ _
 have rA:RowAt wA w.heap.size [.int .i64 0,.string ⟨#[]⟩,.int .i64 0]:=by rw[←hwA];exact RowAt.new _ _ _
 have hA:=h.mv gA;have a1:=hA.s0;have a2:=hA.p0;have a3:=hA.p1;obtain⟨NT,hNT⟩:∃ x,numberT (l.drop k)=x:=⟨_,rfl⟩;rw[hNT];have HNT:=Lib.hid hNT;clear hNT
 go_enter Tryz.func90,Tryz.ntmps90
 go_upto_block 0 with (fail)
 go_cut [4] (fun x wx=>∃ j:Nat,k≤j∧j≤n∧Hid ((l.drop k).takeWhile numB=(l.drop k).take (j-k))∧x=.int .i64 (j:Nat)∧wA.grownBy wx none)
 case first =>
  go_wp2_with fail
  go_loopw [4] (fun x wr=>∃ j:Nat,k≤j∧j≤n∧Hid ((l.drop k).takeWhile numB=(l.drop k).take (j-k)++(l.drop j).takeWhile numB)∧x=.int .i64 (j:Nat)∧wA.grownBy wr none) (fun x _=>n-(intOf x).toNat)
  case atStart=>exact⟨k,Nat.le_refl _,hA.hk,(by show _=_;simp),rfl,World.grownBy.refl _ _⟩
  case round =>
   obtain⟨j,hkj,hjn,hrun,rfl,gj⟩:=hrel;have hat:=hA.mv gj;have b1:=hat.s0;have b2:=hat.p0
   by_cases hlt:j<n
   ·obtain⟨bb,off,u,hAe,hbB,hu,hcell⟩:=hat.rd.at_ hlt
    subst hAe;obtain⟨c,hc⟩:∃ c,pk (l.drop j) 0=c:=⟨_,rfl⟩
    have hv:u=.int .i32 c:=by
     rw[List.getElem?_map,show j=j+0 from rfl,pk_at (by omega),hc] at hu
     simp at hu
     rw[←hu];rfl
    subst hv
    have hcB:isB c=true:=by
     have:=pk_is (l:=l) Hch.out (m:=j) (by omega);rw[show pk l j=pk (l.drop j) 0 from by rw[pk_drop];rfl,hc] at this;exact this
    have hstep:=take_while_step (p:=numB) (l:=l) (j:=j) (by omega);rw[hc] at hstep
    have hjj:(l.drop k).take (j+1-k)=(l.drop k).take (j-k)++[c]:=by
     rw[show j+1-k=(j-k)+1 by omega]
     refine take_snoc _ _ _ ?_
     rw[List.getElem?_drop,show k+(j-k)=j+0 by omega,pk_at (by omega),hc]
    have hS15:numS=⟨#[48,49,50,51,52,53,54,55,56,57,43,45,46,101,69]⟩:=rfl;have hcont:=fun w'=>str_contains c w' hcB
    have Hcont:=Lib.hid hcont;have x1:(0:Int)≤(j:Int):=by omega
    have x2:(j:Int)<(n:Int):=by omega
    cases hnb:numB c with
    | true =>
     have hnew:(l.drop k).takeWhile numB=(l.drop k).take (j+1-k)++(l.drop (j+1)).takeWhile numB:=by
      rw[hrun.out,hstep,hnb,if_pos rfl,hjj];simp
     have Hnew:=Lib.hid hnew;clear hnew hstep hjj hrun hc hu hcont hS15
     go_wp2_with fail
     refine(Hcont.out wr).mono ?_
     rintro e w1 ⟨rfl,g1⟩;rw[hnb]
     go_wp2_with fail
     go_roundw
     case rel=>exact⟨j+1,by omega,by omega,Hnew,by simp,gj.trans g1⟩
     case measure=>simp[intOf];omega
    | false =>
     have hnew:(l.drop k).takeWhile numB=(l.drop k).take (j-k):=by
      rw[hrun.out,hstep,hnb,if_neg (by simp),List.append_nil]
     have Hnew:=Lib.hid hnew;clear hnew hstep hjj hrun hc hu hcont hS15
     go_wp2_with fail
     refine(Hcont.out wr).mono ?_
     rintro e w1 ⟨rfl,g1⟩;rw[hnb]
     go_wp2_with fail
     go_meet
     exact⟨j,hkj,hjn,Hnew,rfl,gj.trans g1⟩
   ·have hnew:(l.drop k).takeWhile numB=(l.drop k).take (j-k):=by
     rw[hrun.out,List.drop_eq_nil_of_le (by omega:l.length≤j)];simp
    have Hnew:=Lib.hid hnew;clear hnew hrun
    go_wp2_with fail
    go_meet
    exact⟨j,hkj,hjn,Hnew,rfl,gj⟩
 case rest =>
  obtain⟨j,hkj,hjn,htw,rfl,gj⟩:=hcut;have hat:=hA.mv gj;have hrow:=rA.grown gj (by simp);have b1:=hat.s0;have b2:=hat.p0;have b3:=hat.p1;have hsl:=run_mid (P:=Tryz.prog) (s:=1) (T:=83) Tryz.underlying83 (by kernel_rfl) (fun W=>by kernel_rfl) A n cap .i64 k j hkj (Nat.le_trans hjn hat.hc);have hrd:=(hat.rd.cutA (k:=k) (c:=cap) hat.hk hat.hc).take (k:=j-k) (by omega);rw[←List.map_drop,←List.map_take] at hrd;have hasc:∀ c∈(l.drop k).take (j-k),0≤c∧c<128:=by rw[←htw.out];exact nums_ascii _
  generalize hA':cutAt A cap k 1=A' at *
  have hconv:=fun q:Nat=>run_num (P:=Tryz.prog) (src:=83) (dst:=9) Tryz.underlying83 Tryz.underlying21 Tryz.underlying9 (cap-k) (hrd.drewN q) hasc
  have hX:((l.drop k).take (j-k)).map Tk.byteOf=numText (l.drop k):=by unfold numText;rw[htw.out]
  rw[hX] at hconv;have hXl:(numText (l.drop k)).length=j-k:=by rw[←hX,List.length_map,List.length_take,List.length_drop];omega
  clear hX hrd hasc hA';obtain⟨X,hXe⟩:∃ X,numText (l.drop k)=X:=⟨_,rfl⟩;rw[hXe] at hconv hXl;have HX:=Lib.hid hXe;have y1:(0:Int)≤(k:Int):=by omega
  have y2:(k:Int)≤(j:Int):=by omega
  have y3:(j:Int)≤(cap:Int):=by have:=hat.hc;omega
  clear hXe
  go_upto_region 4 with (fail)
  go_cut [5] (fun x wx=>x=.string (bytesOf X)∧wc.grownBy wx none)
  case first =>
   go_quiet (fail)
   go_wp2_with fail
   go_meet
   exact⟨rfl,grown_drewN _ _⟩
  case rest =>
   obtain⟨rfl,g5⟩:=hcut;have hat5:=hat.mv g5;have row5:=hrow.grown g5 (by simp);have m5:Mv P w wc:=Mv.of ((gA.trans gj).trans g5);clear hat hrow b1 b2 b3 hsl hconv y1 y2 y3 a1 a2 a3 hA rA gA gj g5 hwA htw
   go_wp2_with fail
   refine(fx_length X wc (by omega)).mono ?_
   rintro e6 w6 ⟨rfl,hb6⟩;have g6:=below_grown hb6;have hat6:=hat5.mv g6;have row6:=row5.grown g6 (by simp);have m6:=m5.trans (Mv.of g6);clear hb6 g6 hat5 row5 m5;obtain⟨N,hN⟩:∃ N,Fx.lenP X=N:=⟨_,rfl⟩;have hNl:=lenP_le X;rw[hN] at hNl ⊢
   have hnt:numberT (l.drop k)=if N=0 then none else
     if beg (l.drop (k+N))=true then some (⟨10,writeP (nameT (l.drop (k+N))).1,Fx.parseP (X.take N)⟩,(nameT (l.drop (k+N))).2)
     else if pk (l.drop (k+N)) 0=37 then some (⟨9,[],Fx.parseP (X.take N)⟩,(l.drop (k+N)).tail)
     else some (⟨8,[],Fx.parseP (X.take N)⟩,l.drop (k+N)):=by
    unfold numberT;simp only[HX.out,hN,List.drop_drop]
   rw[HNT.out] at hnt;have Hnt:=Lib.hid hnt;clear hnt hN;obtain⟨x0,z0⟩:=row6.2 0 _ rfl;obtain⟨x1,z1⟩:=row6.2 1 _ rfl;obtain⟨x2,z2⟩:=row6.2 2 _ rfl
   by_cases hN0:N=0
   ·have hNTn:NT=none:=by rw[Hnt.out,if_pos hN0]
    have t0:((N:Int)==0)=true:=by simp;omega
    subst hNTn;clear hN0;have hfin:=((row6.store 0 (.int .i64 0)).store 1 (.string ⟨#[]⟩)).store 2 (.int .i64 0)
    have A9:At (((w6.setCell ⟨w.heap.size,0,none⟩ (.int .i64 0)).setCell ⟨w.heap.size,1,none⟩ (.string ⟨#[]⟩)).setCell ⟨w.heap.size,2,none⟩ (.int .i64 0)) B S P A n cap l k :=
     ((hat6.grown (grownBy_set _ _ _) (by intro g hg;simp at hg;omega)).grown (grownBy_set _ _ _) (by intro g hg;simp at hg;omega)).grown (grownBy_set _ _ _) (by intro g hg;simp at hg;omega)
    go_wp2_with fail
    refine bodyPost_ret (results_tok2 rfl _ _ _ _ _ _ rfl hfin) rfl ?_
    exact⟨grown_new (grown_new (grown_new m6 (Nat.le_refl _) _) (Nat.le_refl _) _) (Nat.le_refl _) _,rfl,A9⟩
   ·have t0:((N:Int)==0)=false:=by simp;omega
    rw[if_neg hN0] at Hnt;have b1:=hat6.s0;have b2:=hat6.p0;have b3:=hat6.p1;have b4:=hat6.fz;have h7:=hat6.store (k':=k+N) (by omega);have m7:=m6.trans (Mv.store w6 P (.int .i64 ((k+N:Nat):Int)));have row7:=row6.grown (Mv.store w6 P (.int .i64 ((k+N:Nat):Int))) (by simp;omega)
    push_cast at h7 m7 row7
    clear x0 x1 x2 z0 z1 z2
    go_upto_region 8 with (fail)
    go_cut [6] (fun x wx=>x=.int .i64 (N:Nat)∧At wx B S P A n cap l (k+N)∧Mv P w wx∧RowAt wx w.heap.size [.int .i64 0,.string ⟨#[]⟩,.int .i64 0])
    case first =>
     go_wp2_with fail
     go_meet
     exact⟨rfl,h7,m7,row7⟩
    case rest =>
     obtain⟨rfl,hat8,m8,row8⟩:=hcut;clear h7 m7 row7 b1 b2 b3 b4 hat6 m6 row6;have hto:=str_to (P:=Tryz.prog) (T:=9) Tryz.underlying9 X .i64 N hNl;obtain⟨V,hV⟩:∃ V,Fx.parseP (X.take N)=V:=⟨_,rfl⟩;rw[hV] at Hnt;have HV:=Lib.hid hV;obtain⟨wd,hwd⟩:∃ wd,wc.alloc (.cells #[.int .i64 8,.string ⟨#[]⟩,.int .i64 0] 58)=wd:=⟨_,rfl⟩;have gd:wc.grownBy wd none:=by rw[←hwd];exact World.grownBy_alloc _ _ _
     have rT:RowAt wd wc.heap.size [.int .i64 8,.string ⟨#[]⟩,.int .i64 0]:=by rw[←hwd];exact RowAt.new _ _ _
     have hat9:=hat8.mv gd;have m9:=m8.trans (Mv.of gd);have row9:=row8.grown gd (by simp);have env9:=(hw.mv m9).env;have hRT:w.heap.size<wc.heap.size:=row8.1;have hPT:P<wc.heap.size:=by omega
     rw[hwd.symm] at env9;obtain⟨T,hT⟩:∃ T,wc.heap.size=T:=⟨_,rfl⟩;rw[hT] at rT hRT hPT;have Hwd:=Lib.hid hwd;clear hV hat8 m8 row8 hwd
     go_wp2_with fail
     refine(fx_parse (X.take N) _ (by rw[List.length_take];omega) env9).mono ?_
     rintro e10 w10 ⟨rfl,hb10⟩;rw[HV.out];rw[Hwd.out] at hb10;have g10:=below_grown hb10;have rT10:=rT.grown g10 (by simp);have A10:=hat9.mv g10;have M10:=m9.trans (Mv.of g10);have R10:=row9.grown g10 (by simp);clear hb10 g10 rT hat9 m9 row9 gd env9 Hwd;generalize Fx.isP (X.take N)=is;obtain⟨t0',u0⟩:=rT10.2 0 _ rfl;obtain⟨t1,u1⟩:=rT10.2 1 _ rfl;obtain⟨t2,u2⟩:=rT10.2 2 _ rfl;have rT11:=rT10.store 2 (.int .i64 V);have A11:=A10.grown (grownBy_set w10 ⟨T,2,none⟩ (.int .i64 V)) (by intro g hg;simp at hg;omega);have M11:=grown_new M10 (p:=⟨T,2,none⟩) (Nat.le_of_lt hRT) (.int .i64 V);have R11:=R10.grown (grownBy_set w10 ⟨T,2,none⟩ (.int .i64 V)) (by simp;omega);clear rT10 A10 M10 R10
     go_wp2_with fail
     clear t0' t1 t2 u0 u1 u2;generalize w10.setCell ⟨T,2,none⟩ (.int .i64 V)=w11 at *
     have hset:∀ (W:World) (b j:Nat) (u:Value),w.heap.size≤b→Mv P w W→Mv P w (W.setCell ⟨b,j,none⟩ u):=fun W b j u hb hm=>grown_new hm hb _
     have aset:∀ (W:World) (b j k':Nat) (u:Value),S<b→At W B S P A n cap l k'→At (W.setCell ⟨b,j,none⟩ u) B S P A n cap l k':=fun W b j k' u hb ha=>ha.grown (grownBy_set _ _ _) (by intro g hg;simp at hg;omega)
     have rset:∀ (W:World) (b b' j:Nat) (u:Value) (xs:List Value),¬ b=b'→RowAt W b xs→RowAt (W.setCell ⟨b',j,none⟩ u) b xs:=fun W b b' j u xs hb hr=>hr.grown (grownBy_set _ _ _) (by simp;exact hb)
     have hST:S<T:=by omega
     have hne1:¬ w.heap.size=T:=by omega
     have hne2:¬ T=w.heap.size:=by omega
     have hwT:w.heap.size≤T:=by omega
     refine(tk_begins0 A11).mono ?_
     rintro e12 w12 ⟨rfl,g12⟩;have A12:=A11.mv g12;have M12:=M11.trans (Mv.of g12);have R12:=R11.grown g12 (by simp);have T12:=rT11.grown g12 (by simp);simp only[List.set_cons_succ,List.set_cons_zero] at T12;clear A11 M11 R11 rT11 g12
     cases hb:beg (l.drop (k+N)) with
     | true =>
      rw[hb,if_pos rfl] at Hnt
      go_wp2_with fail
      refine(tk_name A12 Hch.out).mono ?_
      rintro e13 w13 ⟨rfl,m13,k',hk',hd',A13⟩;have M13:=M12.trans m13;have R13:=R12.grown m13 (by simp;omega);have T13:=T12.grown m13 (by simp;omega);obtain⟨x0,z0⟩:=R13.2 0 _ rfl;obtain⟨x1,z1⟩:=R13.2 1 _ rfl;obtain⟨x2,z2⟩:=R13.2 2 _ rfl;obtain⟨p0,q0⟩:=T13.2 0 _ rfl;obtain⟨p1,q1⟩:=T13.2 1 _ rfl;obtain⟨p2,q2⟩:=T13.2 2 _ rfl;have hNTe:NT=some (⟨10,writeP (nameT (l.drop (k+N))).1,V⟩,(nameT (l.drop (k+N))).2):=Hnt.out;have R15:=rset _ w.heap.size T 1 (.string (bytesOf (writeP (nameT (l.drop (k+N))).1))) _ hne1 (rset _ w.heap.size T 0 (.int .i64 10) _ hne1 R13);have A15:=aset _ T 1 k' (.string (bytesOf (writeP (nameT (l.drop (k+N))).1))) hST (aset _ T 0 k' (.int .i64 10) hST A13);have M15:=hset _ T 1 (.string (bytesOf (writeP (nameT (l.drop (k+N))).1))) hwT (hset _ T 0 (.int .i64 10) hwT M13);have hfin:=((R15.store 0 (.int .i64 10)).store 1 (.string (bytesOf (writeP (nameT (l.drop (k+N))).1)))).store 2 (.int .i64 V);have A19:=aset _ w.heap.size 2 k' (.int .i64 V) hS (aset _ w.heap.size 1 k' (.string (bytesOf (writeP (nameT (l.drop (k+N))).1))) hS (aset _ w.heap.size 0 k' (.int .i64 10) hS A15));have M19:=hset _ w.heap.size 2 (.int .i64 V) (Nat.le_refl _) (hset _ w.heap.size 1 (.string (bytesOf (writeP (nameT (l.drop (k+N))).1))) (Nat.le_refl _) (hset _ w.heap.size 0 (.int .i64 10) (Nat.le_refl _) M15));subst hNTe;clear Hnt HNT hset aset rset A12 M12 R12 T12 A13 M13 R13 T13 A15 M15 R15
      go_wp2_with fail
      refine bodyPost_ret (results_tok2 rfl _ _ _ _ _ _ rfl hfin) rfl ?_
      exact⟨M19,rfl,k',by omega,hd',A19⟩
     | false =>
      rw[hb,if_neg (by simp)] at Hnt;have b1:=A12.s0
      by_cases h37:pk (l.drop (k+N)) 0=37
      ·rw[if_pos h37,List.tail_drop] at Hnt
       have hNTe:=Hnt.out
       have hkn1:k+N<n:=by
        have:=pk_pos (l:=l.drop (k+N)) (m:=0) (by omega);rw[List.length_drop] at this;omega
       have hp:=tk_peek0 A12;rw[h37] at hp;clear h37
       go_wp2_with fail
       refine hp.mono ?_
       rintro e13 w13 ⟨rfl,g13⟩;have A13:=A12.mv g13;have M13:=M12.trans (Mv.of g13);have R13:=R12.grown g13 (by simp);have T13:=T12.grown g13 (by simp);obtain⟨x0,z0⟩:=R13.2 0 _ rfl;obtain⟨x1,z1⟩:=R13.2 1 _ rfl;obtain⟨x2,z2⟩:=R13.2 2 _ rfl;obtain⟨p0,q0⟩:=T13.2 0 _ rfl;obtain⟨p1,q1⟩:=T13.2 1 _ rfl;obtain⟨p2,q2⟩:=T13.2 2 _ rfl;have A14:=aset _ T 0 (k+N) (.int .i64 9) hST A13;have M14:=hset _ T 0 (.int .i64 9) hwT M13;have R14:=rset _ w.heap.size T 0 (.int .i64 9) _ hne1 R13;have y1:=A14.s0;have y2:=A14.p0;have y3:=A14.p1;have y4:=A14.fz;have A15:=A14.store (k':=k+N+1) (by omega);have M15:=M14.trans (Mv.store _ P (.int .i64 ((k+N+1:Nat):Int)));have R15:=R14.grown (Mv.store _ P (.int .i64 ((k+N+1:Nat):Int))) (by simp;omega);have hneP1:¬ P=T:=by omega
       have hneP2:¬ P=w.heap.size:=by omega
       have hneP3:¬ T=P:=by omega
       have hneP4:¬ w.heap.size=P:=by omega
       push_cast at A15 M15 R15 y3
       have hfin:=((R15.store 0 (.int .i64 9)).store 1 (.string ⟨#[]⟩)).store 2 (.int .i64 V);have A19:=aset _ w.heap.size 2 (k+N+1) (.int .i64 V) hS (aset _ w.heap.size 1 (k+N+1) (.string ⟨#[]⟩) hS (aset _ w.heap.size 0 (k+N+1) (.int .i64 9) hS A15));have M19:=hset _ w.heap.size 2 (.int .i64 V) (Nat.le_refl _) (hset _ w.heap.size 1 (.string ⟨#[]⟩) (Nat.le_refl _) (hset _ w.heap.size 0 (.int .i64 9) (Nat.le_refl _) M15));subst hNTe;clear Hnt HNT hset aset rset A12 M12 R12 T12 A13 M13 R13 T13 A14 M14 R14 A15 M15 R15
       go_wp2_with fail
       refine bodyPost_ret (results_tok2 rfl _ _ _ _ _ _ rfl hfin) rfl ?_
       exact⟨M19,rfl,k+N+1,by omega,rfl,A19⟩
      ·rw[if_neg h37] at Hnt
       have hNTe:=Hnt.out;have hp:=tk_peek0 A12;have t37:=eq_f h37;clear h37
       go_wp2_with fail
       refine hp.mono ?_
       rintro e13 w13 ⟨rfl,g13⟩;have A13:=A12.mv g13;have M13:=M12.trans (Mv.of g13);have R13:=R12.grown g13 (by simp);have T13:=T12.grown g13 (by simp);obtain⟨x0,z0⟩:=R13.2 0 _ rfl;obtain⟨x1,z1⟩:=R13.2 1 _ rfl;obtain⟨x2,z2⟩:=R13.2 2 _ rfl;obtain⟨p0,q0⟩:=T13.2 0 _ rfl;obtain⟨p1,q1⟩:=T13.2 1 _ rfl;obtain⟨p2,q2⟩:=T13.2 2 _ rfl;have hfin:=((R13.store 0 (.int .i64 8)).store 1 (.string ⟨#[]⟩)).store 2 (.int .i64 V);have A19:=aset _ w.heap.size 2 (k+N) (.int .i64 V) hS (aset _ w.heap.size 1 (k+N) (.string ⟨#[]⟩) hS (aset _ w.heap.size 0 (k+N) (.int .i64 8) hS A13));have M19:=hset _ w.heap.size 2 (.int .i64 V) (Nat.le_refl _) (hset _ w.heap.size 1 (.string ⟨#[]⟩) (Nat.le_refl _) (hset _ w.heap.size 0 (.int .i64 8) (Nat.le_refl _) M13));subst hNTe;clear Hnt HNT hset aset rset A12 M12 R12 T12 A13 M13 R13 T13
       go_wp2_with fail
       refine bodyPost_ret (results_tok2 rfl _ _ _ _ _ _ rfl hfin) rfl ?_
       exact⟨M19,rfl,k+N,by omega,rfl,A19⟩
theorem below_set {w w':World} (h:Below w.heap.size w w') (j:Nat) (u:Value):Below w.heap.size w (w'.setCell ⟨w.heap.size,j,none⟩ u):=grown_below (grown_new (below_grown h) (Nat.le_refl _) u)
theorem RL.set {w w':World} {B n cap:Nat} {A:Option Addr} {l:List Int} (h:RL w B A n cap l) (hb:Below w.heap.size w w') (j:Nat) (u:Value):RL (w'.setCell ⟨w.heap.size,j,none⟩ u) B A n cap l:=h.mv (below_set hb j u)
theorem row_below {w w':World} {g:Nat} {xs:List Value} (h:RowAt w g xs) (hb:Below w.heap.size w w'):RowAt w' g xs:=h.grown (below_grown hb) (by simp)
theorem rt_quoted {w:World} {B n cap:Nat} {A:Option Addr} {l:List Int} (h:RL w B A n cap l) (m:Nat) (i0:Int) (hi0:i0=m) (hm:m<n) (hne:pk (l.drop m) 0≠10) :
  Calls Tryz.prog 98 #[.slice A n cap,.int .i64 i0] w fun e w'=>(∃ k':Nat,m<k'∧k'≤n∧l.drop k'=(quoteT (pk (l.drop m) 0) (l.drop (m+1))).2.2∧e=.returned (.tuple #[tokV ⟨if (quoteT (pk (l.drop m) 0) (l.drop (m+1))).2.1=true then 7 else 6,writeP (quoteT (pk (l.drop m) 0) (l.drop (m+1))).1,0⟩,.int .i64 (k':Int)]))∧Below w.heap.size w w':=by
 have hlen:=h.len;have hn:=h.hn;have hqi:=quoteT_is (pk (l.drop m) 0) (l.drop (m+1)) (h.ch.drop _);obtain⟨wA,hwA⟩:∃ wA,w.alloc (.cells #[.int .i64 0,.string ⟨#[]⟩,.int .i64 0] 58)=wA:=⟨_,rfl⟩;have bA:Below w.heap.size w wA:=by rw[←hwA];exact grown_below (World.grownBy_alloc _ _ _)
 have rA:RowAt wA w.heap.size [.int .i64 0,.string ⟨#[]⟩,.int .i64 0]:=by rw[←hwA];exact RowAt.new _ _ _
 have hRA:=h.mv bA;obtain⟨b0,off0,hA0,hcell0⟩:=hRA.cell hm;rw[pk0] at hcell0;obtain⟨e,he⟩:∃ e,pk (l.drop m) 0=e:=⟨_,rfl⟩;rw[he] at hqi hcell0 hne ⊢;obtain⟨Q,hQ⟩:∃ Q,quoteT e (l.drop (m+1))=Q:=⟨_,rfl⟩;rw[hQ] at hqi ⊢;obtain⟨Kq,hKq⟩:∃ K:Nat,(if Q.2.1=true then 7 else 6)=K:=⟨_,rfl⟩;rw[hKq];have HKq:=Lib.hid hKq;have HQ:=Lib.hid hQ;have Hqi:=Lib.hid hqi;have Hi0:=Lib.hid hi0;have Hne:=Lib.hid hne;have y1:(0:Int)≤i0:=by omega
 have y2:i0<(n:Int):=by omega
 have y3:i0.toNat=m:=by omega
 clear hKq hQ hqi hi0 hne he;obtain⟨j0,hi,hz0,hz1,hz2⟩:=info_got int_info;subst hA0
 go_enter Tryz.func98,Tryz.ntmps98
 go_upto_block 0 with (fail)
 have hrs:=rA.1
 go_cut [1,7] (fun z x wx=>∃ (j:Nat) (outs:List Int) (Ao:Option Addr) (co:Nat),m<j∧j≤n+1∧outs.length≤1000000∧Hid (Q=(outs,false,l.drop (min (j+1) n)))∧OutR wx (w.heap.size+1) Ao co outs∧RowAt wx w.heap.size [.int .i64 0,.string ⟨#[]⟩,.int .i64 0]∧Below w.heap.size w wx∧z=.int .i64 (j:Int)∧x=.slice Ao outs.length co)
 case first =>
  go_wp2_with fail
  go_loopw [1,7] (fun z x wr=>∃ (j:Nat) (outs:List Int) (Ao:Option Addr) (co:Nat),m<j∧j≤n+1∧outs.length+m+1≤j∧Hid (Q=(outs++(quoteT e (l.drop j)).1,(quoteT e (l.drop j)).2))∧OutR wr (w.heap.size+1) Ao co outs∧RowAt wr w.heap.size [.int .i64 0,.string ⟨#[]⟩,.int .i64 0]∧Below w.heap.size w wr∧z=.int .i64 (j:Int)∧x=.slice Ao outs.length co) (fun z _ _=>n+1-(intOf z).toNat)
  case atStart =>
   have:=Hi0.out
   exact⟨m+1,[],none,0,by omega,by omega,by simp,(by show _=_;rw[←HQ.out];rfl),World.ownsRow_nil _ _ _ _,rA,bA,congrArg (Value.int IntKind.i64) (by omega),rfl⟩
  case round =>
   obtain⟨j,outs,Ao,co,hmj,hjn,hol,hrun,hown,hrow,hb,rfl,rfl⟩:=hrel;have hR:=h.mv hb;have x1:(0:Int)≤(j:Int):=by omega
   have hbs:=hb.size;have hrl:=hrow.1
   by_cases hjl:j<n
   ·obtain⟨bb,off,hA,hcell⟩:=hR.cell hjl
    injection hA with hA
    injection hA with hA1 hA2
    subst hA1;subst hA2;rw[pk0] at hcell;have hqa:=quoteT_at (e:=e) (drop_ne (l:=l) (k:=j) (by omega));have hcis:=pk_is (l:=l) h.ch (m:=j) (by omega);have hcr:=isB_range hcis;rw[pk0] at hcr hcis;obtain⟨c,hc⟩:∃ c,pk (l.drop j) 0=c:=⟨_,rfl⟩;rw[hc] at hcell hqa hcr hcis;have x2:(j:Int)<(n:Int):=by omega
    have x4:decide ((j:Int)<(n:Int))=true:=by simp;omega
    by_cases hce:c=e
    ·have hE:Hid (Q=(outs,false,l.drop (min (j+1) n))):=by
      show _=_
      rw[hrun.out,hqa,if_neg (by rw[hce];exact Hne.out),if_pos hce,List.tail_drop,List.append_nil,show min (j+1) n=j+1 by omega]
     have te:(c != e)=false:=by simp[hce]
     clear hce hc hqa hrun
     go_wp2_with fail
     go_meet
     exact⟨j,outs,Ao,co,hmj,hjn,by omega,hE,hown,hrow,hb,rfl,rfl⟩
    ·have te:(c != e)=true:=by simp[hce]
     by_cases h10:c=10
     ·rw[if_pos h10] at hqa
      have hE1:Q=(outs,true,l.drop j):=by rw[hrun.out,hqa,List.append_nil]
      have t10:=eq_t h10;have HE:=Lib.hid hE1;have hon:Chars outs:=by have:=Hqi.out;rw[hE1] at this;exact this
      have htx:=rt_text hown hon (by omega);clear hE1 hon h10 hce hc hqa hrun hcis hcr
      go_wp2_with fail
      refine htx.mono ?_
      rintro e2 w2 ⟨rfl,hb2⟩;have R2:=row_below hrow hb2;have B2:=hb.trans (hb2.mono hbs);obtain⟨x0,z0⟩:=R2.2 0 _ rfl;obtain⟨x1',z1⟩:=R2.2 1 _ rfl;obtain⟨x2',z2⟩:=R2.2 2 _ rfl;have hfin:=((R2.store 0 (.int .i64 7)).store 1 (.string (bytesOf (writeP outs)))).store 2 (.int .i64 0);have B9:=below_set (below_set (below_set B2 0 (.int .i64 7)) 1 (.string (bytesOf (writeP outs)))) 2 (.int .i64 0);clear htx hown hrow R2 B2 hb2 hb
      go_wp2_with fail
      (try simp only[Exit.inBlock,Exit.then])
      refine bodyPost_ret (results_tok2 rfl _ _ _ _ _ _ rfl hfin) rfl ?_
      refine⟨⟨j,by omega,by omega,by rw[HE.out],?_⟩,B9⟩
      rw[←HKq.out,HE.out];rfl
     ·rw[if_neg h10,if_neg hce] at hqa
      have t10:=eq_f h10;have hes:=rt_escape hR j j rfl (by omega)
      cases hesc:esc (l.drop j) with
      | true =>
       have h92:c=92∧j+1<n:=by
        unfold esc at hesc;simp only[decide_eq_true_eq] at hesc;have:=pk_pos (l:=l.drop j) (m:=1) (by omega);rw[List.length_drop] at this
        exact⟨by rw[←hc];exact hesc.1,by omega⟩
       obtain⟨_,hj1⟩:=h92;have hme:=rt_meant hR j j rfl hj1;rw[hesc,if_pos rfl,List.tail_drop] at hqa;rw[hesc] at hes;rw[hqa] at hrun;generalize meantT (l.drop (j+1))=M at *
       clear hesc hqa h10 hce hc
       go_wp2_with (first
        | (go_at_call 100;with_reducible refine hes.mono ?_;rintro e2 w' ⟨rfl,rfl⟩)
        | (go_at_call 133;with_reducible refine hme.mono ?_;rintro e2 w' ⟨⟨k2,hk2,hk2n,hd2,rfl⟩,rfl⟩)
        | (at_builtin;refine wpList_append_own _ rfl _ _ 51 rfl (w.heap.size+1) 3 j0 (.int .i64 0) 1 8 Tryz.underlying51 hi hz0 hz1 hz2 rfl (by decide) (.slice Ao outs.length co) outs.length (outs.map n64) rfl (hown.alloc _) ⟨wr.heap.size,0,none⟩ 1 1 [.int .i64 M.1] rfl rfl (cell_new1 _ _ _) (by intro u hu;simp at hu;subst hu;rfl) (by unfold maxLen;omega) (by omega) (by simp;omega) ?_;intro v' w2 hown2 hg2 _))
       have hb2:=below_push hb (own_less hown (by omega)) hg2;have hrow2:=(hrow.grown (World.grownBy_alloc wr (.cells #[.int .i64 M.1] 3) none) (by simp)).grown hg2 (by intro he;have:=(hown.lt _ he.symm).1;omega);obtain⟨A2,c2,rfl,_,_⟩:=own_form hown2;clear hes hme hrow hown hb hR hg2
       go_wp2_with fail
       go_roundw
       case rel=>exact⟨k2,outs++[M.1],A2,c2,by omega,by omega,by simp;omega,(by show _=_;rw[hrun.out,hd2];simp),by simpa [OutR,n64] using hown2,hrow2,hb2,rfl,by simp⟩
       case measure=>simp[intOf];omega
      | false =>
       rw[hesc,if_neg (by simp)] at hqa;rw[hesc] at hes
       by_cases h92:c=92
       ·rw[if_pos h92,List.tail_drop,List.tail_drop] at hqa
        rw[hqa] at hrun;have t92:=eq_t h92;have hr2:Hid (Q=(outs++(quoteT e (l.drop (j+2))).1,(quoteT e (l.drop (j+2))).2)):=hrun;clear hesc hqa h10 hce hc h92 hrun
        go_wp2_with (go_at_call 100;with_reducible refine hes.mono ?_;rintro e2 w' ⟨rfl,rfl⟩)
        go_roundw
        case rel=>exact⟨j+2,outs,Ao,co,by omega,by omega,by omega,hr2,hown,hrow,hb,rfl,rfl⟩
        case measure=>simp[intOf];omega
       ·rw[if_neg h92,List.tail_drop] at hqa
        rw[hqa] at hrun;have t92:=eq_f h92;clear hesc hqa h10 hce hc h92
        go_wp2_with (first
         | (go_at_call 100;with_reducible refine hes.mono ?_;rintro e2 w' ⟨rfl,rfl⟩)
         | (at_builtin;refine wpList_append_own _ rfl _ _ 51 rfl (w.heap.size+1) 3 j0 (.int .i64 0) 1 8 Tryz.underlying51 hi hz0 hz1 hz2 rfl (by decide) (.slice Ao outs.length co) outs.length (outs.map n64) rfl (hown.alloc _) ⟨wr.heap.size,0,none⟩ 1 1 [.int .i64 c] rfl rfl (cell_new1 _ _ _) (by intro u hu;simp at hu;subst hu;rfl) (by unfold maxLen;omega) (by omega) (by simp;omega) ?_;intro v' w2 hown2 hg2 _))
        have hb2:=below_push hb (own_less hown (by omega)) hg2;have hrow2:=(hrow.grown (World.grownBy_alloc wr (.cells #[.int .i64 c] 3) none) (by simp)).grown hg2 (by intro he;have:=(hown.lt _ he.symm).1;omega);obtain⟨A2,c2,rfl,_,_⟩:=own_form hown2;clear hes hrow hown hb hR hg2
        go_wp2_with fail
        go_roundw
        case rel=>exact⟨j+1,outs++[c],A2,c2,by omega,by omega,by simp;omega,(by show _=_;rw[hrun.out];simp),by simpa [OutR,n64] using hown2,hrow2,hb2,rfl,by simp⟩
        case measure=>simp[intOf];omega
   ·have x4:decide ((j:Int)<(n:Int))=false:=by simp;omega
    have hE:Hid (Q=(outs,false,l.drop (min (j+1) n))):=by
     show _=_
     rw[hrun.out,List.drop_eq_nil_of_le (by omega:l.length≤j),quoteT_nil,List.append_nil,List.drop_eq_nil_of_le (by omega:l.length≤min (j+1) n)]
    clear hrun
    go_wp2_with fail
    go_meet
    exact⟨j,outs,Ao,co,hmj,hjn,by omega,hE,hown,hrow,hb,rfl,rfl⟩
 case rest =>
  obtain⟨j,outs,Ao,co,hmj,hjn,hol,HE,hown,hrow,hb,rfl,rfl⟩:=hcut;clear bA rA hRA hcell0;have hbs:=hb.size;have hrl:=hrow.1;obtain⟨j',hj'⟩:∃ j',min (j+1) n=j':=⟨_,rfl⟩;rw[hj'] at HE;have hmin:min ((j:Int)+1) (n:Int)=(j':Int):=by omega
  have hj'n:j'≤n:=by omega
  have hmj':m<j':=by omega
  have hon:Chars outs:=by have:=Hqi.out;rw[HE.out] at this;exact this
  have htx:=rt_text hown hon (by omega);clear hj' hon
  go_wp2_with fail
  refine htx.mono ?_
  rintro e2 w2 ⟨rfl,hb2⟩;have R2:=row_below hrow hb2;have B2:=hb.trans (hb2.mono hbs);obtain⟨x0,z0⟩:=R2.2 0 _ rfl;obtain⟨x1',z1⟩:=R2.2 1 _ rfl;obtain⟨x2',z2⟩:=R2.2 2 _ rfl;have hfin:=((R2.store 0 (.int .i64 6)).store 1 (.string (bytesOf (writeP outs)))).store 2 (.int .i64 0);have B9:=below_set (below_set (below_set B2 0 (.int .i64 6)) 1 (.string (bytesOf (writeP outs)))) 2 (.int .i64 0);clear htx hown hrow R2 B2 hb2 hb
  go_wp2_with fail
  refine bodyPost_ret (results_tok2 rfl _ _ _ _ _ _ rfl hfin) rfl ?_
  refine⟨⟨j',hmj',hj'n,by rw[HE.out],?_⟩,B9⟩
  rw[←HKq.out,HE.out];rfl
end Go.Proofs.YtfhdihdafmahgaaGreatDoor
namespace Go.Proofs.YtfhdihdafmahgaaGreatDoor
open Go.RowKit Rn Tk Np
theorem asciiT_step {l:List Int} {j:Nat} (hj:j<l.length):asciiT (l.drop j)=if pk (l.drop j) 0<128 then Tk.byteOf (pk (l.drop j) 0)::asciiT (l.drop (j+1)) else []:=by
 unfold asciiT;rw[take_while_step hj]
 by_cases h:pk (l.drop j) 0<128
 ·rw[if_pos (by simpa using h),if_pos h];rfl
 ·rw[if_neg (by simpa using h),if_neg h];rfl
theorem asciiT_nil:asciiT []=[]:=rfl
theorem byteOf_nat0 {c:Int} (h:0≤c∧c<128):((Tk.byteOf c).toNat:Int)=c:=by
 unfold Tk.byteOf;rw[UInt8.toNat_ofNat'];omega
theorem conv_byte1 (w:World) (b:UInt8):(convert 22 9 (.slice (some ⟨w.heap.size,0,none⟩) 1 1)).run Tryz.prog (w.alloc (.cells #[.int .u8 (b.toNat:Int)] 5))=.ok (.string (bytesOf [b])) (w.alloc (.cells #[.int .u8 (b.toNat:Int)] 5)):=by
 have h:=(RowAt.new w 5 #[.int .u8 (b.toNat:Int)]).reads (B:=w.heap.size+1) (by omega)
 exact run_str (P:=Tryz.prog) (src:=22) (dst:=9) Tryz.underlying22 Tryz.underlying5 Tryz.underlying9 1 (bs:=[b]) h
theorem u8_wrap (b:UInt8):IntKind.u8.wrap (b.toNat:Int)=b.toNat:=by
 have:=b.toNat_lt;unfold IntKind.wrap;simp[IntKind.signed,IntKind.bits];omega
theorem rt_ascii {w:World} {B n cap:Nat} {A:Option Addr} {l:List Int} (h:RL w B A n cap l) (m:Nat) (i0:Int) (hi0:i0=m) (hm:m≤n) :
  Calls Tryz.prog 102 #[.slice A n cap,.int .i64 i0] w fun e w'=>e=.returned (.string (bytesOf (asciiT (l.drop m))))∧Below w.heap.size w w':=by
 have hlen:=h.len;have hn:=h.hn;obtain⟨T,hT⟩:∃ T,asciiT (l.drop m)=T:=⟨_,rfl⟩;rw[hT];have HT:=Lib.hid hT;have Hi0:=Lib.hid hi0;clear hT hi0
 go_enter Tryz.func102,Tryz.ntmps102
 go_wp2_with fail
 go_loopw [1,5] (fun z x wr=>∃ (j:Nat) (S:List UInt8),m≤j∧j≤n∧S.length+m≤j∧Hid (S++asciiT (l.drop j)=T)∧Below w.heap.size w wr∧z=.int .i64 (j:Int)∧x=.string (bytesOf S)) (fun z _ _=>n-(intOf z).toNat)
 case atStart =>
  have:=Hi0.out
  exact⟨m,[],Nat.le_refl _,hm,by simp,(by show _=_;rw[HT.out];rfl),Below.refl _ _,congrArg (Value.int IntKind.i64) (by omega),rfl⟩
 case round =>
  obtain⟨j,S,hmj,hjn,hSl,hrun,hb,rfl,rfl⟩:=hrel;have hR:=h.mv hb;have x1:(0:Int)≤(j:Int):=by omega
  have hsz:=bytesOf_size S
  by_cases hjl:j<n
  ·obtain⟨bb,off,hA,hcell⟩:=hR.cell hjl
   subst hA;rw[pk0] at hcell;have hst:=asciiT_step (l:=l) (j:=j) (by omega);have hcr:=isB_range (pk_is (l:=l) h.ch (m:=j) (by omega));rw[pk0] at hcr;generalize pk (l.drop j) 0=c at *
   have x2:(j:Int)<(n:Int):=by omega
   have x4:decide ((j:Int)<(n:Int))=true:=by simp;omega
   by_cases hc:c<128
   ·obtain⟨b,hbe⟩:∃ b,Tk.byteOf c=b:=⟨_,rfl⟩
    have hbn:=byteOf_nat0 (c:=c) (by omega);rw[if_pos hc,hbe] at hst;rw[hbe] at hbn;subst hbn;have hcv:=conv_byte1 wr b;have hwr:=u8_wrap b;have hs1:=bytesOf_size [b];have d1:decide ((b.toNat:Int)<128)=true:=by simpa using hc
    have hr2:Hid ((S++[b])++asciiT (l.drop (j+1))=T):=by show _=_;rw[←hrun.out,hst];simp
    have hb2:Below w.heap.size w (wr.alloc (.cells #[.int .u8 (b.toNat:Int)] 5)):=hb.alloc hb.size _;clear hst hbe hrun hc
    go_wp2_with fail
    go_roundw
    case rel=>exact⟨j+1,S++[b],by omega,by omega,by simp;omega,hr2,hb2,rfl,by rw[bytesOf_append]⟩
    case measure=>simp[intOf];omega
   ·rw[if_neg hc] at hst
    have d1:decide (c<128)=false:=by simpa using hc
    have hS:Hid (S=T):=by show _=_;rw[←hrun.out,hst];simp
    clear hst hrun hc
    go_wp2_with fail
    go_ret
    exact⟨by rw[←hS.out];rfl,hb⟩
  ·have x4:decide ((j:Int)<(n:Int))=false:=by simp;omega
   have hS:Hid (S=T):=by show _=_;rw[←hrun.out,List.drop_eq_nil_of_le (by omega:l.length≤j),asciiT_nil];simp
   clear hrun
   go_wp2_with fail
   go_ret
   exact⟨by rw[←hS.out];rfl,hb⟩
theorem ret2i {a:Value} {x y:Int} (h:x=y):Ending.returned (.tuple #[a,.int .i64 x])=.returned (.tuple #[a,.int .i64 y]):=by rw[h]
theorem asciiT_len (r:List Int):(asciiT r).length≤r.length:=by
 unfold asciiT;rw[List.length_map];exact(List.takeWhile_prefix _).length_le
theorem own_one (w:World) (c:Int) (base:Nat) (hb:base≤w.heap.size):OutR (w.alloc (.cells #[.int .i64 c] 3)) base (some ⟨w.heap.size,0,none⟩) 1 [c] :=
 ⟨rfl,.inr ⟨w.heap.size,1,#[.int .i64 c],rfl,hb,heap_alloc_new w _,Nat.le_refl _,by unfold maxLen;simp,rfl,rfl⟩⟩
end Go.Proofs.YtfhdihdafmahgaaGreatDoor
