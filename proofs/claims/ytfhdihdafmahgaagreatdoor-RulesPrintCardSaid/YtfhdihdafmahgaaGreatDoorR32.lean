import Derived.Test.YtfhdihdafmahgaaGreatDoorR29
set_option linter.unusedVariables false
set_option linter.unusedSimpArgs false
set_option maxRecDepth 100000
set_option maxHeartbeats 4000000
namespace Go.Proofs.YtfhdihdafmahgaaGreatDoor
open Go.RowKit Rn Tp Ru
theorem results_decl {fn:Func} {p u:Tmp} (h:fn.results=#[.cell p 34,.tmp u]) (tmps:Array Value) (w:World) (g:Nat) (a b c:Value) (hp:tmps.getD p undef=.pointer (some ⟨g,0,none⟩)) (hr:RowAt w g [a,b,c]):(results fn tmps).run Tryz.prog w=.ok (.tuple #[.agg #[a,b,c],tmps.getD u undef]) w:=by
 obtain⟨c0,_⟩:=hr.2 0 _ rfl;obtain⟨c1,_⟩:=hr.2 1 _ rfl;obtain⟨c2,_⟩:=hr.2 2 _ rfl;have hp':tmps[p]?.getD undef=.pointer (some ⟨g,0,none⟩):=by simpa using hp
 simp[results,h,hp',asAddr,go_sem,c0,c1,c2]
def DeclRet (o:Option Decl) (w:World) (e:Ending) (w':World):Prop :=
 (match o with
 | some d=>∃ A' c',e=.returned (.tuple #[.agg #[.string (bytesOf d.name),.slice A' d.value.length c',.bool d.imp],.bool true])∧ReadsS w' (Fresh w w') 3 A' d.value.length (cellsG d.value)
 | none=>∃ x A' n' c' b,e=.returned (.tuple #[.agg #[.string x,.slice A' n' c',.bool b],.bool false]))∧Below w.heap.size w w'
theorem declP_kind {t:GTok} {r:List GTok} (h:t.kind≠2):declP (t::r)=none:=by unfold declP;simp only[if_neg h]
theorem declP_none {t:GTok} {r:List GTok} (h:dropS r=[]):declP (t::r)=none:=by unfold declP;simp[h]
theorem declP_colon {t c:GTok} {r q:List GTok} (h:dropS r=c::q) (hc:c.kind≠14):declP (t::r)=none:=by unfold declP;simp[h,hc]
theorem declP_some {t c:GTok} {r q:List GTok} (ht:t.kind=2) (h:dropS r=c::q) (hc:c.kind=14) {y:List GTok} {b:Bool} (hb:b=(importantP (trimL q)).isSome) (h1:b=false→y=trimL q) (h2:b=true→importantP (trimL q)=some y):declP (t::r)=if soundP y=true then some ⟨lowerP t.text,y,b⟩ else none:=by
 unfold declP;simp only[h,ht,hc,if_true]
 cases b with
 | true=>rw[h2 rfl]
 | false =>
  cases hi:importantP (trimL q) with
  | none=>rw[h1 rfl]
  | some z=>rw[hi] at hb;cases hb
theorem ru_decl (l:List GTok) (p:Nat) (A:Option Addr) (n c:Nat) (A':Option Addr) (c' k z:Nat) (w:World) (h:Par w p l A n c A' c') (hk:k≤z) (hz:z≤n) (hT:Tabs w) :
  Calls Tryz.prog 63 #[.pointer (some ⟨p,0,none⟩),.int .i64 (k:Int),.int .i64 (z:Int)] w (DeclRet (declP (segP l k z)) w):=by
 have hn:=h.hn;obtain⟨W0,hW0⟩:∃ W0,w.alloc (.cells #[.string ⟨#[]⟩,.slice none 0 0,.bool false] 34)=W0:=⟨_,rfl⟩;have b0:Below w.heap.size w W0:=by rw[←hW0];exact(Below.refl _ _).alloc (Nat.le_refl _) _
 have r0:RowAt W0 w.heap.size [.string ⟨#[]⟩,.slice none 0 0,.bool false]:=by rw[←hW0];exact RowAt.new _ _ _
 have P0:=h.below b0;obtain⟨x0,f0⟩:=r0.2 0 _ rfl;obtain⟨x1,f1⟩:=r0.2 1 _ rfl;obtain⟨x2,f2⟩:=r0.2 2 _ rfl;have rz:=((r0.store 0 (.string ⟨#[]⟩)).store 1 (.slice none 0 0)).store 2 (.bool false)
 have bz:Below w.heap.size w (((W0.setCell ⟨w.heap.size,0,none⟩ (.string ⟨#[]⟩)).setCell ⟨w.heap.size,1,none⟩ (.slice none 0 0)).setCell ⟨w.heap.size,2,none⟩ (.bool false)) :=
  ((b0.setCell (p:=⟨w.heap.size,0,none⟩) (Nat.le_refl _) _).setCell (p:=⟨w.heap.size,1,none⟩) (Nat.le_refl _) _).setCell (p:=⟨w.heap.size,2,none⟩) (Nat.le_refl _) _
 have hlenl:=h.tk.toks_len
 by_cases hkz:k=z
 ·subst hkz
  have hd:declP (segP l k k)=none:=by rw[seg_nil];rfl
  have HD:=Lib.hid hd;clear hd hlenl
  go_enter Tryz.func63,Tryz.ntmps63
  go_wp2_with fail
  refine bodyPost_ret (results_decl rfl _ _ _ _ _ _ rfl rz) rfl ?_
  unfold DeclRet;rw[HD.out]
  exact⟨⟨_,_,_,_,_,rfl⟩,bz⟩
 ·obtain⟨b,off,t,hA,hb,ht,c0,c1,c2⟩:=h.tk.tok (k:=k) (by omega)
  have hseg:segP l k z=t::segP l (k+1) z:=seg_cons ht (by omega);have hst:=h.sm t (List.mem_of_getElem? ht);have c0':=(b0.cell (p:=⟨b,off+k * 3,none⟩) hb).trans c0;have c1':=(b0.cell (p:=⟨b,off+k * 3+1,none⟩) hb).trans c1;have c2':=(b0.cell (p:=⟨b,off+k * 3+2,none⟩) hb).trans c2;have pc0:=P0.c0;have dz:((k:Int)==(z:Int))=false:=by simp;omega
  have dk:(k:Int)<(n:Int):=by omega
  subst hA;have Hseg:=Lib.hid hseg;have Hlen:=Lib.hid hlenl
  by_cases hk2:t.kind=2
  ·have cT:=nest_trim l (· < W0.heap.size) (some ⟨b,off,none⟩) n c (k+1) z W0 P0.tk hn (by omega) hz
   have w1':IntKind.i64.wrap ((k:Int)+1)=(k:Int)+1:=by rw[IntKind.wrap_i64];omega
   have k2:(t.kind==2)=true:=by simpa using hk2
   push_cast at cT
   have Hk2:=Lib.hid hk2;clear hlenl hk2 hseg ht
   go_enter Tryz.func63,Tryz.ntmps63
   go_wp2_with fail
   refine cT.mono ?_
   rintro e w1 ⟨⟨j,i,rfl,hj1,hji,hiz,hdj,_⟩,rfl⟩;have hn1:w.heap.size<w1.heap.size:=r0.1
   by_cases hjz:j=z
   ·subst hjz
    have hd:declP (segP l k j)=none:=by rw[Hseg.out];exact declP_none (by rw[hdj,seg_nil])
    have HD:=Lib.hid hd;have dj:((j:Int)==(j:Int))=true:=by simp
    clear hd hdj cT
    go_wp2_with fail
    refine bodyPost_ret (results_decl rfl _ _ _ _ _ _ rfl rz) rfl ?_
    unfold DeclRet;rw[HD.out]
    exact⟨⟨_,_,_,_,_,rfl⟩,bz⟩
   ·have hjn:j<n:=by omega
    obtain⟨b',off',u,hA,_,hu,e0,e1,e2⟩:=P0.tk.tok hjn
    injection hA with hA
    injection hA with q1 q2
    subst q1 q2;have hsj:segP l j z=u::segP l (j+1) z:=seg_cons hu (by omega);have dj:((j:Int)==(z:Int))=false:=by simp;omega
    have dj':(j:Int)<(n:Int):=by omega
    by_cases h14:u.kind=14
    ·have k14:(u.kind != 14)=false:=by simp[h14]
     have w2':IntKind.i64.wrap ((j:Int)+1)=(j:Int)+1:=by rw[IntKind.wrap_i64];omega
     have cC:=ru_cut l p _ n c A' c' (j+1) z w1 P0 (by omega) hz
     push_cast at cC
     rw[hsj] at hdj;obtain⟨v,hv⟩:∃ v,trimL (segP l (j+1) z)=v:=⟨_,rfl⟩;rw[hv] at cC;have hvh:∀ x∈v.head?,x.kind≠1:=by rw[←hv];exact trim_head _
     have hvs:∀ x∈v,smallT x:=fun x hx=>h.sm x (seg_mem (trim_mem (by rw[hv];exact hx)))
     have hvl:v.length≤n:=by
      have h1:=congrArg List.length hv
      have h2:(trimL (segP l (j+1) z)).length≤(segP l (j+1) z).length:=by
       unfold trimL rtrim;rw[List.length_reverse]
       exact Nat.le_trans (dropS_len _) (by rw[List.length_reverse];exact dropS_len _)
      rw[seg_length] at h2;rw[←h1];omega
     have Hv:=Lib.hid hv;have Hdj:=Lib.hid hdj;have H14:=Lib.hid h14;clear hv hdj h14 cT hsj hu
     go_wp2_with fail
     refine cC.mono ?_
     rintro e w2 ⟨⟨A2,c2,rfl,hcc2,hR2⟩,hb2⟩;have cI:=ru_important v _ A2 v.length c2 w2 hR2 (fun b h=>h.2) (by omega) hcc2 hvs;clear cC
     go_wp2_with fail
     refine cI.mono ?_
     rintro e w3 ⟨y,bi,A3,c3,rfl,hR3,hc3,hyv,hbi,hy1,hy2,hym,hb3⟩;have hB3:Below w1.heap.size w1 w3:=hb2.trans (hb3.mono hb2.size);have Hbi:=Lib.hid hbi;have Hy1:=Lib.hid hy1;have Hy2:=Lib.hid hy2;have P3:=P0.below hB3;have pc3:=P3.c0;have g1:=(hB3.cell (p:=⟨b,off+k * 3+1,none⟩) (Nat.lt_trans hb hn1)).trans c1';have cL:=fun W=>rn_lower (bytesOf t.text) W (by rw[bytesOf_size];exact hst.1)
     rw[show (bytesOf t.text).data.toList=t.text by simp[bytesOf]] at cL;clear hbi hy1 hy2 cI
     go_wp2_with fail
     refine(cL _).mono ?_
     rintro e w4 ⟨rfl,hb4⟩;have hB4:Below w1.heap.size w1 w4:=hB3.trans (hb4.mono hB3.size);have hR4:ReadsS w4 (Fresh w1 w2) 3 A3 y.length (cellsG y):=hR3.keep (Kept.of_below (hb3.trans (hb4.mono hb3.size)) (fun b h=>h.2));have hR4':ReadsS w4 (· < w4.heap.size) 3 A3 y.length (cellsG y):=hR4.more (fun b h=>Nat.lt_of_lt_of_le h.2 (Nat.le_trans hb3.size hb4.size));have hyl:y.length≤1000000:=by omega
     have cS:=ru_sound y A3 y.length c3 w4 hR4' hyl (fun x hx=>hvs x (hym x hx)) ((hT.below b0).below hB4);clear cL
     go_wp2_with fail
     refine cS.mono ?_
     rintro e w5 ⟨rfl,hb5⟩;have hB5:Below w1.heap.size w1 w5:=hB4.trans (hb5.mono hB4.size);have r5:=r0.below hB5 hn1;obtain⟨y0,f0'⟩:=r5.2 0 _ rfl;obtain⟨y1,f1'⟩:=r5.2 1 _ rfl;obtain⟨y2,f2'⟩:=r5.2 2 _ rfl;have rf:=((r5.store 0 (.string (bytesOf (lowerP t.text)))).store 1 (.slice A3 y.length c3)).store 2 (.bool bi)
     have bf:Below w.heap.size w (((w5.setCell ⟨w.heap.size,0,none⟩ (.string (bytesOf (lowerP t.text)))).setCell ⟨w.heap.size,1,none⟩ (.slice A3 y.length c3)).setCell ⟨w.heap.size,2,none⟩ (.bool bi)) :=
      (((b0.trans (hB5.mono (Nat.le_of_lt hn1))).setCell (p:=⟨w.heap.size,0,none⟩) (Nat.le_refl _) _).setCell (p:=⟨w.heap.size,1,none⟩) (Nat.le_refl _) _).setCell (p:=⟨w.heap.size,2,none⟩) (Nat.le_refl _) _
     have hR5:=hR4.keep (Kept.of_below hb5 (fun b h=>Nat.lt_of_lt_of_le h.2 (Nat.le_trans hb3.size hb4.size)));have hne:∀ x,Fresh w1 w2 x→x≠w.heap.size:=fun x hx=>by have:=hx.1;omega
     have hR6:=((hR5.keep (Kept.setCell (p:=⟨w.heap.size,0,none⟩) (.string (bytesOf (lowerP t.text))) hne)).keep (Kept.setCell (p:=⟨w.heap.size,1,none⟩) (.slice A3 y.length c3) hne)).keep (Kept.setCell (p:=⟨w.heap.size,2,none⟩) (.bool bi) hne);have hsz2:w2.heap.size≤w5.heap.size:=Nat.le_trans hb3.size (Nat.le_trans hb4.size hb5.size);have hR7:=hR6.more (S':=Fresh w (((w5.setCell ⟨w.heap.size,0,none⟩ (.string (bytesOf (lowerP t.text)))).setCell ⟨w.heap.size,1,none⟩ (.slice A3 y.length c3)).setCell ⟨w.heap.size,2,none⟩ (.bool bi))) (fun x hx=>⟨by have:=hx.1;omega,by have:=hx.2;simp[World.setCell];omega⟩);have hfin:=declP_some (t:=t) (r:=segP l (k+1) z) Hk2.out Hdj.out H14.out (y:=y) (b:=bi) (by rw[Hv.out];exact Hbi.out) (fun e=>by rw[Hv.out];exact Hy1.out e) (fun e=>by rw[Hv.out];exact Hy2.out e hvh);rw[←Hseg.out] at hfin;have HF:=Lib.hid hfin;clear hfin hR5 hR6 cS hR4 hR4' hR3 hvh hvs
     go_wp2_with fail
     refine bodyPost_ret (results_decl rfl _ _ _ _ _ _ rfl rf) rfl ?_
     unfold DeclRet;rw[HF.out]
     cases hsd:soundP y with
     | true=>rw[if_pos rfl];exact⟨⟨A3,c3,by rw[←hsd];rfl,hR7⟩,bf⟩
     | false=>rw[if_neg (by decide)];exact⟨⟨_,_,_,_,_,by rw[←hsd];rfl⟩,bf⟩
    ·have k14:(u.kind != 14)=true:=by simp[h14]
     have hd:declP (segP l k z)=none:=by rw[Hseg.out];exact declP_colon (by rw[hdj,hsj]) h14
     have HD:=Lib.hid hd;clear hd hdj cT h14 hsj hu
     go_wp2_with fail
     refine bodyPost_ret (results_decl rfl _ _ _ _ _ _ rfl rz) rfl ?_
     unfold DeclRet;rw[HD.out]
     exact⟨⟨_,_,_,_,_,rfl⟩,bz⟩
  ·have k2:(t.kind==2)=false:=by simpa using hk2
   have k2n:(t.kind != 2)=true:=by simp[hk2]
   have hd:declP (segP l k z)=none:=by rw[hseg];exact declP_kind hk2
   have HD:=Lib.hid hd;clear hd hlenl hk2 hseg ht
   go_enter Tryz.func63,Tryz.ntmps63
   go_wp2_with fail
   refine bodyPost_ret (results_decl rfl _ _ _ _ _ _ rfl rz) rfl ?_
   unfold DeclRet;rw[HD.out]
   exact⟨⟨_,_,_,_,_,rfl⟩,bz⟩
def Boxed (w:World):Prop:=∀ j s,boxes[j]?=some s→w.cell? ⟨0,j,none⟩=some (.string (bytesOf s))
theorem Boxed.below {w w':World} (h:Boxed w) (hb:Below w.heap.size w w'):Boxed w':=fun j s hs=>by
 have:=h j s hs;have hlt:0<w.heap.size:=World.block_lt_of_cell? _ _ this
 exact(hb.cell (p:=⟨0,j,none⟩) hlt).trans this
abbrev boxesV:Value:=.agg #[.string (bytesOf [116,111,112,45,108,101,102,116,45,99,111,114,110,101,114]),.string (bytesOf [116,111,112,45,108,101,102,116]),.string (bytesOf [116,111,112,45,99,101,110,116,101,114]),.string (bytesOf [116,111,112,45,114,105,103,104,116]),
 .string (bytesOf [116,111,112,45,114,105,103,104,116,45,99,111,114,110,101,114]),.string (bytesOf [114,105,103,104,116,45,116,111,112]),.string (bytesOf [114,105,103,104,116,45,109,105,100,100,108,101]),.string (bytesOf [114,105,103,104,116,45,98,111,116,116,111,109]),
 .string (bytesOf [98,111,116,116,111,109,45,114,105,103,104,116,45,99,111,114,110,101,114]),.string (bytesOf [98,111,116,116,111,109,45,114,105,103,104,116]),.string (bytesOf [98,111,116,116,111,109,45,99,101,110,116,101,114]),.string (bytesOf [98,111,116,116,111,109,45,108,101,102,116]),
 .string (bytesOf [98,111,116,116,111,109,45,108,101,102,116,45,99,111,114,110,101,114]),.string (bytesOf [108,101,102,116,45,98,111,116,116,111,109]),.string (bytesOf [108,101,102,116,45,109,105,100,100,108,101]),.string (bytesOf [108,101,102,116,45,116,111,112])]
theorem box_index (W:World):∀ (k:Nat) (x:List UInt8),boxes[k]?=some x→(Instr.index 80 boxesV (.int .i64 (k:Int))).run Tryz.prog W=.ok (.string (bytesOf x)) W
 | 0,x,h=>by
  injection h with h;subst h
  kernel_rfl
 | 1,x,h=>by
  injection h with h;subst h
  kernel_rfl
 | 2,x,h=>by
  injection h with h;subst h
  kernel_rfl
 | 3,x,h=>by
  injection h with h;subst h
  kernel_rfl
 | 4,x,h=>by
  injection h with h;subst h
  kernel_rfl
 | 5,x,h=>by
  injection h with h;subst h
  kernel_rfl
 | 6,x,h=>by
  injection h with h;subst h
  kernel_rfl
 | 7,x,h=>by
  injection h with h;subst h
  kernel_rfl
 | 8,x,h=>by
  injection h with h;subst h
  kernel_rfl
 | 9,x,h=>by
  injection h with h;subst h
  kernel_rfl
 | 10,x,h=>by
  injection h with h;subst h
  kernel_rfl
 | 11,x,h=>by
  injection h with h;subst h
  kernel_rfl
 | 12,x,h=>by
  injection h with h;subst h
  kernel_rfl
 | 13,x,h=>by
  injection h with h;subst h
  kernel_rfl
 | 14,x,h=>by
  injection h with h;subst h
  kernel_rfl
 | 15,x,h=>by
  injection h with h;subst h
  kernel_rfl
 | (k+16),x,h=>by
  have:=(List.getElem?_eq_some_iff.1 h).1;have h16:boxes.length=16:=by decide
  omega
theorem idx_first {α:Type} [BEq α] [LawfulBEq α] {a:α}:∀ (l:List α) (k:Nat),l[k]?=some a→(∀ j,j<k→l[j]?≠some a)→l.idxOf a=k
 | [],k,h,_=>by simp at h
 | x::l,0,h,_=>by simp at h;subst h;simp
 | x::l,k+1,h,hn=>by
  have hx:x≠a:=by have:=hn 0 (by omega);simpa using this
  have ih:=idx_first l k (by simpa using h) (fun j hj=>by have:=hn (j+1) (by omega);simpa using this);rw[List.idxOf_cons];have:(x==a)=false:=by simpa using hx
  simp[this,ih]
theorem box_len:boxes.length=16:=by decide
theorem box_hit {s:List UInt8} {k:Nat} (h:boxes[k]?=some (lowerP s)) (hn:∀ j,j<k→boxes[j]?≠some (lowerP s)):boxP s=(k:Int):=by
 unfold boxP;rw[if_pos (List.mem_of_getElem? h),idx_first boxes k h hn]
theorem box_miss {s:List UInt8} (hn:∀ j,j<16→boxes[j]?≠some (lowerP s)):boxP s=-1:=by
 unfold boxP;rw[if_neg];intro h;obtain⟨j,hj,e⟩:=List.getElem_of_mem h;have h16:boxes.length=16:=by decide
 exact hn j (by omega) (by rw[List.getElem?_eq_getElem hj,e])
theorem ru_box (s:List UInt8) (w:World) (hs:s.length≤1000000) (hB:Boxed w) :
  Calls Tryz.prog 19 #[.string (bytesOf s)] w fun e w'=>e=.returned (.int .i64 (boxP s))∧Below w.heap.size w w':=by
 obtain b0:=hB 0 _ rfl;obtain b1:=hB 1 _ rfl;obtain b2:=hB 2 _ rfl;obtain b3:=hB 3 _ rfl;obtain b4:=hB 4 _ rfl;obtain b5:=hB 5 _ rfl;obtain b6:=hB 6 _ rfl;obtain b7:=hB 7 _ rfl;obtain b8:=hB 8 _ rfl;obtain b9:=hB 9 _ rfl;obtain b10:=hB 10 _ rfl;obtain b11:=hB 11 _ rfl;obtain b12:=hB 12 _ rfl;obtain b13:=hB 13 _ rfl;obtain b14:=hB 14 _ rfl;obtain b15:=hB 15 _ rfl;have cL:=fun W=>rn_lower (bytesOf s) W (by rw[bytesOf_size];exact hs)
 rw[show (bytesOf s).data.toList=s by simp[bytesOf]] at cL
 go_enter Tryz.func19,Tryz.ntmps19
 go_wp2_with fail
 clear b0 b1 b2 b3 b4 b5 b6 b7 b8 b9 b10 b11 b12 b13 b14 b15
 go_loopw [6] (fun i wr=>∃ k:Nat,k≤16∧i=.int .i64 (k:Int)∧Hid (∀ j,j<k→boxes[j]?≠some (lowerP s))∧Below w.heap.size w wr) (fun i _=>16-(intOf i).toNat)
 case atStart=>exact⟨0,by omega,rfl,(by show ∀ j,j<0→_;intro j hj;omega),Below.refl _ _⟩
 case round =>
  obtain⟨k,hk,rfl,hno,hb⟩:=hrel
  by_cases hlt:k<16
  ·have dk:decide ((k:Int)<16)=true:=by simp;omega
   have dk2:decide (k<16)=true:=by simp;omega
   obtain⟨x,hx⟩:∃ x,boxes[k]?=some x:=⟨_,List.getElem?_eq_getElem (by rw[box_len];exact hlt)⟩;have hix:=fun W=>box_index W k x hx
   obtain⟨q,hq⟩:∃ q,decide (x=lowerP s)=q:=⟨_,rfl⟩;have hqe:((bytesOf x).toList==(bytesOf (lowerP s)).toList)=q:=by rw[bytesOf_toList,bytesOf_toList,←hq,Bool.eq_iff_iff];simp
   have Hq:=Lib.hid hq;have Hx:=Lib.hid hx;clear hq hx
   go_wp2_with fail
   refine(cL _).mono ?_
   rintro e w1 ⟨rfl,hb1⟩;have hB1:Below w.heap.size w w1:=hb.trans (hb1.mono hb.size)
   cases q with
   | true =>
    have hf:boxP s=(k:Int):=box_hit (by rw[Hx.out,of_decide_eq_true Hq.out]) hno.out;have HF:=Lib.hid hf;clear hf hno
    go_wp2_with fail
    go_ret
    exact⟨ret_int HF.out.symm,hB1⟩
   | false =>
    have hnew:Hid (∀ j,j<k+1→boxes[j]?≠some (lowerP s)):=by
     show ∀ j,_→_
     intro j hj
     rcases Nat.lt_or_ge j k with h|h
     ·exact hno.out j h
     ·rw[show j=k by omega,Hx.out]
      intro e
      injection e with e
      exact of_decide_eq_false Hq.out e
    clear hno
    go_wp2_with fail
    go_roundw
    case rel=>exact⟨k+1,by omega,by go_num,hnew,hB1⟩
    case measure=>simp[intOf];omega
  ·obtain rfl:k=16:=by omega
   have dk:decide ((((16:Nat):Int))<16)=false:=by simp
   have hf:boxP s=-1:=box_miss hno.out;have HF:=Lib.hid hf;clear hf hno
   go_wp2_with fail
   go_ret
   exact⟨ret_int HF.out.symm,hb⟩
theorem itemsF_len (l:List GTok) (z:Nat):∀ f k,(itemsF l z f k).length≤f
 | 0,k=>by simp[itemsF]
 | f+1,k=>by
  have ih:=itemsF_len l z f;unfold itemsF
  split
  ·split
   ·split
    ·exact Nat.le_succ_of_le (ih _)
    ·split
     ·rw[List.length_cons];exact Nat.succ_le_succ (ih _)
     ·rw[List.length_cons];exact Nat.succ_le_succ (ih _)
   ·simp
  ·simp
theorem decls_len (l:List GTok) (k z:Nat):(declsP l k z).length≤z-k:=Nat.le_trans (List.length_filterMap_le _ _) (itemsF_len l z _ _)
theorem margins_len (l:List GTok) (k z:Nat):(marginsP l k z).length≤z-k:=Nat.le_trans (List.length_filterMap_le _ _) (itemsF_len l z _ _)
theorem decls_end {l:List GTok} {k z:Nat} (h:z≤k):declsP l k z=[]∧marginsP l k z=[]:=by unfold declsP marginsP;rw[items_end h];exact⟨rfl,rfl⟩
theorem decls_sp {l:List GTok} {k z:Nat} {t:GTok} (hto:z≤l.length) (hk:k<z) (ht:l[k]?=some t) (h:t.kind=1∨t.kind=15):declsP l k z=declsP l (k+1) z∧marginsP l k z=marginsP l (k+1) z:=by
 unfold declsP marginsP;rw[items_sp hto hk ht h];exact⟨rfl,rfl⟩
theorem decls_at {l:List GTok} {k z:Nat} {t:GTok} (hto:z≤l.length) (hk:k<z) (ht:l[k]?=some t) (h:t.kind=4):declsP l k z=declsP l (skipP l (findP l eitherB (k+1) z)) z∧marginsP l k z=(marginOf l z (k,findP l eitherB (k+1) z)).toList++marginsP l (skipP l (findP l eitherB (k+1) z)) z:=by
 have hd:declOf l (k,findP l eitherB (k+1) z)=none:=by unfold declOf;simp only[];rw[ht];simp[h]
 unfold declsP marginsP;rw[items_at hto hk ht h,List.filterMap_cons,hd,List.filterMap_cons]
 refine⟨rfl,?_⟩
 cases marginOf l z (k,findP l eitherB (k+1) z)<;>rfl
theorem decls_else {l:List GTok} {k z:Nat} {t:GTok} (hto:z≤l.length) (hk:k<z) (ht:l[k]?=some t) (h1:t.kind≠1) (h2:t.kind≠15) (h3:t.kind≠4):declsP l k z=(declP (segP l k (findP l semiB k z))).toList++declsP l (findP l semiB k z) z∧marginsP l k z=marginsP l (findP l semiB k z) z:=by
 have hd:declOf l (k,findP l semiB k z)=declP (segP l k (findP l semiB k z)):=by unfold declOf;simp only[];rw[ht];simp[h3]
 have hm:marginOf l z (k,findP l semiB k z)=none:=by unfold marginOf;simp only[];rw[ht];simp[h3]
 unfold declsP marginsP;rw[items_else hto hk ht h1 h2 h3,List.filterMap_cons,hd,List.filterMap_cons,hm]
 refine⟨?_,rfl⟩
 cases declP (segP l k (findP l semiB k z))<;>rfl
def marB (l:List GTok) (pg:Bool) (z k e:Nat) (t:GTok):Bool:=decide (e<z)&&((l[e]?.map braceB).getD false)&&pg&&decide (0≤boxP t.text)&&decide ((trimL (segP l (k+1) e)).length=0)
theorem margin_yes {l:List GTok} {z k e:Nat} {t:GTok} (ht:l[k]?=some t) (h4:t.kind=4) (h:marB l true z k e t=true):marginOf l z (k,e)=some ⟨lowerP t.text,declsP l (e+1) (min (endP l e).toNat z)⟩:=by
 unfold marB at h;simp only[Bool.and_eq_true,decide_eq_true_eq] at h;obtain⟨⟨⟨⟨a1,a2⟩,_⟩,a3⟩,a4⟩:=h;unfold marginOf;simp only[];rw[ht];simp only[];rw[if_pos]
 refine⟨h4,a1,?_,a3,List.eq_nil_of_length_eq_zero a4⟩
 cases hx:l[e]?.map braceB with
 | none=>rw[hx] at a2;cases a2
 | some b=>rw[hx] at a2;simp at a2;rw[a2]
theorem margin_no {l:List GTok} {z k e:Nat} {t:GTok} (ht:l[k]?=some t) (h:marB l true z k e t=false):marginOf l z (k,e)=none:=by
 unfold marginOf;simp only[];rw[ht];simp only[];rw[if_neg];rintro⟨_,a1,a2,a3,a4⟩
 have:marB l true z k e t=true:=by
  unfold marB;rw[a2,a4]
  simp[a1,a3]
 rw[this] at h;cases h
theorem mar_end {l:List GTok} {pg:Bool} {z k e:Nat} {t:GTok} (h:marB l pg z k e t=true):e<z∧(l[e]?.map braceB)=some true∧pg=true:=by
 unfold marB at h;simp only[Bool.and_eq_true,decide_eq_true_eq] at h;obtain⟨⟨⟨⟨a1,a2⟩,a5⟩,a3⟩,a4⟩:=h
 refine⟨a1,?_,a5⟩
 cases hx:l[e]?.map braceB with
 | none=>rw[hx] at a2;cases a2
 | some b=>rw[hx] at a2;simp at a2;rw[a2]
theorem brace_opens {t:GTok} (h:braceB t=true):opensP t=[125]:=by
 unfold braceB at h;simp only[Bool.and_eq_true,decide_eq_true_eq] at h;unfold opensP
 simp[h.1,h.2]
theorem brace_end {l:List GTok} {e:Nat} (h:(l[e]?.map braceB)=some true):∃ j:Nat,endP l e=(j:Int)∧e<j∧j≤l.length:=by
 cases ht:l[e]? with
 | none=>rw[ht] at h;cases h
 | some t =>
  rw[ht] at h;have hb:braceB t=true:=by simpa using h
  exact end_open ht (by rw[brace_opens hb];simp)
def BS (w wr:World) (v1 v2:Value):Nat→Prop:=fun b=>w.heap.size≤b∧b<wr.heap.size∧v1.ownBlock≠some b∧v2.ownBlock≠some b
structure BJ (l:List GTok) (pg:Bool) (z0 z:Nat) (w wr:World) (k:Nat) (v1 v2:Value) (md:List MDecl) (mm:List MMargin):Prop where
 bel:Below w.heap.size w wr
 own1:wr.ownsRow w.heap.size 34 3 v1 md.length (cellsD md)
 own2:wr.ownsRow w.heap.size 41 2 v2 mm.length (cellsM mm)
 ap:∀ g,v1.ownBlock=some g→v2.ownBlock≠some g
 rd1:DeclsM wr (BS w wr v1 v2) md
 rd2:MarginsM wr (BS w wr v1 v2) mm
 e1:declsP l z0 z=md.map (·.d)++declsP l k z
 e2:(if pg=true then marginsP l z0 z else [])=mm.map (·.m)++(if pg=true then marginsP l k z else [])
section
variable {l:List GTok} {pg:Bool} {z0 z k k':Nat} {w wr W w3:World} {v1 v2 v':Value} {md:List MDecl} {mm:List MMargin} {o:Obj}
theorem BJ.start (l:List GTok) (pg:Bool) (z0 z:Nat) (w:World):BJ l pg z0 z w w z0 (.slice none 0 0) (.slice none 0 0) [] [] :=
 ⟨Below.refl _ _,World.ownsRow_nil _ _ _ _,World.ownsRow_nil _ _ _ _,(fun g h=>by cases h),(fun m hm=>by cases hm),(fun m hm=>by cases hm),(by simp),(by simp)⟩
theorem BJ.to (h:BJ l pg z0 z w wr k v1 v2 md mm) (h1:declsP l k z=declsP l k' z) (h2:pg=true→marginsP l k z=marginsP l k' z):BJ l pg z0 z w wr k' v1 v2 md mm :=
 ⟨h.bel,h.own1,h.own2,h.ap,h.rd1,h.rd2,by rw[h.e1,h1],by
  rw[h.e2]
  cases pg with
  | true=>simp only[if_true];rw[h2 rfl]
  | false=>rfl⟩
theorem BJ.below (h:BJ l pg z0 z w wr k v1 v2 md mm) (hb:Below wr.heap.size wr W):BJ l pg z0 z w W k v1 v2 md mm:=by
 have hS:∀ b,BS w wr v1 v2 b→BS w W v1 v2 b:=fun b hb'=>⟨hb'.1,Nat.lt_of_lt_of_le hb'.2.1 hb.size,hb'.2.2⟩
 have hk:Kept (BS w wr v1 v2) wr W:=Kept.of_below hb (fun b h=>h.2.1)
 exact⟨h.bel.trans (hb.mono h.bel.size),own_below h.own1 hb,own_below h.own2 hb,h.ap,(h.rd1.keep hk).more hS,(h.rd2.keep hk).more hS,h.e1,h.e2⟩
theorem BJ.pushD {m:MDecl} (h:BJ l pg z0 z w W k v1 v2 md mm) (hm:ReadsS W (BS w W v1 v2) 3 m.A m.d.value.length (cellsG m.d.value)) (hw:w.heap.size≤W.heap.size)
  (hown:w3.ownsRow w.heap.size 34 3 v' (md.length+1) (cellsD md++m.cells)) (hg:(W.alloc o).grownBy w3 v1.ownBlock) (hat:v'.ownBlock=v1.ownBlock∨v'.ownBlock=some (W.heap.size+1))
  (h1:declsP l k z=m.d::declsP l k' z) (h2:pg=true→marginsP l k z=marginsP l k' z):BJ l pg z0 z w w3 k' v' v2 (md++[m]) mm:=by
 have hsz:W.heap.size+1≤w3.heap.size:=by have:=hg.size;simpa using this
 have hS:∀ b,BS w W v1 v2 b→BS w w3 v' v2 b:=fun b hb=>⟨hb.1,by have:=hb.2.1;omega,by
  rcases hat with e|e
  ·rw[e];exact hb.2.2.1
  ·rw[e];intro e2;injection e2 with e2;have:=hb.2.1;omega,hb.2.2.2⟩
 have hkA:Kept (BS w W v1 v2) W (W.alloc o):=Kept.of_alloc o (fun b hb=>hb.2.1);have hkG:Kept (BS w W v1 v2) (W.alloc o) w3:=Kept.of_grown hg (fun b hb=>⟨by have:=hb.2.1;simp;omega,fun e=>hb.2.2.1 e.symm⟩);have hk:=hkA.trans hkG
 refine⟨push_below h.bel hw h.own1 hg,by rw[List.length_append,cellsD_snoc];exact hown,?_,?_,?_,(h.rd2.keep hk).more hS,?_,?_⟩
 ·refine(h.own2.alloc o).kept hg ?_
  cases hv:v2.ownBlock with
  | none=>exact .inl rfl
  | some g=>exact .inr (fun e=>h.ap g e.symm hv)
 ·intro g hgv hv2
  rcases hat with e|e
  ·rw[e] at hgv;exact h.ap g hgv hv2
  ·rw[e] at hgv;injection hgv with hgv
   have:=(h.own2.lt g hv2).2;omega
 ·exact((h.rd1.keep hk).more hS).snoc ((hm.keep hk).more hS)
 ·rw[h.e1,h1];simp
 ·rw[h.e2]
  cases pg with
  | true=>simp only[if_true];rw[h2 rfl]
  | false=>rfl
theorem BJ.pushM {m:MMargin} (h:BJ l true z0 z w W k v1 v2 md mm) (hm:DeclsS W (BS w W v1 v2) m.A m.m.decls.length m.m.decls) (hw:w.heap.size≤W.heap.size)
  (hown:w3.ownsRow w.heap.size 41 2 v' (mm.length+1) (cellsM mm++m.cells)) (hg:(W.alloc o).grownBy w3 v2.ownBlock) (hat:v'.ownBlock=v2.ownBlock∨v'.ownBlock=some (W.heap.size+1))
  (h1:declsP l k z=declsP l k' z) (h2:marginsP l k z=m.m::marginsP l k' z):BJ l true z0 z w w3 k' v1 v' md (mm++[m]):=by
 have hsz:W.heap.size+1≤w3.heap.size:=by have:=hg.size;simpa using this
 have hS:∀ b,BS w W v1 v2 b→BS w w3 v1 v' b:=fun b hb=>⟨hb.1,by have:=hb.2.1;omega,hb.2.2.1,by
  rcases hat with e|e
  ·rw[e];exact hb.2.2.2
  ·rw[e];intro e2;injection e2 with e2;have:=hb.2.1;omega⟩
 have hkA:Kept (BS w W v1 v2) W (W.alloc o):=Kept.of_alloc o (fun b hb=>hb.2.1);have hkG:Kept (BS w W v1 v2) (W.alloc o) w3:=Kept.of_grown hg (fun b hb=>⟨by have:=hb.2.1;simp;omega,fun e=>hb.2.2.2 e.symm⟩);have hk:=hkA.trans hkG
 refine⟨push_below h.bel hw h.own2 hg,?_,by rw[List.length_append,cellsM_snoc];exact hown,?_,(h.rd1.keep hk).more hS,?_,?_,?_⟩
 ·refine(h.own1.alloc o).kept hg ?_
  cases hv:v1.ownBlock with
  | none=>exact .inl rfl
  | some g=>exact .inr (fun e=>h.ap g hv e.symm)
 ·intro g hgv hv2
  rcases hat with e|e
  ·rw[e] at hv2;exact h.ap g hgv hv2
  ·rw[e] at hv2;injection hv2 with hv2
   have:=(h.own1.lt g hgv).2;omega
 ·exact((h.rd2.keep hk).more hS).snoc ((hm.keep hk).more hS)
 ·rw[h.e1,h1]
 ·rw[h.e2];simp only[if_true];rw[h2];simp
end
def BlockRet (l:List GTok) (k z:Nat) (pg:Bool) (w:World) (e:Ending) (w':World):Prop :=
 ∃ (ds:List Decl) (ms:List Margin) (A1:Option Addr) (c1:Nat) (A2:Option Addr) (c2:Nat),e=.returned (.tuple #[.slice A1 ds.length c1,.slice A2 ms.length c2])∧ds=declsP l k z∧ms=(if pg=true then marginsP l k z else [])
  ∧ DeclsS w' (Fresh w w') A1 ds.length ds∧MarginsS w' (Fresh w w') A2 ms.length ms∧Below w.heap.size w w'
theorem BJ.done {l:List GTok} {pg:Bool} {z0 z k:Nat} {w wr:World} {A1 A2:Option Addr} {n1 n2 c1 c2:Nat} {md:List MDecl} {mm:List MMargin} (h:BJ l pg z0 z w wr k (.slice A1 n1 c1) (.slice A2 n2 c2) md mm) (h1:n1=md.length) (h2:n2=mm.length) (hk:z≤k) :
  BlockRet l z0 z pg w (.returned (.tuple #[.slice A1 n1 c1,.slice A2 n2 c2])) wr:=by
 subst h1 h2;obtain⟨d1,d2⟩:=decls_end (l:=l) hk;have hF:∀ b,BS w wr (.slice A1 md.length c1) (.slice A2 mm.length c2) b→Fresh w wr b:=fun b hb=>⟨hb.1,hb.2.1⟩
 refine⟨md.map (·.d),mm.map (·.m),A1,c1,A2,c2,by rw[List.length_map,List.length_map],?_,?_,?_,?_,h.bel⟩
 ·rw[h.e1,d1,List.append_nil]
 ·rw[h.e2,d2];cases pg<;>simp
 ·rw[List.length_map]
  exact⟨md,rfl,ReadsS.of_own h.own1 (fun b hb=>h.own1.lt b hb),h.rd1.more hF⟩
 ·rw[List.length_map]
  exact⟨mm,rfl,ReadsS.of_own h.own2 (fun b hb=>h.own2.lt b hb),h.rd2.more hF⟩
end Go.Proofs.YtfhdihdafmahgaaGreatDoor
