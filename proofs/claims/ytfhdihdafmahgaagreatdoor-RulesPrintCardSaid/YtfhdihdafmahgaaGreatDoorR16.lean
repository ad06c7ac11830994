import Derived.Test.YtfhdihdafmahgaaGreatDoorR14
import Derived.Shelf.Abstract
import Derived.Lib.SliceRun
set_option linter.unusedVariables false
set_option linter.unusedSimpArgs false
set_option maxRecDepth 100000
set_option maxHeartbeats 2000000
namespace Go.Proofs.YtfhdihdafmahgaaGreatDoor
open Go.RowKit Rn Tp Ru
theorem ru_brace (t:GTok) (w:World) :
  Calls Tryz.prog 23 #[gtokV t] w fun e w'=>e=.returned (.bool (braceB t))∧Below w.heap.size w w':=by
 obtain⟨kind,text,n⟩:=t;obtain⟨wA,hwA⟩:∃ wA,w.alloc (.cells #[.int .i64 kind,.string (bytesOf text),.int .i64 n] 58)=wA:=⟨_,rfl⟩;have bA:Below w.heap.size w wA:=by rw[←hwA];exact(Below.refl _ _).alloc (Nat.le_refl _) _
 have rA:RowAt wA w.heap.size [.int .i64 kind,.string (bytesOf text),.int .i64 n]:=by rw[←hwA];exact RowAt.new _ _ _
 obtain⟨x0,_⟩:=rA.2 0 _ rfl;obtain⟨x1,_⟩:=rA.2 1 _ rfl
 by_cases h12:kind=12
 ·by_cases ht:text=[123]
  ·have hb:braceB ⟨kind,text,n⟩=true:=by simp[braceB,h12,ht]
   rw[hb];obtain⟨s1,s2⟩:=txt_is ht;subst h12;clear ht hb
   go_enter Tryz.func23,Tryz.ntmps23
   go_wp2
   go_ret
   exact⟨rfl,bA⟩
  ·have hb:braceB ⟨kind,text,n⟩=false:=by simp[braceB,h12,ht]
   rw[hb];obtain⟨s1,s2⟩:=txt_not ht;subst h12;clear ht hb
   go_enter Tryz.func23,Tryz.ntmps23
   go_wp2
   go_ret
   exact⟨rfl,bA⟩
 ·have hb:braceB ⟨kind,text,n⟩=false:=by simp[braceB,h12]
  rw[hb];have k12:(kind==12)=false:=by simp[h12]
  clear h12 hb
  go_enter Tryz.func23,Tryz.ntmps23
  go_wp2
  go_ret
  exact⟨rfl,bA⟩
theorem ru_semi (t:GTok) (w:World) :
  Calls Tryz.prog 25 #[gtokV t] w fun e w'=>e=.returned (.bool (semiB t))∧Below w.heap.size w w':=by
 obtain⟨kind,text,n⟩:=t;obtain⟨wA,hwA⟩:∃ wA,w.alloc (.cells #[.int .i64 kind,.string (bytesOf text),.int .i64 n] 58)=wA:=⟨_,rfl⟩;have bA:Below w.heap.size w wA:=by rw[←hwA];exact(Below.refl _ _).alloc (Nat.le_refl _) _
 have rA:RowAt wA w.heap.size [.int .i64 kind,.string (bytesOf text),.int .i64 n]:=by rw[←hwA];exact RowAt.new _ _ _
 obtain⟨x0,_⟩:=rA.2 0 _ rfl;obtain⟨q,hq⟩:∃ q,semiB ⟨kind,text,n⟩=q:=⟨_,rfl⟩;have hk:(kind==15)=q:=by rw[←hq,Bool.eq_iff_iff];simp[semiB]
 rw[hq];clear hq
 go_enter Tryz.func25,Tryz.ntmps25
 go_wp2
 go_ret
 exact⟨by first | rfl | rw[hk],bA⟩
theorem ru_either_parse (t:GTok) (w:World) :
  Calls Tryz.prog 24 #[gtokV t] w fun e w'=>e=.returned (.bool (eitherB t))∧Below w.heap.size w w':=by
 have c1:=fun W=>ru_semi t W
 have c2:=fun W=>ru_brace t W
 obtain⟨q,hq⟩:∃ q,semiB t=q:=⟨_,rfl⟩;have he:eitherB t=(q||braceB t):=by unfold eitherB;rw[hq]
 rw[he];simp only[hq] at c1;clear he hq;obtain⟨kind,text,n⟩:=t;obtain⟨wA,hwA⟩:∃ wA,w.alloc (.cells #[.int .i64 kind,.string (bytesOf text),.int .i64 n] 58)=wA:=⟨_,rfl⟩;have bA:Below w.heap.size w wA:=by rw[←hwA];exact(Below.refl _ _).alloc (Nat.le_refl _) _
 have rA:RowAt wA w.heap.size [.int .i64 kind,.string (bytesOf text),.int .i64 n]:=by rw[←hwA];exact RowAt.new _ _ _
 obtain⟨x0,_⟩:=rA.2 0 _ rfl;obtain⟨x1,_⟩:=rA.2 1 _ rfl;obtain⟨x2,_⟩:=rA.2 2 _ rfl;have hlt:=rA.1;have hsz:=bA.size;clear rA
 go_enter Tryz.func24,Tryz.ntmps24
 go_wp2_with fail
 refine(c1 _).mono ?_
 rintro e w1 ⟨rfl,hb1⟩;have y0:=(hb1.cell (p:=⟨w.heap.size,0,none⟩) hlt).trans x0;have y1:=(hb1.cell (p:=⟨w.heap.size,1,none⟩) hlt).trans x1;have y2:=(hb1.cell (p:=⟨w.heap.size,2,none⟩) hlt).trans x2;have hB1:Below w.heap.size w w1:=bA.trans (hb1.mono hsz)
 cases q with
 | true =>
  go_wp2_with fail
  go_ret
  exact⟨rfl,hB1⟩
 | false =>
  go_wp2_with fail
  refine(c2 _).mono ?_
  rintro e w2 ⟨rfl,hb2⟩
  go_wp2_with fail
  go_ret
  exact⟨by first | rfl | simp,hB1.trans (hb2.mono hB1.size)⟩
theorem ru_either_right (t:GTok) (w:World) :
  Calls Tryz.prog 78 #[gtokV t] w fun e w'=>e=.returned (.bool (eitherB t))∧Below w.heap.size w w':=by
 have c1:=fun W=>ru_semi t W
 have c2:=fun W=>ru_brace t W
 obtain⟨q,hq⟩:∃ q,semiB t=q:=⟨_,rfl⟩;have he:eitherB t=(q||braceB t):=by unfold eitherB;rw[hq]
 rw[he];simp only[hq] at c1;clear he hq;obtain⟨kind,text,n⟩:=t;obtain⟨wA,hwA⟩:∃ wA,w.alloc (.cells #[.int .i64 kind,.string (bytesOf text),.int .i64 n] 58)=wA:=⟨_,rfl⟩;have bA:Below w.heap.size w wA:=by rw[←hwA];exact(Below.refl _ _).alloc (Nat.le_refl _) _
 have rA:RowAt wA w.heap.size [.int .i64 kind,.string (bytesOf text),.int .i64 n]:=by rw[←hwA];exact RowAt.new _ _ _
 obtain⟨x0,_⟩:=rA.2 0 _ rfl;obtain⟨x1,_⟩:=rA.2 1 _ rfl;obtain⟨x2,_⟩:=rA.2 2 _ rfl;have hlt:=rA.1;have hsz:=bA.size;clear rA
 go_enter Tryz.func78,Tryz.ntmps78
 go_wp2_with fail
 refine(c1 _).mono ?_
 rintro e w1 ⟨rfl,hb1⟩;have y0:=(hb1.cell (p:=⟨w.heap.size,0,none⟩) hlt).trans x0;have y1:=(hb1.cell (p:=⟨w.heap.size,1,none⟩) hlt).trans x1;have y2:=(hb1.cell (p:=⟨w.heap.size,2,none⟩) hlt).trans x2;have hB1:Below w.heap.size w w1:=bA.trans (hb1.mono hsz)
 cases q with
 | true =>
  go_wp2_with fail
  go_ret
  exact⟨rfl,hB1⟩
 | false =>
  go_wp2_with fail
  refine(c2 _).mono ?_
  rintro e w2 ⟨rfl,hb2⟩
  go_wp2_with fail
  go_ret
  exact⟨by first | rfl | simp,hB1.trans (hb2.mono hB1.size)⟩
theorem ru_either_block (t:GTok) (w:World) :
  Calls Tryz.prog 62 #[gtokV t] w fun e w'=>e=.returned (.bool (eitherB t))∧Below w.heap.size w w':=by
 have c1:=fun W=>ru_semi t W
 have c2:=fun W=>ru_brace t W
 obtain⟨q,hq⟩:∃ q,semiB t=q:=⟨_,rfl⟩;have he:eitherB t=(q||braceB t):=by unfold eitherB;rw[hq]
 rw[he];simp only[hq] at c1;clear he hq;obtain⟨kind,text,n⟩:=t;obtain⟨wA,hwA⟩:∃ wA,w.alloc (.cells #[.int .i64 kind,.string (bytesOf text),.int .i64 n] 58)=wA:=⟨_,rfl⟩;have bA:Below w.heap.size w wA:=by rw[←hwA];exact(Below.refl _ _).alloc (Nat.le_refl _) _
 have rA:RowAt wA w.heap.size [.int .i64 kind,.string (bytesOf text),.int .i64 n]:=by rw[←hwA];exact RowAt.new _ _ _
 obtain⟨x0,_⟩:=rA.2 0 _ rfl;obtain⟨x1,_⟩:=rA.2 1 _ rfl;obtain⟨x2,_⟩:=rA.2 2 _ rfl;have hlt:=rA.1;have hsz:=bA.size;clear rA
 go_enter Tryz.func62,Tryz.ntmps62
 go_wp2_with fail
 refine(c1 _).mono ?_
 rintro e w1 ⟨rfl,hb1⟩;have y0:=(hb1.cell (p:=⟨w.heap.size,0,none⟩) hlt).trans x0;have y1:=(hb1.cell (p:=⟨w.heap.size,1,none⟩) hlt).trans x1;have y2:=(hb1.cell (p:=⟨w.heap.size,2,none⟩) hlt).trans x2;have hB1:Below w.heap.size w w1:=bA.trans (hb1.mono hsz)
 cases q with
 | true =>
  go_wp2_with fail
  go_ret
  exact⟨rfl,hB1⟩
 | false =>
  go_wp2_with fail
  refine(c2 _).mono ?_
  rintro e w2 ⟨rfl,hb2⟩
  go_wp2_with fail
  go_ret
  exact⟨by first | rfl | simp,hB1.trans (hb2.mono hB1.size)⟩
theorem ru_named (t:GTok) (k:Int) (s:List UInt8) (w:World) (hs:t.text.length≤1000000) :
  Calls Tryz.prog 130 #[gtokV t,.int .i64 k,.string (bytesOf s)] w fun e w'=>e=.returned (.bool (namedB t k s))∧Below w.heap.size w w':=by
 obtain⟨kind,text,n⟩:=t;have cL:=fun W=>rn_lower (bytesOf text) W (by rw[bytesOf_size];exact hs)
 have hbl:(bytesOf text).data.toList=text:=by simp[bytesOf]
 rw[hbl] at cL;obtain⟨wA,hwA⟩:∃ wA,w.alloc (.cells #[.int .i64 kind,.string (bytesOf text),.int .i64 n] 58)=wA:=⟨_,rfl⟩;have bA:Below w.heap.size w wA:=by rw[←hwA];exact(Below.refl _ _).alloc (Nat.le_refl _) _
 have rA:RowAt wA w.heap.size [.int .i64 kind,.string (bytesOf text),.int .i64 n]:=by rw[←hwA];exact RowAt.new _ _ _
 obtain⟨x0,_⟩:=rA.2 0 _ rfl;obtain⟨x1,_⟩:=rA.2 1 _ rfl;have hlt:=rA.1;have hsz:=bA.size;obtain⟨q,hq⟩:∃ q,decide (kind=k)=q:=⟨_,rfl⟩;have hk:(kind==k)=q:=by rw[←hq,Bool.eq_iff_iff];simp
 have he:namedB ⟨kind,text,n⟩ k s=(q&&decide (lowerP text=s)):=by unfold namedB;rw[hq]
 have hL:((bytesOf (lowerP text)).toList==(bytesOf s).toList)=decide (lowerP text=s):=by rw[bytesOf_toList,bytesOf_toList,Bool.eq_iff_iff];simp
 rw[he];obtain⟨p,hp⟩:∃ p,decide (lowerP text=s)=p:=⟨_,rfl⟩;rw[hp] at hL ⊢;clear hq he rA hbl hp hs
 go_enter Tryz.func130,Tryz.ntmps130
 cases q with
 | false =>
  go_wp2_with fail
  go_ret
  exact⟨rfl,bA⟩
 | true =>
  go_wp2_with fail
  refine(cL _).mono ?_
  rintro e w1 ⟨rfl,hb1⟩;have hB1:Below w.heap.size w w1:=bA.trans (hb1.mono hsz)
  go_wp2_with fail
  go_ret
  exact⟨by first | rfl | rw[hL] | simp[hL],hB1⟩
abbrev Fresh (w w':World):Nat→Prop:=fun b=>w.heap.size≤b∧b<w'.heap.size
theorem cells_one (l:List GTok):∀ u∈cellsG l,u.oneCell'=true:=by
 intro u hu;obtain⟨t,ht,hu⟩:=List.mem_flatMap.1 hu;unfold cells1 at hu;simp only[List.mem_cons,List.not_mem_nil,or_false] at hu
 rcases hu with rfl | rfl | rfl<;>rfl
theorem ru_tok_info:(Tryz.prog.info? 58).map (fun i=>(i.zero,i.size,i.bytes))=some (some (.agg #[.int .i64 0,.string ⟨#[]⟩,.int .i64 0]),3,32):=by kernel_rfl
theorem ru_clone (l:List GTok) (A:Option Addr) (n c:Nat) (w:World) (h:ReadsS w (· < w.heap.size) 3 A n (cellsG l)) (hn:n≤1000000) :
  Calls Tryz.prog 61 #[.slice A n c] w fun e w'=>(∃ A' c',e=.returned (.slice A' n c')∧n≤c'∧ReadsS w' (Fresh w w') 3 A' n (cellsG l))∧Below w.heap.size w w':=by
 have h1:=cells_one l;obtain⟨hi0,hi,hz0,hz1,hz2⟩:=info_take ru_tok_info;have hnq:=fun W:World=>Lib.run_eql_slice_nil (P:=Tryz.prog) W 32 58 A n c 0 0 Tryz.underlying32
 go_enter Tryz.func61,Tryz.ntmps61
 cases A with
 | none =>
  have hn0:n=0:=by
   rcases Nat.eq_zero_or_pos n with h0|h0
   ·exact h0
   ·obtain⟨b,off,h,_⟩:=h.2 h0
    cases h
  subst hn0;have hl:cellsG l=[]:=List.eq_nil_of_length_eq_zero (by simpa using h.1);have Hl:=Lib.hid hl;clear hl h h1;simp only[Option.isNone] at hnq
  go_wp2_with fail
  go_ret
  exact⟨⟨none,0,rfl,Nat.le_refl _,by rw[Hl.out];exact ReadsS.nil⟩,Below.refl _ _⟩
 | some a =>
  simp only[Option.isNone] at hnq;have hR:Reads w w.heap.size 3 (some a) n (cellsG l):=h;have hR2:=hR.alloc (Nat.le_refl _) (.cells #[] 58);have own0:=World.ownsRow_made (base:=w.heap.size) (e:=58) (size:=3) w #[] 0 (Nat.le_refl _) (Nat.zero_le _) rfl;have b0:Below w.heap.size w (w.alloc (.cells #[] 58)):=(Below.refl _ _).alloc (Nat.le_refl _) _
  go_wp2_with (at_builtin;refine wpList_append_reads _ rfl _ _ 32 rfl w.heap.size 58 hi0 _ 3 32 Tryz.underlying32 hi hz0 hz1 hz2 rfl (by decide) _ 0 [] rfl own0 w.heap.size (some a) n c (cellsG l) rfl hR2 h1 ?e3 ?e4 ?e5 ?_)
  case e3=>unfold maxLen;omega
  case e4=>omega
  case e5=>simp
  intro v' w1 hown hg
  try simp only[Nat.zero_add,List.nil_append] at hown
  obtain⟨A',c',rfl,hcc,_⟩:=own_form hown;have hlt:=hown.lt;have hgs:=hg.size;have hB:=b0.grown hg (by simp) (fun k hk=>(own0.lt k hk).1);clear own0 hR hR2
  go_wp2_with fail
  go_ret
  exact⟨⟨A',c',rfl,by first | exact hcc | omega,ReadsS.of_own hown hlt⟩,hB⟩
theorem cellsG_seg (l:List GTok) (k z:Nat):cellsG (segP l k z)=((cellsG l).take (z * 3)).drop (k * 3):=by
 have ht:∀ (l:List GTok) (z:Nat),cellsG (l.take z)=(cellsG l).take (z * 3):=by
  intro l
  induction l with
  | nil=>intro z;simp[cellsG]
  | cons t l ih =>
   intro z
   cases z with
   | zero=>simp[cellsG]
   | succ z =>
    have:=ih z;unfold cellsG at this ⊢;rw[List.take_succ_cons,List.flatMap_cons,List.flatMap_cons,this,show (z+1) * 3=(cells1 t).length+z * 3 by rw[cells1_len];omega,List.take_length_add_append]
 have hd:∀ (l:List GTok) (k:Nat),cellsG (l.drop k)=(cellsG l).drop (k * 3):=by
  intro l
  induction l with
  | nil=>intro z;simp[cellsG]
  | cons t l ih =>
   intro z
   cases z with
   | zero=>simp[cellsG]
   | succ z =>
    have:=ih z;unfold cellsG at this ⊢;rw[List.drop_succ_cons,List.flatMap_cons,this,show (z+1) * 3=(cells1 t).length+z * 3 by rw[cells1_len];omega,List.drop_length_add_append]
 unfold segP;rw[hd,ht]
theorem ReadsS.seg {w:World} {S:Nat→Prop} {A:Option Addr} {n c:Nat} {l:List GTok} (h:ReadsS w S 3 A n (cellsG l)) {k z:Nat} (hk:k≤z) (hz:z≤n) (hc:n≤c):ReadsS w S 3 (cutAt A c k 3) (z-k) (cellsG (segP l k z)):=by
 have hl:=h.toks_len;have hsl:=seg_len l (k:=k) (z:=z) (by omega)
 refine⟨by rw[cellsG,flat_len cells1_len,hsl],fun hn=>?_⟩
 obtain⟨b,off,rfl,hb,hcell⟩:=h.2 (by omega);unfold cutAt;rw[if_neg (by omega)]
 refine⟨b,off+k * 3,?_,hb,fun j u hu=>?_⟩
 ·unfold Addr.add;simp
 ·rw[cellsG_seg,List.getElem?_drop,List.getElem?_take] at hu
  rw[Nat.add_assoc]
  split at hu
  ·exact hcell _ u hu
  ·cases hu
theorem run_part {P:Program} {T e s:Nat} (ht:P.underlying T=some (.slice e)) (hel:P.elem T=e) (hs:∀ W,(sizeOf e).run P W=.ok s W) (A:Option Addr) (n c:Nat) (kd kd':IntKind) (a b:Nat) (h:a≤b) (hb:b≤c) (W:World) :
  (Instr.slice T (.slice A n c) (some (.int kd (a:Int))) (some (.int kd' (b:Int))) none).run P W=.ok (.slice (cutAt A c a s) (b-a) (c-a)) W:=by
 rw[run_slice_lh W T A n c (by rw[hel];exact ht) kd kd' (a:Int) (b:Int) (by omega) (by omega) (by omega),hel,hs]
 simp[sliced,cutAt]
structure Par (w:World) (p:Nat) (l:List GTok) (A:Option Addr) (n c:Nat) (A':Option Addr) (c':Nat):Prop where
 lt:p<w.heap.size
 c0:w.cell? ⟨p,0,none⟩=some (.slice A n c)
 c1:w.cell? ⟨p,1,none⟩=some (.slice A' n c')
 tk:ReadsS w (· < w.heap.size) 3 A n (cellsG l)
 en:EndsS w (· < w.heap.size) A' n l
 hn:n≤1000000
 hc:n≤c
 sm:∀ t∈l,smallT t
theorem ReadsS.below {w w':World} {size n:Nat} {A:Option Addr} {xs:List Value} (h:ReadsS w (· < w.heap.size) size A n xs) (hb:Below w.heap.size w w'):ReadsS w' (· < w'.heap.size) size A n xs :=
 (h.keep (Kept.of_below hb (fun b h=>h))).more (fun b h=>Nat.lt_of_lt_of_le h hb.size)
theorem Kept.setCell {S:Nat→Prop} {w:World} {p:Addr} (u:Value) (h:∀ b,S b→b≠p.block):Kept S w (w.setCell p u):=fun b hb=>Below.heap_setCell _ _ _ _ (h b hb)
theorem RowAt.below {w w':World} {g B:Nat} {xs:List Value} (h:RowAt w g xs) (hb:Below B w w') (hg:g<B):RowAt w' g xs :=
 ⟨Nat.lt_of_lt_of_le h.1 hb.size,fun j u hu=>⟨(hb.cell (p:=⟨g,j,none⟩) hg).trans (h.2 j u hu).1,(hb.frozen (p:=⟨g,j,none⟩) hg).trans (h.2 j u hu).2⟩⟩
theorem Par.below {w w':World} {p:Nat} {l:List GTok} {A:Option Addr} {n c:Nat} {A':Option Addr} {c':Nat} (h:Par w p l A n c A' c') (hb:Below w.heap.size w w'):Par w' p l A n c A' c' :=
 ⟨Nat.lt_of_lt_of_le h.lt hb.size,(hb.cell (p:=⟨p,0,none⟩) h.lt).trans h.c0,(hb.cell (p:=⟨p,1,none⟩) h.lt).trans h.c1,h.tk.below hb,h.en.below hb,h.hn,h.hc,h.sm⟩
def CutRet (m:List GTok) (w:World) (e:Ending) (w':World):Prop:=(∃ A' c',e=.returned (.slice A' m.length c')∧m.length≤c'∧ReadsS w' (Fresh w w') 3 A' m.length (cellsG m))∧Below w.heap.size w w'
theorem ru_cut (l:List GTok) (p:Nat) (A:Option Addr) (n c:Nat) (A':Option Addr) (c' k z:Nat) (w:World) (h:Par w p l A n c A' c') (hk:k≤z) (hz:z≤n) :
  Calls Tryz.prog 29 #[.pointer (some ⟨p,0,none⟩),.int .i64 (k:Int),.int .i64 (z:Int)] w (CutRet (trimL (segP l k z)) w):=by
 have hn:=h.hn;have x0:=h.c0;have cT:=nest_trim l (· < w.heap.size) A n c k z w h.tk hn hk hz;have hel:Tryz.prog.elem 32=58:=by kernel_rfl
 have hsz:∀ W,(sizeOf 58).run Tryz.prog W=.ok 3 W:=fun W=>by
  obtain⟨hi0,hi,hz0,hz1,hz2⟩:=info_take ru_tok_info
  simp[sizeOf,typeInfo,hi,hz1]
 go_enter Tryz.func29,Tryz.ntmps29
 go_wp2_with fail
 refine cT.mono ?_
 rintro e w1 ⟨⟨j,i,rfl,h1,h2,h3,_,hseg⟩,rfl⟩;have hp:=fun W=>run_part (P:=Tryz.prog) Tryz.underlying32 hel hsz A n c .i64 .i64 j i h2 (by have:=h.hc;omega) W
 have hR:=h.tk.seg (c:=c) h2 (by omega) h.hc;rw[←hseg] at hR;have hlen:(trimL (segP l k z)).length=i-j:=by rw[hseg,seg_len _ (by have:=h.tk.toks_len;omega)]
 have cC:=ru_clone (trimL (segP l k z)) (cutAt A c j 3) (i-j) (c-j) w1 hR (by omega);have Hlen:=Lib.hid hlen;have Hel:=Lib.hid hel;clear hseg hlen hR cT h hel hsz
 go_wp2_with fail
 refine cC.mono ?_
 rintro e w2 ⟨⟨A2,c2,rfl,hcc2,hR2⟩,hb2⟩
 go_wp2_with fail
 go_ret
 unfold CutRet;rw[Hlen.out]
 exact⟨⟨A2,c2,rfl,hcc2,hR2⟩,hb2⟩
theorem ru_find (l:List GTok) (is:GTok→Bool) (f p:Nat) (A:Option Addr) (n c:Nat) (A':Option Addr) (c' k z:Nat) (w:World) (h:Par w p l A n c A' c') (hk:k≤z) (hz:z≤n) (hf:Asks f is l w) (hen:∀ (args:Array Value) (W:World),(callFunc f args).run Tryz.prog W=.ok (.enter f args) W) :
  Calls Tryz.prog 26 #[.pointer (some ⟨p,0,none⟩),.int .i64 (k:Int),.int .i64 (z:Int),.func (.func f) #[] #[]] w fun e w'=>e=.returned (.int .i64 (findP l is k z:Nat))∧Below w.heap.size w w':=by
 have hn:=h.hn;have x0:=bw_cell (B:=w.heap.size) h.c0 h.lt;have x1:=bw_cell (B:=w.heap.size) h.c1 h.lt;have cF:=fun W:BW w.heap.size w=>nest_find l is f A A' n c c' k z W.val (h.tk.below W.is) (h.en.below W.is) hn hk hz (fun t ht X hX=>hf t ht X (W.is.trans (hX.mono W.is.size))) hen
 have hbd:=find_bounds (l:=l) is (k:=k) (z:=z) (by have:=h.tk.toks_len;omega) hk;obtain⟨q,hq⟩:∃ q,findP l is k z=q:=⟨_,rfl⟩;have hI:findI l is k z=if q<z then (q:Int) else -1:=by unfold findI;rw[hq]
 rw[hq] at hbd ⊢;rw[hI] at cF;clear hI hq h hf hen
 go_enter Tryz.func26,Tryz.ntmps26
 go_wp2_with fail
 refine wp_region_bw w.heap.size (by kernel_rfl) (by kernel_rfl) ?_
 repeat(go_big_quiet_step (first | (go_at_call 59;rename_i W;exact calls_bw (Nat.le_refl _) (cF W))))
 refine wpQuiet_nil ?_
 intro _ hw';obtain⟨W,rfl⟩:=hw';have hWb:=W.is
 by_cases hlt:q<z
 ·rw[if_pos hlt]
  have d0:decide ((0:Int)≤(q:Int))=true:=by simp
  go_wp2_with fail
  go_ret
  exact⟨rfl,hWb⟩
 ·obtain rfl:q=z:=by omega
  rw[if_neg hlt]
  go_wp2_with fail
  go_ret
  exact⟨rfl,hWb⟩
theorem rr_close (t:GTok) (w:World) :
  Calls Tryz.prog 68 #[gtokV t] w fun e w'=>e=.returned (.string (bytesOf (opensP t)))∧Below w.heap.size w w':=by
 have hc:=opens_cases t;obtain⟨kind,text,n⟩:=t;simp only[] at hc;obtain⟨wA,hwA⟩:∃ wA,w.alloc (.cells #[.int .i64 kind,.string (bytesOf text),.int .i64 n] 58)=wA:=⟨_,rfl⟩;have bA:Below w.heap.size w wA:=by rw[←hwA];exact(Below.refl _ _).alloc (Nat.le_refl _) _
 have rA:RowAt wA w.heap.size [.int .i64 kind,.string (bytesOf text),.int .i64 n]:=by rw[←hwA];exact RowAt.new _ _ _
 obtain⟨x0,_⟩:=rA.2 0 _ rfl;obtain⟨x1,_⟩:=rA.2 1 _ rfl;generalize hop:opensP ⟨kind,text,n⟩=o at *
 clear hop
 rcases hc with⟨h3,ho⟩|⟨h12,ht,ho⟩|⟨h12,ht,ho⟩|⟨h12,ht,ho⟩|⟨h12,ht1,ht2,ht3,ho⟩|⟨h3,h12,ho⟩
 ·subst h3 ho
  go_enter Tryz.func68,Tryz.ntmps68
  go_wp2
  go_ret
  exact⟨rfl,bA⟩
 ·obtain⟨s1,s2⟩:=txt_is ht
  subst h12 ho;clear ht
  go_enter Tryz.func68,Tryz.ntmps68
  go_wp2
  go_ret
  exact⟨rfl,bA⟩
 ·obtain⟨s1,s2⟩:=txt_is ht
  obtain⟨s3,s4⟩:=txt_not (l:=text) (c:=[40]) (by rw[ht];decide);subst h12 ho;clear ht
  go_enter Tryz.func68,Tryz.ntmps68
  go_wp2
  go_ret
  exact⟨rfl,bA⟩
 ·obtain⟨s1,s2⟩:=txt_is ht
  obtain⟨s3,s4⟩:=txt_not (l:=text) (c:=[40]) (by rw[ht];decide);obtain⟨s5,s6⟩:=txt_not (l:=text) (c:=[91]) (by rw[ht];decide);subst h12 ho;clear ht
  go_enter Tryz.func68,Tryz.ntmps68
  go_wp2
  go_ret
  exact⟨rfl,bA⟩
 ·obtain⟨s1,s2⟩:=txt_not ht1
  obtain⟨s3,s4⟩:=txt_not ht2;obtain⟨s5,s6⟩:=txt_not ht3;subst h12 ho;clear ht1 ht2 ht3
  go_enter Tryz.func68,Tryz.ntmps68
  go_wp2
  go_ret
  exact⟨rfl,bA⟩
 ·have k3:(kind==3)=false:=by simp[h3]
  have k12:(kind==12)=false:=by simp[h12]
  subst ho;clear h3 h12
  go_enter Tryz.func68,Tryz.ntmps68
  go_wp2
  go_ret
  exact⟨rfl,bA⟩
theorem rr_skip (l:List GTok) (S:Nat→Prop) (A:Option Addr) (n c k:Nat) (w:World) (h:EndsS w S A n l) (hn:n≤1000000) (hk:k≤2000000) :
  Calls Tryz.prog 39 #[.slice A n c,.int .i64 (k:Int)] w fun e w'=>e=.returned (.int .i64 (skipP l k:Nat))∧w'=w:=by
 have hlen:=h.len;have Hlen:=Lib.hid hlen;have d0:decide ((0:Int)≤(k:Int))=true:=by simp
 have w1:IntKind.i64.wrap ((k:Int)+1)=(k:Int)+1:=by rw[IntKind.wrap_i64];omega
 by_cases hlt:k<n
 ·obtain⟨b,off,rfl,hb,hc⟩:=h.at_ hlt
  have d1:decide ((k:Int)<(n:Int))=true:=by simp;omega
  have d1':(k:Int)<(n:Int):=by omega
  rcases end_cases l k with e|⟨x,e,h1,h2⟩
  ·have hs:skipP l k=k+1:=by unfold skipP;rw[e,if_neg (by omega)]
   have Hs:=Lib.hid hs;rw[e] at hc;have d2:decide ((k:Int)≤(-1:Int))=false:=by simp;omega
   clear e hs hlen
   go_enter Tryz.func39,Tryz.ntmps39
   go_wp2
   go_ret
   exact⟨ret_int (by rw[Hs.out];omega),rfl⟩
  ·have hs:skipP l k=min (x+1) n:=by unfold skipP;rw[e,if_pos (by omega),hlen];simp
   have Hs:=Lib.hid hs;rw[e] at hc;have d2:decide ((k:Int)≤(x:Int))=true:=by simp;omega
   have w2:IntKind.i64.wrap ((x:Int)+1)=(x:Int)+1:=by rw[IntKind.wrap_i64];omega
   clear e hs hlen
   go_enter Tryz.func39,Tryz.ntmps39
   go_wp2
   go_ret
   exact⟨ret_int (by rw[Hs.out];omega),rfl⟩
 ·have d1:decide ((k:Int)<(n:Int))=false:=by simp;omega
  have hs:skipP l k=k+1:=skip_past (by omega);have Hs:=Lib.hid hs;clear hs hlen
  go_enter Tryz.func39,Tryz.ntmps39
  go_wp2
  go_ret
  exact⟨ret_int (by rw[Hs.out];omega),rfl⟩
theorem rr_trim (l:List GTok) (S:Nat→Prop) (A:Option Addr) (n c k z:Nat) (w:World) (h:ReadsS w S 3 A n (cellsG l)) (hn:n≤1000000) (hk:k≤z) (hz:z≤n) :
  Calls Tryz.prog 70 #[.slice A n c,.int .i64 (k:Int),.int .i64 (z:Int)] w fun e w'=>(∃ j i:Nat,e=.returned (.tuple #[.int .i64 (j:Int),.int .i64 (i:Int)])∧k≤j∧j≤i∧i≤z∧dropS (segP l k z)=segP l j z∧trimL (segP l k z)=segP l j i)∧w'=w:=by
 have hlen:=h.toks_len;have Hlen:=Lib.hid hlen;clear hlen
 go_enter Tryz.func70,Tryz.ntmps70
 go_wp2_with fail
 go_loopw [1] (fun i wr=>∃ j:Nat,i=.int .i64 (j:Int)∧k≤j∧j≤z∧Hid (dropS (segP l k z)=dropS (segP l j z))∧wr=w) (fun i _=>z-(intOf i).toNat)
 case atStart=>exact⟨k,rfl,Nat.le_refl _,hk,rfl,rfl⟩
 case round =>
  obtain⟨j,rfl,hkj,hjz,hrun,rfl⟩:=hrel
  have key:(j=z∨∃ t,l[j]?=some t∧t.kind≠1)→Hid (dropS (segP l k z)=segP l j z):=by
   rintro (rfl|⟨t,ht,h1⟩)
   ·show _=_
    rw[hrun.out,seg_nil];rfl
   ·show _=_
    rw[hrun.out]
    by_cases e:j=z
    ·subst e;rw[seg_nil];rfl
    ·rw[seg_cons ht (by omega)]
     exact dropS_id (by intro u hu;simp at hu;subst hu;exact h1)
  obtain⟨g,hg⟩:∃ g,(decide (j<z)&&((l[j]?.map (fun t=>decide (t.kind=1))).getD false))=g:=⟨_,rfl⟩
  go_upto_region 1 with (fail)
  go_cut [18] (fun x wx=>x=.bool g∧wr=wx)
  case first =>
   have hun:(undef:Value)=.tuple #[]:=rfl
   by_cases hlt:j<z
   ·obtain⟨b,off,t,rfl,hb,ht,c0,c1,c2⟩:=h.tok (k:=j) (by omega)
    have d0:(j:Int)<(z:Int):=by omega
    have d1:(j:Int)<(n:Int):=by omega
    have hg':g=(t.kind==1):=by
     rw[←hg,ht];simp[hlt];rw[Bool.eq_iff_iff];simp
    have HG:=Lib.hid hg';clear hrun key ht hg hg'
    go_wp2_with fail
    go_meet
    exact⟨by rw[HG.out],rfl⟩
   ·have d0:decide ((j:Int)<(z:Int))=false:=by simp;omega
    have hg':g=false:=by rw[←hg];simp[hlt]
    have HG:=Lib.hid hg';clear hrun key hg hg'
    go_wp2_with fail
    go_meet
    exact⟨by rw[HG.out],rfl⟩
  case rest =>
   obtain⟨rfl,rfl⟩:=hcut
   cases g with
   | true =>
    simp only[Bool.and_eq_true,decide_eq_true_eq] at hg;obtain⟨t,ht⟩:∃ t,l[j]?=some t:=⟨_,List.getElem?_eq_getElem (by rw[Hlen.out];omega)⟩;have hk1':t.kind=1:=by have:=hg.2;rw[ht] at this;simpa using this
    have hnew:Hid (dropS (segP l k z)=dropS (segP l (j+1) z)):=by
     show _=_
     rw[hrun.out,seg_cons ht hg.1];unfold dropS;rw[List.dropWhile_cons_of_pos (by simp[isSp,hk1'])]
    have hj1:j+1≤z:=hg.1;have w1':IntKind.i64.wrap ((j:Int)+1)=(j:Int)+1:=by rw[IntKind.wrap_i64];omega
    clear hrun key ht hk1' hg
    go_wp2_with fail
    go_roundw
    case rel=>exact⟨j+1,by go_num,by omega,by omega,hnew,by first | rfl | trivial⟩
    case measure=>simp[intOf];omega
   | false =>
    have hK:Hid (dropS (segP l k z)=segP l j z):=by
     by_cases e:j=z
     ·exact key (.inl e)
     ·obtain⟨t,ht⟩:∃ t,l[j]?=some t:=⟨_,List.getElem?_eq_getElem (by rw[Hlen.out];omega)⟩
      refine key (.inr ⟨t,ht,?_⟩)
      have hjz':j<z:=by omega
      rw[ht] at hg
      simpa [hjz'] using hg
    clear hrun key hg
    go_wp2_with fail
    go_loopw [2] (fun v wv=>∃ i:Nat,v=.int .i64 (i:Int)∧j≤i∧i≤z∧Hid (rtrim (segP l j z)=rtrim (segP l j i))∧wv=wr) (fun v _=>(intOf v).toNat)
    case atStart=>exact⟨z,rfl,hjz,Nat.le_refl _,rfl,rfl⟩
    case round =>
     obtain⟨i,rfl,hji,hiz,hrun,rfl⟩:=hrel;obtain⟨g,hg⟩:∃ g,(decide (j<i)&&((l[i-1]?.map (fun t=>decide (t.kind=1))).getD false))=g:=⟨_,rfl⟩;have w1':IntKind.i64.wrap ((i:Int)-1)=(i:Int)-1:=by rw[IntKind.wrap_i64];omega
     go_upto_region 3 with (fail)
     go_cut [32] (fun x wx=>x=.bool g∧wr=wx)
     case first =>
      have hun:(undef:Value)=.tuple #[]:=rfl
      by_cases hlt:j<i
      ·obtain⟨b,off,t,rfl,hb,ht,c0,c1,c2⟩:=h.tok (k:=i-1) (by omega)
       have d0:(j:Int)<(i:Int):=by omega
       have d1:(i:Int)-1<(n:Int):=by omega
       have d2:(0:Int)≤(i:Int)-1:=by omega
       have e1:((i:Int)-1).toNat=i-1:=by omega
       have hg':g=(t.kind==1):=by
        rw[←hg,ht];simp[hlt];rw[Bool.eq_iff_iff];simp
       have HG:=Lib.hid hg';clear hrun hK ht hg hg'
       go_wp2_with fail
       go_meet
       exact⟨by rw[HG.out],rfl⟩
      ·have d0:decide ((j:Int)<(i:Int))=false:=by simp;omega
       have hg':g=false:=by rw[←hg];simp[hlt]
       have HG:=Lib.hid hg';clear hrun hK hg hg'
       go_wp2_with fail
       go_meet
       exact⟨by rw[HG.out],rfl⟩
     case rest =>
      obtain⟨rfl,rfl⟩:=hcut
      cases g with
      | true =>
       simp only[Bool.and_eq_true,decide_eq_true_eq] at hg;obtain⟨t,ht⟩:∃ t,l[i-1]?=some t:=⟨_,List.getElem?_eq_getElem (by rw[Hlen.out];omega)⟩;have hk1':t.kind=1:=by have:=hg.2;rw[ht] at this;simpa using this
       have hnew:Hid (rtrim (segP l j z)=rtrim (segP l j (i-1))):=by
        show _=_
        have:=seg_snoc (k:=j) ht (by omega);rw[show i-1+1=i by omega] at this;rw[hrun.out,this,rtrim_snoc _ hk1']
       have hj1:j<i:=hg.1;clear hrun ht hk1' hg
       go_wp2_with fail
       go_roundw
       case rel=>exact⟨i-1,by first | go_num | (congr 1;omega),by omega,by omega,hnew,by first | rfl | trivial⟩
       case measure=>simp[intOf];omega
      | false =>
       have hfin:Hid (trimL (segP l k z)=segP l j i):=by
        show _=_
        unfold trimL;rw[hK.out,hrun.out]
        by_cases e:j=i
        ·subst e;rw[seg_nil];rfl
        ·obtain⟨t,ht⟩:∃ t,l[i-1]?=some t:=⟨_,List.getElem?_eq_getElem (by rw[Hlen.out];omega)⟩
         have hji':j<i:=by omega
         have h1:t.kind≠1:=by
          rw[ht] at hg
          simpa [hji'] using hg
         have:=seg_snoc (k:=j) ht (by omega);rw[show i-1+1=i by omega] at this;rw[this,rtrim_id _ h1]
       clear hrun hg
       go_wp2_with fail
       go_ret2
       exact⟨⟨j,i,rfl,hkj,hji,hiz,hK.out,hfin.out⟩,by first | rfl | trivial⟩
end Go.Proofs.YtfhdihdafmahgaaGreatDoor
