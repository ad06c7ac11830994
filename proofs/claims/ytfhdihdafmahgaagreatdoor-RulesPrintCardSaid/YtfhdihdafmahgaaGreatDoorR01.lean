import Derived.Test.YtfhdihdafmahgaaGreatDoorChecked
import Derived.WalkKit
import Derived.ProofKit
import Derived.Outline
import Derived.Below
import Derived.Lib.Hide
import Derived.Laws.OwnMore
import Derived.Laws.Rows
import Derived.Deep.AppendLies
import Derived.Deep.Draws
import Derived.Maps.AppendAt
import Derived.RegionTactic
import Derived.OwnWalk
import Derived.WalkSpells
import Derived.WalkLawsBesides
import Derived.BigQuiet
import Derived.Deep.QuietTactic
import Derived.Laws.IdiomStrings
import Derived.Laws.BytesArg
import Derived.Lib.IndexBytes
import Derived.Shelf.Spec.DecodeRune
import Derived.Shelf.Unicode.ValidAny
import Derived.Shelf.Lays7
import Derived.Shelf.Strings.Builder1
import Derived.Shelf.Strings.Trim
import Derived.Shelf.Small.Utf8
import Derived.Shelf.Small.Strs
import Derived.Shelf.Strings.BuilderF
import Derived.Shelf.Strings.BuilderK
import Derived.Shelf.Utf8.AppendRunePlain
import Derived.Shelf.Strconv.Atoi
import Derived.Shelf.Strconv.Itoa0
import Derived.Shelf.Strconv.Itoa1
import Derived.Shelf.LaysM
import Derived.Shelf.Strconv.Itoa2
import Derived.Shelf.Strconv.Itoa3
import Derived.Shelf.Strings.Search1
import Derived.Shelf.Strings.Search2
import Derived.Shelf.Strings.Cut
import Derived.Shelf.Strings.Shaped
import Derived.Shelf.Strings.Runes
import Derived.Shelf.Strings.IndexAny
import Derived.Shelf.Strings.AsciiSet
import Derived.Shelf.Strings.IndexAnyAll
import Derived.Shelf.Unicode.DecodeSlow
import Derived.Shelf.Unicode.DecodeAny
import Derived.Test.YtfhdihdafmahgaaGreatDoorProg
import Derived.Shelf.Strings.SlTrimAscii
import Derived.Laws.BitsAllLaws
import Derived.Deep.Cut
set_option linter.unusedVariables false
set_option linter.unusedSimpArgs false
set_option maxRecDepth 100000
namespace Go.Proofs.YtfhdihdafmahgaaGreatDoor
open Go.RowKit
theorem ret_bool {a b:Bool} (h:a=b):Ending.returned (.bool a)=.returned (.bool b):=by rw[h]
theorem ret_int {k:IntKind} {a b:Int} (h:a=b):Ending.returned (.int k a)=.returned (.int k b):=by rw[h]
def Reads (w:World) (B size:Nat) (A:Option Addr) (n:Nat) (xs:List Value):Prop :=
 xs.length=n * size∧(0<n→∃ b off,A=some ⟨b,off,none⟩∧b<B∧∀ j u,xs[j]?=some u→w.cell? ⟨b,off+j,none⟩=some u)
section
variable {w w':World} {B B' size n:Nat} {A:Option Addr} {xs:List Value}
theorem Reads.len (h:Reads w B 1 A n xs):xs.length=n:=by have:=h.1;omega
theorem Reads.open_ (h:Reads w B size A n xs) (hn:0<n):∃ b off,A=some ⟨b,off,none⟩∧b<B∧∀ j u,xs[j]?=some u→w.cell? ⟨b,off+j,none⟩=some u:=h.2 hn
theorem Reads.at_ {k:Nat} (h:Reads w B 1 A n xs) (hk:k<n):∃ b off u,A=some ⟨b,off,none⟩∧b<B∧xs[k]?=some u∧w.cell? ⟨b,off+k,none⟩=some u:=by
 obtain⟨b,off,e,hb,hc⟩:=h.2 (by omega);have hl:k<xs.length:=by have:=h.1;omega
 exact⟨b,off,xs[k],e,hb,List.getElem?_eq_getElem hl,hc k _ (List.getElem?_eq_getElem hl)⟩
theorem Reads.keep (h:Reads w B size A n xs) (hk:∀ p:Addr,p.block<B→w'.cell? p=w.cell? p):Reads w' B size A n xs :=
 ⟨h.1,fun hn=>by
  obtain⟨b,off,e,hb,hc⟩:=h.2 hn
  exact⟨b,off,e,hb,fun j u hu=>(hk _ hb).trans (hc j u hu)⟩⟩
theorem Reads.more (h:Reads w B size A n xs) (hB:B≤B'):Reads w B' size A n xs :=
 ⟨h.1,fun hn=>by
  obtain⟨b,off,e,hb,hc⟩:=h.2 hn
  exact⟨b,off,e,by omega,hc⟩⟩
theorem Reads.below (h:Reads w B size A n xs) (hb:Below B w w'):Reads w' B size A n xs:=h.keep fun _ hp=>hb.cell hp
theorem Reads.drew (h:Reads w B size A n xs):Reads w.drew B size A n xs:=h
theorem Reads.drewN (h:Reads w B size A n xs) (k:Nat):Reads (w.drewN k) B size A n xs:=h
theorem Reads.alloc (h:Reads w B size A n xs) (hB:B≤w.heap.size) (o:Obj):Reads (w.alloc o) B size A n xs:=h.keep fun p hp=>World.cell?_alloc_lt w o p (by omega)
theorem Reads.setCell (h:Reads w B size A n xs) {p:Addr} (hB:B≤p.block) (u:Value):Reads (w.setCell p u) B size A n xs :=
 h.keep fun q hq=>World.cell?_setCell_other w p q u (fun e=>by subst e;omega)
theorem Reads.grown (h:Reads w B size A n xs) {row:Option Nat} (hg:w.grownBy w' row) (hB:B≤w.heap.size) (hr:∀ g,row=some g→B≤g):Reads w' B size A n xs :=
 h.keep fun p hp=>World.cell?_of_block (hg.block p.block (by omega) (fun e=>by have:=hr _ e.symm;omega))
theorem Reads.cut (h:Reads w B 1 A n xs) {k cap:Nat} (hk:k≤n) (hc:n≤cap) :
  Reads w B 1 (if cap=k then A else A.map (·.add k)) (n-k) (xs.drop k):=by
 refine⟨by have:=h.len;rw[List.length_drop];omega,fun hn=>?_⟩
 obtain⟨b,off,rfl,hb,hcell⟩:=h.2 (by omega);rw[if_neg (by omega)]
 refine⟨b,off+k,?_,hb,fun j u hu=>?_⟩
 ·unfold Addr.add;simp
 ·rw[Nat.add_assoc]
  exact hcell _ u (by rw[← hu,List.getElem?_drop])
theorem Reads.take (h:Reads w B 1 A n xs) {k:Nat} (hk:k≤n):Reads w B 1 A k (xs.take k):=by
 refine⟨by have:=h.len;rw[List.length_take];omega,fun hn=>?_⟩
 obtain⟨b,off,e,hb,hcell⟩:=h.2 (by omega)
 refine⟨b,off,e,hb,fun j u hu=>hcell j u ?_⟩
 rw[List.getElem?_take] at hu
 split at hu
 ·exact hu
 ·cases hu
theorem Reads.of_own {base:Nat} {e:TypeId} {c:Nat} (h:w.ownsRow base e size (.slice A n c) n xs):Reads w w.heap.size size A n xs:=by
 refine⟨h.1,fun hn=>?_⟩
 obtain⟨g,cap,hv,_,hlt⟩:=h.form hn;have hA:A=some ⟨g,0,none⟩:=by injection hv
 subst hA
 refine⟨g,0,rfl,hlt,fun j u hu=>?_⟩
 have:=h.cells (g:=g) rfl j u hu;rw[Nat.zero_add]
 by_cases hj:j=0
 ·subst hj;simpa [Addr.add] using this
 ·simpa [Addr.add,hj] using this
end
def cutAt (A:Option Addr) (c k s:Nat):Option Addr:=if c=k then A else A.map (·.add (k * s))
theorem run_cut {P:Program} {T e s:Nat} (ht:P.underlying T=some (.slice e)) (hel:P.elem T=e) (hs:∀ W,(sizeOf e).run P W=.ok s W) (A:Option Addr) (n c:Nat) (kd:IntKind) (N:Nat) (h:N≤n) (W:World) :
  (Instr.slice T (.slice A n c) (some (.int kd (N:Int))) none none).run P W=.ok (.slice (cutAt A c N s) (n-N) (c-N)) W:=by
 rw[run_slice_l W T A n c (by rw[hel];exact ht) kd (N:Int) (by omega) (by omega),hel,hs]
 simp[sliced,cutAt]
theorem Reads.cutA {w:World} {B n c k:Nat} {A:Option Addr} {xs:List Value} (h:Reads w B 1 A n xs) (hk:k≤n) (hc:n≤c):Reads w B 1 (cutAt A c k 1) (n-k) (xs.drop k):=by
 have:=h.cut (cap:=c) hk hc;unfold cutAt
 rwa[Nat.mul_one]
theorem own_form {w:World} {base:Nat} {e:TypeId} {size:Nat} {v:Value} {n:Nat} {xs:List Value} (h:w.ownsRow base e size v n xs):∃ A c,v=.slice A n c∧n≤c∧c≤maxLen:=by
 obtain⟨h0,⟨rfl,rfl⟩ | ⟨g,cap,cur,rfl,h1,h2,h3,h4,_⟩⟩:=h
 ·exact⟨none,0,rfl,Nat.le_refl _,Nat.zero_le _⟩
 ·exact⟨_,_,rfl,h3,h4⟩
theorem own_below {w w':World} {base:Nat} {e:TypeId} {size:Nat} {v:Value} {n:Nat} {xs:List Value} (h:w.ownsRow base e size v n xs) (hb:Below w.heap.size w w'):w'.ownsRow base e size v n xs :=
 h.kept (row:=none) ⟨hb.os,hb.tape,hb.output,hb.size,fun k hk _=>hb.block k hk⟩ (by cases v.ownBlock<;>simp)
theorem own_drewN {w:World} {base:Nat} {e:TypeId} {size:Nat} {v:Value} {n:Nat} {xs:List Value} (h:w.ownsRow base e size v n xs) (k:Nat):(w.drewN k).ownsRow base e size v n xs:=h
section
variable {w w1 w2:World} {B size n:Nat} {e:TypeId} {v:Value} {xs:List Value} {o:Obj}
theorem push_below (hb:Below B w w1) (hB:B≤w1.heap.size) (hown:w1.ownsRow B e size v n xs) (hg:(w1.alloc o).grownBy w2 v.ownBlock):Below B w w2 :=
 (hb.alloc hB o).grown hg (by simp;omega) (fun k hk=>(hown.lt k hk).1)
theorem push_reads {A:Option Addr} {s m:Nat} {ys:List Value} (h:Reads w1 B s A m ys) (hB:B≤w1.heap.size) (hown:w1.ownsRow B e size v n xs) (hg:(w1.alloc o).grownBy w2 v.ownBlock):Reads w2 B s A m ys :=
 (h.alloc hB o).grown hg (by simp;omega) (fun k hk=>(hown.lt k hk).1)
end
def RowAt (w:World) (g:Nat) (xs:List Value):Prop:=g<w.heap.size∧∀ j u,xs[j]?=some u→w.cell? ⟨g,j,none⟩=some u∧w.frozen? ⟨g,j,none⟩=false
theorem RowAt.store {w:World} {g:Nat} {xs:List Value} (h:RowAt w g xs) (j:Nat) (u:Value):RowAt (w.setCell ⟨g,j,none⟩ u) g (xs.set j u):=by
 refine⟨by simpa [World.setCell] using h.1,fun i x hi=>?_⟩
 have hfr:∀ p,(w.setCell ⟨g,j,none⟩ u).frozen? p=w.frozen? p:=fun p=>World.frozen?_setCell _ _ _ _
 rw[hfr]
 by_cases e:i=j
 ·subst e
  rw[List.getElem?_set] at hi;simp only[if_true] at hi
  split at hi
  ·rename_i hl
   cases hi
   have:=h.2 i xs[i] (List.getElem?_eq_getElem hl)
   exact⟨World.cell?_setCell_same _ _ _ this.1,this.2⟩
  ·cases hi
 ·rw[List.getElem?_set_ne (by omega)] at hi
  have:=h.2 i x hi
  exact⟨(World.cell?_setCell_other w _ _ u (by intro e2;injection e2;omega)).trans this.1,this.2⟩
theorem RowAt.new (w:World) (e:TypeId) (cs:Array Value):RowAt (w.alloc (.cells cs e)) w.heap.size cs.toList:=by
 refine⟨by simp,fun j u hu=>?_⟩
 have h:=heap_alloc_new w (.cells cs e)
 constructor
 ·unfold World.cell?
  rw[h]
  simpa using hu
 ·unfold World.frozen?
  rw[h]
  simp
theorem RowAt.reads {w:World} {g B:Nat} {xs:List Value} (h:RowAt w g xs) (hB:g<B):Reads w B 1 (some ⟨g,0,none⟩) xs.length xs :=
 ⟨by simp,fun _=>⟨g,0,rfl,hB,fun j u hu=>by rw[Nat.zero_add];exact(h.2 j u hu).1⟩⟩
theorem below_drewN {B:Nat} {a w:World} (h:Below B a w) (n:Nat):Below B a (w.drewN n):=⟨h.os,h.tape,h.output,h.size,h.block⟩
def b8 (b:UInt8):Value:=.int .u8 b.toNat
def r32 (c:Int):Value:=.int .i32 c
def n64 (c:Int):Value:=.int .i64 c
def bytesOf (l:List UInt8):ByteArray:=⟨l.toArray⟩
theorem bytesOf_size (l:List UInt8):(bytesOf l).size=l.length:=by simp[bytesOf,ByteArray.size]
theorem bytesOf_list (l:List UInt8):(bytesOf l).data.toList=l:=by simp[bytesOf]
theorem bytesOf_eta (s:ByteArray):bytesOf s.data.toList=s:=by simp[bytesOf]
theorem bytesOf_toList (l:List UInt8):(bytesOf l).toList=l:=by rw[ByteArray.toList_eq];exact bytesOf_list l
theorem str_some {l:List UInt8} (h:l≠[]):¬ (bytesOf l).toList=[]∧(bytesOf l).toList.isEmpty=false:=by
 rw[bytesOf_toList];exact⟨h,by cases l<;>simp_all⟩
theorem str_none:(bytesOf []).toList=[]∧(bytesOf []).toList.isEmpty=true:=by
 rw[bytesOf_toList];exact⟨rfl,rfl⟩
theorem byte_ne {b:UInt8} {n:Nat} (h:¬ b.toNat=n):((b.toNat:Int) == (n:Int))=false:=by simp;omega
theorem bytesOf_get (l:List UInt8) (j:Nat):(bytesOf l).get! j=l[j]?.getD 0:=by
 simp[bytesOf,ByteArray.get!]
 rfl
theorem extract_from (l:List UInt8) (a:Nat):(bytesOf l).extract a (bytesOf l).size=bytesOf (l.drop a):=by
 rw[← bytesOf_eta ((bytesOf l).extract a (bytesOf l).size),Lib.extract_to_end,bytesOf_list]
theorem extract_to (l:List UInt8) (b:Nat):(bytesOf l).extract 0 b=bytesOf (l.take b):=by
 rw[← bytesOf_eta ((bytesOf l).extract 0 b),Lib.extract_data,bytesOf_list];rfl
section
variable {P:Program} {T:TypeId} (ht:P.underlying T=some .string) (l:List UInt8)
include ht
theorem str_from (kd:IntKind) (a:Nat) (h:a≤l.length) (W:World):(Instr.slice T (.string (bytesOf l)) (some (.int kd (a:Int))) none none).run P W=.ok (.string (bytesOf (l.drop a))) W:=by
 rw[run_slice_string_l W T (bytesOf l) ht kd (a:Int) (by omega) (by rw[bytesOf_size];omega),Int.toNat_natCast,extract_from]
theorem str_to (kd:IntKind) (b:Nat) (h:b≤l.length) (W:World):(Instr.slice T (.string (bytesOf l)) none (some (.int kd (b:Int))) none).run P W=.ok (.string (bytesOf (l.take b))) W:=by
 rw[run_slice_string_h W T (bytesOf l) ht kd (b:Int) (by omega) (by rw[bytesOf_size];omega),Int.toNat_natCast,extract_to]
theorem str_at (kd:IntKind) (i:Nat) (b:UInt8) (h:l[i]?=some b) (W:World):(Instr.index T (.string (bytesOf l)) (.int kd (i:Int))).run P W=.ok (.int .u8 (b.toNat:Int)) W:=by
 have hi:i<l.length:=(List.getElem?_eq_some_iff.1 h).1;rw[run_index_string W T (bytesOf l) kd (i:Int) ht,dif_pos ⟨by omega,by rw[bytesOf_size];omega⟩]
 have:(bytesOf l)[(i:Int).toNat]'(by rw[bytesOf_size];omega)=b:=by
  have h2:(bytesOf l).data.toList[i]?=some ((bytesOf l)[(i:Int).toNat]'(by rw[bytesOf_size];omega)):=by
   rw[List.getElem?_eq_getElem (by rw[bytesOf_list];exact hi)];rfl
  rw[bytesOf_list,h] at h2
  injection h2 with h2
  exact h2.symm
 rw[this]
end
theorem run_str {P:Program} {src dst e:TypeId} (hs:P.underlying src=some (.slice e)) (he:P.underlying e=some (.int .u8)) (hd:P.underlying dst=some .string)
  {w:World} {B n:Nat} {A:Option Addr} {bs:List UInt8} (c:Nat) (hr:Reads w B 1 A n (bs.map b8)):(convert src dst (.slice A n c)).run P w=.ok (.string (bytesOf bs)) w:=by
 have hlen:bs.length=n:=by simpa using hr.len
 subst hlen
 rcases Nat.eq_zero_or_pos bs.length with h0 | h0
 ·have:bs=[]:=List.eq_nil_of_length_eq_zero h0
  subst this
  cases A with
  | none=>exact run_convert_bytes_nil w src e hs he 0 c dst hd
  | some a=>exact run_convert_bytes_back w src dst e a c [] hs he hd (fun j hj=>by simp at hj)
 ·obtain⟨b,off,rfl,_,hc⟩:=hr.open_ h0
  refine run_convert_bytes_back w src dst e _ c bs hs he hd (fun j hj=>?_)
  have:=hc j (b8 bs[j]) (by simp[List.getElem?_eq_getElem hj]);have ha:(⟨b,off,none⟩:Addr).add j=⟨b,off+j,none⟩:=by unfold Addr.add;split<;>simp_all
  rw[ha];exact this
theorem take_snoc {α:Type} (l:List α) (k:Nat) (x:α) (h:l[k]?=some x):l.take (k+1)=l.take k++[x]:=by
 rw[List.take_add_one,h];rfl
namespace Rn
def isB (c:Int):Bool:=decide (0≤c∧c≤1114111∧(c<55296∨57343<c))
def letterB (c:Int):Bool:=decide ((97≤c∧c≤122)∨(65≤c∧c≤90))
def beginsB (c:Int):Bool:=letterB c || decide (c=95) || (decide (128≤c) && isB c)
def digitB (c:Int):Bool:=decide (48≤c∧c≤57)
def withinB (c:Int):Bool:=beginsB c || digitB c || decide (c=45)
def whiteB (c:Int):Bool:=decide (c=9∨c=10∨c=32)
def hexI (c:Int):Int:=if 48≤c∧c≤57 then c-48 else if 97≤c∧c≤102 then c-87 else if 65≤c∧c≤70 then c-55 else -1
end Rn
open Rn
theorem rn_is (c:Int) (w:World) :
  Calls Tryz.prog 148 #[.int .i32 c] w fun e w'=>e=.returned (.bool (isB c))∧w=w':=by
 go_enter Tryz.func148,Tryz.ntmps148
 go_wp2
 all_goals (go_ret;refine⟨ret_bool ?_,rfl⟩)
 all_goals (first | rfl | (unfold isB;rw[Bool.eq_iff_iff];simp[*];done) | (unfold isB;rw[Bool.eq_iff_iff];simp[*];omega))
theorem rn_letter (c:Int) (w:World) :
  Calls Tryz.prog 151 #[.int .i32 c] w fun e w'=>e=.returned (.bool (letterB c))∧w=w':=by
 go_enter Tryz.func151,Tryz.ntmps151
 go_wp2
 all_goals (go_ret;refine⟨ret_bool ?_,rfl⟩)
 all_goals (first | rfl | (unfold letterB;rw[Bool.eq_iff_iff];simp[*];done) | (unfold letterB;rw[Bool.eq_iff_iff];simp[*];omega))
theorem rn_begins (c:Int) (w:World) :
  Calls Tryz.prog 124 #[.int .i32 c] w fun e w'=>e=.returned (.bool (beginsB c))∧w=w':=by
 go_enter Tryz.func124,Tryz.ntmps124
 go_wp2_with (first | (go_at_call 151;refine(rn_letter _ _).mono ?_;rintro e w' ⟨rfl,rfl⟩) | (go_at_call 148;refine(rn_is _ _).mono ?_;rintro e w' ⟨rfl,rfl⟩))
 all_goals (go_ret;refine⟨ret_bool ?_,rfl⟩)
 all_goals (first | rfl | (unfold beginsB;rw[Bool.eq_iff_iff];simp[*];done) | (unfold beginsB;rw[Bool.eq_iff_iff];simp[*];omega))
theorem rn_digit (c:Int) (w:World) :
  Calls Tryz.prog 125 #[.int .i32 c] w fun e w'=>e=.returned (.bool (digitB c))∧w=w':=by
 go_enter Tryz.func125,Tryz.ntmps125
 go_wp2
 all_goals (go_ret;refine⟨ret_bool ?_,rfl⟩)
 all_goals (first | rfl | (unfold digitB;rw[Bool.eq_iff_iff];simp[*];done) | (unfold digitB;rw[Bool.eq_iff_iff];simp[*];omega))
theorem rn_within (c:Int) (w:World) :
  Calls Tryz.prog 87 #[.int .i32 c] w fun e w'=>e=.returned (.bool (withinB c))∧w=w':=by
 go_enter Tryz.func87,Tryz.ntmps87
 go_wp2_with (first | (go_at_call 124;refine(rn_begins _ _).mono ?_;rintro e w' ⟨rfl,rfl⟩) | (go_at_call 125;refine(rn_digit _ _).mono ?_;rintro e w' ⟨rfl,rfl⟩))
 all_goals (go_ret;refine⟨ret_bool ?_,rfl⟩)
 all_goals (first | rfl | (unfold withinB;rw[Bool.eq_iff_iff];simp[*];done) | (unfold withinB;rw[Bool.eq_iff_iff];simp[*];omega))
theorem rn_white (c:Int) (w:World) :
  Calls Tryz.prog 85 #[.int .i32 c] w fun e w'=>e=.returned (.bool (whiteB c))∧w=w':=by
 go_enter Tryz.func85,Tryz.ntmps85
 go_wp2
 all_goals (go_ret;refine⟨ret_bool ?_,rfl⟩)
 all_goals (first | rfl | (unfold whiteB;rw[Bool.eq_iff_iff];simp[*];done) | (unfold whiteB;rw[Bool.eq_iff_iff];simp[*];omega))
theorem ref_is (c:Int) (w:World) (_h1:-9223372036854775808≤c) (_h2:c≤9223372036854775807) :
  Calls Tryz.prog 161 #[.int .i64 c] w fun e w'=>e=.returned (.bool (isB c))∧w=w':=by
 go_enter Tryz.func161,Tryz.ntmps161
 go_wp2
 all_goals (go_ret;refine⟨ret_bool ?_,rfl⟩)
 all_goals (first | rfl | (unfold isB;rw[Bool.eq_iff_iff];simp[*];done) | (unfold isB;rw[Bool.eq_iff_iff];simp[*];omega))
theorem ref_begins (c:Int) (w:World) (_h1:-9223372036854775808≤c) (_h2:c≤9223372036854775807) :
  Calls Tryz.prog 134 #[.int .i64 c] w fun e w'=>e=.returned (.bool (beginsB c))∧w=w':=by
 go_enter Tryz.func134,Tryz.ntmps134
 go_wp2_with ((go_at_call 161;refine(ref_is _ _ _h1 _h2).mono ?_;rintro e w' ⟨rfl,rfl⟩))
 all_goals (go_ret;refine⟨ret_bool ?_,rfl⟩)
 all_goals (first | rfl | (unfold beginsB letterB;rw[Bool.eq_iff_iff];simp[*];done) | (unfold beginsB letterB;rw[Bool.eq_iff_iff];simp[*];omega))
theorem ref_within (c:Int) (w:World) (_h1:-9223372036854775808≤c) (_h2:c≤9223372036854775807) :
  Calls Tryz.prog 99 #[.int .i64 c] w fun e w'=>e=.returned (.bool (withinB c))∧w=w':=by
 go_enter Tryz.func99,Tryz.ntmps99
 go_wp2_with ((go_at_call 134;refine(ref_begins _ _ _h1 _h2).mono ?_;rintro e w' ⟨rfl,rfl⟩))
 all_goals (go_ret;refine⟨ret_bool ?_,rfl⟩)
 all_goals (first | rfl | (unfold withinB digitB;rw[Bool.eq_iff_iff];simp[*];done) | (unfold withinB digitB;rw[Bool.eq_iff_iff];simp[*];omega))
theorem ref_hex (c:Int) (w:World) (_h1:-9223372036854775808≤c) (_h2:c≤9223372036854775807) :
  Calls Tryz.prog 160 #[.int .i64 c] w fun e w'=>e=.returned (.int .i64 (hexI c))∧w=w':=by
 go_enter Tryz.func160,Tryz.ntmps160
 go_wp2
 all_goals (go_ret;refine⟨ret_int ?_,rfl⟩)
 all_goals (unfold hexI;(repeat' split)<;>omega)
end Go.Proofs.YtfhdihdafmahgaaGreatDoor
namespace Go.Proofs.YtfhdihdafmahgaaGreatDoor
open Go.RowKit
namespace Rn
def bN (c:Nat):Nat:=if c<128 then 1 else if c<194∨244<c then 0 else if c<224 then 2 else if c<240 then 3 else 4
def bLo (c:Nat):Nat:=if c<194∨244<c then 0 else if c=224 then 160 else if c=240 then 144 else 128
def bHi (c:Nat):Nat:=if c<194∨244<c then 0 else if c=237 then 159 else if c=244 then 143 else 191
def okAt (bs:List UInt8) (lo hi k:Nat):Bool:=match bs[k]? with
 | none=>false
 | some b=>if k=1 then decide (lo≤b.toNat∧b.toNat≤hi) else decide (128≤b.toNat∧b.toNat≤191)
def scan (bs:List UInt8) (lo hi:Nat):Nat→Nat→Nat
 | 0,k=>k
 | f+1,k=>if okAt bs lo hi k then scan bs lo hi f (k+1) else k
def val (bs:List UInt8) (n:Nat):Nat :=
 let b:=fun k=>(bs[k]?.getD 0).toNat
 if n=1 then b 0 else if n=2 then b 0 % 32 * 64+b 1 % 64 else if n=3 then b 0 % 16 * 4096+b 1 % 64 * 64+b 2 % 64
 else b 0 % 8 * 262144+b 1 % 64 * 4096+b 2 % 64 * 64+b 3 % 64
def loAt (c j:Nat):Nat:=if j=1 then bLo c else 128
def hiAt (c j:Nat):Nat:=if j=1 then bHi c else 191
def stopP (bs:List UInt8):Nat:=let c:=(bs[0]?.getD 0).toNat;scan bs (bLo c) (bHi c) (bN c-1) 1
def nextC (bs:List UInt8):Int:=let n:=bN (bs[0]?.getD 0).toNat
 if n=0 then 65533 else if stopP bs<n then 65533 else val bs n
def nextN (bs:List UInt8):Nat:=let n:=bN (bs[0]?.getD 0).toNat
 if n=0 then 1 else if stopP bs<n then stopP bs else n
end Rn
open Rn
theorem scan_stuck {bs:List UInt8} {lo hi k:Nat} (f:Nat) (h:okAt bs lo hi k=false):scan bs lo hi f k=k:=by
 cases f with
 | zero=>rfl
 | succ f=>simp[scan,h]
theorem scan_step {bs:List UInt8} {lo hi k:Nat} (f:Nat) (h:okAt bs lo hi k=true):scan bs lo hi (f+1) k=scan bs lo hi f (k+1):=by simp[scan,h]
theorem next_stop {bs:List UInt8} {j:Nat} (hz:¬ bN (bs[0]?.getD 0).toNat=0) (hs:stopP bs=j) (hj:j<bN (bs[0]?.getD 0).toNat):nextC bs=65533∧nextN bs=j:=by
 simp[nextC,nextN,hz,hs,hj]
theorem next_full {bs:List UInt8} (hz:¬ bN (bs[0]?.getD 0).toNat=0) (hs:stopP bs=bN (bs[0]?.getD 0).toNat):nextC bs=val bs (bN (bs[0]?.getD 0).toNat)∧nextN bs=bN (bs[0]?.getD 0).toNat:=by
 simp[nextC,nextN,hz,hs]
theorem okAt_none {bs:List UInt8} {lo hi k:Nat} (h:bs.length≤k):okAt bs lo hi k=false:=by
 simp[okAt,List.getElem?_eq_none h]
theorem okAt_some {bs:List UInt8} {c k:Nat} {b:UInt8} (h:bs[k]?=some b):okAt bs (bLo c) (bHi c) k=decide (loAt c k≤b.toNat∧b.toNat≤hiAt c k):=by
 unfold okAt loAt hiAt;rw[h]
 by_cases e:k=1<;>simp[e]
theorem ret3 {a b c a' b' c':Int} {k l m:IntKind} (h1:a=a') (h2:b=b') (h3:c=c'):Ending.returned (.tuple #[.int k a,.int l b,.int m c])=.returned (.tuple #[.int k a',.int l b',.int m c']):=by rw[h1,h2,h3]
theorem ret2 {a b a' b':Int} {k l:IntKind} (h1:a=a') (h2:b=b'):Ending.returned (.tuple #[.int k a,.int l b])=.returned (.tuple #[.int k a',.int l b']):=by rw[h1,h2]
theorem rn_bounds (c:Nat) (w:World) (hc:c<256) :
  Calls Tryz.prog 119 #[.int .u8 c] w fun e w'=>e=.returned (.tuple #[.int .i64 (bN c),.int .u8 (bLo c),.int .u8 (bHi c)])∧w=w':=by
 go_enter Tryz.func119,Tryz.ntmps119
 go_wp2
 all_goals (go_ret3;refine⟨ret3 ?_ ?_ ?_,rfl⟩)
 all_goals (first | unfold bN | unfold bLo | unfold bHi)
 all_goals (try simp only[beq_iff_eq,beq_eq_false_iff_ne,ne_eq] at *)
 all_goals ((repeat' split)<;>first | rfl | omega)
theorem rn_next (bs:List UInt8) (A:Option Addr) (n cap B:Nat) (w:World) (hr:Reads w B 1 A n (bs.map b8)) (hn:0<n) (hm:n≤cap) (hcap:cap≤maxLen)
  (hdec:∀ (m:Nat),m=bN (bs[0]?.getD 0).toNat→m≤n→stopP bs=m→0<m→Calls Tryz.prog 120 #[.slice A m cap] w fun e w'=>e=.returned (.tuple #[.int .i32 (val bs m),.int .i64 m])∧Below w.heap.size w w') :
  Calls Tryz.prog 84 #[.slice A n cap] w fun e w'=>e=.returned (.tuple #[.int .i32 (nextC bs),.int .i64 (nextN bs)])∧Below w.heap.size w w':=by
 unfold maxLen at hcap;have hlen:bs.length=n:=by simpa using hr.len
 obtain⟨b,off,rfl,hb,hcell⟩:=hr.open_ hn;obtain⟨b0,rest,rfl⟩:=List.exists_cons_of_length_pos (l:=bs) (by omega);have h0:w.cell? ⟨b,off,none⟩=some (.int .u8 b0.toNat):=hcell 0 _ rfl;have hb0:b0.toNat<256:=b0.toNat_lt
 by_cases hz:bN b0.toNat=0
 ·have Hz:=Lib.hid hz
  have hz0:((bN b0.toNat:Int) == 0)=true:=by simp[hz]
  clear hz hdec
  go_enter Tryz.func84,Tryz.ntmps84
  go_wp2_with (go_at_call 119;refine(rn_bounds _ _ hb0).mono ?_;rintro e w' ⟨rfl,rfl⟩)
  go_ret2
  refine⟨ret2 ?_ ?_,Below.refl _ _⟩
  ·simp[nextC,Hz.out]
  ·simp[nextN,Hz.out]
 ·have hz0:((bN b0.toNat:Int) == 0)=false:=by simp;omega
  have hN:bN b0.toNat≤4:=by unfold bN;(repeat' split)<;>omega
  have hz1:0<bN b0.toNat:=by omega
  have hcb:∀ k b',(b0::rest)[k]?=some b'→w.cell? ⟨b,off+k,none⟩=some (.int .u8 b'.toNat):=fun k b' h=>hcell k _ (by rw[List.getElem?_map,h];rfl)
  have Hcb:=Lib.hid hcb;have Hdec:=Lib.hid hdec;have Hlen:=Lib.hid hlen;clear hdec hcell hcb hlen hr
  go_enter Tryz.func84,Tryz.ntmps84
  go_wp2_with (go_at_call 119;refine(rn_bounds _ _ hb0).mono ?_;rintro e w' ⟨rfl,rfl⟩)
  go_loop [5,6,7] (fun lo hi k=>∃ j:Nat,1≤j∧j≤bN b0.toNat∧j≤n∧k=.int .i64 j∧lo=.int .u8 (loAt b0.toNat j)∧hi=.int .u8 (hiAt b0.toNat j)∧Hid (scan (b0::rest) (bLo b0.toNat) (bHi b0.toNat) (bN b0.toNat-j) j=stopP (b0::rest))) (fun _ _ k=>bN b0.toNat-(intOf k).toNat)
  case atStart=>exact⟨1,by omega,by omega,by omega,rfl,rfl,rfl,rfl⟩
  case round =>
   obtain⟨j,hj1,hj2,hj3,rfl,rfl,rfl,hs⟩:=hrel
   by_cases hjN:j<bN b0.toNat
   ·by_cases hjn:j=n
    ·have hb1:((j:Int) == (n:Int))=true:=by simp[hjn]
     have Hjn:=Lib.hid hjn;clear hjn
     go_wp2
     go_ret2
     have hst:stopP (b0::rest)=j:=by rw[← hs.out];exact scan_stuck _ (okAt_none (by rw[Hlen.out,Hjn.out];omega))
     have hx:=next_stop (bs:=b0::rest) hz hst hjN
     exact⟨ret2 hx.1.symm (by rw[hx.2]),Below.refl _ _⟩
    ·obtain⟨b',hb'⟩:∃ b',(b0::rest)[j]?=some b':=⟨_,List.getElem?_eq_getElem (by rw[Hlen.out];omega)⟩
     have hb1:((j:Int) == (n:Int))=false:=by simp;omega
     have hbc:=Hcb.out j b' hb';have hjlt:j<n:=by omega
     have Hb':=Lib.hid hb';clear hb' hjn
     by_cases hlo:b'.toNat<loAt b0.toNat j
     ·go_wp2
      go_ret2
      have hst:stopP (b0::rest)=j:=by rw[← hs.out];exact scan_stuck _ (by rw[okAt_some Hb'.out];simp;omega)
      have hx:=next_stop (bs:=b0::rest) hz hst hjN
      exact⟨ret2 hx.1.symm (by rw[hx.2]),Below.refl _ _⟩
     ·by_cases hhi:hiAt b0.toNat j<b'.toNat
      ·go_wp2
       go_ret2
       have hst:stopP (b0::rest)=j:=by rw[← hs.out];exact scan_stuck _ (by rw[okAt_some Hb'.out];simp;omega)
       have hx:=next_stop (bs:=b0::rest) hz hst hjN
       exact⟨ret2 hx.1.symm (by rw[hx.2]),Below.refl _ _⟩
      ·go_wp2
       go_round
       case rel =>
        have hst:scan (b0::rest) (bLo b0.toNat) (bHi b0.toNat) (bN b0.toNat-j) j=scan (b0::rest) (bLo b0.toNat) (bHi b0.toNat) (bN b0.toNat-(j+1)) (j+1):=by
         rw[show bN b0.toNat-j=(bN b0.toNat-(j+1))+1 from by omega]
         exact scan_step _ (by rw[okAt_some Hb'.out];simp;omega)
        refine⟨j+1,by omega,by omega,by omega,by go_num,?_,?_,hst.symm.trans hs.out⟩
        ·unfold loAt;rw[if_neg (by omega)];rfl
        ·unfold hiAt;rw[if_neg (by omega)];rfl
       case measure=>simp[intOf];omega
   ·obtain rfl:j=bN b0.toNat:=by omega
    have hst:stopP (b0::rest)=bN b0.toNat:=by rw[← hs.out,Nat.sub_self];rfl
    have hx:=next_full (bs:=b0::rest) hz hst;have Hx:=Lib.hid hx;clear hx;have hd:=Hdec.out (bN b0.toNat) rfl (by omega) hst (by omega);have Hd:=Lib.hid hd;clear hd hst
    go_wp2_with fail
    refine(Hd.out).mono ?_
    rintro e w' ⟨rfl,hb⟩
    go_wp2
    go_ret2
    exact⟨ret2 Hx.out.1.symm (by rw[Hx.out.2];rfl),hb⟩
end Go.Proofs.YtfhdihdafmahgaaGreatDoor
namespace Go.Proofs
open Go.Shelf
def Tryz.lays169_ren:Go.Shelf.Ren:=⟨fun | 169=>77 | n=>n,fun | 70=>107 | 9=>9 | 0=>0 | 72=>109 | 37=>22 | 127=>140 | 3=>3 | 5=>5 | n=>n,fun | n=>n⟩
theorem Tryz.lays169:Go.Proofs.Lays.n169 Tryz.prog Tryz.lays169_ren:={
 mixed:=by kernel_rfl
 f169:=Tryz.func77.trans (congrArg some (by kernel_rfl))
 t0:=Tryz.underlying0
 a0:=Tryz.isAgg0
 z0:=Tryz.sizeOf0
 v0:=Tryz.zeroValue0
 t3:=Tryz.underlying3
 a3:=Tryz.isAgg3
 z3:=Tryz.sizeOf3
 v3:=Tryz.zeroValue3
 t9:=Tryz.underlying9
 a9:=Tryz.isAgg9
 z9:=Tryz.sizeOf9
 v9:=Tryz.zeroValue9
 t37:=Tryz.underlying22
 a37:=Tryz.isAgg22
 z37:=Tryz.sizeOf22
 v37:=Tryz.zeroValue22
 t70:=Tryz.underlying107
 a70:=Tryz.isAgg107
 z70:=Tryz.sizeOf107
 v70:=Tryz.zeroValue107
 t72:=Tryz.underlying109
 a72:=Tryz.isAgg109
 z72:=Tryz.sizeOf109
 v72:=Tryz.zeroValue109
 t127:=Tryz.underlying140
 a127:=Tryz.isAgg140
 z127:=Tryz.sizeOf140
 v127:=Tryz.zeroValue140 }
theorem Tryz.Builder_Extra_169:Builder.Extra Tryz.prog Tryz.lays169_ren:={
 sizeBuilder:=by kernel_rfl
 liesBuilder:=by kernel_rfl
 t5:=Tryz.underlying5
 a5:=Tryz.isAgg5
 z5:=Tryz.sizeOf5
 v5:=Tryz.zeroValue5
 infoByte:=by kernel_rfl
 cellsByte:=by kernel_rfl
 sizeByte:=by kernel_rfl
 neB5:=by decide }
open Go.RowKit in
theorem Tryz.Builder_String_any (B b:Nat) (l:List UInt8) (w:World) (h:Lib.IsBuilder 109 5 B b (Lib.byteCells l) w) (hBw:B≤w.heap.size) :
  Calls Tryz.prog 77 #[.pointer (some ⟨b,0,none⟩)] w fun e w'=>e=.returned (.string ⟨l.toArray⟩)∧Below B w w':=Any.Builder_String_any Tryz.lays169 Tryz.Builder_Extra_169 B b l w h hBw
def Tryz.lays161_ren:Go.Shelf.Ren:=⟨fun | 161=>158 | 231=>180 | 227=>165 | 233=>181 | 235=>182 | 228=>177 | 197=>146 | 151=>126 | 260=>170 | 152=>152 | 137=>172 | 119=>173 | 224=>174 | 225=>175 | 217=>185 | 266=>194 | n=>n,fun | 9=>9 | 4=>4 | 3=>3 | 5=>5 | 117=>174 | 116=>173 | 0=>0 | 124=>177 | 105=>119 | 21=>21 | 119=>180 | 46=>184 | 139=>183 | 138=>182 | n=>n,fun | 3=>1 | 4=>2 | n=>n⟩
theorem Tryz.lays161:Go.Proofs.Lays.n161 Tryz.prog Tryz.lays161_ren:={
 mixed:=by kernel_rfl
 f119:=Tryz.func173.trans (congrArg some (by kernel_rfl))
 f137:=Tryz.func172.trans (congrArg some (by kernel_rfl))
 f151:=Tryz.func126.trans (congrArg some (by kernel_rfl))
 f152:=Tryz.func152.trans (congrArg some (by kernel_rfl))
 f161:=Tryz.func158.trans (congrArg some (by kernel_rfl))
 f197:=Tryz.func146.trans (congrArg some (by kernel_rfl))
 f217:=Tryz.func185.trans (congrArg some (by kernel_rfl))
 f224:=Tryz.func174.trans (congrArg some (by kernel_rfl))
 f225:=Tryz.func175.trans (congrArg some (by kernel_rfl))
 f227:=Tryz.func165.trans (congrArg some (by kernel_rfl))
 f228:=Tryz.func177.trans (congrArg some (by kernel_rfl))
 f231:=Tryz.func180.trans (congrArg some (by kernel_rfl))
 f233:=Tryz.func181.trans (congrArg some (by kernel_rfl))
 f235:=Tryz.func182.trans (congrArg some (by kernel_rfl))
 f260:=Tryz.func170.trans (congrArg some (by kernel_rfl))
 f266:=Tryz.func194.trans (congrArg some (by kernel_rfl))
 t0:=Tryz.underlying0
 a0:=Tryz.isAgg0
 z0:=Tryz.sizeOf0
 v0:=Tryz.zeroValue0
 t3:=Tryz.underlying3
 a3:=Tryz.isAgg3
 z3:=Tryz.sizeOf3
 v3:=Tryz.zeroValue3
 t4:=Tryz.underlying4
 a4:=Tryz.isAgg4
 z4:=Tryz.sizeOf4
 v4:=Tryz.zeroValue4
 t5:=Tryz.underlying5
 a5:=Tryz.isAgg5
 z5:=Tryz.sizeOf5
 v5:=Tryz.zeroValue5
 t9:=Tryz.underlying9
 a9:=Tryz.isAgg9
 z9:=Tryz.sizeOf9
 v9:=Tryz.zeroValue9
 t21:=Tryz.underlying21
 a21:=Tryz.isAgg21
 z21:=Tryz.sizeOf21
 v21:=Tryz.zeroValue21
 t46:=Tryz.underlying184
 a46:=Tryz.isAgg184
 z46:=Tryz.sizeOf184
 v46:=Tryz.zeroValue184
 t105:=Tryz.underlying119
 a105:=Tryz.isAgg119
 z105:=Tryz.sizeOf119
 v105:=Tryz.zeroValue119
 t116:=Tryz.underlying173
 a116:=Tryz.isAgg173
 z116:=Tryz.sizeOf173
 t117:=Tryz.underlying174
 a117:=Tryz.isAgg174
 z117:=Tryz.sizeOf174
 v117:=Tryz.zeroValue174
 t119:=Tryz.underlying180
 a119:=Tryz.isAgg180
 z119:=Tryz.sizeOf180
 t124:=Tryz.underlying177
 a124:=Tryz.isAgg177
 z124:=Tryz.sizeOf177
 v124:=Tryz.zeroValue177
 t138:=Tryz.underlying182
 a138:=Tryz.isAgg182
 z138:=Tryz.sizeOf182
 v138:=Tryz.zeroValue182
 t139:=Tryz.underlying183
 a139:=Tryz.isAgg183
 z139:=Tryz.sizeOf183
 v139:=Tryz.zeroValue183
 g3:=by kernel_rfl
 g4:=by kernel_rfl }
open Go.RowKit in
theorem Tryz.strings_TrimLeft_one (s:ByteArray) (c:UInt8) (hc:c.toNat<128) (w:World) :
  Calls Tryz.prog 158 #[.string s,.string ⟨#[c]⟩] w fun e w'=>e=.returned (.string ⟨(Lib.trimLeftB s.data.toList c).toArray⟩)∧w'=w:=Any.strings_TrimLeft_one Tryz.lays161 s c hc w
def Tryz.lays162_ren:Go.Shelf.Ren:=⟨fun | 162=>143 | 232=>164 | 227=>165 | 234=>166 | 236=>167 | 228=>177 | 271=>184 | 151=>126 | 120=>193 | 197=>146 | 152=>152 | 260=>170 | 137=>172 | 119=>173 | 224=>174 | 225=>175 | 217=>185 | 266=>194 | n=>n,fun | 9=>9 | 4=>4 | 3=>3 | 5=>5 | 117=>174 | 116=>173 | 0=>0 | 124=>177 | 21=>21 | 105=>119 | 46=>184 | 119=>180 | 139=>183 | 138=>182 | n=>n,fun | 3=>1 | 4=>2 | n=>n⟩
theorem Tryz.lays162:Go.Proofs.Lays.n162 Tryz.prog Tryz.lays162_ren:={
 mixed:=by kernel_rfl
 f119:=Tryz.func173.trans (congrArg some (by kernel_rfl))
 f120:=Tryz.func193.trans (congrArg some (by kernel_rfl))
 f137:=Tryz.func172.trans (congrArg some (by kernel_rfl))
 f151:=Tryz.func126.trans (congrArg some (by kernel_rfl))
 f152:=Tryz.func152.trans (congrArg some (by kernel_rfl))
 f162:=Tryz.func143.trans (congrArg some (by kernel_rfl))
 f197:=Tryz.func146.trans (congrArg some (by kernel_rfl))
 f217:=Tryz.func185.trans (congrArg some (by kernel_rfl))
 f224:=Tryz.func174.trans (congrArg some (by kernel_rfl))
 f225:=Tryz.func175.trans (congrArg some (by kernel_rfl))
 f227:=Tryz.func165.trans (congrArg some (by kernel_rfl))
 f228:=Tryz.func177.trans (congrArg some (by kernel_rfl))
 f232:=Tryz.func164.trans (congrArg some (by kernel_rfl))
 f234:=Tryz.func166.trans (congrArg some (by kernel_rfl))
 f236:=Tryz.func167.trans (congrArg some (by kernel_rfl))
 f260:=Tryz.func170.trans (congrArg some (by kernel_rfl))
 f266:=Tryz.func194.trans (congrArg some (by kernel_rfl))
 f271:=Tryz.func184.trans (congrArg some (by kernel_rfl))
 t0:=Tryz.underlying0
 a0:=Tryz.isAgg0
 z0:=Tryz.sizeOf0
 v0:=Tryz.zeroValue0
 t3:=Tryz.underlying3
 a3:=Tryz.isAgg3
 z3:=Tryz.sizeOf3
 v3:=Tryz.zeroValue3
 t4:=Tryz.underlying4
 a4:=Tryz.isAgg4
 z4:=Tryz.sizeOf4
 v4:=Tryz.zeroValue4
 t5:=Tryz.underlying5
 a5:=Tryz.isAgg5
 z5:=Tryz.sizeOf5
 v5:=Tryz.zeroValue5
 t9:=Tryz.underlying9
 a9:=Tryz.isAgg9
 z9:=Tryz.sizeOf9
 v9:=Tryz.zeroValue9
 t21:=Tryz.underlying21
 a21:=Tryz.isAgg21
 z21:=Tryz.sizeOf21
 v21:=Tryz.zeroValue21
 t46:=Tryz.underlying184
 a46:=Tryz.isAgg184
 z46:=Tryz.sizeOf184
 v46:=Tryz.zeroValue184
 t105:=Tryz.underlying119
 a105:=Tryz.isAgg119
 z105:=Tryz.sizeOf119
 v105:=Tryz.zeroValue119
 t116:=Tryz.underlying173
 a116:=Tryz.isAgg173
 z116:=Tryz.sizeOf173
 t117:=Tryz.underlying174
 a117:=Tryz.isAgg174
 z117:=Tryz.sizeOf174
 v117:=Tryz.zeroValue174
 t119:=Tryz.underlying180
 a119:=Tryz.isAgg180
 z119:=Tryz.sizeOf180
 t124:=Tryz.underlying177
 a124:=Tryz.isAgg177
 z124:=Tryz.sizeOf177
 v124:=Tryz.zeroValue177
 t138:=Tryz.underlying182
 a138:=Tryz.isAgg182
 z138:=Tryz.sizeOf182
 v138:=Tryz.zeroValue182
 t139:=Tryz.underlying183
 a139:=Tryz.isAgg183
 z139:=Tryz.sizeOf183
 v139:=Tryz.zeroValue183
 g3:=by kernel_rfl
 g4:=by kernel_rfl }
open Go.RowKit in
theorem Tryz.strings_TrimRight_one (s:ByteArray) (c:UInt8) (hc:c.toNat<128) (w:World) (hs:s.size≤9223372036854775807) :
  Calls Tryz.prog 143 #[.string s,.string ⟨#[c]⟩] w fun e w'=>e=.returned (.string ⟨(Lib.trimRightB s.data.toList c).toArray⟩)∧w'=w:=Any.strings_TrimRight_one Tryz.lays162 s c hc w hs
def Tryz.lays119_ren:Go.Shelf.Ren:=⟨fun | 119=>173 | n=>n,fun | 21=>21 | 4=>4 | n=>n,fun | n=>n⟩
theorem Tryz.lays119:Go.Proofs.Lays.n119 Tryz.prog Tryz.lays119_ren:={
 mixed:=by kernel_rfl
 f119:=Tryz.func173.trans (congrArg some (by kernel_rfl))
 t4:=Tryz.underlying4
 a4:=Tryz.isAgg4
 z4:=Tryz.sizeOf4
 v4:=Tryz.zeroValue4
 t21:=Tryz.underlying21
 a21:=Tryz.isAgg21
 z21:=Tryz.sizeOf21
 v21:=Tryz.zeroValue21 }
theorem Tryz.utf8_ValidRune (r:Int) (w:World) :
  Calls Tryz.prog 173 #[.int .i32 r] w fun e w'=>e=.returned (.bool (Lib.validRune r))∧w'=w:=Any.utf8_ValidRune Tryz.lays119 r w
def Tryz.lays137_ren:Go.Shelf.Ren:=⟨fun | 137=>172 | 217=>185 | 266=>194 | n=>n,fun | 9=>9 | 5=>5 | 3=>3 | n=>n,fun | n=>n⟩
theorem Tryz.lays137:Go.Proofs.Lays.n137 Tryz.prog Tryz.lays137_ren:={
 mixed:=by kernel_rfl
 f137:=Tryz.func172.trans (congrArg some (by kernel_rfl))
 f217:=Tryz.func185.trans (congrArg some (by kernel_rfl))
 f266:=Tryz.func194.trans (congrArg some (by kernel_rfl))
 t3:=Tryz.underlying3
 a3:=Tryz.isAgg3
 z3:=Tryz.sizeOf3
 v3:=Tryz.zeroValue3
 t5:=Tryz.underlying5
 a5:=Tryz.isAgg5
 z5:=Tryz.sizeOf5
 v5:=Tryz.zeroValue5
 t9:=Tryz.underlying9
 a9:=Tryz.isAgg9
 z9:=Tryz.sizeOf9
 v9:=Tryz.zeroValue9 }
open Go.RowKit in
theorem Tryz.strings_IndexByte (s:ByteArray) (c:Int) (w:World) :
  Calls Tryz.prog 172 #[.string s,.int .u8 c] w fun e w'=>e=.returned (.int .i64 (Lib.indexByte s.data.toList c.toNat.toUInt8))∧w'=w:=Any.strings_IndexByte Tryz.lays137 s c w
def Tryz.lays242_ren:Go.Shelf.Ren:=⟨fun | 242=>149 | 278=>171 | n=>n,fun | 37=>22 | 21=>21 | 51=>185 | 4=>4 | 5=>5 | 46=>184 | n=>n,fun | n=>n⟩
theorem Tryz.lays242:Go.Proofs.Lays.n242 Tryz.prog Tryz.lays242_ren:={
 mixed:=by kernel_rfl
 f242:=Tryz.func149.trans (congrArg some (by kernel_rfl))
 f278:=Tryz.func171.trans (congrArg some (by kernel_rfl))
 t4:=Tryz.underlying4
 a4:=Tryz.isAgg4
 z4:=Tryz.sizeOf4
 v4:=Tryz.zeroValue4
 t5:=Tryz.underlying5
 a5:=Tryz.isAgg5
 z5:=Tryz.sizeOf5
 v5:=Tryz.zeroValue5
 t21:=Tryz.underlying21
 a21:=Tryz.isAgg21
 z21:=Tryz.sizeOf21
 v21:=Tryz.zeroValue21
 t37:=Tryz.underlying22
 a37:=Tryz.isAgg22
 z37:=Tryz.sizeOf22
 v37:=Tryz.zeroValue22
 t46:=Tryz.underlying184
 a46:=Tryz.isAgg184
 z46:=Tryz.sizeOf184
 v46:=Tryz.zeroValue184
 t51:=Tryz.underlying185
 a51:=Tryz.isAgg185
 z51:=Tryz.sizeOf185
 v51:=Tryz.zeroValue185 }
open Go.RowKit in
theorem Tryz.utf8_AppendRune_plain (B:Nat) (v:Value) (n:Nat) (xs:List Value) (r:Int) (hr0:-2147483648≤r) (hr1:r≤2147483647) (w:World) (hown:w.ownsRow B 5 1 v n xs) (hlen:n+4≤140737488355328) (hBw:B≤w.heap.size) :
  Calls Tryz.prog 149 #[v,.int .i32 r] w fun e w'=>∃ v',e=.returned v'∧w'.ownsRow B 5 1 v' (n+(Lib.runeCells r).length) (xs++Lib.runeCells r)∧∃ o,(w.alloc o).grownBy w' v.ownBlock:=Any.utf8_AppendRune_plain Tryz.lays242 (by kernel_rfl) B v n xs r hr0 hr1 w hown hlen hBw
def Tryz.lays172_ren:Go.Shelf.Ren:=⟨fun | 172=>179 | 244=>187 | 245=>188 | 247=>196 | 279=>197 | 280=>198 | 281=>199 | 282=>200 | 287=>207 | 316=>208 | 171=>142 | 205=>209 | 321=>212 | 322=>213 | 243=>163 | 246=>183 | 283=>189 | 284=>190 | 285=>191 | 286=>192 | 129=>202 | 317=>201 | 318=>203 | 319=>204 | 320=>205 | 337=>210 | 338=>211 | n=>n,fun | 9=>9 | 3=>3 | 75=>112 | 76=>113 | 4=>4 | 5=>5 | 167=>195 | 37=>22 | 0=>0 | 85=>196 | 2=>2 | 168=>198 | 53=>188 | 175=>207 | 46=>184 | 210=>210 | 127=>140 | 145=>216 | 143=>214 | 21=>21 | 171=>190 | 173=>193 | 212=>202 | 51=>185 | 20=>20 | 213=>203 | 232=>217 | 233=>218 | 80=>115 | n=>n,fun | 15=>5 | 16=>6 | 17=>4 | 18=>7 | 19=>8 | n=>n⟩
theorem Tryz.lays172:Go.Proofs.Lays.n172 Tryz.prog Tryz.lays172_ren:={
 mixed:=by kernel_rfl
 f129:=Tryz.func202.trans (congrArg some (by kernel_rfl))
 f171:=Tryz.func142.trans (congrArg some (by kernel_rfl))
 f172:=Tryz.func179.trans (congrArg some (by kernel_rfl))
 f205:=Tryz.func209.trans (congrArg some (by kernel_rfl))
 f243:=Tryz.func163.trans (congrArg some (by kernel_rfl))
 f244:=Tryz.func187.trans (congrArg some (by kernel_rfl))
 f245:=Tryz.func188.trans (congrArg some (by kernel_rfl))
 f246:=Tryz.func183.trans (congrArg some (by kernel_rfl))
 f247:=Tryz.func196.trans (congrArg some (by kernel_rfl))
 f279:=Tryz.func197.trans (congrArg some (by kernel_rfl))
 f280:=Tryz.func198.trans (congrArg some (by kernel_rfl))
 f281:=Tryz.func199.trans (congrArg some (by kernel_rfl))
 f282:=Tryz.func200.trans (congrArg some (by kernel_rfl))
 f283:=Tryz.func189.trans (congrArg some (by kernel_rfl))
 f284:=Tryz.func190.trans (congrArg some (by kernel_rfl))
 f285:=Tryz.func191.trans (congrArg some (by kernel_rfl))
 f286:=Tryz.func192.trans (congrArg some (by kernel_rfl))
 f287:=Tryz.func207.trans (congrArg some (by kernel_rfl))
 f316:=Tryz.func208.trans (congrArg some (by kernel_rfl))
 f317:=Tryz.func201.trans (congrArg some (by kernel_rfl))
 f318:=Tryz.func203.trans (congrArg some (by kernel_rfl))
 f319:=Tryz.func204.trans (congrArg some (by kernel_rfl))
 f320:=Tryz.func205.trans (congrArg some (by kernel_rfl))
 f321:=Tryz.func212.trans (congrArg some (by kernel_rfl))
 f322:=Tryz.func213.trans (congrArg some (by kernel_rfl))
 f337:=Tryz.func210.trans (congrArg some (by kernel_rfl))
 f338:=Tryz.func211.trans (congrArg some (by kernel_rfl))
 t0:=Tryz.underlying0
 a0:=Tryz.isAgg0
 z0:=Tryz.sizeOf0
 v0:=Tryz.zeroValue0
 t2:=Tryz.underlying2
 a2:=Tryz.isAgg2
 z2:=Tryz.sizeOf2
 v2:=Tryz.zeroValue2
 t3:=Tryz.underlying3
 a3:=Tryz.isAgg3
 z3:=Tryz.sizeOf3
 v3:=Tryz.zeroValue3
 t4:=Tryz.underlying4
 a4:=Tryz.isAgg4
 z4:=Tryz.sizeOf4
 v4:=Tryz.zeroValue4
 t5:=Tryz.underlying5
 a5:=Tryz.isAgg5
 z5:=Tryz.sizeOf5
 v5:=Tryz.zeroValue5
 t9:=Tryz.underlying9
 a9:=Tryz.isAgg9
 z9:=Tryz.sizeOf9
 v9:=Tryz.zeroValue9
 t20:=Tryz.underlying20
 a20:=Tryz.isAgg20
 z20:=Tryz.sizeOf20
 v20:=Tryz.zeroValue20
 t21:=Tryz.underlying21
 a21:=Tryz.isAgg21
 z21:=Tryz.sizeOf21
 v21:=Tryz.zeroValue21
 t37:=Tryz.underlying22
 a37:=Tryz.isAgg22
 z37:=Tryz.sizeOf22
 v37:=Tryz.zeroValue22
 t46:=Tryz.underlying184
 a46:=Tryz.isAgg184
 z46:=Tryz.sizeOf184
 v46:=Tryz.zeroValue184
 t51:=Tryz.underlying185
 a51:=Tryz.isAgg185
 z51:=Tryz.sizeOf185
 v51:=Tryz.zeroValue185
 t53:=Tryz.underlying188
 a53:=Tryz.isAgg188
 z53:=Tryz.sizeOf188
 v53:=Tryz.zeroValue188
 t75:=Tryz.underlying112
 a75:=Tryz.isAgg112
 z75:=Tryz.sizeOf112
 v75:=Tryz.zeroValue112
 t76:=Tryz.underlying113
 a76:=Tryz.isAgg113
 z76:=Tryz.sizeOf113
 v76:=Tryz.zeroValue113
 t85:=Tryz.underlying196
 a85:=Tryz.isAgg196
 z85:=Tryz.sizeOf196
 v85:=Tryz.zeroValue196
 t127:=Tryz.underlying140
 a127:=Tryz.isAgg140
 z127:=Tryz.sizeOf140
 v127:=Tryz.zeroValue140
 t143:=Tryz.underlying214
 a143:=Tryz.isAgg214
 z143:=Tryz.sizeOf214
 v143:=Tryz.zeroValue214
 t145:=Tryz.underlying216
 a145:=Tryz.isAgg216
 z145:=Tryz.sizeOf216
 v145:=Tryz.zeroValue216
 t167:=Tryz.underlying195
 a167:=Tryz.isAgg195
 z167:=Tryz.sizeOf195
 v167:=Tryz.zeroValue195
 t168:=Tryz.underlying198
 a168:=Tryz.isAgg198
 z168:=Tryz.sizeOf198
 v168:=Tryz.zeroValue198
 t171:=Tryz.underlying190
 a171:=Tryz.isAgg190
 z171:=Tryz.sizeOf190
 v171:=Tryz.zeroValue190
 t173:=Tryz.underlying193
 a173:=Tryz.isAgg193
 z173:=Tryz.sizeOf193
 v173:=Tryz.zeroValue193
 t175:=Tryz.underlying207
 a175:=Tryz.isAgg207
 z175:=Tryz.sizeOf207
 v175:=Tryz.zeroValue207
 t210:=Tryz.underlying210
 a210:=Tryz.isAgg210
 z210:=Tryz.sizeOf210
 v210:=Tryz.zeroValue210
 t212:=Tryz.underlying202
 a212:=Tryz.isAgg202
 z212:=Tryz.sizeOf202
 v212:=Tryz.zeroValue202
 t213:=Tryz.underlying203
 a213:=Tryz.isAgg203
 z213:=Tryz.sizeOf203
 t232:=Tryz.underlying217
 a232:=Tryz.isAgg217
 z232:=Tryz.sizeOf217
 v232:=Tryz.zeroValue217
 t233:=Tryz.underlying218
 a233:=Tryz.isAgg218
 z233:=Tryz.sizeOf218
 v233:=Tryz.zeroValue218
 g15:=by kernel_rfl
 g16:=by kernel_rfl
 g17:=by kernel_rfl
 g18:=by kernel_rfl
 g19:=by kernel_rfl }
open Go.RowKit in
theorem Tryz.strconv_Atoi (s:ByteArray) (n:Int) (hl:s.size≤18) (h:Lib.atoi s.data.toList=some n) (w:World) :
  Calls Tryz.prog 179 #[.string s] w fun e w'=>e=.returned (.tuple #[.int .i64 n,.nilIface])∧∃ t,w'=Lib.bytesWorld w 5 t:=Any.strconv_Atoi Tryz.lays172 s n hl h w
def Tryz.laysM171_ren:Go.Shelf.Ren:=⟨fun | 171=>142 | 243=>163 | 246=>183 | 283=>189 | 284=>190 | 285=>191 | 286=>192 | 129=>202 | 317=>201 | 318=>203 | 319=>204 | 320=>205 | 337=>210 | 338=>211 | n=>n,fun | 3=>3 | 9=>9 | 2=>2 | 4=>4 | 171=>190 | 0=>0 | 53=>188 | 37=>22 | 5=>5 | 173=>193 | 212=>202 | 51=>185 | 20=>20 | 213=>203 | 46=>184 | 232=>217 | 233=>218 | n=>n,fun | 17=>4 | 18=>7 | 19=>8 | n=>n⟩
theorem Tryz.laysM171:Go.Proofs.LaysM.n171 Tryz.prog Tryz.laysM171_ren:={
 mixed:=by kernel_rfl
 f129:=Tryz.func202.trans (congrArg some (by kernel_rfl))
 f171:=Tryz.func142.trans (congrArg some (by kernel_rfl))
 f243:=Tryz.func163.trans (congrArg some (by kernel_rfl))
 f246:=Tryz.func183.trans (congrArg some (by kernel_rfl))
 f283:=Tryz.func189.trans (congrArg some (by kernel_rfl))
 f284:=Tryz.func190.trans (congrArg some (by kernel_rfl))
 f285:=Tryz.func191.trans (congrArg some (by kernel_rfl))
 f286:=Tryz.func192.trans (congrArg some (by kernel_rfl))
 f317:=Tryz.func201.trans (congrArg some (by kernel_rfl))
 f318:=Tryz.func203.trans (congrArg some (by kernel_rfl))
 f319:=Tryz.func204.trans (congrArg some (by kernel_rfl))
 f320:=Tryz.func205.trans (congrArg some (by kernel_rfl))
 f337:=Tryz.func210.trans (congrArg some (by kernel_rfl))
 f338:=Tryz.func211.trans (congrArg some (by kernel_rfl))
 t0:=Tryz.underlying0
 a0:=Tryz.isAgg0
 z0:=Tryz.sizeOf0
 v0:=Tryz.zeroValue0
 t2:=Tryz.underlying2
 a2:=Tryz.isAgg2
 z2:=Tryz.sizeOf2
 v2:=Tryz.zeroValue2
 t3:=Tryz.underlying3
 a3:=Tryz.isAgg3
 z3:=Tryz.sizeOf3
 v3:=Tryz.zeroValue3
 t4:=Tryz.underlying4
 a4:=Tryz.isAgg4
 z4:=Tryz.sizeOf4
 v4:=Tryz.zeroValue4
 t5:=Tryz.underlying5
 a5:=Tryz.isAgg5
 z5:=Tryz.sizeOf5
 v5:=Tryz.zeroValue5
 t9:=Tryz.underlying9
 a9:=Tryz.isAgg9
 z9:=Tryz.sizeOf9
 v9:=Tryz.zeroValue9
 t20:=Tryz.underlying20
 a20:=Tryz.isAgg20
 z20:=Tryz.sizeOf20
 v20:=Tryz.zeroValue20
 t37:=Tryz.underlying22
 a37:=Tryz.isAgg22
 z37:=Tryz.sizeOf22
 v37:=Tryz.zeroValue22
 t46:=Tryz.underlying184
 a46:=Tryz.isAgg184
 z46:=Tryz.sizeOf184
 v46:=Tryz.zeroValue184
 t51:=Tryz.underlying185
 a51:=Tryz.isAgg185
 z51:=Tryz.sizeOf185
 v51:=Tryz.zeroValue185
 t53:=Tryz.underlying188
 a53:=Tryz.isAgg188
 z53:=Tryz.sizeOf188
 v53:=Tryz.zeroValue188
 t171:=Tryz.underlying190
 a171:=Tryz.isAgg190
 z171:=Tryz.sizeOf190
 v171:=Tryz.zeroValue190
 t173:=Tryz.underlying193
 a173:=Tryz.isAgg193
 z173:=Tryz.sizeOf193
 v173:=Tryz.zeroValue193
 t212:=Tryz.underlying202
 a212:=Tryz.isAgg202
 z212:=Tryz.sizeOf202
 v212:=Tryz.zeroValue202
 t213:=Tryz.underlying203
 a213:=Tryz.isAgg203
 z213:=Tryz.sizeOf203
 t232:=Tryz.underlying217
 a232:=Tryz.isAgg217
 z232:=Tryz.sizeOf217
 v232:=Tryz.zeroValue217
 t233:=Tryz.underlying218
 a233:=Tryz.isAgg218
 z233:=Tryz.sizeOf218
 v233:=Tryz.zeroValue218
 g17:=by kernel_rfl
 g18:=by kernel_rfl
 g19:=by kernel_rfl
 i0:=by kernel_rfl
 i2:=by kernel_rfl
 i3:=by kernel_rfl
 i4:=by kernel_rfl
 i5:=by kernel_rfl
 i9:=by kernel_rfl
 i20:=by kernel_rfl
 i37:=by kernel_rfl
 i46:=by kernel_rfl
 i51:=by kernel_rfl
 i53:=by kernel_rfl
 i171:=by kernel_rfl
 i173:=by kernel_rfl
 i212:=by kernel_rfl
 i232:=by kernel_rfl
 i233:=by kernel_rfl
 m17:=by kernel_rfl
 m18:=by kernel_rfl
 m19:=by kernel_rfl }
open Go.RowKit Go.Sort Go.Lib in
theorem Tryz.strconv_Itoa (n:Int) (h0:-9223372036854775808≤n) (h1:n≤9223372036854775807) (w:World) (htab:Lib.TabIs Tryz.prog w "internal/strconv.uint64pow10" .u64 Lib.pow10Tab) :
  Calls Tryz.prog 142 #[.int .i64 n] w fun e w'=>e=.returned (.string ⟨(Lib.itoa n).toArray⟩)∧∃ k os,w'=grow (w.drewN k) os:=Any.strconv_Itoa Tryz.laysM171 n h0 h1 w htab
def Tryz.lays145_ren:Go.Shelf.Ren:=⟨fun | 145=>156 | 220=>178 | 219=>186 | 217=>185 | 225=>175 | 224=>174 | 267=>195 | 266=>194 | 314=>206 | n=>n,fun | 9=>9 | 4=>4 | 59=>168 | 3=>3 | 5=>5 | 46=>184 | 146=>205 | 51=>185 | n=>n,fun | 1=>3 | n=>n⟩
theorem Tryz.lays145:Go.Proofs.Lays.n145 Tryz.prog Tryz.lays145_ren:={
 mixed:=by kernel_rfl
 f145:=Tryz.func156.trans (congrArg some (by kernel_rfl))
 f217:=Tryz.func185.trans (congrArg some (by kernel_rfl))
 f219:=Tryz.func186.trans (congrArg some (by kernel_rfl))
 f220:=Tryz.func178.trans (congrArg some (by kernel_rfl))
 f224:=Tryz.func174.trans (congrArg some (by kernel_rfl))
 f225:=Tryz.func175.trans (congrArg some (by kernel_rfl))
 f266:=Tryz.func194.trans (congrArg some (by kernel_rfl))
 f267:=Tryz.func195.trans (congrArg some (by kernel_rfl))
 f314:=Tryz.func206.trans (congrArg some (by kernel_rfl))
 t3:=Tryz.underlying3
 a3:=Tryz.isAgg3
 z3:=Tryz.sizeOf3
 v3:=Tryz.zeroValue3
 t4:=Tryz.underlying4
 a4:=Tryz.isAgg4
 z4:=Tryz.sizeOf4
 v4:=Tryz.zeroValue4
 t5:=Tryz.underlying5
 a5:=Tryz.isAgg5
 z5:=Tryz.sizeOf5
 v5:=Tryz.zeroValue5
 t9:=Tryz.underlying9
 a9:=Tryz.isAgg9
 z9:=Tryz.sizeOf9
 v9:=Tryz.zeroValue9
 t46:=Tryz.underlying184
 a46:=Tryz.isAgg184
 z46:=Tryz.sizeOf184
 v46:=Tryz.zeroValue184
 t51:=Tryz.underlying185
 a51:=Tryz.isAgg185
 z51:=Tryz.sizeOf185
 v51:=Tryz.zeroValue185
 t59:=Tryz.underlying168
 a59:=Tryz.isAgg168
 z59:=Tryz.sizeOf168
 v59:=Tryz.zeroValue168
 t146:=Tryz.underlying205
 a146:=Tryz.isAgg205
 z146:=Tryz.sizeOf205
 v146:=Tryz.zeroValue205
 g1:=by kernel_rfl }
open Go.RowKit Go.Lib in
theorem Tryz.strings_Cut (s sep:ByteArray) (m:Int) (w:World) (hs:s.size<4294967281) (hm:w.cell? ⟨3,0,none⟩=some (.int .i64 m)) :
  Calls Tryz.prog 156 #[.string s,.string sep] w fun e w'=>e=.returned (.tuple #[.string ⟨(Lib.cut s.data.toList sep.data.toList).1.toArray⟩,.string ⟨(Lib.cut s.data.toList sep.data.toList).2.1.toArray⟩,.bool (Lib.cut s.data.toList sep.data.toList).2.2])∧∃ n,w'=w.drewN n:=Any.strings_Cut Tryz.lays145 s sep m w hs hm
def Tryz.laysM145_ren:Go.Shelf.Ren:=⟨fun | 145=>156 | 220=>178 | 219=>186 | 217=>185 | 225=>175 | 224=>174 | 267=>195 | 266=>194 | 314=>206 | n=>n,fun | 9=>9 | 4=>4 | 59=>168 | 3=>3 | 5=>5 | 46=>184 | 146=>205 | 51=>185 | n=>n,fun | 1=>3 | n=>n⟩
theorem Tryz.laysM145:Go.Proofs.LaysM.n145 Tryz.prog Tryz.laysM145_ren:={
 mixed:=by kernel_rfl
 f145:=Tryz.func156.trans (congrArg some (by kernel_rfl))
 f217:=Tryz.func185.trans (congrArg some (by kernel_rfl))
 f219:=Tryz.func186.trans (congrArg some (by kernel_rfl))
 f220:=Tryz.func178.trans (congrArg some (by kernel_rfl))
 f224:=Tryz.func174.trans (congrArg some (by kernel_rfl))
 f225:=Tryz.func175.trans (congrArg some (by kernel_rfl))
 f266:=Tryz.func194.trans (congrArg some (by kernel_rfl))
 f267:=Tryz.func195.trans (congrArg some (by kernel_rfl))
 f314:=Tryz.func206.trans (congrArg some (by kernel_rfl))
 t3:=Tryz.underlying3
 a3:=Tryz.isAgg3
 z3:=Tryz.sizeOf3
 v3:=Tryz.zeroValue3
 t4:=Tryz.underlying4
 a4:=Tryz.isAgg4
 z4:=Tryz.sizeOf4
 v4:=Tryz.zeroValue4
 t5:=Tryz.underlying5
 a5:=Tryz.isAgg5
 z5:=Tryz.sizeOf5
 v5:=Tryz.zeroValue5
 t9:=Tryz.underlying9
 a9:=Tryz.isAgg9
 z9:=Tryz.sizeOf9
 v9:=Tryz.zeroValue9
 t46:=Tryz.underlying184
 a46:=Tryz.isAgg184
 z46:=Tryz.sizeOf184
 v46:=Tryz.zeroValue184
 t51:=Tryz.underlying185
 a51:=Tryz.isAgg185
 z51:=Tryz.sizeOf185
 v51:=Tryz.zeroValue185
 t59:=Tryz.underlying168
 a59:=Tryz.isAgg168
 z59:=Tryz.sizeOf168
 v59:=Tryz.zeroValue168
 t146:=Tryz.underlying205
 a146:=Tryz.isAgg205
 z146:=Tryz.sizeOf205
 v146:=Tryz.zeroValue205
 g1:=by kernel_rfl
 i3:=by kernel_rfl
 i4:=by kernel_rfl
 i5:=by kernel_rfl
 i9:=by kernel_rfl
 i46:=by kernel_rfl
 i51:=by kernel_rfl
 i59:=by kernel_rfl
 i146:=by kernel_rfl
 m1:=by kernel_rfl
 s1_3:=fun w h=>Go.Proofs.cell_of_shapedOpen_int (zero:=#[.int .i64 0]) (t:=3) h (of_decide_eq_true (by kernel_rfl)) (by kernel_rfl) rfl (by kernel_rfl) (by kernel_rfl) Tryz.underlying3 }
def Tryz.lays151_ren:Go.Shelf.Ren:=⟨fun | 151=>126 | 152=>152 | 137=>172 | 119=>173 | 224=>174 | 225=>175 | 217=>185 | 266=>194 | n=>n,fun | 9=>9 | 21=>21 | 4=>4 | 3=>3 | 5=>5 | 0=>0 | 46=>184 | n=>n,fun | n=>n⟩
theorem Tryz.lays151:Go.Proofs.Lays.n151 Tryz.prog Tryz.lays151_ren:={
 mixed:=by kernel_rfl
 f119:=Tryz.func173.trans (congrArg some (by kernel_rfl))
 f137:=Tryz.func172.trans (congrArg some (by kernel_rfl))
 f151:=Tryz.func126.trans (congrArg some (by kernel_rfl))
 f152:=Tryz.func152.trans (congrArg some (by kernel_rfl))
 f217:=Tryz.func185.trans (congrArg some (by kernel_rfl))
 f224:=Tryz.func174.trans (congrArg some (by kernel_rfl))
 f225:=Tryz.func175.trans (congrArg some (by kernel_rfl))
 f266:=Tryz.func194.trans (congrArg some (by kernel_rfl))
 t0:=Tryz.underlying0
 a0:=Tryz.isAgg0
 z0:=Tryz.sizeOf0
 v0:=Tryz.zeroValue0
 t3:=Tryz.underlying3
 a3:=Tryz.isAgg3
 z3:=Tryz.sizeOf3
 v3:=Tryz.zeroValue3
 t4:=Tryz.underlying4
 a4:=Tryz.isAgg4
 z4:=Tryz.sizeOf4
 v4:=Tryz.zeroValue4
 t5:=Tryz.underlying5
 a5:=Tryz.isAgg5
 z5:=Tryz.sizeOf5
 v5:=Tryz.zeroValue5
 t9:=Tryz.underlying9
 a9:=Tryz.isAgg9
 z9:=Tryz.sizeOf9
 v9:=Tryz.zeroValue9
 t21:=Tryz.underlying21
 a21:=Tryz.isAgg21
 z21:=Tryz.sizeOf21
 v21:=Tryz.zeroValue21
 t46:=Tryz.underlying184
 a46:=Tryz.isAgg184
 z46:=Tryz.sizeOf184
 v46:=Tryz.zeroValue184 }
open Go.RowKit Go.Lib in
theorem Tryz.strings_ContainsRune_ascii (s:ByteArray) (r:Int) (w:World) (h0:0≤r) (h1:r<128) :
  Calls Tryz.prog 126 #[.string s,.int .i32 r] w fun e w'=>e=.returned (.bool (decide (0≤Lib.indexByte s.data.toList r.toNat.toUInt8)))∧w'=w:=Any.strings_ContainsRune_ascii Tryz.lays151 s r w h0 h1
def Tryz.lays153_ren:Go.Shelf.Ren:=⟨fun | 153=>155 | 152=>152 | 226=>176 | 227=>165 | 228=>177 | 137=>172 | 119=>173 | 224=>174 | 225=>175 | 217=>185 | 266=>194 | n=>n,fun | 9=>9 | 3=>3 | 4=>4 | 5=>5 | 21=>21 | 117=>174 | 116=>173 | 0=>0 | 46=>184 | 124=>177 | n=>n,fun | n=>n⟩
theorem Tryz.lays153:Go.Proofs.Lays.n153 Tryz.prog Tryz.lays153_ren:={
 mixed:=by kernel_rfl
 f119:=Tryz.func173.trans (congrArg some (by kernel_rfl))
 f137:=Tryz.func172.trans (congrArg some (by kernel_rfl))
 f152:=Tryz.func152.trans (congrArg some (by kernel_rfl))
 f153:=Tryz.func155.trans (congrArg some (by kernel_rfl))
 f217:=Tryz.func185.trans (congrArg some (by kernel_rfl))
 f224:=Tryz.func174.trans (congrArg some (by kernel_rfl))
 f225:=Tryz.func175.trans (congrArg some (by kernel_rfl))
 f226:=Tryz.func176.trans (congrArg some (by kernel_rfl))
 f227:=Tryz.func165.trans (congrArg some (by kernel_rfl))
 f228:=Tryz.func177.trans (congrArg some (by kernel_rfl))
 f266:=Tryz.func194.trans (congrArg some (by kernel_rfl))
 t0:=Tryz.underlying0
 a0:=Tryz.isAgg0
 z0:=Tryz.sizeOf0
 v0:=Tryz.zeroValue0
 t3:=Tryz.underlying3
 a3:=Tryz.isAgg3
 z3:=Tryz.sizeOf3
 v3:=Tryz.zeroValue3
 t4:=Tryz.underlying4
 a4:=Tryz.isAgg4
 z4:=Tryz.sizeOf4
 v4:=Tryz.zeroValue4
 t5:=Tryz.underlying5
 a5:=Tryz.isAgg5
 z5:=Tryz.sizeOf5
 v5:=Tryz.zeroValue5
 t9:=Tryz.underlying9
 a9:=Tryz.isAgg9
 z9:=Tryz.sizeOf9
 v9:=Tryz.zeroValue9
 t21:=Tryz.underlying21
 a21:=Tryz.isAgg21
 z21:=Tryz.sizeOf21
 v21:=Tryz.zeroValue21
 t46:=Tryz.underlying184
 a46:=Tryz.isAgg184
 z46:=Tryz.sizeOf184
 v46:=Tryz.zeroValue184
 t116:=Tryz.underlying173
 a116:=Tryz.isAgg173
 z116:=Tryz.sizeOf173
 t117:=Tryz.underlying174
 a117:=Tryz.isAgg174
 z117:=Tryz.sizeOf174
 v117:=Tryz.zeroValue174
 t124:=Tryz.underlying177
 a124:=Tryz.isAgg177
 z124:=Tryz.sizeOf177
 v124:=Tryz.zeroValue177 }
open Go.RowKit Go.Lib in
theorem Tryz.strings_IndexAny_laid (s chars:ByteArray) (w:World) (hs:s.size<4294967281) (hcs:chars.size<4294967281) (has:∀ (j:Nat) b,s.data.toList[j]?=some b→b.toNat<128) (hac:∀ (j:Nat) b,chars.data.toList[j]?=some b→b.toNat<128) :
  Calls Tryz.prog 155 #[.string s,.string chars] w fun e w'=>e=.returned (.int .i64 (Lib.indexAny s.data.toList chars.data.toList))∧Below w.heap.size w w':=Any.strings_IndexAny_laid Tryz.lays153 (by kernel_rfl) s chars w hs hcs has hac
def Tryz.lays197_ren:Go.Shelf.Ren:=⟨fun | 197=>146 | 260=>170 | n=>n,fun | 9=>9 | 21=>21 | 3=>3 | 4=>4 | 5=>5 | 105=>119 | 119=>180 | 0=>0 | 46=>184 | 139=>183 | 138=>182 | n=>n,fun | 3=>1 | 4=>2 | n=>n⟩
theorem Tryz.lays197:Go.Proofs.Lays.n197 Tryz.prog Tryz.lays197_ren:={
 mixed:=by kernel_rfl
 f197:=Tryz.func146.trans (congrArg some (by kernel_rfl))
 f260:=Tryz.func170.trans (congrArg some (by kernel_rfl))
 t0:=Tryz.underlying0
 a0:=Tryz.isAgg0
 z0:=Tryz.sizeOf0
 v0:=Tryz.zeroValue0
 t3:=Tryz.underlying3
 a3:=Tryz.isAgg3
 z3:=Tryz.sizeOf3
 v3:=Tryz.zeroValue3
 t4:=Tryz.underlying4
 a4:=Tryz.isAgg4
 z4:=Tryz.sizeOf4
 v4:=Tryz.zeroValue4
 t5:=Tryz.underlying5
 a5:=Tryz.isAgg5
 z5:=Tryz.sizeOf5
 v5:=Tryz.zeroValue5
 t9:=Tryz.underlying9
 a9:=Tryz.isAgg9
 z9:=Tryz.sizeOf9
 v9:=Tryz.zeroValue9
 t21:=Tryz.underlying21
 a21:=Tryz.isAgg21
 z21:=Tryz.sizeOf21
 v21:=Tryz.zeroValue21
 t46:=Tryz.underlying184
 a46:=Tryz.isAgg184
 z46:=Tryz.sizeOf184
 v46:=Tryz.zeroValue184
 t105:=Tryz.underlying119
 a105:=Tryz.isAgg119
 z105:=Tryz.sizeOf119
 v105:=Tryz.zeroValue119
 t119:=Tryz.underlying180
 a119:=Tryz.isAgg180
 z119:=Tryz.sizeOf180
 t138:=Tryz.underlying182
 a138:=Tryz.isAgg182
 z138:=Tryz.sizeOf182
 v138:=Tryz.zeroValue182
 t139:=Tryz.underlying183
 a139:=Tryz.isAgg183
 z139:=Tryz.sizeOf183
 v139:=Tryz.zeroValue183
 g3:=by kernel_rfl
 g4:=by kernel_rfl }
open Go.RowKit Go.Lib in
theorem Tryz.utf8_DecodeRuneInString (s:ByteArray) (w:World) (hT:Lib.Utf8Tabs 1 2 w) :
  Calls Tryz.prog 146 #[.string s] w fun e w'=>e=.returned (.tuple #[.int .i32 (Lib.decodeGo s).1,.int .i64 (Lib.decodeGo s).2])∧Below w.heap.size w w':=Any.utf8_DecodeRuneInString Tryz.lays197 s w hT
def Tryz.lays7n32_ren:Go.Shelf.Ren:=⟨fun | 32=>120 | 49=>147 | n=>n,fun | 30=>22 | 21=>21 | 3=>3 | 0=>0 | 5=>5 | 4=>4 | 33=>119 | 66=>180 | 25=>184 | 69=>183 | 68=>182 | n=>n,fun | 2=>1 | 3=>2 | n=>n⟩
theorem Tryz.lays7n32:Go.Proofs.Lays7.n32 Tryz.prog Tryz.lays7n32_ren:={
 mixed:=by kernel_rfl
 f32:=Tryz.func120.trans (congrArg some (by kernel_rfl))
 f49:=Tryz.func147.trans (congrArg some (by kernel_rfl))
 t0:=Tryz.underlying0
 a0:=Tryz.isAgg0
 z0:=Tryz.sizeOf0
 v0:=Tryz.zeroValue0
 i0:=by kernel_rfl
 t3:=Tryz.underlying3
 a3:=Tryz.isAgg3
 z3:=Tryz.sizeOf3
 v3:=Tryz.zeroValue3
 i3:=by kernel_rfl
 t4:=Tryz.underlying4
 a4:=Tryz.isAgg4
 z4:=Tryz.sizeOf4
 v4:=Tryz.zeroValue4
 i4:=by kernel_rfl
 t5:=Tryz.underlying5
 a5:=Tryz.isAgg5
 z5:=Tryz.sizeOf5
 v5:=Tryz.zeroValue5
 i5:=by kernel_rfl
 t21:=Tryz.underlying21
 a21:=Tryz.isAgg21
 z21:=Tryz.sizeOf21
 v21:=Tryz.zeroValue21
 i21:=by kernel_rfl
 t25:=Tryz.underlying184
 a25:=Tryz.isAgg184
 z25:=Tryz.sizeOf184
 v25:=Tryz.zeroValue184
 i25:=by kernel_rfl
 t30:=Tryz.underlying22
 a30:=Tryz.isAgg22
 z30:=Tryz.sizeOf22
 v30:=Tryz.zeroValue22
 i30:=by kernel_rfl
 t33:=Tryz.underlying119
 a33:=Tryz.isAgg119
 z33:=Tryz.sizeOf119
 v33:=Tryz.zeroValue119
 i33:=by kernel_rfl
 t66:=Tryz.underlying180
 a66:=Tryz.isAgg180
 z66:=Tryz.sizeOf180
 t68:=Tryz.underlying182
 a68:=Tryz.isAgg182
 z68:=Tryz.sizeOf182
 v68:=Tryz.zeroValue182
 i68:=by kernel_rfl
 t69:=Tryz.underlying183
 a69:=Tryz.isAgg183
 z69:=Tryz.sizeOf183
 v69:=Tryz.zeroValue183
 i69:=by kernel_rfl
 g2:=by kernel_rfl
 g3:=by kernel_rfl }
open Go.RowKit Go.Lib in
theorem Tryz.utf8_DecodeRune (s:ByteArray) (b off cap:Nat) (w:World) (hT:Lib.Utf8Tabs 1 2 w)
  (hp:∀ j,j<s.size→w.cell? ⟨b,off+j,none⟩=some (.int .u8 (s.get! j).toNat)) :
  Calls Tryz.prog 120 #[.slice (some ⟨b,off,none⟩) s.size cap] w fun e w'=>e=.returned (.tuple #[.int .i32 (Lib.decodeGo s).1,.int .i64 (Lib.decodeGo s).2])∧Below w.heap.size w w':=Any7.utf8_DecodeRune Tryz.lays7n32 s b off cap w hT hp
def Tryz.laysValid_ren:Go.Shelf.Ren:=⟨fun | 196=>145 | 259=>169 | n=>n,fun | 9=>9 | 4=>4 | 3=>3 | 5=>5 | 12=>12 | 119=>180 | 0=>0 | 46=>184 | 139=>183 | 138=>182 | 53=>188 | n=>n,fun | 3=>1 | 4=>2 | n=>n⟩
theorem Tryz.laysValid:Go.Proofs.Lays.n196 Tryz.prog Tryz.laysValid_ren:={
 mixed:=by kernel_rfl
 f196:=Tryz.func145.trans (congrArg some (by kernel_rfl))
 f259:=Tryz.func169.trans (congrArg some (by kernel_rfl))
 t0:=Tryz.underlying0
 a0:=Tryz.isAgg0
 z0:=Tryz.sizeOf0
 v0:=Tryz.zeroValue0
 t3:=Tryz.underlying3
 a3:=Tryz.isAgg3
 z3:=Tryz.sizeOf3
 v3:=Tryz.zeroValue3
 t4:=Tryz.underlying4
 a4:=Tryz.isAgg4
 z4:=Tryz.sizeOf4
 v4:=Tryz.zeroValue4
 t5:=Tryz.underlying5
 a5:=Tryz.isAgg5
 z5:=Tryz.sizeOf5
 v5:=Tryz.zeroValue5
 t9:=Tryz.underlying9
 a9:=Tryz.isAgg9
 z9:=Tryz.sizeOf9
 v9:=Tryz.zeroValue9
 t12:=Tryz.underlying12
 a12:=Tryz.isAgg12
 z12:=Tryz.sizeOf12
 v12:=Tryz.zeroValue12
 t46:=Tryz.underlying184
 a46:=Tryz.isAgg184
 z46:=Tryz.sizeOf184
 v46:=Tryz.zeroValue184
 t53:=Tryz.underlying188
 a53:=Tryz.isAgg188
 z53:=Tryz.sizeOf188
 v53:=Tryz.zeroValue188
 t119:=Tryz.underlying180
 a119:=Tryz.isAgg180
 z119:=Tryz.sizeOf180
 t138:=Tryz.underlying182
 a138:=Tryz.isAgg182
 z138:=Tryz.sizeOf182
 v138:=Tryz.zeroValue182
 t139:=Tryz.underlying183
 a139:=Tryz.isAgg183
 z139:=Tryz.sizeOf183
 v139:=Tryz.zeroValue183
 g3:=by kernel_rfl
 g4:=by kernel_rfl }
open Go.RowKit Go.Lib in
theorem Tryz.utf8_ValidString (s:ByteArray) (w:World) (hs:s.size≤9223372036854775807) (hT:Lib.Utf8Tabs 1 2 w) :
  Calls Tryz.prog 145 #[.string s] w fun e w'=>e=.returned (.bool (Lib.validD s.data.toList))∧Below w.heap.size w w':=Any.utf8_ValidString Tryz.laysValid s w hs hT
end Go.Proofs
namespace Go.Proofs.YtfhdihdafmahgaaGreatDoor
open Go.RowKit
namespace Fx
def isD (b:UInt8):Bool:=decide (48≤b.toNat∧b.toNat≤57)
def digs (l:List UInt8):Nat:=(l.takeWhile isD).length
def sgn:List UInt8→Nat
 | []=>0
 | b::_=>if b.toNat=43∨b.toNat=45 then 1 else 0
def isE (b:Option UInt8):Bool:=match b with
 | some b=>decide (b.toNat=101∨b.toNat=69)
 | none=>false
def expLen (l:List UInt8):Nat:=if 0<digs (l.drop (sgn l)) then sgn l+digs (l.drop (sgn l)) else 0
def bodyLen (l:List UInt8):Nat :=
 let a:=sgn l+digs (l.drop (sgn l))
 if l[a]?=some 46∧0<digs (l.drop (a+1)) then a+1+digs (l.drop (a+1)) else a
def some_ (l:List UInt8):Bool :=
 let a:=sgn l+digs (l.drop (sgn l))
 decide (0<digs (l.drop (sgn l))∨(l[a]?=some 46∧0<digs (l.drop (a+1))))
def lenP (l:List UInt8):Nat :=
 if some_ l=false then 0 else
 let a:=bodyLen l
 if isE l[a]?=true∧0<expLen (l.drop (a+1)) then a+1+expLen (l.drop (a+1)) else a
end Fx
open Fx
theorem digs_le (l:List UInt8):digs l≤l.length:=by
 unfold digs
 exact(List.takeWhile_prefix isD).length_le
theorem sgn_le (l:List UInt8):sgn l≤l.length∧sgn l≤1:=by
 cases l with
 | nil=>simp[sgn]
 | cons b l=>simp only[sgn];split<;>simp
def digitText:ByteArray:=⟨#[48,49,50,51,52,53,54,55,56,57]⟩
theorem digit_in:∀ b:Fin 256,digitText.data.toList.contains (UInt8.ofNat b.val)=isD (UInt8.ofNat b.val):=by decide +kernel
theorem digit_in' (b:UInt8):digitText.data.toList.contains b=isD b:=by
 have h:=digit_in ⟨b.toNat,b.toNat_lt⟩;have e:UInt8.ofNat b.toNat=b:=by simp
 simp only[e] at h
 exact h
theorem trim_digits (l:List UInt8):Lib.trimLeftS l digitText.data.toList=l.drop (digs l):=by
 unfold Lib.trimLeftS digs;have:(fun b=>digitText.data.toList.contains b)=isD:=funext digit_in';rw[this]
 induction l with
 | nil=>rfl
 | cons b l ih =>
  cases h:isD b with
  | true=>simp[List.dropWhile_cons,List.takeWhile_cons,h,ih]
  | false=>simp[List.dropWhile_cons,List.takeWhile_cons,h]
theorem fx_digits (l:List UInt8) (w:World) (hl:l.length≤9223372036854775807) :
  Calls Tryz.prog 154 #[.string (bytesOf l)] w fun e w'=>e=.returned (.int .i64 (digs l:Nat))∧Below w.heap.size w w':=by
 have hd:=digs_le l;have hs:=bytesOf_size l;have hs2:=bytesOf_size (l.drop (digs l));rw[List.length_drop] at hs2;have Hs:=Lib.hid hs;have Hs2:=Lib.hid hs2;clear hs hs2
 go_enter Tryz.func154,Tryz.ntmps154
 go_wp2_with fail
 refine(Any.strings_TrimLeft_laid Tryz.lays161 (by kernel_rfl) (bytesOf l) digitText w (by decide) (ascii_of_all (by decide))).mono ?_
 rintro e w1 ⟨rfl,hb⟩;rw[bytesOf_list,trim_digits];rw[show (⟨(List.drop (digs l) l).toArray⟩:ByteArray)=bytesOf (l.drop (digs l)) from rfl]
 go_wp2_with fail
 go_ret
 refine⟨ret_int ?_,hb⟩
 rw[Hs.out,Hs2.out,IntWalk.wrap64_in _ (by omega)]
 omega
theorem fx_sign (l:List UInt8) (w:World) (hl:l.length≤9223372036854775807) :
  Calls Tryz.prog 153 #[.string (bytesOf l)] w fun e w'=>e=.returned (.int .i64 (sgn l:Nat))∧w=w':=by
 cases l with
 | nil =>
  obtain⟨e1,e2⟩:=str_none
  go_enter Tryz.func153,Tryz.ntmps153
  go_wp2
  go_ret
  exact⟨rfl,rfl⟩
 | cons b l =>
  have hat:=str_at (P:=Tryz.prog) (T:=9) Tryz.underlying9 (b::l) .i64 0 b rfl;rw[Int.ofNat_zero] at hat;obtain⟨e1,e2⟩:=str_some (l:=b::l) (by simp);have hv:sgn (b::l)=if b.toNat=43∨b.toNat=45 then 1 else 0:=rfl
  by_cases h1:b.toNat=43
  ·rw[if_pos (.inl h1)] at hv
   have Hv:=Lib.hid hv;clear hv;rw[h1] at hat
   go_enter Tryz.func153,Tryz.ntmps153
   go_wp2
   go_ret
   exact⟨ret_int (by rw[Hv.out];rfl),rfl⟩
  ·by_cases h2:b.toNat=45
   ·rw[if_pos (.inr h2)] at hv
    have Hv:=Lib.hid hv;clear hv;rw[h2] at hat
    go_enter Tryz.func153,Tryz.ntmps153
    go_wp2
    go_ret
    exact⟨ret_int (by rw[Hv.out];rfl),rfl⟩
   ·have hc1:((b.toNat:Int) == 43)=false:=byte_ne h1
    have hc2:((b.toNat:Int) == 45)=false:=byte_ne h2;rw[if_neg (by omega)] at hv;have Hv:=Lib.hid hv;clear hv
    go_enter Tryz.func153,Tryz.ntmps153
    go_wp2
    go_ret
    exact⟨ret_int (by rw[Hv.out];rfl),rfl⟩
end Go.Proofs.YtfhdihdafmahgaaGreatDoor
namespace Go.Proofs.YtfhdihdafmahgaaGreatDoor
open Go.RowKit
namespace Fx
def stopZ (n:Int):Int:=if 1099511627776<n then 1099511627776 else if n < -1099511627776 then -1099511627776 else n
end Fx
open Fx
theorem stopZ_range (n:Int):-1099511627776≤stopZ n∧stopZ n≤1099511627776:=by unfold stopZ;(repeat' split)<;>omega
theorem fx_stop (n:Int) (w:World) (h1:-9223372036854775808≤n) (h2:n≤9223372036854775807) :
  Calls Tryz.prog 116 #[.int .i64 n] w fun e w'=>e=.returned (.int .i64 (stopZ n))∧w=w':=by
 by_cases c1:1099511627776<n
 ·go_enter Tryz.func116,Tryz.ntmps116
  go_wp2
  all_goals (go_ret;refine⟨ret_int ?_,rfl⟩;unfold stopZ;(repeat' split)<;>omega)
 ·by_cases c2:n < -1099511627776
  ·go_enter Tryz.func116,Tryz.ntmps116
   go_wp2
   all_goals (go_ret;refine⟨ret_int ?_,rfl⟩;unfold stopZ;(repeat' split)<;>omega)
  ·go_enter Tryz.func116,Tryz.ntmps116
   go_wp2
   all_goals (go_ret;refine⟨ret_int ?_,rfl⟩;unfold stopZ;(repeat' split)<;>omega)
end Go.Proofs.YtfhdihdafmahgaaGreatDoor
namespace Go.Proofs.YtfhdihdafmahgaaGreatDoor
open Go.RowKit Fx
end Go.Proofs.YtfhdihdafmahgaaGreatDoor
namespace Go.Proofs.YtfhdihdafmahgaaGreatDoor
open Go.RowKit
section
variable {P:Program} (w:World)
theorem run_append_nil_src (base:Nat) (t ty e:TypeId) (i:TypeInfo) (size:Nat) (ht:P.underlying t=some (.slice e)) (hi:P.info? e=some i)
  (v:Value) (n:Nat) (xs:List Value) (hown:w.ownsRow base e size v n xs) (c:Nat):(Builtin.append_ #[t,t] ty #[v,.slice none 0 c]).run P w=.ok v w:=by
 rcases hown.2 with⟨rfl,rfl⟩ | ⟨g,cap,cur,rfl,_,_,hnc,_⟩
 ·simp[Builtin.append_,run_underlying ht,sizeOf,typeInfo,hi,Builtin.lenOf,Builtin.firstCells]
 ·simp[Builtin.append_,run_underlying ht,sizeOf,typeInfo,hi,Builtin.lenOf,Builtin.firstCells,hnc,storeCells]
theorem run_append_reads (base:Nat) (t ty e:TypeId) (i:TypeInfo) (z:Value) (size bytes:Nat) (ht:P.underlying t=some (.slice e)) (hi:P.info? e=some i) (hz:i.zero=some z)
  (hsize:i.size=size) (hby:i.bytes=bytes) (hzs:z.cells.size=size) (hsz:0<size)
  (v:Value) (n:Nat) (xs:List Value) (hown:w.ownsRow base e size v n xs)
  (B:Nat) (A:Option Addr) (m c:Nat) (news:List Value) (hr:Reads w B size A m news) (h1:∀ u∈news,u.oneCell'=true)
  (h63:n+m≤maxLen) (hbytes:(n+m) * bytes≤140737488355328) (hbase:base≤w.heap.size) :
  ∃ v' w',(Builtin.append_ #[t,t] ty #[v,.slice A m c]).run P w=.ok v' w'∧w'.ownsRow base e size v' (n+m) (xs++news)∧w.grownBy w' v.ownBlock:=by
 cases A with
 | none =>
  have hm:m=0:=by
   rcases Nat.eq_zero_or_pos m with h0 | h0
   ·exact h0
   ·obtain⟨b,off,h,_⟩:=hr.2 h0
    cases h
  subst hm;have hn:news=[]:=List.eq_nil_of_length_eq_zero (by simpa using hr.1);subst hn
  exact⟨v,w,run_append_nil_src w base t ty e i size ht hi v n xs hown c,by simpa using hown,World.grownBy.refl w _⟩
 | some ad =>
  have hcells:∀ j u,news[j]?=some u→w.cell? (ad.add j)=some u:=by
   intro j u hu
   rcases Nat.eq_zero_or_pos m with h0 | h0
   ·subst h0
    have hn:news=[]:=List.eq_nil_of_length_eq_zero (by simpa using hr.1);subst hn
    simp at hu
   ·obtain⟨b,off,h,_,hc⟩:=hr.2 h0
    injection h with h
    subst h;have ha:(⟨b,off,none⟩:Addr).add j=⟨b,off+j,none⟩:=by unfold Addr.add;split<;>simp_all
    rw[ha];exact hc j u hu
  obtain⟨v',w',hrun,h2,h3,_⟩:=run_append_own_at (P:=P) w base t ty e i z size bytes ht hi hz hsize hby hzs hsz v n xs hown ad m c news hr.1 hcells h1 h63 hbytes hbase
  exact⟨v',w',hrun,h2,h3⟩
theorem wp_append_reads {o:Oper} {a:Act} {K:Act→World→Prop} {Q:Exit→Act→World→Prop} (s x:Operand) (t:TypeId)
  (ho:o.op=.call { callee:=.builtin .append,args:=#[s,x],argTypes:=#[t,t] })
  (base:Nat) (e:TypeId) (i:TypeInfo) (z:Value) (size bytes:Nat) (ht:P.underlying t=some (.slice e)) (hi:P.info? e=some i) (hz:i.zero=some z)
  (hsize:i.size=size) (hby:i.bytes=bytes) (hzs:z.cells.size=size) (hsz:0<size)
  (v:Value) (n:Nat) (xs:List Value) (hs:a.eval s=v) (hown:w.ownsRow base e size v n xs)
  (B:Nat) (A:Option Addr) (m c:Nat) (news:List Value) (hx:a.eval x=.slice A m c) (hr:Reads w B size A m news) (h1:∀ u∈news,u.oneCell'=true)
  (h63:n+m≤maxLen) (hbytes:(n+m) * bytes≤140737488355328) (hbase:base≤w.heap.size)
  (h:∀ v' w',w'.ownsRow base e size v' (n+m) (xs++news)→w.grownBy w' v.ownBlock→K (a.put o.dst v') w'):o.wp P a w K Q:=by
 obtain⟨v',w',hrun,h2,h3⟩:=run_append_reads (P:=P) w base t o.type e i z size bytes ht hi hz hsize hby hzs hsz v n xs hown B A m c news hr h1 h63 hbytes hbase;unfold Oper.wp execOp;simp only[ho,resolve,invoke,builtin,Sem.run_bind,Sem.run_pure,Result.andThen_ok,List.map_toArray,List.map_cons,List.map_nil,hs,hx,hrun]
 exact h v' w' h2 h3
theorem wpList_append_reads {ops:Array Oper} {rest:List Oper} {o:Oper} {a:Act} {Q:Exit→Act→World→Prop} (hgd:o.guard=none) (s x:Operand) (t:TypeId)
  (ho:o.op=.call { callee:=.builtin .append,args:=#[s,x],argTypes:=#[t,t] })
  (base:Nat) (e:TypeId) (i:TypeInfo) (z:Value) (size bytes:Nat) (ht:P.underlying t=some (.slice e)) (hi:P.info? e=some i) (hz:i.zero=some z)
  (hsize:i.size=size) (hby:i.bytes=bytes) (hzs:z.cells.size=size) (hsz:0<size)
  (v:Value) (n:Nat) (xs:List Value) (hs:a.eval s=v) (hown:w.ownsRow base e size v n xs)
  (B:Nat) (A:Option Addr) (m c:Nat) (news:List Value) (hx:a.eval x=.slice A m c) (hr:Reads w B size A m news) (h1:∀ u∈news,u.oneCell'=true)
  (h63:n+m≤maxLen) (hbytes:(n+m) * bytes≤140737488355328) (hbase:base≤w.heap.size)
  (h:∀ v' w',w'.ownsRow base e size v' (n+m) (xs++news)→w.grownBy w' v.ownBlock→wpList P ops Q rest (a.put o.dst v') w'):wpList P ops Q (o::rest) a w :=
 wpList_plain hgd fun _ hK=>wp_append_reads w s x t ho base e i z size bytes ht hi hz hsize hby hzs hsz v n xs hs hown B A m c news hx hr h1 h63 hbytes hbase fun v' w' h2 h3=>hK _ _ (h v' w' h2 h3)
end
section
variable {w w1 w2:World} {B size n:Nat} {e:TypeId} {v:Value} {xs:List Value}
end
structure BW (B:Nat) (w:World) where
 val:World
 is:Below B w val
instance {B:Nat} {w:World}:Nonempty (BW B w):=⟨⟨w,Below.refl B w⟩⟩
theorem wp_region_bw {P:Program} (B:Nat) {id:Nat} {Q:Exit→Act→World→Prop} {a:Act} {w:World} {l:List Oper} (hm:P.follows .mixedOrders=true) (hB:Region.lexB .any l.toArray=true)
  (h:wpQuiet P l.toArray (fun w'=>∃ W:BW B w,w'=W.val) (fun a'=>∀ w',(∃ W:BW B w,w'=W.val)→Q .normal a' w') l a):(Code.region id l.toArray true).wp P Q a w :=
 wp_region_quiet (C:=fun w'=>∃ W:BW B w,w'=W.val) hm hB ⟨⟨_,(Below.refl B w).drew⟩,rfl⟩ (by simpa using h)
theorem calls_bw {P:Program} {f:FuncId} {args:Array Value} {B:Nat} {w:World} (hB:B≤w.heap.size) {W:BW B w} {v:Value}
  (h:Calls P f args W.val fun e w'=>e=.returned v∧Below W.val.heap.size W.val w'):Calls P f args W.val fun e w''=>e=.returned v∧∃ W':BW B w,w''=W'.val :=
 h.mono fun _ w' ⟨he,hb⟩=>⟨he,⟨w',W.is.trans (hb.mono (Nat.le_trans hB W.is.size))⟩,rfl⟩
theorem calls_bw_same {P:Program} {f:FuncId} {args:Array Value} {B:Nat} {w:World} {W:BW B w} {v:Value}
  (h:Calls P f args W.val fun e w'=>e=.returned v∧W.val=w'):Calls P f args W.val fun e w''=>e=.returned v∧∃ W':BW B w,w''=W'.val :=
 h.mono fun _ w' ⟨he,hb⟩=>⟨he,W,hb.symm⟩
theorem bw_cell {B:Nat} {w:World} {p:Addr} {v:Value} (h:w.cell? p=some v) (hp:p.block<B):∀ W:BW B w,W.val.cell? p=some v:=fun W=>(W.is.cell hp).trans h
end Go.Proofs.YtfhdihdafmahgaaGreatDoor
namespace Go.Proofs.YtfhdihdafmahgaaGreatDoor
open Go.RowKit Fx
theorem rfx_stop (n:Int) (w:World) (h1:-9223372036854775808≤n) (h2:n≤9223372036854775807) :
  Calls Tryz.prog 136 #[.int .i64 n] w fun e w'=>e=.returned (.int .i64 (stopZ n))∧w=w':=by
 go_enter Tryz.func136,Tryz.ntmps136
 go_wp2
 all_goals (go_ret;refine⟨ret_int ?_,rfl⟩;unfold stopZ;(repeat' split)<;>omega)
end Go.Proofs.YtfhdihdafmahgaaGreatDoor
