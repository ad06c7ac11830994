import Derived.Test.YtfhdihdafmahgaaGreatDoorR03
set_option linter.unusedVariables false
set_option linter.unusedSimpArgs false
namespace Go.Proofs.YtfhdihdafmahgaaGreatDoor
open Go.RowKit Rn Tk
structure GTok where
 kind:Int
 text:List UInt8
 n:Int
deriving DecidableEq
def Tk.Tok.g (t:Tok):GTok:=⟨t.kind,t.text,t.n⟩
def cells1 (t:GTok):List Value:=[.int .i64 t.kind,.string (bytesOf t.text),.int .i64 t.n]
def cellsG (l:List GTok):List Value:=l.flatMap cells1
def toksV (l:List Tok):List Value:=cellsG (l.map Tok.g)
theorem toksV_snoc (l:List Tok) (t:Tok):toksV (l++[t])=toksV l++[.int .i64 (t.kind:Int),.string (bytesOf t.text),.int .i64 t.n]:=by simp[toksV,cellsG,cells1,Tok.g]
theorem cells_new3 (w:World) (e:TypeId) (a b c:Value):∀ j u,[a,b,c][j]?=some u→(w.alloc (.cells #[a,b,c] e)).cell? ((⟨w.heap.size,0,none⟩:Addr).add j)=some u:=by
 intro j u hu;have h:=((RowAt.new w e #[a,b,c]).2 j u hu).1;have ha:(⟨w.heap.size,0,none⟩:Addr).add j=⟨w.heap.size,j,none⟩:=by unfold Addr.add;split<;>simp_all
 rw[ha];exact h
end Go.Proofs.YtfhdihdafmahgaaGreatDoor
namespace Go.Proofs.YtfhdihdafmahgaaGreatDoor
open Go.RowKit Rn Tk Fx
namespace Np
def asciiT (r:List Int):List UInt8:=(r.takeWhile (fun c=>decide (c<128))).map Tk.byteOf
def numU (b:UInt8):Bool:=isD b || decide (b.toNat=43∨b.toNat=45∨b.toNat=46∨b.toNat=101∨b.toNat=69)
def StopY (y:List UInt8):Prop:=∀ b t,y=b::t→numU b=false
theorem stop_isD {y:List UInt8} (h:StopY y):digs y=0:=by
 cases y with
 | nil=>rfl
 | cons b t =>
  have:=h b t rfl;unfold numU at this
  simp at this
  unfold digs;rw[List.takeWhile_cons,if_neg (by simp[this.1])];rfl
theorem digs_app (x y:List UInt8) (h:StopY y):digs (x++y)=digs x:=by
 induction x with
 | nil=>rw[List.nil_append,stop_isD h];rfl
 | cons b t ih =>
  unfold digs at ih ⊢;rw[List.cons_append,List.takeWhile_cons,List.takeWhile_cons]
  split
  ·simp only[List.length_cons,ih]
  ·rfl
theorem drop_app (x y:List UInt8) {i:Nat} (hi:i≤x.length):(x++y).drop i=x.drop i++y:=by
 rw[List.drop_append_of_le_length hi]
theorem sgn_app (x y:List UInt8) (h:StopY y):sgn (x++y)=sgn x:=by
 cases x with
 | nil =>
  cases y with
  | nil=>rfl
  | cons b t =>
   have:=h b t rfl;unfold numU at this
   simp at this
   show (if b.toNat=43∨b.toNat=45 then 1 else 0)=0
   rw[if_neg (by omega)]
 | cons b t=>rfl
theorem get_app (x y:List UInt8) (h:StopY y) {i:Nat} (hi:i≤x.length):((x++y)[i]?=some 46↔x[i]?=some 46)∧isE (x++y)[i]?=isE x[i]?:=by
 by_cases hl:i<x.length
 ·rw[List.getElem?_append_left hl];exact⟨Iff.rfl,rfl⟩
 ·rw[List.getElem?_append_right (by omega),show i-x.length=0 by omega,List.getElem?_eq_none (by omega:x.length≤i)]
  cases y with
  | nil=>exact⟨Iff.rfl,rfl⟩
  | cons b t =>
   have:=h b t rfl;unfold numU at this
   simp at this
   refine⟨⟨fun hb=>?_,fun hb=>by cases hb⟩,?_⟩
   ·simp at hb;subst hb;exact absurd rfl this.2.2.2.1
   ·simp[isE];omega
theorem sgn_len (x:List UInt8):sgn x≤x.length:=by
 cases x with
 | nil=>exact Nat.le_refl _
 | cons b t=>simp only[sgn,List.length_cons];split<;>omega
theorem exp_app (x y:List UInt8) (h:StopY y):expLen (x++y)=expLen x:=by
 unfold expLen;rw[sgn_app x y h,drop_app x y (sgn_len x),digs_app _ y h]
theorem int_len (x:List UInt8):sgn x+digs (x.drop (sgn x))≤x.length:=by
 have h1:=sgn_len x;have h2:=digs_le (x.drop (sgn x));rw[List.length_drop] at h2;omega
theorem frac_app (x y:List UInt8) (h:StopY y) {a:Nat} (ha:a≤x.length):((x++y)[a]?=some 46∧0<digs ((x++y).drop (a+1)))↔(x[a]?=some 46∧0<digs (x.drop (a+1))):=by
 have hg:=(get_app x y h ha).1
 constructor
 ·rintro⟨h1,h2⟩
  have h3:=hg.1 h1;have hlt:=(List.getElem?_eq_some_iff.1 h3).1;rw[drop_app x y (by omega),digs_app _ y h] at h2
  exact⟨h3,h2⟩
 ·rintro⟨h1,h2⟩
  have hlt:=(List.getElem?_eq_some_iff.1 h1).1;rw[drop_app x y (by omega),digs_app _ y h]
  exact⟨hg.2 h1,h2⟩
theorem body_app (x y:List UInt8) (h:StopY y):bodyLen (x++y)=bodyLen x:=by
 unfold bodyLen;simp only[sgn_app x y h,drop_app x y (sgn_len x),digs_app _ y h];have hf:=frac_app x y h (int_len x)
 by_cases hc:x[sgn x+digs (x.drop (sgn x))]?=some 46∧0<digs (x.drop (sgn x+digs (x.drop (sgn x))+1))
 ·have hlt:=(List.getElem?_eq_some_iff.1 hc.1).1
  rw[if_pos hc,if_pos (hf.2 hc),drop_app x y (by omega),digs_app _ y h]
 ·rw[if_neg hc,if_neg (fun h'=>hc (hf.1 h'))]
theorem some_app (x y:List UInt8) (h:StopY y):some_ (x++y)=some_ x:=by
 unfold some_;simp only[sgn_app x y h,drop_app x y (sgn_len x),digs_app _ y h];rw[Bool.eq_iff_iff,decide_eq_true_iff,decide_eq_true_iff,frac_app x y h (int_len x)]
theorem body_len (x:List UInt8):bodyLen x≤x.length:=by
 unfold bodyLen;simp only
 split
 ·rename_i hc
  have hlt:=(List.getElem?_eq_some_iff.1 hc.1).1;have:=digs_le (x.drop (sgn x+digs (x.drop (sgn x))+1));rw[List.length_drop] at this;omega
 ·exact int_len x
theorem len_app (x y:List UInt8) (h:StopY y):lenP (x++y)=lenP x:=by
 unfold lenP;rw[some_app x y h]
 split
 ·rfl
 simp only[body_app x y h];have hb:=body_len x;have hg:=(get_app x y h hb).2;rw[hg]
 by_cases he:isE x[bodyLen x]?=true
 ·have hlt:bodyLen x<x.length:=by
   by_cases hl:bodyLen x<x.length
   ·exact hl
   ·rw[List.getElem?_eq_none (by omega)] at he;cases he
  rw[drop_app x y (by omega),exp_app _ y h]
 ·rw[if_neg (fun h'=>he h'.1),if_neg (fun h'=>he h'.1)]
theorem numU_byte {c:Int} (h0:0≤c) (h1:c<128):numU (Tk.byteOf c)=numB c:=by
 have:∀ k:Fin 128,numU (Tk.byteOf (k.val:Int))=numB (k.val:Int):=by decide +kernel
 have h:=this ⟨c.toNat,by omega⟩;have e:((c.toNat:Nat):Int)=c:=by omega
 simp only[e] at h;exact h
theorem ascii_num (r:List Int) (hr:∀ c∈r,0≤c):∃ y,asciiT r=numText r++y∧StopY y:=by
 induction r with
 | nil=>exact⟨[],rfl,fun b t h=>by cases h⟩
 | cons c r ih =>
  obtain⟨y,h1,h2⟩:=ih (fun d hd=>hr d (by simp[hd]));have hc:=hr c (by simp);unfold asciiT numText at *
  cases hb:numB c with
  | true =>
   have hlt:c<128:=by unfold numB at hb;simp at hb;omega
   have e1:(c::r).takeWhile (fun c=>decide (c<128))=c::r.takeWhile (fun c=>decide (c<128)):=by rw[List.takeWhile_cons];simp[hlt]
   have e2:(c::r).takeWhile numB=c::r.takeWhile numB:=by rw[List.takeWhile_cons,hb];rfl
   rw[e1,e2,List.map_cons,List.map_cons,h1]
   exact⟨y,rfl,h2⟩
  | false =>
   have e2:(c::r).takeWhile numB=[]:=by rw[List.takeWhile_cons,hb];rfl
   rw[e2]
   refine⟨_,(List.nil_append _).symm,?_⟩
   intro b t hbt
   by_cases hlt:c<128
   ·have e1:(c::r).takeWhile (fun c=>decide (c<128))=c::r.takeWhile (fun c=>decide (c<128)):=by rw[List.takeWhile_cons];simp[hlt]
    rw[e1,List.map_cons] at hbt
    injection hbt with e1 e2
    rw[← e1,numU_byte hc hlt,hb]
   ·have e1:(c::r).takeWhile (fun c=>decide (c<128))=[]:=by rw[List.takeWhile_cons];simp[hlt]
    rw[e1] at hbt
    cases hbt
theorem len_ascii (r:List Int) (hr:∀ c∈r,0≤c):lenP (asciiT r)=lenP (numText r)∧(asciiT r).take (lenP (numText r))=(numText r).take (lenP (numText r)):=by
 obtain⟨y,h1,h2⟩:=ascii_num r hr
 refine⟨by rw[h1,len_app _ y h2],?_⟩
 rw[h1,List.take_append_of_le_length];unfold lenP
 split
 ·exact Nat.zero_le _
 simp only;have hb:=body_len (numText r)
 split
 ·rename_i hc
  have hlt:bodyLen (numText r)<(numText r).length:=by
   by_cases hl:bodyLen (numText r)<(numText r).length
   ·exact hl
   ·rw[List.getElem?_eq_none (by omega)] at hc;simp[isE] at hc
  have h3:expLen ((numText r).drop (bodyLen (numText r)+1))≤((numText r).drop (bodyLen (numText r)+1)).length:=by
   unfold expLen
   split
   ·exact int_len _
   ·exact Nat.zero_le _
  rw[List.length_drop] at h3;omega
 ·exact hb
def numStart (c:Int):Bool:=decide (c=43∨c=45∨c=46∨(48≤c∧c≤57))
theorem num_none {r:List Int} (hr:∀ c∈r,0≤c) (h:numStart (pk r 0)=false):lenP (numText r)=0:=by
 cases r with
 | nil=>rfl
 | cons c r =>
  rw[pk_cons0] at h;have hc:=hr c (by simp)
  have hx:∀ b t,numText (c::r)=b::t→isD b=false∧b.toNat≠43∧b.toNat≠45∧b.toNat≠46:=by
   intro b t hbt;unfold numText at hbt;rw[List.takeWhile_cons] at hbt
   split at hbt
   ·rename_i hb
    rw[List.map_cons] at hbt
    injection hbt with e1 e2
    unfold numStart at h
    simp at h
    have hlt:c<128:=by unfold numB at hb;simp at hb;omega
    have hn:(b.toNat:Int)=c:=by
     rw[← e1];unfold Tk.byteOf;rw[UInt8.toNat_ofNat'];omega
    refine⟨?_,by omega,by omega,by omega⟩
    unfold isD;simp;omega
   ·cases hbt
  generalize numText (c::r)=x at hx
  cases x with
  | nil=>rfl
  | cons b t =>
   obtain⟨h1,h2,h3,h4⟩:=hx b t rfl;have hs:sgn (b::t)=0:=by show (if _ then 1 else 0)=0;rw[if_neg (by omega)]
   have hd:digs (b::t)=0:=by unfold digs;rw[List.takeWhile_cons,if_neg (by simp[h1])];rfl
   unfold lenP;rw[if_pos];unfold some_;simp only[hs,List.drop_zero,hd]
   simp
   intro hb;subst hb;exact absurd rfl h4
theorem number_none {r:List Int} (h:lenP (numText r)=0):numberT r=none:=by unfold numberT;simp only[h,if_pos]
end Np
end Go.Proofs.YtfhdihdafmahgaaGreatDoor
namespace Go.Proofs.YtfhdihdafmahgaaGreatDoor
open Go.RowKit Fx
namespace Fx
structure Parts (sg I P F E S2 X:List UInt8):Prop where
 hsg:sg=[]∨∃ b,sg=[b]∧(b.toNat=43∨b.toNat=45)
 hI:∀ b∈I,isD b=true
 hF:∀ b∈F,isD b=true
 hP:(P=[]∧F=[])∨(P=[46]∧F≠[])
 hE:(E=[]∧S2=[]∧X=[])∨(∃ e,E=[e]∧(e.toNat=101∨e.toNat=69)∧X≠[])
 hS:S2=[]∨∃ b,S2=[b]∧(b.toNat=43∨b.toNat=45)
 hX:∀ b∈X,isD b=true
 some:I≠[]∨F≠[]
def glue (sg I P F E S2 X:List UInt8):List UInt8:=sg++(I++(P++F))++(E++(S2++X))
end Fx
theorem Dec.parts {l sg I P F E S2 X:List UInt8} (D:Dec l sg I P F E S2 X):Parts sg I P F E S2 X :=
 ⟨D.hsg,D.hI,D.hF,D.hP,D.hE,D.hS,D.hX,D.some⟩
theorem digs_app (I t:List UInt8) (h:∀ b∈I,isD b=true):digs (I++t)=I.length+digs t:=by
 unfold digs
 induction I with
 | nil=>simp
 | cons b I ih =>
  rw[List.cons_append,List.takeWhile_cons,if_pos (h b (by simp)),List.length_cons,ih (fun c hc=>h c (by simp[hc])),List.length_cons]
  omega
theorem digs_stop {b:UInt8} (t:List UInt8) (h:isD b=false):digs (b::t)=0:=by
 unfold digs;rw[List.takeWhile_cons,if_neg (by rw[h];simp)];rfl
theorem sgn_digit {b:UInt8} (t:List UInt8) (h:isD b=true):sgn (b::t)=0:=by
 have:=isD_range h;unfold sgn;simp only[];rw[if_neg (by omega)]
theorem sgn_of {sg:List UInt8} (t:List UInt8) (h:sg=[]∨∃ b,sg=[b]∧(b.toNat=43∨b.toNat=45)) (h2:sg=[]→sgn t=0):sgn (sg++t)=sg.length:=by
 rcases h with h | ⟨b,h,hb⟩
 ·rw[h];exact h2 h
 ·rw[h];exact if_pos hb
theorem sgn_digits {X:List UInt8} (t:List UInt8) (hX:∀ b∈X,isD b=true) (hne:X≠[]):sgn (X++t)=0:=by
 cases X with
 | nil=>exact absurd rfl hne
 | cons b X=>exact sgn_digit _ (hX b (by simp))
theorem isE_notD {e:UInt8} (h:e.toNat=101∨e.toNat=69):isD e=false:=by unfold isD;simp;omega
theorem glue_body {sg I P F E S2 X:List UInt8} (D:Parts sg I P F E S2 X) (rest:List UInt8) (hr:E=[]→rest=[]) :
  sgn (glue sg I P F E S2 X++rest)=sg.length∧digs ((glue sg I P F E S2 X++rest).drop sg.length)=I.length∧bodyLen (glue sg I P F E S2 X++rest)=sg.length+I.length+P.length+F.length∧some_ (glue sg I P F E S2 X++rest)=true
   ∧ intP (glue sg I P F E S2 X++rest)=I∧fracP (glue sg I P F E S2 X++rest)=F:=by
 obtain⟨Y,hY⟩:∃ Y,E++(S2++X)++rest=Y:=⟨_,rfl⟩
 have hYd:digs Y=0∧Y[0]?≠some 46:=by
  rw[← hY]
  rcases D.hE with⟨h1,h2,h3⟩ | ⟨e,h1,h2,_⟩
  ·rw[h1,h2,h3,hr h1];exact⟨rfl,by simp⟩
  ·rw[h1]
   refine⟨digs_stop _ (isE_notD h2),?_⟩
   simp;intro h;subst h;revert h2;decide
 have hl:glue sg I P F E S2 X++rest=sg++(I++(P++(F++Y))):=by rw[← hY];unfold glue;simp
 have hs:sgn (sg++(I++(P++(F++Y))))=sg.length:=by
  refine sgn_of _ D.hsg fun _=>?_
  by_cases hI:I=[]
  ·have hF:F≠[]:=D.some.resolve_left (fun h=>h hI)
   rcases D.hP with⟨_,h⟩ | ⟨h,_⟩
   ·exact absurd h hF
   ·rw[hI,h];rfl
  ·exact sgn_digits _ D.hI hI
 have hd:(sg++(I++(P++(F++Y)))).drop sg.length=I++(P++(F++Y)):=by simp
 have hn:digs (I++(P++(F++Y)))=I.length:=by
  rw[digs_app _ _ D.hI]
  rcases D.hP with⟨h,h2⟩ | ⟨h,_⟩
  ·rw[h,h2];simp only[List.nil_append];omega
  ·rw[h];rw[List.cons_append,digs_stop _ (by rfl)];omega
 have hd2:(sg++(I++(P++(F++Y)))).drop (sg.length+I.length)=P++(F++Y):=by
  rw[← List.drop_drop,hd];simp
 have hat:(sg++(I++(P++(F++Y))))[sg.length+I.length]?=(P++(F++Y))[0]?:=by
  rw[← hd2,List.getElem?_drop];simp
 rw[hl]
 rcases D.hP with⟨h,h2⟩ | ⟨h,h2⟩
 ·have hno:¬ (P++(F++Y))[0]?=some 46:=by rw[h,h2];exact hYd.2
  have hI:I≠[]:=D.some.resolve_right (fun h=>h h2);have hIl:=List.length_pos_iff.2 hI
  refine⟨hs,by rw[hd,hn],?_,?_,?_,?_⟩
  ·unfold bodyLen;simp only[];rw[hs,hd,hn,hat,if_neg (fun x=>hno x.1),h,h2];simp
  ·unfold some_;simp only[];rw[hs,hd,hn];simp[hIl]
  ·unfold intP;rw[hs,hd,hn];simp
  ·unfold fracP;simp only[];rw[hs,hd,hn,hat,if_neg (fun x=>hno x.1),h2]
 ·have hyes:(P++(F++Y))[0]?=some 46:=by rw[h];rfl
  have hFl:=List.length_pos_iff.2 h2
  have hd3:(sg++(I++(P++(F++Y)))).drop (sg.length+I.length+1)=F++Y:=by
   rw[← List.drop_drop,hd2,h];rfl
  have hnF:digs (F++Y)=F.length:=by rw[digs_app _ _ D.hF,hYd.1];omega
  refine⟨hs,by rw[hd,hn],?_,?_,?_,?_⟩
  ·unfold bodyLen;simp only[];rw[hs,hd,hn,hat,hd3,hnF,if_pos ⟨hyes,hFl⟩,h];simp;
  ·unfold some_;simp only[];rw[hs,hd,hn,hat,hd3,hnF];simp[hyes,hFl]
  ·unfold intP;rw[hs,hd,hn];simp
  ·unfold fracP;simp only[];rw[hs,hd,hn,hat,hd3,hnF,if_pos ⟨hyes,hFl⟩];simp
theorem glue_len (sg I P F E S2 X:List UInt8):(glue sg I P F E S2 X).length=sg.length+I.length+P.length+F.length+E.length+S2.length+X.length:=by
 unfold glue;simp;omega
theorem glue_exp {sg I P F E S2 X:List UInt8} (D:Parts sg I P F E S2 X) (hE:E≠[]) (rest:List UInt8) :
  lenP (glue sg I P F E S2 X++rest)=(glue sg I P F E S2 X).length+digs rest∧expP (glue sg I P F E S2 X++rest)=S2++X++rest:=by
 obtain⟨h1,h2,h3,h4,_,_⟩:=glue_body D rest (fun h=>absurd h hE)
 obtain⟨e,he1,he2,hX⟩:∃ e,E=[e]∧(e.toNat=101∨e.toNat=69)∧X≠[]:=by
  rcases D.hE with⟨h,_⟩ | h
  ·exact absurd h hE
  ·exact h
 have hl:glue sg I P F E S2 X++rest=(sg++(I++(P++F)))++(e::(S2++(X++rest))):=by unfold glue;rw[he1];simp
 have hA:(sg++(I++(P++F))).length=sg.length+I.length+P.length+F.length:=by simp;omega
 have hat:(glue sg I P F E S2 X++rest)[sg.length+I.length+P.length+F.length]?=some e:=by
  rw[hl,List.getElem?_append_right (by omega),hA];simp
 have hdr:(glue sg I P F E S2 X++rest).drop (sg.length+I.length+P.length+F.length+1)=S2++(X++rest):=by
  rw[hl,← List.drop_drop,← hA,List.drop_left];rfl
 have hie:isE (some e)=true:=by unfold isE;simpa using he2
 have hsg:sgn (S2++(X++rest))=S2.length:=sgn_of _ D.hS fun _=>sgn_digits _ D.hX hX
 have hXl:=List.length_pos_iff.2 hX;have hdx:digs ((S2++(X++rest)).drop S2.length)=X.length+digs rest:=by rw[List.drop_left,digs_app _ _ D.hX]
 have hexp:expLen (S2++(X++rest))=S2.length+(X.length+digs rest):=by
  unfold expLen;rw[hsg,hdx,if_pos (by omega)]
 have hSl:S2.length≤1:=by
  rcases D.hS with h | ⟨b,h,_⟩<;>rw[h]<;>simp
 constructor
 ·unfold lenP
  simp only[];rw[h4,if_neg (by simp),h3,hat,hdr,hexp,if_pos ⟨hie,by omega⟩,glue_len,he1]
  simp;omega
 ·unfold expP
  rw[h3,hat,if_pos hie,hdr,List.append_assoc]
theorem glue_is {sg I P F E S2 X:List UInt8} (D:Parts sg I P F E S2 X) :
  isP (glue sg I P F E S2 X)=true∧intP (glue sg I P F E S2 X)=I∧fracP (glue sg I P F E S2 X)=F∧expP (glue sg I P F E S2 X)=S2++X∧lenP (glue sg I P F E S2 X)=(glue sg I P F E S2 X).length:=by
 obtain⟨h1,h2,h3,h4,h5,h6⟩:=glue_body D [] (fun _=>rfl);rw[List.append_nil] at h1 h2 h3 h4 h5 h6
 have hpos:0<(glue sg I P F E S2 X).length:=by
  rw[glue_len]
  rcases D.some with h | h<;>have:=List.length_pos_iff.2 h<;>omega
 have hne:glue sg I P F E S2 X≠[]:=List.length_pos_iff.1 hpos
 have hlen:lenP (glue sg I P F E S2 X)=(glue sg I P F E S2 X).length∧expP (glue sg I P F E S2 X)=S2++X:=by
  by_cases hE:E=[]
  ·have hE2:S2=[]∧X=[]:=by
    rcases D.hE with⟨_,h,h2⟩ | ⟨e,h,_⟩
    ·exact⟨h,h2⟩
    ·rw[hE] at h;cases h
   have hnone:(glue sg I P F E S2 X)[sg.length+I.length+P.length+F.length]?=none:=by
    refine List.getElem?_eq_none ?_
    rw[glue_len,hE,hE2.1,hE2.2];simp
   constructor
   ·unfold lenP
    simp only[];rw[h4,if_neg (by simp),h3,hnone,if_neg (fun h=>by have:=h.1;simp[isE] at this),glue_len,hE,hE2.1,hE2.2];simp
   ·unfold expP
    rw[h3,hnone,if_neg (by simp[isE]),hE2.1,hE2.2];rfl
  ·obtain⟨a,b⟩:=glue_exp D hE []
   rw[List.append_nil] at a b;rw[List.append_nil] at b
   exact⟨by rw[a];rfl,b⟩
 exact⟨decide_eq_true ⟨hne,hlen.1⟩,h5,h6,hlen.2,hlen.1⟩
theorem len_parts {l:List UInt8} (h:0<lenP l):∃ sg I P F E S2 X,Parts sg I P F E S2 X∧l.take (lenP l)=glue sg I P F E S2 X:=by
 have hsome:some_ l=true:=by
  cases hs:some_ l with
  | true=>rfl
  | false=>rw[lenP_none hs] at h;omega
 obtain⟨A,hA⟩:∃ A,bodyLen l=A:=⟨_,rfl⟩;have hAl:=bodyLen_le l;have ht:=lenP_tail hsome hA;have hk0:=sgn_le l;have hn0:=digs_le (l.drop (sgn l));rw[List.length_drop] at hn0;have e1:l.take (sgn l+digs (l.drop (sgn l)))=l.take (sgn l)++intP l:=by rw[List.take_add];rfl
 have hItail:∀ b∈intP l,isD b=true:=by unfold intP;exact digs_all _
 have hFtail:∀ b∈fracP l,isD b=true:=by
  unfold fracP;simp only[]
  split
  ·exact digs_all _
  ·simp
 have hbody:∃ P,l.take A=l.take (sgn l)++(intP l++(P++fracP l))∧((P=[]∧fracP l=[])∨(P=[46]∧fracP l≠[]))∧(intP l≠[]∨fracP l≠[]):=by
  by_cases hd:l[sgn l+digs (l.drop (sgn l))]?=Option.some 46∧0<digs (l.drop (sgn l+digs (l.drop (sgn l))+1))
  ·have hF:fracP l=(l.drop (sgn l+digs (l.drop (sgn l))+1)).take (digs (l.drop (sgn l+digs (l.drop (sgn l))+1))):=by
    unfold fracP;simp only[];rw[if_pos hd]
   have hFl:(fracP l).length=digs (l.drop (sgn l+digs (l.drop (sgn l))+1)):=by
    have:=digs_le (l.drop (sgn l+digs (l.drop (sgn l))+1));rw[hF,List.length_take];omega
   have hA2:A=sgn l+digs (l.drop (sgn l))+1+digs (l.drop (sgn l+digs (l.drop (sgn l))+1)):=by
    rw[← hA];unfold bodyLen;simp only[];rw[if_pos hd]
   have hFne:fracP l≠[]:=by intro h0;rw[h0] at hFl;simp at hFl;omega
   refine⟨[46],?_,.inr ⟨rfl,hFne⟩,.inr hFne⟩
   rw[hA2,List.take_add,← hF,take_snoc _ _ _ hd.1,e1]
   simp
  ·have hF:fracP l=[]:=by unfold fracP;simp only[];rw[if_neg hd]
   have hA2:A=sgn l+digs (l.drop (sgn l)):=by
    rw[← hA];unfold bodyLen;simp only[];rw[if_neg hd]
   have hIlen:(intP l).length=digs (l.drop (sgn l)):=by
    unfold intP;rw[List.length_take,List.length_drop];omega
   refine⟨[],?_,.inl ⟨rfl,hF⟩,.inl ?_⟩
   ·rw[hA2,e1,hF];simp
   ·intro h0
    rw[h0] at hIlen;unfold some_ at hsome;have hd2:=of_decide_eq_true hsome
    rcases hd2 with hd2 | hd2
    ·simp at hIlen;omega
    ·exact hd hd2
 obtain⟨P,hb1,hb2,hb3⟩:=hbody
 by_cases hx:isE l[A]?=true∧0<digs (l.drop (A+1+sgn (l.drop (A+1))))
 ·have hL:=ht.2 hx.1 _ _ rfl rfl
  rw[if_pos hx.2] at hL
  obtain⟨e,he,hee⟩:∃ e,l[A]?=some e∧(e.toNat=101∨e.toNat=69):=by
   rcases isE_cases l A with⟨hge,hE⟩ | ⟨e,he,⟨h1,_⟩ | ⟨h1,_⟩ | ⟨_,_,h3⟩⟩
   ·rw[hE] at hx;exact absurd hx.1 (by simp)
   ·exact⟨e,he,.inl h1⟩
   ·exact⟨e,he,.inr h1⟩
   ·rw[h3] at hx;exact absurd hx.1 (by simp)
  refine⟨l.take (sgn l),intP l,P,fracP l,[e],(l.drop (A+1)).take (sgn (l.drop (A+1))),(l.drop (A+1+sgn (l.drop (A+1)))).take (digs (l.drop (A+1+sgn (l.drop (A+1))))),⟨sgn_shape l,hItail,hFtail,hb2,.inr ⟨e,rfl,hee,?_⟩,sgn_shape _,digs_all _,hb3⟩,?_⟩
  ·intro h0
   have h1:=congrArg List.length h0;have:=digs_le (l.drop (A+1+sgn (l.drop (A+1))));rw[List.length_take,List.length_nil] at h1
   omega
  ·rw[hL]
   unfold glue;rw[← hb1];rw[List.take_add,List.take_add,take_snoc _ _ _ he]
   simp
 ·have hL:lenP l=A:=by
   cases hE:isE l[A]? with
   | false=>exact ht.1 hE
   | true =>
    rw[hE] at hx;have:=ht.2 hE _ _ rfl rfl;rw[if_neg (fun h=>hx ⟨rfl,h⟩)] at this
    exact this
  refine⟨l.take (sgn l),intP l,P,fracP l,[],[],[],⟨sgn_shape l,hItail,hFtail,hb2,.inl ⟨rfl,rfl,rfl⟩,.inl rfl,by simp,hb3⟩,?_⟩
  rw[hL];unfold glue;rw[← hb1];simp
theorem lenP_le (l:List UInt8):lenP l≤l.length:=by
 by_cases h:0<lenP l
 ·obtain⟨sg,I,P,F,E,S2,X,D,e⟩:=len_parts h
  by_cases hle:lenP l≤l.length
  ·exact hle
  ·have h2:=(glue_is D).2.2.2.2
   rw[← e,List.take_of_length_le (by omega)] at h2
   omega
 ·omega
end Go.Proofs.YtfhdihdafmahgaaGreatDoor
