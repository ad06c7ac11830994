import Derived.Test.YtfhdihdafmahgaaGreatDoorR21
set_option linter.unusedVariables false
set_option linter.unusedSimpArgs false
namespace Go.Proofs.YtfhdihdafmahgaaGreatDoor
open Go.RowKit Rn Tk Fx Tp
def sepB (c:Int):Bool:=decide (c=10∨c=41∨c=93∨c=125∨c=34∨c=58∨c=59∨c=44∨c=47)
def Sep (rest:List Int):Prop:=rest=[]∨∃ c r,rest=c::r∧sepB c=true
theorem sep_facts {rest:List Int} (h:Sep rest):esc rest=false∧withinB (pk rest 0)=false∧pk rest 0≠40∧pk rest 0≠37∧pk rest 0≠42∧pk rest 0≠45∧beg rest=false∧∀ c r,rest=c::r→numB c=false:=by
 rcases h with rfl|⟨c,r,rfl,hc⟩
 ·refine⟨esc_nil,by decide,by decide,by decide,by decide,by decide,by decide,fun c r h=>by cases h⟩
 ·have hc:=of_decide_eq_true hc
  have he:esc (c::r)=false:=esc_cons (by omega) r;have hw:withinB c=false:=by unfold withinB beginsB letterB digitB isB;simp;omega
  have hb:beginsB c=false:=by
   cases h:beginsB c with
   | false=>rfl
   | true=>rw[begins_within h] at hw;cases hw
  refine⟨he,hw,?_,?_,?_,?_,?_,fun c' r' h=>?_⟩
  ·rw[pk_cons0];omega
  ·rw[pk_cons0];omega
  ·rw[pk_cons0];omega
  ·rw[pk_cons0];omega
  ·unfold beg may
   rw[pk_cons0,hb,he]
   simp;omega
  ·injection h with h1 _
   subst h1;unfold numB;simp;omega
theorem next_of_number {c:Int} {r:List Int} {x:Tok×List Int} (h1:c≠34) (h2:c≠39) (h3:c≠35) (h:numberT (c::r)=some x):nextT (c::r)=x:=by
 unfold nextT;simp only[];rw[if_neg (by rw[pk_cons0];omega),if_neg (by rw[pk_cons0];intro h;exact h3 h.1),h]
theorem print_first (n:Int):∃ b P,Fx.printP n=b::P∧(b.toNat:Int)≠34∧(b.toNat:Int)≠39∧(b.toNat:Int)≠35∧whiteB (b.toNat:Int)=false∧(b.toNat:Int)≠47:=by
 obtain⟨b,P,e⟩:=List.exists_cons_of_ne_nil (printP_ne n);have hb:=printP_bytes n b (by rw[e];simp)
 refine⟨b,P,e,?_⟩
 rcases hb with h|rfl|rfl
 ·unfold isD at h
  simp at h
  unfold whiteB
  simp;omega
 ·decide
 ·refine⟨by decide,by decide,by decide,by decide,by decide⟩
theorem next_number {n:Int} (hn:stopZ n=n) {rest:List Int} (h:Sep rest):nextT (chr (Fx.printP n)++rest)=(⟨8,[],n⟩,rest):=by
 obtain⟨f1,f2,f3,f4,f5,f6,f7,f8⟩:=sep_facts h;have hx:=number_print n hn rest (fun c r e=>.inl (f8 c r e));rw[if_neg (by rw[f7];decide),if_neg f4] at hx;obtain⟨b,P,e,g1,g2,g3,_⟩:=print_first n;rw[e,chr_cons,List.cons_append] at hx ⊢
 exact next_of_number g1 g2 g3 hx
theorem next_percent {n:Int} (hn:stopZ n=n) (rest:List Int):nextT (chr (Fx.printP n)++37::rest)=(⟨9,[],n⟩,rest):=by
 have hx:=number_print n hn (37::rest) (fun c r e=>by injection e with e _;subst e;exact .inl (by decide));have hb:beg (37::rest)=false:=by unfold beg may;rw[pk_cons0,esc_cons (by decide)];rfl
 rw[if_neg (by rw[hb];decide),if_pos (by rw[pk_cons0])] at hx;obtain⟨b,P,e,g1,g2,g3,_⟩:=print_first n;rw[e,chr_cons,List.cons_append] at hx ⊢
 exact next_of_number g1 g2 g3 hx
theorem nameC_first {l:List Int} (dim:Bool) (h:∀ c∈l,isB c=true∧c≠0) (hne:l≠[]) (rest:List Int) :
  beg (nameC l dim++rest)=true∧∃ c r,nameC l dim++rest=c::r∧(c=92∨(beginsB c=true∧(dim=true→c≠101∧c≠69))∨c=45):=by
 obtain⟨c,t,rfl⟩:=List.exists_cons_of_ne_nil hne
 have e:nameC (c::t) dim=partC c (needB c true (decide (c::t=[45])) (dim&&true))++nameG (c::t) dim 1 t:=by
  show nameG (c::t) dim 0 (c::t)=_
  conv=>lhs;unfold nameG
  simp
 cases hb:needB c true (decide (c::t=[45])) (dim&&true) with
 | true =>
  rw[e,hb];have he:=esc_esc c (nameG (c::t) dim 1 t++rest);rw[←List.append_assoc] at he;have hx:partC c true=chr (escP c):=rfl;rw[hx]
  refine⟨by unfold beg may;rw[he];simp,92,((chr (escP c)).tail++nameG (c::t) dim 1 t)++rest,?_,.inl rfl⟩
  unfold escP;rfl
 | false =>
  rw[e,hb]
  have hw:withinB c=true∧digitB c=false∧¬ (c::t=[45])∧(dim=true→c≠101∧c≠69):=by
   unfold needB at hb
   simp at hb
   refine⟨hb.1.1.1,hb.1.1.2,?_,fun hd=>hb.2 hd⟩
   simpa using hb.1.2
  obtain⟨w1,w2,w3,w4⟩:=hw
  show beg (c::(nameG (c::t) dim 1 t++rest))=true∧∃ d r,c::(nameG (c::t) dim 1 t++rest)=d::r∧_
  cases hbc:beginsB c with
  | true=>exact⟨by unfold beg may;rw[pk_cons0,hbc];rfl,c,_,rfl,.inr (.inl ⟨hbc,w4⟩)⟩
  | false =>
   have h45:c=45:=by
    unfold withinB at w1;rw[hbc,w2] at w1
    simpa using w1
   subst h45
   refine⟨?_,45,_,rfl,.inr (.inr rfl)⟩
   obtain⟨d,s,rfl⟩:=List.exists_cons_of_ne_nil (show t≠[] from fun h=>w3 (by rw[h]))
   have e2:nameG (45::d::s) dim 1 (d::s)=partC d (needB d true false false)++nameG (45::d::s) dim 2 s:=by
    conv=>lhs;unfold nameG
    simp
   rw[e2]
   cases hd:needB d true false false with
   | true =>
    have he:=esc_esc d (nameG (45::d::s) dim 2 s++rest);rw[←List.append_assoc] at he;have hx:partC d true=chr (escP d):=rfl;rw[hx];unfold beg may;rw[List.tail_cons,he]
    simp[pk_cons0]
   | false =>
    unfold needB at hd
    simp at hd
    have hx:partC d false=[d]:=rfl;rw[hx];unfold beg may;rw[List.tail_cons]
    show _
    cases hbd:beginsB d with
    | true=>simp[pk_cons0,hbd,pk]
    | false =>
     have:d=45:=by
      have h1:=hd.1;unfold withinB at h1;rw[hbd,hd.2] at h1
      simpa using h1
     subst this
     simp[pk]
theorem next_string {l:List Int} (h:∀ c∈l,isB c=true∧c≠0) (rest:List Int):nextT (34::(bodyC l++34::rest))=(⟨6,writeP l,0⟩,rest):=by
 have hb:=body_read l h (34::rest);have hq:quoteT 34 (34::rest)=([],false,rest):=by rw[quoteT_at (by simp),pk_cons0,if_neg (by decide),if_pos rfl];rfl
 rw[hq,List.append_nil] at hb;unfold nextT;simp only[];rw[if_pos (by rw[pk_cons0];omega),pk_cons0,List.tail_cons,hb];rfl
theorem next_bad {l:List Int} (h:∀ c∈l,isB c=true∧c≠0) (rest:List Int):nextT (34::(bodyC l++10::rest))=(⟨7,writeP l,0⟩,10::rest):=by
 have hb:=body_read l h (10::rest);have hq:quoteT 34 (10::rest)=([],true,10::rest):=by rw[quoteT_at (by simp),pk_cons0,if_pos rfl]
 rw[hq,List.append_nil] at hb;unfold nextT;simp only[];rw[if_pos (by rw[pk_cons0];omega),pk_cons0,List.tail_cons,hb];rfl
theorem within_or_esc {r:List Int} (h:beg r=true):(withinB (pk r 0)||esc r)=true:=by
 rcases beg_first h with h|h
 ·rw[h];simp
 ·rw[h];rfl
theorem next_hash {l:List Int} (h:∀ c∈l,isB c=true∧c≠0) (hne:l≠[]) {rest:List Int} (hs:Sep rest):nextT (35::(nameC l false++rest))=(⟨5,writeP l,0⟩,rest):=by
 obtain⟨f1,f2,_⟩:=sep_facts hs;have hn:=nameC_read false h f1 f2;have hb:=within_or_esc (nameC_first false h hne rest).1;unfold nextT;simp only[];rw[if_neg (by rw[pk_cons0];omega),if_pos ⟨rfl,by rw[pk_cons,List.tail_cons];exact hb⟩,List.tail_cons,hn]
theorem next_dim {n:Int} (hn:stopZ n=n) {l:List Int} (h:∀ c∈l,isB c=true∧c≠0) (hne:l≠[]) {rest:List Int} (hs:Sep rest):nextT (chr (Fx.printP n)++(nameC l true++rest))=(⟨10,writeP l,n⟩,rest):=by
 obtain⟨f1,f2,_⟩:=sep_facts hs;have hnm:=nameC_read true h f1 f2;obtain⟨hb,c,r,e,hc⟩:=nameC_first true h hne rest
 have hx:=number_print n hn (nameC l true++rest) (fun c' r' e'=>by
  rw[e] at e'
  injection e' with e1 _
  subst e1
  rcases hc with rfl|⟨h1,h2⟩|rfl
  ·exact .inl (by decide)
  ·refine .inl ?_
   have h3:=h2 rfl;unfold numB;unfold beginsB letterB at h1
   simp at h1 ⊢;omega
  ·exact .inr rfl)
 rw[if_pos hb,hnm] at hx;obtain⟨b,P,e2,g1,g2,g3,_⟩:=print_first n;rw[e2,chr_cons,List.cons_append] at hx ⊢
 exact next_of_number g1 g2 g3 hx
theorem num_none1 {c:Int} {r:List Int} (hc:0≤c) (h:Np.numStart c=false):numberT (c::r)=none:=by
 refine Np.number_none ?_
 have hx:∀ b t,numText (c::r)=b::t→isD b=false∧b.toNat≠43∧b.toNat≠45∧b.toNat≠46:=by
  intro b t hbt;unfold numText at hbt;rw[List.takeWhile_cons] at hbt
  split at hbt
  ·rename_i hb
   rw[List.map_cons] at hbt
   injection hbt with e1 e2
   unfold Np.numStart at h
   simp at h
   have hlt:c<128:=by unfold numB at hb;simp at hb;omega
   have hn:(b.toNat:Int)=c:=by
    rw[←e1];unfold Tk.byteOf;rw[UInt8.toNat_ofNat'];omega
   refine⟨?_,by omega,by omega,by omega⟩
   unfold isD;simp;omega
  ·cases hbt
 generalize numText (c::r)=x at hx
 cases x with
 | nil=>rfl
 | cons b t =>
  obtain⟨h1,h2,h3,h4⟩:=hx b t rfl;have hs:sgn (b::t)=0:=by show (if _ then 1 else 0)=0;rw[if_neg (by omega)]
  have hd:digs (b::t)=0:=by unfold digs;rw[List.takeWhile_cons,if_neg (by simp[h1])];rfl
  unfold lenP;rw[if_pos];unfold some_;simp only[hs,List.drop_zero,hd]
  simp
  intro hb;subst hb;exact absurd rfl h4
theorem num_signed {r:List Int} (h:∀ c t,r=c::t→digitB c=false∧c≠46) (h0:∀ c t,r=c::t→0≤c) (s:Int) (hs:s=43∨s=45):numberT (s::r)=none:=by
 refine Np.number_none ?_
 have e1:numText (s::r)=Tk.byteOf s::numText r:=by
  unfold numText;rw[List.takeWhile_cons,if_pos (by rcases hs with rfl | rfl<;>decide),List.map_cons]
 have hx:∀ b t,numText r=b::t→isD b=false∧b.toNat≠46:=by
  intro b t hbt
  cases r with
  | nil=>unfold numText at hbt;simp at hbt
  | cons c r =>
   have hc:=h c r rfl;have hc0:=h0 c r rfl;unfold numText at hbt;rw[List.takeWhile_cons] at hbt
   split at hbt
   ·rename_i hb
    rw[List.map_cons] at hbt
    injection hbt with e1 e2
    have hlt:c<128:=by unfold numB at hb;simp at hb;omega
    have hn:(b.toNat:Int)=c:=by
     rw[←e1];unfold Tk.byteOf;rw[UInt8.toNat_ofNat'];omega
    have hd:=hc.1;unfold digitB at hd
    simp at hd
    refine⟨?_,by omega⟩
    unfold isD;simp;omega
   ·cases hbt
 rw[e1];generalize numText r=x at hx;have hsg:sgn (Tk.byteOf s::x)=1:=by rcases hs with rfl | rfl<;>rfl
 have hd:digs x=0:=by
  cases x with
  | nil=>rfl
  | cons b t=>unfold digs;rw[List.takeWhile_cons,if_neg (by simp[(hx b t rfl).1])];rfl
 unfold lenP;rw[if_pos];unfold some_;simp only[hsg,List.drop_succ_cons,List.drop_zero,hd]
 cases x with
 | nil=>simp
 | cons b t =>
  have h2:=(hx b t rfl).2
  simp
  intro hb;subst hb;exact absurd rfl h2
theorem nameC_second {l:List Int} (h:∀ c∈l,isB c=true∧c≠0) (hne:l≠[]) {s:List Int} (r:List Int) (e:nameC l false++s=45::r):∃ c t,r=c::t∧digitB c=false∧c≠46∧0≤c:=by
 obtain⟨c,t,rfl⟩:=List.exists_cons_of_ne_nil hne
 have e1:nameC (c::t) false=partC c (needB c true (decide (c::t=[45])) false)++nameG (c::t) false 1 t:=by
  show nameG (c::t) false 0 (c::t)=_
  conv=>lhs;unfold nameG
  simp
 rw[e1] at e
 cases hb:needB c true (decide (c::t=[45])) false with
 | true =>
  rw[hb] at e;have:partC c true=chr (escP c):=rfl;rw[this] at e;unfold escP at e;rw[chr_cons] at e
  injection e with e _
  exact absurd e (by decide)
 | false =>
  rw[hb] at e;have hx:partC c false=[c]:=rfl;rw[hx] at e
  injection e with e2 e3
  subst e2
  have w3:¬ (45::t=[(45:Int)]):=by
   unfold needB at hb
   simp at hb
   simpa using hb.2
  obtain⟨d,u,rfl⟩:=List.exists_cons_of_ne_nil (show t≠[] from fun h=>w3 (by rw[h]))
  have e4:nameG (45::d::u) false 1 (d::u)=partC d (needB d true false false)++nameG (45::d::u) false 2 u:=by
   conv=>lhs;unfold nameG
   simp
  have e5:nameG (45::d::u) false 1 (d::u)++s=r:=e3;rw[e4] at e5
  cases hd:needB d true false false with
  | true =>
   rw[hd] at e5;have:partC d true=chr (escP d):=rfl;rw[this] at e5;unfold escP at e5;rw[chr_cons] at e5
   exact⟨_,_,e5.symm,by decide,by decide,by decide⟩
  | false =>
   rw[hd] at e5;have:partC d false=[d]:=rfl;rw[this] at e5;unfold needB at hd
   simp at hd
   have hw:=within_pos hd.1
   refine⟨_,_,e5.symm,hd.2,?_,hw⟩
   rintro rfl
   exact absurd hd.1 (by decide)
theorem next_name {l:List Int} (h:∀ c∈l,isB c=true∧c≠0) (hne:l≠[]) {s:List Int} (f1:Tk.esc s=false) (f2:withinB (pk s 0)=false) :
  nextT (nameC l false++s)=if pk s 0=40 then (⟨3,writeP l,0⟩,s.tail) else (⟨2,writeP l,0⟩,s):=by
 have hn:=nameC_read false h f1 f2;obtain⟨hb,c,r,e,hc⟩:=nameC_first false h hne s
 have hnum:numberT (c::r)=none:=by
  rcases hc with rfl|⟨h1,_⟩|rfl
  ·exact num_none1 (by decide) (by decide)
  ·have hw:=within_pos (begins_within h1)
   refine num_none1 hw ?_
   unfold beginsB letterB at h1;unfold Np.numStart
   simp at h1 ⊢;omega
  ·obtain⟨d,t,rfl,g1,g2,g3⟩:=nameC_second h hne r e
   exact num_signed (fun c t e=>by injection e with e _;subst e;exact⟨g1,g2⟩) (fun c t e=>by injection e with e _;subst e;exact g3) 45 (.inr rfl)
 have hc3:c≠34∧c≠39∧c≠35∧c≠64:=by
  rcases hc with rfl|⟨h1,_⟩|rfl
  ·decide
  ·unfold beginsB letterB at h1;simp at h1;omega
  ·decide
 rw[e] at hb hn ⊢;unfold nextT;simp only[];rw[if_neg (by rw[pk_cons0];omega),if_neg (by rw[pk_cons0];intro h;exact hc3.2.2.1 h.1),hnum];simp only[];rw[if_neg (by rw[pk_cons0];intro h;exact hc3.2.2.2 h.1),if_pos hb,hn]
theorem next_ident {l:List Int} (h:∀ c∈l,isB c=true∧c≠0) (hne:l≠[]) {rest:List Int} (hs:Sep rest):nextT (nameC l false++rest)=(⟨2,writeP l,0⟩,rest):=by
 obtain⟨f1,f2,f3,_⟩:=sep_facts hs;rw[next_name h hne f1 f2,if_neg f3]
theorem next_func {l:List Int} (h:∀ c∈l,isB c=true∧c≠0) (hne:l≠[]) (rest:List Int):nextT (nameC l false++40::rest)=(⟨3,writeP l,0⟩,rest):=by
 rw[next_name h hne (esc_cons (by decide) _) (by rw[pk_cons0];decide),pk_cons0,if_pos rfl];rfl
theorem next_at' {l:List Int} (h:∀ c∈l,isB c=true∧c≠0) (hne:l≠[]) {rest:List Int} (hs:Sep rest):nextT (64::(nameC l false++rest))=(⟨4,writeP l,0⟩,rest):=by
 obtain⟨f1,f2,_⟩:=sep_facts hs;have hn:=nameC_read false h f1 f2;have hb:=(nameC_first false h hne rest).1;have hnum:numberT (64::(nameC l false++rest))=none:=num_none1 (by decide) (by decide);unfold nextT;simp only[];rw[if_neg (by rw[pk_cons0];omega),if_neg (by rw[pk_cons0];intro h;exact absurd h.1 (by decide)),hnum];simp only[];rw[if_pos ⟨rfl,hb⟩,List.tail_cons,hn]
theorem next_sign {c:Int} (hc:c=40∨c=91∨c=123∨c=41∨c=93∨c=125∨c=58∨c=59∨c=44) (rest:List Int):nextT (c::rest)=(signT c,rest):=by
 have hnum:numberT (c::rest)=none:=num_none1 (by omega) (by unfold Np.numStart;simp;omega)
 have hb:beg (c::rest)=false:=by
  unfold beg may;rw[pk_cons0,esc_cons (by omega)];unfold beginsB letterB isB
  simp;omega
 unfold nextT;simp only[];rw[if_neg (by rw[pk_cons0];omega),if_neg (by rw[pk_cons0];intro h;omega),hnum];simp only[];rw[if_neg (by rw[pk_cons0];intro h;omega),if_neg (by rw[hb];decide),pk_cons0];rfl
theorem delim_facts {c:Int} (h:delimB c=true):whiteB c=false∧beginsB c=false∧digitB c=false∧(c≠34∧c≠39∧c≠40∧c≠41∧c≠91∧c≠93∧c≠123∧c≠125∧c≠58∧c≠59∧c≠44∧c≠12∧c≠13):=by
 unfold delimB at h;simp only[Bool.and_eq_true,Bool.not_eq_true',decide_eq_true_eq] at h
 exact⟨h.1.1.1,h.1.1.2,h.1.2,h.2⟩
theorem next_delim {c:Int} (hc:isB c=true) (h:delimB c=true) {rest:List Int} (hs:Sep rest) (he:c=92→rest=[]∨∃ r,rest=10::r):nextT (c::rest)=(⟨11,writeP [c],0⟩,rest):=by
 obtain⟨d1,d2,d3,d4⟩:=delim_facts h;obtain⟨f1,f2,f3,f4,f5,f6,f7,f8⟩:=sep_facts hs;have h0:=(isB_range' hc).1
 have hesc:Tk.esc (c::rest)=false:=by
  by_cases h9:c=92
  ·subst h9
   rcases he rfl with rfl|⟨r,rfl⟩
   ·rfl
   ·unfold Tk.esc;rw[pk_cons0,pk_cons,pk_cons0];decide
  ·exact esc_cons h9 _
 have hw0:∀ d t,rest=d::t→digitB d=false∧d≠46:=fun d t e=>by
  have:=f8 d t e;unfold numB at this;unfold digitB
  simp at this ⊢;omega
 have hp0:∀ d t,rest=d::t→0≤d:=fun d t e=>by
  rcases hs with rfl|⟨c',r',rfl,hc'⟩
  ·cases e
  ·injection e with e1 _
   subst e1;have:=of_decide_eq_true hc';omega
 have hnum:numberT (c::rest)=none:=by
  by_cases h1:c=43∨c=45
  ·exact num_signed hw0 hp0 c h1
  by_cases h2:c=46
  ·subst h2
   refine Np.number_none ?_
   have e1:numText (46::rest)=[46]:=by
    have:numText rest=[]:=by
     cases rest with
     | nil=>rfl
     | cons d t=>unfold numText;rw[List.takeWhile_cons,if_neg (by rw[f8 d t rfl];decide)];rfl
    unfold numText at this ⊢;rw[List.takeWhile_cons,if_pos (by decide),List.map_cons,this];rfl
   rw[e1];decide
  ·refine num_none1 h0 ?_
   unfold digitB at d3;unfold Np.numStart
   simp at d3 ⊢;omega
 have hb:beg (c::rest)=false:=by
  unfold beg may at f7 ⊢;rw[pk_cons0,d2,hesc,List.tail_cons,pk_cons]
  rcases hm:may rest with _|_
  ·unfold may at hm
   rw[hm];simp;intro _;exact f6
  ·unfold may at hm
   rw[hm] at f7;simp at f7
 have hk:signK c=11:=by
  unfold signK;rw[if_neg (by omega),if_neg (by omega),if_neg (by omega),if_neg (by omega),if_neg (by omega)]
 unfold nextT;simp only[];rw[if_neg (by rw[pk_cons0];omega),if_neg (by rw[pk_cons,f2,List.tail_cons,f1];simp),hnum];simp only[];rw[if_neg (by rw[List.tail_cons,f7];simp),if_neg (by rw[hb];decide),pk_cons0];unfold signT;rw[hk];rfl
namespace Tp
def tokC (k n:Int) (l:List Int):List Int :=
 if k=1 then [10] else if k=2 then nameC l false else if k=3 then nameC l false++[40] else if k=4 then 64::nameC l false else if k=5 then 35::nameC l false
 else if k=6 then (34::bodyC l)++[34] else if k=7 then 34::bodyC l
 else if k=8 then chr (Fx.printP n) else if k=9 then chr (Fx.printP n)++[37] else if k=10 then chr (Fx.printP n)++nameC l true
 else if k=14 then [58] else if k=15 then [59] else if k=16 then [44] else l
def textC (t:GTok):List Int:=(utfP t.text).getD []
def tC (t:GTok):List Int:=tokC t.kind t.n (textC t)
def sepC (a b:Int):List Int:=if apartB a b=true then [47,42,42,47] else []
def joinC:List GTok→List Int
 | []=>[]
 | [t]=>tC t
 | t::u::l=>tC t++(sepC t.kind u.kind++joinC (u::l))
end Tp
theorem one_facts {t:GTok} (h:oneB t=true):utfP t.text=some (textC t)∧(∀ c∈textC t,isB c=true∧c≠0)∧writeP (textC t)=t.text∧numOk t.kind t.n=true∧kindB t.kind (textC t)=true:=by
 unfold oneB at h;unfold textC
 cases e:utfP t.text with
 | none=>rw[e] at h;cases h
 | some l =>
  rw[e] at h;simp only[Bool.and_eq_true,decide_eq_true_eq] at h;obtain⟨g1,g2⟩:=utf_some e
  exact⟨rfl,fun c hc=>⟨g2 c hc,fun e=>h.1.1 (e ▸ hc)⟩,g1.symm,h.1.2,h.2⟩
theorem kind_range {t:GTok} (h:oneB t=true):1≤t.kind∧t.kind≤16:=by
 have:=(one_facts h).2.2.2.2;unfold kindB at this
 by_cases h1:(2≤t.kind∧t.kind≤5)∨t.kind=10
 ·omega
 ·rw[if_neg h1] at this
  by_cases h2:t.kind=6∨t.kind=7
  ·omega
  ·rw[if_neg h2] at this
   by_cases h3:t.kind=11
   ·omega
   ·rw[if_neg h3] at this
    by_cases h4:t.kind=12
    ·omega
    ·rw[if_neg h4] at this
     by_cases h5:t.kind=13
     ·omega
     ·rw[if_neg h5] at this
      have:=of_decide_eq_true this;omega
def After (t:GTok) (rest:List Int):Prop :=
 ((t.kind=2∨t.kind=4∨t.kind=5∨t.kind=8∨t.kind=9∨t.kind=10∨t.kind=11)→Sep rest)∧(t.kind=7→∃ r,rest=10::r)∧(t.kind=11→t.text=[92]→rest=[]∨∃ r,rest=10::r)
theorem spaces_at {c:Int} (h:whiteB c=false) (r:List Int) (h2:c=47→pk r 0≠42):spacesT (c::r)=(false,c::r) :=
 spacesT_end h (fun e=>h2 e.1 e.2)
theorem name_spaces {l:List Int} (dim:Bool) (h:∀ c∈l,isB c=true∧c≠0) (hne:l≠[]) (s:List Int):spacesT (nameC l dim++s)=(false,nameC l dim++s):=by
 obtain⟨hb,c,r,e,hc⟩:=nameC_first dim h hne s;rw[e]
 have:whiteB c=false∧c≠47:=by
  rcases hc with rfl|⟨h1,_⟩|rfl
  ·decide
  ·unfold beginsB letterB at h1
   unfold whiteB
   simp at h1 ⊢;omega
  ·decide
 exact spaces_at this.1 _ (fun e=>absurd e this.2)
theorem num_spaces (n:Int) (s:List Int):spacesT (chr (Fx.printP n)++s)=(false,chr (Fx.printP n)++s):=by
 obtain⟨b,P,e,_,_,_,g4,g5⟩:=print_first n;rw[e,chr_cons,List.cons_append]
 exact spaces_at g4 _ (fun e=>absurd e g5)
theorem single_of {l:List Int} (h:kindB 11 l=true):∃ c,l=[c]∧delimB c=true:=by
 unfold kindB at h
 simp at h
 split at h
 ·exact⟨_,rfl,h⟩
 ·cases h
theorem write_one (c:Int):writeP [c]=Lib.encodeRune c:=by simp[writeP]
theorem next_tok {t:GTok} (h:oneB t=true) (h1:t.kind≠1) {rest:List Int} (ha:After t rest) :
  nextT (tC t++rest)=(⟨t.kind.toNat,t.text,t.n⟩,rest)∧spacesT (tC t++rest)=(false,tC t++rest):=by
 obtain⟨e1,e2,e3,e4,e5⟩:=one_facts h;obtain⟨k1,k2⟩:=kind_range h;obtain⟨kind,text,n⟩:=t;simp only[After] at *
 unfold tC;simp only at *
 generalize textC ⟨kind,text,n⟩=l at *
 have hn:stopZ n=n∧((8≤kind∧kind≤10)∨n=0):=by unfold numOk at e4;exact of_decide_eq_true e4
 obtain⟨hn1,hn2⟩:=hn;obtain⟨a1,a2,a3⟩:=ha;have hK:kind=2∨kind=3∨kind=4∨kind=5∨kind=6∨kind=7∨kind=8∨kind=9∨kind=10∨kind=11∨kind=12∨kind=13∨kind=14∨kind=15∨kind=16:=by omega
 subst e3
 rcases hK with rfl|rfl|rfl|rfl|rfl|rfl|rfl|rfl|rfl|rfl|rfl|rfl|rfl|rfl|rfl
 ·obtain rfl:n=0:=by omega
  have hne:l≠[]:=by simpa [kindB] using e5
  exact⟨next_ident e2 hne (a1 (by omega)),name_spaces false e2 hne rest⟩
 ·obtain rfl:n=0:=by omega
  have hne:l≠[]:=by simpa [kindB] using e5
  have e:tokC 3 0 l++rest=nameC l false++40::rest:=by simp[tokC]
  rw[e]
  exact⟨next_func e2 hne rest,name_spaces false e2 hne _⟩
 ·obtain rfl:n=0:=by omega
  have hne:l≠[]:=by simpa [kindB] using e5
  have e:tokC 4 0 l++rest=64::(nameC l false++rest):=by simp[tokC]
  rw[e]
  exact⟨next_at' e2 hne (a1 (by omega)),spaces_at (by decide) _ (fun e=>absurd e (by decide))⟩
 ·obtain rfl:n=0:=by omega
  have hne:l≠[]:=by simpa [kindB] using e5
  have e:tokC 5 0 l++rest=35::(nameC l false++rest):=by simp[tokC]
  rw[e]
  exact⟨next_hash e2 hne (a1 (by omega)),spaces_at (by decide) _ (fun e=>absurd e (by decide))⟩
 ·obtain rfl:n=0:=by omega
  have e:tokC 6 0 l++rest=34::(bodyC l++34::rest):=by simp[tokC]
  rw[e]
  exact⟨next_string e2 rest,spaces_at (by decide) _ (fun e=>absurd e (by decide))⟩
 ·obtain rfl:n=0:=by omega
  obtain⟨r,rfl⟩:=a2 rfl;have e:tokC 7 0 l++10::r=34::(bodyC l++10::r):=by simp[tokC]
  rw[e]
  exact⟨next_bad e2 r,spaces_at (by decide) _ (fun e=>absurd e (by decide))⟩
 ·obtain rfl:l=[]:=by simpa [kindB] using e5
  exact⟨next_number hn1 (a1 (by omega)),num_spaces n rest⟩
 ·obtain rfl:l=[]:=by simpa [kindB] using e5
  have e:tokC 9 n []++rest=chr (Fx.printP n)++37::rest:=by simp[tokC]
  rw[e]
  exact⟨next_percent hn1 rest,num_spaces n _⟩
 ·have hne:l≠[]:=by simpa [kindB] using e5
  have e:tokC 10 n l++rest=chr (Fx.printP n)++(nameC l true++rest):=by simp[tokC]
  rw[e]
  exact⟨next_dim hn1 e2 hne (a1 (by omega)),num_spaces n _⟩
 ·obtain rfl:n=0:=by omega
  obtain⟨c,rfl,hd⟩:=single_of e5;have hc:=e2 c (by simp);have hs:=a1 (by omega);obtain⟨d1,d2,d3,d4⟩:=delim_facts hd
  refine⟨next_delim hc.1 hd hs (fun h9=>a3 rfl (by subst h9;rw[write_one];decide)),spaces_at d1 _ (fun _=>(sep_facts hs).2.2.2.2.1)⟩
 ·obtain rfl:n=0:=by omega
  have hl:l=[40]∨l=[91]∨l=[123]:=by simpa [kindB] using e5
  rcases hl with rfl|rfl|rfl
  ·exact⟨next_sign (by omega) rest,spaces_at (by decide) _ (fun e=>absurd e (by decide))⟩
  ·exact⟨next_sign (by omega) rest,spaces_at (by decide) _ (fun e=>absurd e (by decide))⟩
  ·exact⟨next_sign (by omega) rest,spaces_at (by decide) _ (fun e=>absurd e (by decide))⟩
 ·obtain rfl:n=0:=by omega
  have hl:l=[41]∨l=[93]∨l=[125]:=by simpa [kindB] using e5
  rcases hl with rfl|rfl|rfl
  ·exact⟨next_sign (by omega) rest,spaces_at (by decide) _ (fun e=>absurd e (by decide))⟩
  ·exact⟨next_sign (by omega) rest,spaces_at (by decide) _ (fun e=>absurd e (by decide))⟩
  ·exact⟨next_sign (by omega) rest,spaces_at (by decide) _ (fun e=>absurd e (by decide))⟩
 ·obtain rfl:n=0:=by omega
  obtain rfl:l=[]:=by simpa [kindB] using e5
  exact⟨next_sign (by omega) rest,spaces_at (by decide) _ (fun e=>absurd e (by decide))⟩
 ·obtain rfl:n=0:=by omega
  obtain rfl:l=[]:=by simpa [kindB] using e5
  exact⟨next_sign (by omega) rest,spaces_at (by decide) _ (fun e=>absurd e (by decide))⟩
 ·obtain rfl:n=0:=by omega
  obtain rfl:l=[]:=by simpa [kindB] using e5
  exact⟨next_sign (by omega) rest,spaces_at (by decide) _ (fun e=>absurd e (by decide))⟩
theorem tC_first {t:GTok} (h:oneB t=true) (s:List Int):(t.kind=1→∃ r,tC t++s=10::r)∧((t.kind=13∨t.kind=6∨t.kind=14∨t.kind=15∨t.kind=16)→∃ c r,tC t++s=c::r∧sepB c=true):=by
 obtain⟨e1,e2,e3,e4,e5⟩:=one_facts h;obtain⟨kind,text,n⟩:=t;unfold tC;simp only at *
 generalize textC ⟨kind,text,n⟩=l at *
 refine⟨fun h1=>by subst h1;exact⟨s,rfl⟩,?_⟩
 rintro (rfl|rfl|rfl|rfl|rfl)
 ·have hl:l=[41]∨l=[93]∨l=[125]:=by simpa [kindB] using e5
  rcases hl with rfl|rfl|rfl
  ·exact⟨_,_,rfl,by decide⟩
  ·exact⟨_,_,rfl,by decide⟩
  ·exact⟨_,_,rfl,by decide⟩
 ·exact⟨34,(bodyC l++[34])++s,rfl,by decide⟩
 ·exact⟨58,s,rfl,by decide⟩
 ·exact⟨59,s,rfl,by decide⟩
 ·exact⟨44,s,rfl,by decide⟩
theorem join_first {u:GTok} {l:List GTok}:∃ s,joinC (u::l)=tC u++s:=by
 cases l with
 | nil=>exact⟨[],by simp[joinC]⟩
 | cons v l=>exact⟨_,rfl⟩
theorem after_join {t u:GTok} {l:List GTok} (hu:oneB u=true) (h7:t.kind=7→u.kind=1) (h11:t.kind=11→t.text=[92]→u.kind=1):After t (sepC t.kind u.kind++joinC (u::l)):=by
 obtain⟨s,hs⟩:=join_first (u:=u) (l:=l);have hf:=tC_first hu s
 refine⟨fun hk=>?_,fun hk=>?_,fun hk ht=>?_⟩
 ·unfold sepC
  split
  ·exact .inr ⟨47,_,rfl,by decide⟩
  ·rename_i hap
   rw[List.nil_append,hs];have hap:¬ (t.kind≠1∧t.kind≠3∧t.kind≠12∧t.kind≠13∧t.kind≠6∧t.kind≠14∧t.kind≠15∧t.kind≠16∧u.kind≠1∧u.kind≠13∧u.kind≠6∧u.kind≠14∧u.kind≠15∧u.kind≠16):=fun h=>hap (decide_eq_true h)
   by_cases hu1:u.kind=1
   ·obtain⟨r,e⟩:=hf.1 hu1
    exact .inr ⟨10,r,e,by decide⟩
   ·obtain⟨c,r,e,hc⟩:=hf.2 (by omega)
    exact .inr ⟨c,r,e,hc⟩
 ·have h1:=h7 hk
  obtain⟨r,e⟩:=hf.1 h1;have:sepC t.kind u.kind=[]:=by unfold sepC apartB;rw[if_neg];simp[h1]
  rw[this,List.nil_append,hs];exact⟨r,e⟩
 ·have h1:=h11 hk ht
  obtain⟨r,e⟩:=hf.1 h1;have:sepC t.kind u.kind=[]:=by unfold sepC apartB;rw[if_neg];simp[h1]
  rw[this,List.nil_append,hs];exact .inr ⟨r,e⟩
theorem scan_sep (a b:Int) (rest:List Int):scanT (sepC a b++rest)=scanT rest:=by
 unfold sepC
 split
 ·exact scan_of_spaces (spaces_comment [] (by simp) rest)
 ·rfl
def gT (t:GTok):Tok:=⟨t.kind.toNat,t.text,t.n⟩
theorem tok_space {t:GTok} (h:oneB t=true) (h1:t.kind=1):gT t=⟨1,[],0⟩∧tC t=[10]:=by
 obtain⟨e1,e2,e3,e4,e5⟩:=one_facts h;obtain⟨kind,text,n⟩:=t;simp only at *
 subst h1;have hl:textC ⟨1,text,n⟩=[]:=by simpa [kindB] using e5
 have hn:stopZ n=n∧((8≤(1:Int)∧(1:Int)≤10)∨n=0):=by unfold numOk at e4;exact of_decide_eq_true e4
 have hn0:n=0:=by omega
 subst hn0;rw[hl] at e3;have:text=[]:=e3.symm;subst this
 exact⟨rfl,rfl⟩
theorem scan_tok {t:GTok} (h:oneB t=true) (h1:t.kind≠1) {rest:List Int} (ha:After t rest):scanT (tC t++rest)=gT t::scanT rest:=by
 obtain⟨n1,n2⟩:=next_tok h h1 ha
 have hne:tC t++rest≠[]:=by
  intro e;rw[e] at n2 n1;have:=congrArg (fun x=>x.1.kind) n1;rw[show nextT []=(signT (-1),[]) from rfl] at this;have e11:(11:Nat)=t.kind.toNat:=this;have e11:t.kind=11:=by omega
  obtain⟨e1,e2,e3,e4,e5⟩:=one_facts h;rw[e11] at e5;obtain⟨c,hc,_⟩:=single_of e5;have e0:=(List.append_eq_nil_iff.1 e).1;unfold tC at e0;rw[e11,hc] at e0
  simp[tokC] at e0
 rw[scanT_step (by rw[n2];exact hne),n2,n1];rfl
theorem scan_join:∀ (l:List GTok),pairsB l=true→scanT (joinC l)=l.map gT
 | [],_=>scanT_nil
 | [t],h=>by
  have h':oneB t=true∧t.kind≠7:=by simpa [pairsB] using h
  show scanT (tC t)=[gT t]
  by_cases h1:t.kind=1
  ·obtain⟨g1,g2⟩:=tok_space h'.1 h1
   rw[g1,g2,scan_white (by decide)];have:(spacesT []).2=[]:=by rw[spacesT_end (by decide) (by decide)]
   rw[this,scanT_nil]
  ·have:=scan_tok h'.1 h1 (rest:=[]) ⟨fun _=>.inl rfl,fun h=>absurd h h'.2,fun _ _=>.inl rfl⟩
   rw[List.append_nil,scanT_nil] at this
   exact this
 | t::u::l,h=>by
  have h':(((oneB t=true∧(t.kind=1→u.kind≠1))∧(t.kind=7→u.kind=1))∧(t.kind=11→t.text=[92]→u.kind=1))∧pairsB (u::l)=true:=by
   unfold pairsB at h;simp only[Bool.and_eq_true,Bool.not_eq_true',Bool.and_eq_false_iff,decide_eq_false_iff_not] at h;obtain⟨⟨⟨⟨g1,g2⟩,g3⟩,g4⟩,g5⟩:=h
   refine⟨⟨⟨⟨g1,fun a b=>?_⟩,fun a=>?_⟩,fun a b=>?_⟩,g5⟩
   ·rcases g2 with g|g
    ·exact g a
    ·exact g b
   ·rcases g3 with g|g
    ·exact absurd a g
    ·exact Decidable.of_not_not g
   ·rcases g4 with (g|g)|g
    ·exact absurd a g
    ·exact absurd b g
    ·exact Decidable.of_not_not g
  obtain⟨⟨⟨⟨g1,g2⟩,g3⟩,g4⟩,g5⟩:=h'
  have hu:oneB u=true:=by
   cases l with
   | nil=>simp[pairsB] at g5;exact g5.1
   | cons v l=>unfold pairsB at g5;simp only[Bool.and_eq_true] at g5;exact g5.1.1.1.1
  have ih:=scan_join (u::l) g5
  show scanT (tC t++(sepC t.kind u.kind++joinC (u::l)))=gT t::(u::l).map gT
  by_cases h1:t.kind=1
  ·obtain⟨e1,e2⟩:=tok_space g1 h1
   have hs:sepC t.kind u.kind=[]:=by unfold sepC apartB;rw[if_neg];simp[h1]
   have hu1:=g2 h1;obtain⟨s,es⟩:=join_first (u:=u) (l:=l)
   have hsp:spacesT (joinC (u::l))=(false,joinC (u::l)):=by
    cases l with
    | nil =>
     have h7:u.kind≠7:=by simp[pairsB] at g5;exact g5.2
     have:=(next_tok hu hu1 (rest:=[]) ⟨fun _=>.inl rfl,fun h=>absurd h h7,fun _ _=>.inl rfl⟩).2
     rw[List.append_nil] at this;exact this
    | cons v l =>
     unfold pairsB at g5;simp only[Bool.and_eq_true,Bool.not_eq_true',Bool.and_eq_false_iff,decide_eq_false_iff_not] at g5
     have hv:oneB v=true:=by
      cases l with
      | nil=>have:=g5.2;simp[pairsB] at this;exact this.1
      | cons w l=>have:=g5.2;unfold pairsB at this;simp only[Bool.and_eq_true] at this;exact this.1.1.1.1
     exact(next_tok hu hu1 (after_join (l:=l) hv (fun a=>by
      rcases g5.1.1.2 with g|g
      ·exact absurd a g
      ·exact Decidable.of_not_not g) (fun a b=>by
      rcases g5.1.2 with (g|g)|g
      ·exact absurd a g
      ·exact absurd b g
      ·exact Decidable.of_not_not g))).2
   rw[hs,e1,e2]
   show scanT (10::joinC (u::l))=_
   rw[scan_white (by decide),hsp,ih]
  ·rw[scan_tok g1 h1 (after_join hu g3 g4),scan_sep,ih]
end Go.Proofs.YtfhdihdafmahgaaGreatDoor
