import Derived.Test.YtfhdihdafmahgaaGreatDoorR19
import Derived.Test.YtfhdihdafmahgaaGreatDoorR14
set_option linter.unusedVariables false
set_option linter.unusedSimpArgs false
namespace Go.Proofs.YtfhdihdafmahgaaGreatDoor
open Go.RowKit Rn Tk
def chr (bs:List UInt8):List Int:=bs.map (fun b=>(b.toNat:Int))
theorem chr_app (a b:List UInt8):chr (a++b)=chr a++chr b:=by simp[chr]
theorem chr_cons (x:UInt8) (b:List UInt8):chr (x::b)=(x.toNat:Int)::chr b:=rfl
theorem write_cons (c:Int) (r:List Int):writeP (c::r)=Lib.encodeRune c++writeP r:=by simp[writeP]
theorem write_app (a b:List Int):writeP (a++b)=writeP a++writeP b:=by
 induction a with
 | nil=>simp[writeP]
 | cons c r ih=>rw[List.cons_append,write_cons,write_cons,ih,List.append_assoc]
theorem enc_low (b:UInt8) (h:b.toNat<128):Lib.encodeRune (b.toNat:Int)=[b]:=by
 have:Lib.encodeRune (b.toNat:Int)=[((b.toNat:Int)).toNat.toUInt8]:=by simp[Lib.encodeRune,Lib.encodeRuneZ_one (by omega:(0:Int)≤b.toNat) (by omega:(b.toNat:Int)≤127)]
 rw[this,Int.toNat_natCast];simp
theorem write_chr:∀ (bs:List UInt8),(∀ b∈bs,b.toNat<128)→writeP (chr bs)=bs
 | [],_=>by simp[writeP,chr]
 | b::bs,h=>by
  rw[chr_cons,write_cons,enc_low b (h b (by simp)),write_chr bs (fun x hx=>h x (by simp[hx]))];rfl
theorem low_plain {b:UInt8} (h:b.toNat<128) (h0:b.toNat≠0) (h12:b.toNat≠12) (h13:b.toNat≠13):Plain (b.toNat:Int):=by
 refine⟨?_,by omega,by omega,by omega⟩
 unfold isB;simp;omega
theorem spaces_twice (r:List Int):spacesT (spacesT r).2=(false,(spacesT r).2):=by
 fun_induction spacesT r with
 | case1 r h ih=>exact ih
 | case2 r h h2 ih=>exact ih
 | case3 r h h2=>exact spacesT_end (by simpa using h) h2
theorem scan_spaces (r:List Int):scanT r=(if (spacesT r).1=true then [⟨1,[],0⟩] else [])++scanT (spacesT r).2:=by
 have h2:=spaces_twice r
 by_cases h:(spacesT r).2=[]
 ·rw[scanT_end h,h,scanT_nil,List.append_nil]
 ·rw[scanT_step h,scanT_step (r:=(spacesT r).2) (by rw[h2];exact h),h2];simp
theorem scan_of_spaces {r r':List Int} (h:spacesT r=spacesT r'):scanT r=scanT r':=by rw[scan_spaces r,h,←scan_spaces r']
theorem skip_body:∀ (x:List Int),(∀ c∈x,c≠42)→∀ rest,skipC (x++42::47::rest)=rest
 | [],_,rest=>by rw[List.nil_append,skipC,if_pos ⟨rfl,rfl⟩];rfl
 | c::x,h,rest=>by
  rw[List.cons_append,skipC,if_neg (by have:=h c (by simp);omega)]
  exact skip_body x (fun d hd=>h d (by simp[hd])) rest
theorem spaces_comment (x:List Int) (h:∀ c∈x,c≠42) (rest:List Int):spacesT (47::42::(x++42::47::rest))=spacesT rest:=by
 rw[spacesT_comment (by rw[pk_cons0];decide) ⟨rfl,rfl⟩]
 show spacesT (skipC (x++42::47::rest))=_
 rw[skip_body x h]
theorem spaces_white {c:Int} (h:whiteB c=true) (rest:List Int):spacesT (c::rest)=(true,(spacesT rest).2):=spacesT_white h
theorem scan_white {c:Int} (h:whiteB c=true) (rest:List Int):scanT (c::rest)=⟨1,[],0⟩::scanT (spacesT rest).2:=by
 rw[scan_spaces,spaces_white h];rfl
theorem esc_cons {c:Int} (h:c≠92) (r:List Int):esc (c::r)=false:=by unfold esc;rw[pk_cons0];simp[h]
theorem esc_nil:esc []=false:=by decide
theorem within_pos {d:Int} (hd:withinB d=true):0≤d:=by unfold withinB beginsB letterB digitB at hd;simp at hd;omega
end Go.Proofs.YtfhdihdafmahgaaGreatDoor
namespace Go.Proofs.YtfhdihdafmahgaaGreatDoor
open Go.RowKit Rn Tk Tp
namespace Tp
def partC (c:Int) (b:Bool):List Int:=if b=true then chr (escP c) else [c]
def nameG (l:List Int) (dim:Bool):Nat→List Int→List Int
 | _,[]=>[]
 | i,c::r=>partC c (needB c (decide (i=0∨i=1∧l[0]?=some 45)) (decide (l=[45])) (dim&&decide (i=0)))++nameG l dim (i+1) r
def nameC (l:List Int) (dim:Bool):List Int:=nameG l dim 0 l
def bodyC (l:List Int):List Int:=l.flatMap (fun c=>partC c (quoteB c))
end Tp
theorem hexd_facts:∀ k:Fin 16,hexI ((hexd k.val).toNat:Int)=(k.val:Int)∧(hexd k.val).toNat<128∧48≤(hexd k.val).toNat:=by decide
theorem hexT_small {n:Nat} (h:n<16):hexT n=[hexd n]:=by rw[hexT,dif_pos h]
theorem hexT_big {n:Nat} (h:¬ n<16):hexT n=hexT (n / 16)++[hexd (n % 16)]:=by rw[hexT,dif_neg h]
theorem hexT_low:∀ (m n:Nat),n≤m→∀ b∈hexT n,b.toNat<128∧48≤b.toNat
 | m,n,hm,b,hb=>by
  by_cases h:n<16
  ·rw[hexT_small h] at hb
   obtain rfl:b=hexd n:=by simpa using hb
   have:=hexd_facts ⟨n,h⟩;exact⟨this.2.1,this.2.2⟩
  ·rw[hexT_big h] at hb
   rcases List.mem_append.1 hb with hb|hb
   ·cases m with
    | zero=>omega
    | succ m=>exact hexT_low m (n / 16) (by omega) b hb
   ·obtain rfl:b=hexd (n % 16):=by simpa using hb
    have:=hexd_facts ⟨n % 16,by omega⟩;exact⟨this.2.1,this.2.2⟩
theorem hexT_ne (n:Nat):hexT n≠[]:=by
 by_cases h:n<16
 ·rw[hexT_small h];simp
 ·rw[hexT_big h];simp
theorem hexT_len:∀ (k n:Nat),n<16 ^ (k+1)→(hexT n).length≤k+1
 | 0,n,h=>by rw[hexT_small (by simpa using h)];simp
 | k+1,n,h=>by
  by_cases h1:n<16
  ·rw[hexT_small h1];simp
  ·rw[hexT_big h1,List.length_append]
   have:=hexT_len k (n / 16) (by rw[Nat.div_lt_iff_lt_mul (by omega)];rw[Nat.pow_succ] at h;exact h)
   simp;omega
theorem hexes_read:∀ (k n:Nat),n<16 ^ (k+1)→∀ (f m:Nat) (rest:List Int),k+1≤f→hexI (pk rest 0)<0→∃ g,g+(hexT n).length=f∧∀ t,hexes f m (chr (hexT n)++t)=hexes g (m * 16 ^ (hexT n).length+n) t
 | 0,n,h,f,m,rest,hf,hr=>by
  have hn:n<16:=by simpa using h
  have h1:=hexd_facts ⟨n,hn⟩;simp only at h1
  refine⟨f-1,by rw[hexT_small hn];simp;omega,fun t=>?_⟩
  rw[hexT_small hn];obtain⟨f',rfl⟩:∃ f',f=f'+1:=⟨f-1,by omega⟩
  show hexes (f'+1) m (((hexd n).toNat:Int)::t)=_
  rw[hexes_yes (by rw[pk_cons0,h1.1];omega),pk_cons0,h1.1,List.tail_cons,Int.toNat_natCast]
  simp[Nat.mul_comm]
 | k+1,n,h,f,m,rest,hf,hr=>by
  by_cases hn:n<16
  ·exact hexes_read 0 n (by simpa using hn) f m rest (by omega) hr
  ·have hq:n / 16<16 ^ (k+1):=by rw[Nat.div_lt_iff_lt_mul (by omega)];rw[Nat.pow_succ] at h;exact h
   obtain⟨g,hg,ht⟩:=hexes_read k (n / 16) hq f m rest (by omega) hr;have h1:=hexd_facts ⟨n % 16,by omega⟩;simp only at h1;have hlen:(hexT (n / 16)).length≤k+1:=hexT_len k _ hq;obtain⟨g',rfl⟩:∃ g',g=g'+1:=⟨g-1,by omega⟩
   refine⟨g',by rw[hexT_big hn];simp;omega,fun t=>?_⟩
   rw[hexT_big hn,chr_app,List.append_assoc,ht]
   show hexes (g'+1) _ (((hexd (n % 16)).toNat:Int)::t)=_
   rw[hexes_yes (by rw[pk_cons0,h1.1];omega),pk_cons0,h1.1,List.tail_cons,Int.toNat_natCast]
   congr 1
   rw[List.length_append,List.length_singleton,Nat.pow_succ];have:=Nat.div_add_mod n 16;generalize 16 ^ (hexT (n / 16)).length=P;rw[show m * (P * 16)=16 * (m * P) by rw[Nat.mul_comm P 16,←Nat.mul_assoc,Nat.mul_comm m 16,Nat.mul_assoc]]
   omega
theorem meant_esc' {c:Int} (hc:isB c=true) (h0:c≠0) (rest:List Int):meantT ((chr (escP c)).tail++rest)=(c,rest):=by
 have hr:=isB_range' hc;have hn:c.toNat<16 ^ (5+1):=by show c.toNat<16777216;omega
 obtain⟨g,hg,ht⟩:=hexes_read 5 c.toNat hn 6 0 (32::rest) (by omega) (by rw[pk_cons0];decide);have e:(chr (escP c)).tail++rest=chr (hexT c.toNat)++32::rest:=by simp[escP,chr]
 have hx:hexes 6 0 (chr (hexT c.toNat)++32::rest)=(c.toNat,32::rest):=by
  rw[ht,hexes_no (by rw[pk_cons0];decide)];simp
 have hne:=hexT_ne c.toNat;have hlow:=hexT_low c.toNat c.toNat (Nat.le_refl _)
 have hfirst:0≤hexI (pk (chr (hexT c.toNat)++32::rest) 0):=by
  have h2:∀ (m n:Nat),n≤m→∃ k,k<16∧∃ r,hexT n=hexd k::r:=by
   intro m
   induction m with
   | zero=>intro n hn;exact⟨n,by omega,[],hexT_small (by omega)⟩
   | succ m ih =>
    intro n hn
    by_cases h:n<16
    ·exact⟨n,h,[],hexT_small h⟩
    ·obtain⟨k,hk,r,e⟩:=ih (n / 16) (by omega)
     exact⟨k,hk,r++[hexd (n % 16)],by rw[hexT_big h,e];rfl⟩
  obtain⟨k,hk,r,e⟩:=h2 c.toNat c.toNat (Nat.le_refl _);rw[e]
  show 0≤hexI ((hexd k).toNat:Int)
  have:=hexd_facts ⟨k,hk⟩;simp only at this;rw[this.1];omega
 have hnum:numC' c.toNat=c:=by
  unfold numC';rw[if_neg]
  ·omega
  ·rintro (h|h)
   ·omega
   ·rw[show ((c.toNat:Nat):Int)=c by omega,hc] at h;cases h
 rw[e];unfold meantT;rw[if_neg (by omega)];simp only[];rw[hx]
 show (numC' c.toNat,if whiteB 32=true then rest else 32::rest)=_
 rw[hnum,if_pos (by decide)]
theorem esc_esc (c:Int) (rest:List Int):esc (chr (escP c)++rest)=true:=by
 have hne:=hexT_ne c.toNat;have hlow:=hexT_low c.toNat c.toNat (Nat.le_refl _);obtain⟨b,r,e⟩:=List.exists_cons_of_ne_nil hne;have hb:=hlow b (by rw[e];simp);have:chr (escP c)++rest=92::(b.toNat:Int)::(chr (r++[32])++rest):=by unfold escP;rw[e];rfl
 rw[this];unfold esc;rw[pk_cons0,pk_cons,pk_cons0]
 simp;omega
theorem name_part {c:Int} (hc:isB c=true) (h0:c≠0) (b:Bool) (hb:b=false→withinB c=true) (rest:List Int):nameT (partC c b++rest)=(c::(nameT rest).1,(nameT rest).2):=by
 cases b with
 | true =>
  have hm:=meant_esc' hc h0 rest;have he:=esc_esc c rest
  show nameT (chr (escP c)++rest)=_
  have ht:(chr (escP c)++rest).tail=(chr (escP c)).tail++rest:=by unfold escP;rfl
  rw[nameT_esc he,ht,hm]
 | false =>
  have hw:=hb rfl;have hne:c≠92:=fun e=>by subst e;revert hw;decide
  show nameT (c::rest)=_
  rw[nameT_in (esc_cons hne _) (by rw[pk_cons0];exact hw)];rfl
theorem nameG_read (l:List Int) (dim:Bool):∀ (r:List Int) (i:Nat),(∀ c∈r,isB c=true∧c≠0)→∀ rest,esc rest=false→withinB (pk rest 0)=false→nameT (nameG l dim i r++rest)=(r,rest)
 | [],i,_,rest,h1,h2=>nameT_end h1 h2
 | c::r,i,h,rest,h1,h2=>by
  have hc:=h c (by simp);unfold nameG
  rw[List.append_assoc,name_part hc.1 hc.2 _ (fun hf=>by
   unfold needB at hf
   rcases hw:withinB c with _|_
   ·rw[hw] at hf;simp at hf
   ·rfl),nameG_read l dim r (i+1) (fun d hd=>h d (by simp[hd])) rest h1 h2]
theorem nameC_read {l:List Int} (dim:Bool) (h:∀ c∈l,isB c=true∧c≠0) {rest:List Int} (h1:esc rest=false) (h2:withinB (pk rest 0)=false):nameT (nameC l dim++rest)=(l,rest):=nameG_read l dim l 0 h rest h1 h2
theorem quote_part {c:Int} (hc:isB c=true) (h0:c≠0) (rest:List Int):quoteT 34 (partC c (quoteB c)++rest)=(c::(quoteT 34 rest).1,(quoteT 34 rest).2):=by
 rcases hq:quoteB c with _|_
 ·have hq':=of_decide_eq_false hq
  show quoteT 34 (c::rest)=_
  rw[quoteT_at (by simp),pk_cons0,if_neg (by omega),if_neg (by omega),if_neg (by rw[esc_cons (by omega)];decide),if_neg (by omega),List.tail_cons]
 ·have hm:=meant_esc' hc h0 rest
  have he:=esc_esc c rest
  show quoteT 34 (chr (escP c)++rest)=_
  have ht:(chr (escP c)++rest).tail=(chr (escP c)).tail++rest:=by unfold escP;rfl
  have hp:pk (chr (escP c)++rest) 0=92:=by unfold escP;rfl
  rw[quoteT_at (by unfold escP;simp[chr]),hp,if_neg (by decide),if_neg (by decide),if_pos he,ht,hm]
theorem body_read:∀ (l:List Int),(∀ c∈l,isB c=true∧c≠0)→∀ rest,quoteT 34 (bodyC l++rest)=(l++(quoteT 34 rest).1,(quoteT 34 rest).2)
 | [],_,rest=>rfl
 | c::l,h,rest=>by
  have hc:=h c (by simp);have e:bodyC (c::l)=partC c (quoteB c)++bodyC l:=by simp[bodyC]
  rw[e,List.append_assoc,quote_part hc.1 hc.2,body_read l (fun d hd=>h d (by simp[hd])) rest];rfl
end Go.Proofs.YtfhdihdafmahgaaGreatDoor
namespace Go.Proofs.YtfhdihdafmahgaaGreatDoor
open Go.RowKit Rn Tk Fx Tp
theorem byteOf_nat (b:UInt8):Tk.byteOf (b.toNat:Int)=b:=by unfold Tk.byteOf;simp
theorem numB_print (n:Int):∀ b∈Fx.printP n,numB (b.toNat:Int)=true:=by
 intro b hb
 rcases printP_bytes n b hb with h|rfl|rfl
 ·unfold isD at h;unfold numB;simp at h ⊢;omega
 ·decide
 ·decide
theorem numText_pre:∀ (P:List UInt8),(∀ b∈P,numB (b.toNat:Int)=true)→∀ rest,numText (chr P++rest)=P++numText rest
 | [],_,rest=>rfl
 | b::P,h,rest=>by
  have hb:=h b (by simp);have ih:=numText_pre P (fun x hx=>h x (by simp[hx])) rest;unfold numText at ih ⊢;rw[chr_cons,List.cons_append,List.takeWhile_cons,if_pos hb,List.map_cons,ih,byteOf_nat];rfl
theorem number_print (n:Int) (hn:stopZ n=n) (rest:List Int) (hr:∀ c r,rest=c::r→numB c=false∨c=45) :
  numberT (chr (Fx.printP n)++rest)=some (if beg rest=true then (⟨10,writeP (nameT rest).1,n⟩,(nameT rest).2) else if pk rest 0=37 then (⟨9,[],n⟩,rest.tail) else (⟨8,[],n⟩,rest)):=by
 have hne:=printP_ne n;have hpos:=List.length_pos_iff.2 hne;have ht:=numText_pre (Fx.printP n) (numB_print n) rest
 have hstop:Nm.StopM (numText rest):=by
  intro b t e
  cases rest with
  | nil=>unfold numText at e;simp at e
  | cons c r =>
   unfold numText at e;rw[List.takeWhile_cons] at e
   rcases hr c r rfl with h|h
   ·rw[if_neg (by simp[h])] at e;simp at e
   ·subst h
    rw[if_pos (by decide),List.map_cons] at e
    injection e with e _
    subst e
    exact⟨by decide,by decide,by decide,by decide⟩
 have hl:lenP (Fx.printP n++numText rest)=(Fx.printP n).length:=by
  rw[Nm.len_app _ _ hne hstop (printP_body n),(parse_print n).2.1]
 have hd:(chr (Fx.printP n)++rest).drop (Fx.printP n).length=rest:=by
  have:(chr (Fx.printP n)).length=(Fx.printP n).length:=by simp[chr]
  rw[←this,List.drop_left]
 have hv:parseP ((Fx.printP n++numText rest).take (Fx.printP n).length)=n:=by
  rw[List.take_left,(parse_print n).2.2,hn]
 unfold numberT;simp only[ht,hl,hd,hv];rw[if_neg (by omega)]
 split
 ·rfl
 ·split<;>rfl
end Go.Proofs.YtfhdihdafmahgaaGreatDoor
namespace Go.Proofs.YtfhdihdafmahgaaGreatDoor
open Go.RowKit Rn Tp Tk Ru
theorem name_chars (r:List Int):(nameT r).1.length≤r.length:=by
 fun_induction nameT r with
 | case1 r h ih =>
  have:=meant_lt (esc_ne h)
  simp only[List.length_cons];omega
 | case2 r h h2 ih =>
  have:=tail_lt (within_ne h2)
  simp only[List.length_cons];omega
 | case3 r=>simp
theorem quote_chars (e:Int) (r:List Int):(quoteT e r).1.length≤r.length:=by
 fun_induction quoteT e r with
 | case1=>simp
 | case2=>simp
 | case3 t h=>simp
 | case4 c t h h2 h3 ih=>have:=meant_len t;simp only[List.length_cons] at *;omega
 | case5 t h h2 h3 ih=>simp only[List.length_cons,List.length_tail] at *;omega
 | case6 c t h h2 h3 h4 ih=>simp only[List.length_cons] at *;omega
theorem write_le (l:List Int):(writeP l).length≤4 * l.length:=by
 induction l with
 | nil=>simp[writeP]
 | cons c l ih =>
  have:=(encode_len c).2;rw[write_cons,List.length_append,List.length_cons];omega
theorem parse_le (x:List UInt8):-1099511627776≤Fx.parseP x∧Fx.parseP x≤1099511627776:=by
 have h:Fx.numP x≤1099511627776:=by
  unfold Fx.numP Fx.foldN;have:∀ a,min a Fx.M≤1099511627776:=fun a=>by unfold Fx.M;omega
  exact this _
 unfold Fx.parseP
 (repeat' split)<;>omega
def SmallK (n:Nat) (t:Tok):Prop:=t.text.length≤4 * n∧-1099511627776≤t.n∧t.n≤1099511627776
theorem name_small (r:List Int) {n:Nat} (h:r.length≤n):(writeP (nameT r).1).length≤4 * n:=by
 have:=write_le (nameT r).1;have:=name_chars r
 omega
theorem next_small {r:List Int} (hr:r≠[]):SmallK r.length (nextT r).1:=by
 have ht:r.tail.length≤r.length:=by simp
 unfold nextT;simp only[]
 split
 ·refine⟨?_,by simp,by simp⟩
  have:=write_le (quoteT (pk r 0) r.tail).1;have:=quote_chars (pk r 0) r.tail
  show (writeP _).length≤_
  omega
 ·split
  ·exact⟨name_small _ ht,by simp,by simp⟩
  ·split
   ·rename_i x hx
    unfold numberT at hx;simp only[] at hx;have hp:=parse_le ((numText r).take (Fx.lenP (numText r)))
    split at hx
    ·cases hx
    ·split at hx
     ·cases hx
      exact⟨name_small _ (by simp),hp.1,hp.2⟩
     ·split at hx
      ·cases hx;exact⟨by simp,hp.1,hp.2⟩
      ·cases hx;exact⟨by simp,hp.1,hp.2⟩
   ·split
    ·exact⟨name_small _ ht,by simp,by simp⟩
    ·split
     ·split
      ·exact⟨name_small _ (Nat.le_refl _),by simp,by simp⟩
      ·exact⟨name_small _ (Nat.le_refl _),by simp,by simp⟩
     ·refine⟨?_,by simp[signT],by simp[signT]⟩
      have:=List.length_pos_iff.2 hr;unfold signT;simp only[]
      split
      ·have:=write_le [pk r 0]
       simp at this;omega
      ·simp
theorem SmallK.more {n m:Nat} {t:Tok} (h:SmallK n t) (hm:n≤m):SmallK m t:=⟨by have:=h.1;omega,h.2⟩
theorem scan_small (r:List Int):∀ t∈scanT r,SmallK r.length t:=by
 have hsp:SmallK r.length ⟨1,[],0⟩:=⟨by simp,by simp,by simp⟩
 by_cases h:(spacesT r).2=[]
 ·rw[scanT_end h]
  intro t ht
  split at ht
  ·rw[List.mem_singleton.1 ht];exact hsp
  ·cases ht
 ·rw[scanT_step h]
  have h1:=spaces_len r;have h2:=next_lt h;have ih:=scan_small (nextT (spacesT r).2).2;intro t ht
  rcases List.mem_append.1 ht with ht|ht
  ·split at ht
   ·rw[List.mem_singleton.1 ht];exact hsp
   ·cases ht
  ·rcases List.mem_cons.1 ht with rfl|ht
   ·exact(next_small h).more h1
   ·exact(ih t ht).more (by omega)
termination_by r.length
decreasing_by exact Nat.lt_of_lt_of_le (next_lt h) (spaces_len r)
theorem sheet_small {bs:List UInt8} (h:bs.length≤65536):∀ t∈(scanT (readP bs)).map Tok.g,smallT t:=by
 intro t ht;obtain⟨x,hx,rfl⟩:=List.mem_map.1 ht;obtain⟨h1,h2,h3⟩:=scan_small _ x hx;have hl:(readP bs).length≤bs.length:=readF_len _ _
 exact⟨by show x.text.length≤_;omega,by show _≤x.n;omega,by show x.n≤_;omega⟩
end Go.Proofs.YtfhdihdafmahgaaGreatDoor
