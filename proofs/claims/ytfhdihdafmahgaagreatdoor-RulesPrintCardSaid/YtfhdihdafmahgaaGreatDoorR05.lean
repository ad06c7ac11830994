import Derived.Test.YtfhdihdafmahgaaGreatDoorR03
import Derived.Lib.AtoiErrMem
import Derived.Lib.SmallJoins
import Derived.OneCell
set_option linter.unusedVariables false
set_option linter.unusedSimpArgs false
set_option maxRecDepth 100000
set_option maxHeartbeats 2000000
namespace Go.Proofs.YtfhdihdafmahgaaGreatDoor
open Go.RowKit Fx
theorem bytesOf_append (a b:List UInt8):bytesOf a++bytesOf b=bytesOf (a++b):=by
 rw[← bytesOf_eta (bytesOf a++bytesOf b)]
 congr 1
theorem val_foldl (l:List UInt8):∀ n,l.foldl (fun n b=>10 * n+dv b) n=n * 10 ^ l.length+val l:=by
 induction l with
 | nil=>intro n;simp[val]
 | cons b l ih =>
  intro n;unfold val;simp only[List.foldl_cons,List.length_cons];rw[ih,ih (10 * 0+dv b),Nat.pow_succ];rw[Nat.add_mul]
  have:10 * n * 10 ^ l.length=n * (10 ^ l.length * 10):=by
   rw[Nat.mul_comm 10 n,Nat.mul_assoc,Nat.mul_comm 10]
  rw[this,Nat.mul_zero,Nat.zero_add]
  omega
theorem val_cons (b:UInt8) (l:List UInt8):val (b::l)=dv b * 10 ^ l.length+val l:=by
 show List.foldl _ (10 * 0+dv b) l=_
 rw[val_foldl];simp
theorem decFrom_val (l:List UInt8) (h:∀ b∈l,isD b=true):∀ n,Lib.decFrom n l=some (l.foldl (fun n b=>10 * n+dv b) n):=by
 induction l with
 | nil=>intro n;rfl
 | cons b l ih =>
  intro n;have hb:=isD_range (h b (by simp));have hd:Lib.digitVal b=some (dv b):=by unfold Lib.digitVal;rw[if_pos hb];rfl
  simp only[Lib.decFrom,hd,List.foldl_cons];rw[ih (fun c hc=>h c (by simp[hc])),Nat.mul_comm]
theorem val_trim (l:List UInt8):val (l.dropWhile (· == 48))=val l:=by
 induction l with
 | nil=>rfl
 | cons b l ih =>
  by_cases hb:b=48
  ·subst hb;rw[List.dropWhile_cons,if_pos (by rfl),ih,val_cons];simp[dv]
  ·rw[List.dropWhile_cons,if_neg (by simpa using hb)]
theorem atoi_nought (d:List UInt8) (h:∀ b∈d,isD b=true):Lib.atoi (48::d)=some (val d:Int):=by
 have h2:∀ b∈(48::d:List UInt8),isD b=true:=by
  intro b hb
  rcases List.mem_cons.1 hb with rfl | hb
  ·rfl
  ·exact h b hb
 have:Lib.decNat (48::d)=some (val d):=by
  unfold Lib.decNat;rw[if_neg (by simp),decFrom_val _ h2]
  show some (val (48::d))=_
  rw[val_cons];simp[dv]
 unfold Lib.atoi;simp only[];rw[if_neg (by decide),if_neg (by decide),this]
 rfl
theorem val_lt (l:List UInt8) (h:∀ b∈l,isD b=true):val l<10 ^ l.length:=by
 induction l with
 | nil=>decide
 | cons b l ih =>
  have hb:=isD_range (h b (by simp));have:=ih fun c hc=>h c (by simp[hc])
  have hd:dv b≤9:=by unfold dv;omega
  rw[val_cons,List.length_cons,Nat.pow_succ];have:dv b * 10 ^ l.length≤9 * 10 ^ l.length:=Nat.mul_le_mul_right _ hd
  omega
theorem dropWhile_all {p q:UInt8→Bool} {l:List UInt8} (h:∀ b∈l,q b=true):∀ b∈l.dropWhile p,q b=true :=
 fun b hb=>h b ((List.dropWhile_suffix p).subset hb)
theorem fx_power (x:List UInt8) (w:World) (hl:x.length≤1000000) (hd:∀ b∈x.drop (sgn x),isD b=true) :
  Calls Tryz.prog 157 #[.string (bytesOf x)] w fun e w'=>e=.returned (.int .i64 (powP x))∧Below w.heap.size w w':=by
 have hs:=bytesOf_size x
 by_cases hx:x=[]
 ·subst hx
  obtain⟨e1,e2⟩:=str_none
  go_enter Tryz.func157,Tryz.ntmps157
  go_wp2
  go_ret
  exact⟨rfl,Below.refl _ _⟩
 ·obtain⟨e1,e2⟩:=str_some hx
  have hpos:0<x.length:=List.length_pos_iff.2 hx;obtain⟨b,hb⟩:∃ b,x[0]?=some b:=⟨_,List.getElem?_eq_getElem hpos⟩;have hix:=str_at (P:=Tryz.prog) (T:=9) Tryz.underlying9 x .i64 0 b hb;rw[Int.ofNat_zero] at hix;obtain⟨k,hk⟩:∃ k,sgn x=k:=⟨_,rfl⟩;have hk1:=sgn_le x;rw[hk] at hk1 hd;have hf:=str_from (P:=Tryz.prog) (T:=9) Tryz.underlying9 x .i64 k (by omega);have hat:=atoi_nought _ (dropWhile_all (p:=(· == 48)) hd);rw[val_trim] at hat;have hvl:=val_lt _ hd
  have hdl:((x.drop k).dropWhile (· == 48)).length≤x.length-k:=by
   have:=(List.dropWhile_suffix (· == (48:UInt8)) (l:=x.drop k)).length_le
   rwa[List.length_drop] at this
  rw[List.length_drop] at hvl;obtain⟨V,hV⟩:∃ V,val (x.drop k)=V:=⟨_,rfl⟩;rw[hV] at hat hvl
  have hpv:powP x=if x[0]?=some 45 then -((if x.length-k≤6 then V else 999999:Nat):Int) else ((if x.length-k≤6 then V else 999999:Nat):Int):=by
   unfold powP;rw[if_neg hx,hk,hV]
  have Hk:=Lib.hid hk;have Hpv:=Lib.hid hpv;have Hb:=Lib.hid hb;have HV:=Lib.hid hV;have Hat:=Lib.hid hat;clear hk hpv hb hV hat
  by_cases h6:x.length-k≤6
  ·have hV6:V<1000000:=Nat.lt_of_lt_of_le hvl (Nat.pow_le_pow_right (n:=10) (by omega) h6)
   go_enter Tryz.func157,Tryz.ntmps157
   go_wp2_with fail
   refine(fx_sign x w (by omega)).mono ?_
   rintro e w1 ⟨rfl,rfl⟩;rw[Hk.out]
   go_wp2_with fail
   refine(Tryz.strings_TrimLeft_one _ 48 (by decide) _).mono ?_
   rintro e w1 ⟨rfl,rfl⟩;rw[bytesOf_list];rw[show (⟨(Lib.trimLeftB (x.drop k) 48).toArray⟩:ByteArray)=bytesOf ((x.drop k).dropWhile (· == 48)) from rfl];have hsd:=bytesOf_size ((x.drop k).dropWhile (· == 48))
   go_wp2_with fail
   rw[show (⟨#[48]⟩:ByteArray)=bytesOf [48] from rfl,bytesOf_append]
   refine(Tryz.strconv_Atoi _ (V:Int) (by rw[bytesOf_size];simp;omega) (by rw[bytesOf_list];exact Hat.out) _).mono ?_
   rintro e w2 ⟨rfl,t,rfl⟩;have hbw:=Lib.bytesWorld_below w1 5 t
   by_cases hm:b.toNat=45
   ·have hv:powP x=-(V:Int):=by
     rw[Hpv.out,if_pos h6,if_pos];rw[Hb.out];congr 1;exact UInt8.toNat_inj.1 hm
    have Hv:=Lib.hid hv;clear hv;rw[hm] at hix
    go_wp2
    go_ret
    exact⟨ret_int (by rw[Hv.out]),hbw⟩
   ·have hv:powP x=(V:Int):=by
     rw[Hpv.out,if_pos h6,if_neg];rw[Hb.out];intro h;injection h with h;subst h;exact hm rfl
    have Hv:=Lib.hid hv;have hc:=byte_ne hm;clear hv
    go_wp2
    go_ret
    exact⟨ret_int (by rw[Hv.out]),hbw⟩
  ·go_enter Tryz.func157,Tryz.ntmps157
   go_wp2_with fail
   refine(fx_sign x w (by omega)).mono ?_
   rintro e w1 ⟨rfl,rfl⟩;rw[Hk.out]
   go_wp2_with fail
   refine(Tryz.strings_TrimLeft_one _ 48 (by decide) _).mono ?_
   rintro e w1 ⟨rfl,rfl⟩;rw[bytesOf_list];rw[show (⟨(Lib.trimLeftB (x.drop k) 48).toArray⟩:ByteArray)=bytesOf ((x.drop k).dropWhile (· == 48)) from rfl]
   by_cases hm:b.toNat=45
   ·have hv:powP x=-(999999:Int):=by
     rw[Hpv.out,if_neg h6,if_pos]
     ·rfl
     rw[Hb.out];congr 1;exact UInt8.toNat_inj.1 hm
    have Hv:=Lib.hid hv;clear hv;rw[hm] at hix
    go_wp2
    go_ret
    exact⟨ret_int (by rw[Hv.out]),Below.refl _ _⟩
   ·have hv:powP x=(999999:Int):=by
     rw[Hpv.out,if_neg h6,if_neg]
     ·rfl
     rw[Hb.out];intro h;injection h with h;subst h;exact hm rfl
    have Hv:=Lib.hid hv;have hc:=byte_ne hm;clear hv
    go_wp2
    go_ret
    exact⟨ret_int (by rw[Hv.out]),Below.refl _ _⟩
section
variable {l sg I P F E S2 X:List UInt8} (D:Dec l sg I P F E S2 X)
include D
theorem dec_sgn:sgn l=sg.length:=by
 have h:=sgn_le l;have:=congrArg List.length D.lsg;rw[List.length_take] at this;omega
theorem dec_drop:l.drop (sgn l)=(I++(P++F))++(E++(S2++X)):=by
 rw[dec_sgn D]
 conv=>lhs;rw[D.all]
 rw[List.append_assoc,List.drop_left]
theorem dec_P:∀ b∈P,b=46:=by
 intro b hb
 rcases D.hP with⟨h,_⟩ | ⟨h,_⟩<;>rw[h] at hb<;>simp_all
theorem dec_body_low:∀ b∈I++(P++F),b.toNat≤57:=by
 intro b hb;rw[List.mem_append,List.mem_append] at hb
 rcases hb with hb | hb | hb
 ·exact(isD_range (D.hI b hb)).2
 ·rw[dec_P D b hb];decide
 ·exact(isD_range (D.hF b hb)).2
theorem dec_index:Lib.indexAny (l.drop (sgn l)) [101,69]=if E=[] then -1 else (((I++(P++F)).length:Nat):Int):=by
 rw[dec_drop D]
 have hno:∀ b∈I++(P++F),([101,69]:List UInt8).contains b=false:=by
  intro b hb;have:=dec_body_low D b hb;simp only[List.contains_eq_mem,decide_eq_false_iff_not,List.mem_cons,List.not_mem_nil,or_false];rintro (rfl | rfl)<;>revert this<;>decide
 rcases D.hE with⟨h1,h2,h3⟩ | ⟨e,h1,h2,h3⟩
 ·rw[if_pos h1,h1,h2,h3]
  refine Lib.indexAny_none ?_
  intro j b hj hb;simp only[List.append_nil] at hb hj
  exact hno b (List.mem_of_getElem? hb)
 ·rw[if_neg (by rw[h1];simp)]
  refine Lib.indexAny_hit (x:=e) ?_ ?_ ?_
  ·intro j b hj hb
   rw[List.getElem?_append_left hj] at hb
   exact hno b (List.mem_of_getElem? hb)
  ·rw[List.getElem?_append_right (Nat.le_refl _),Nat.sub_self,h1];rfl
  ·have:e=101∨e=69:=by
    rcases h2 with h2 | h2
    ·exact .inl (UInt8.toNat_inj.1 h2)
    ·exact .inr (UInt8.toNat_inj.1 h2)
   rcases this with rfl | rfl<;>decide
theorem dec_ascii:∀ b∈l.drop (sgn l),b.toNat<128:=by
 intro b hb;rw[dec_drop D,List.mem_append] at hb
 rcases hb with hb | hb
 ·have:=dec_body_low D b hb;omega
 rw[List.mem_append,List.mem_append] at hb
 rcases hb with hb | hb | hb
 ·rcases D.hE with⟨h1,_⟩ | ⟨e,h1,h2,_⟩
  ·rw[h1] at hb;simp at hb
  ·rw[h1] at hb;simp at hb;subst hb;omega
 ·rcases D.hS with h1 | ⟨s,h1,h2⟩
  ·rw[h1] at hb;simp at hb
  ·rw[h1] at hb;simp at hb;subst hb;omega
 ·have:=isD_range (D.hX b hb);omega
theorem dec_cut:(Lib.cut (I++(P++F)) [46]).1=I∧(Lib.cut (I++(P++F)) [46]).2.1=F:=by
 have hocc:∀ (s:List UInt8) (j:Nat),Lib.occAt s [46] j=decide (s[j]?=some 46):=by
  intro s j;unfold Lib.occAt
  by_cases hj:j<s.length
  ·rw[List.drop_eq_getElem_cons hj,List.getElem?_eq_getElem hj]
   simp only[List.isPrefixOf,Bool.and_true,Option.some.injEq]
   exact Bool.eq_iff_iff.2 ⟨fun h=>decide_eq_true (beq_iff_eq.1 h).symm,fun h=>beq_iff_eq.2 (of_decide_eq_true h).symm⟩
  ·rw[List.drop_eq_nil_of_le (by omega),List.getElem?_eq_none (by omega)];rfl
 have hI:∀ j:Nat,j<I.length→¬ I[j]?=some 46:=by
  intro j hj h;have:=isD_range (D.hI 46 (List.mem_of_getElem? h))
  revert this;decide
 rcases D.hP with⟨h1,h2⟩ | ⟨h1,h2⟩
 ·have hn:Lib.index (I++(P++F)) [46]=-1:=by
   rw[h1,h2]
   refine Lib.index_none ?_
   intro j _;rw[hocc,decide_eq_false_iff_not];simp only[List.append_nil];intro h
   exact hI j (List.getElem?_eq_some_iff.1 h).1 h
  unfold Lib.cut;rw[hn,if_neg (by decide),h1,h2]
  simp
 ·have hn:Lib.index (I++(P++F)) [46]=(I.length:Int):=by
   refine Lib.index_first (i:=I.length) (by simp) ?_ ?_
   ·rw[hocc,h1,List.getElem?_append_right (Nat.le_refl _),Nat.sub_self];rfl
   ·intro j hj
    rw[hocc,decide_eq_false_iff_not,List.getElem?_append_left hj]
    exact hI j hj
  unfold Lib.cut;rw[hn,if_pos (by omega)]
  refine⟨?_,?_⟩
  ·show List.take (Int.toNat (I.length:Int)) _=_
   rw[Int.toNat_natCast,List.take_left]
  ·show List.drop (Int.toNat (I.length:Int)+1) _=_
   rw[Int.toNat_natCast,← List.drop_drop,List.drop_left,h1];rfl
theorem dec_exp_digits:∀ b∈(expP l).drop (sgn (expP l)),isD b=true:=by rw[← D.lX];exact D.hX
theorem dec_expP:(E=[]∧expP l=[])∨(E≠[]∧expP l=(l.drop (sgn l)).drop ((I++(P++F)).length+1)):=by
 rcases D.hE with⟨h1,h2,h3⟩ | ⟨e,h1,h2,h3⟩
 ·exact .inl ⟨h1,by rw[← D.lE,h2,h3];rfl⟩
 ·refine .inr ⟨by rw[h1];simp,?_⟩
  rw[dec_drop D,← List.drop_drop,List.drop_left,h1,← D.lE];rfl
theorem dec_len:l.length=sg.length+(I.length+(P.length+F.length))+(E.length+(S2.length+X.length)):=by
 have:=congrArg List.length D.all;simp only[List.length_append] at this
 omega
end
structure Env (w:World):Prop where
 max:∃ m,w.cell? ⟨3,0,none⟩=some (.int .i64 m)
 pow:Lib.TabIs Tryz.prog w "internal/strconv.uint64pow10" .u64 Lib.pow10Tab
theorem cell_lt {w:World} {b:Nat} {v:Value} (h:w.cell? ⟨b,0,none⟩=some v):b<w.heap.size:=by
 by_cases hb:b<w.heap.size
 ·exact hb
 ·exfalso
  have:w.heap[b]?=none:=Array.getElem?_eq_none (by omega)
  simp[World.cell?,this] at h
theorem Env.below {w w':World} (h:Env w) (hb:Below w.heap.size w w'):Env w':=by
 obtain⟨⟨m,hm⟩,hp⟩:=h
 refine⟨⟨m,?_⟩,Joins.tab_stays (g:=4) (by kernel_rfl) hp hb (Nat.le_refl _)⟩
 have hlt:=cell_lt hm;have:=hb.block 3 hlt;simp only[World.cell?] at hm ⊢;rw[this];exact hm
theorem fx_digit (t:List UInt8) (i B:Nat) (w:World) (hv:w.cell? ⟨B,0,none⟩=some (.string (bytesOf t))) (hd:∀ b∈t,isD b=true) (hl:t.length≤100000000) :
  Calls Tryz.prog 159 #[.int .i64 i,.pointer (some ⟨B,0,none⟩)] w fun e w'=>e=.returned (.int .i64 (((t[i]?.map dv).getD 0:Nat):Int))∧w=w':=by
 have hs:=bytesOf_size t
 by_cases hi:i<t.length
 ·have hb:t[i]?=some t[i]:=List.getElem?_eq_getElem hi
  have hr:=isD_range (hd _ (List.mem_of_getElem? hb));have hix:=str_at (P:=Tryz.prog) (T:=9) Tryz.underlying9 t .i64 i _ hb;generalize t[i]=b at *
  have Hb:=Lib.hid hb;clear hb hd
  go_enter Tryz.func159,Tryz.ntmps159
  go_wp2
  go_ret
  exact⟨ret_int (by rw[Hb.out];simp[dv];omega),rfl⟩
 ·have Hb:=Lib.hid (show t[i]?=none from List.getElem?_eq_none (by omega))
  clear hd
  go_enter Tryz.func159,Tryz.ntmps159
  go_wp2
  go_ret
  exact⟨ret_int (by rw[Hb.out];rfl),rfl⟩
theorem retIB {a b:Int} {c d:Bool} (h1:a=b) (h2:c=d):Ending.returned (.tuple #[.int .i64 a,.bool c])=Ending.returned (.tuple #[.int .i64 b,.bool d]):=by rw[h1,h2]
theorem powP_range (x:List UInt8) (h:∀ b∈x.drop (sgn x),isD b=true):-999999≤powP x∧powP x≤999999:=by
 have hn:(if x.length-sgn x≤6 then val (x.drop (sgn x)) else 999999:Nat)≤999999:=by
  split
  ·rename_i h6
   have:=val_lt _ h;rw[List.length_drop] at this;have h2:10 ^ (x.length-sgn x)≤10 ^ 6:=Nat.pow_le_pow_right (by omega) h6
   omega
  ·omega
 unfold powP;simp only[]
 split
 ·omega
 ·split<;>omega
theorem bytes_ascii {l:List UInt8} (h:∀ b∈l,b.toNat<128):∀ (j:Nat) b,(bytesOf l).data.toList[j]?=some b→b.toNat<128:=by
 intro j b hb;rw[bytesOf_list] at hb
 exact h b (List.mem_of_getElem? hb)
theorem eE_ascii:∀ (j:Nat) b,(⟨#[101,69]⟩:ByteArray).data.toList[j]?=some b→b.toNat<128:=by
 intro j b hb;have h:=List.mem_of_getElem? hb
 simp at h
 rcases h with rfl | rfl<;>decide
theorem fx_parse (l:List UInt8) (w:World) (hl:l.length≤1000000) (hw:Env w) :
  Calls Tryz.prog 128 #[.string (bytesOf l)] w fun e w'=>e=.returned (.tuple #[.int .i64 (parseP l),.bool (isP l)])∧Below w.heap.size w w':=by
 have hs:=bytesOf_size l
 by_cases hne:l=[]
 ·subst hne
  obtain⟨e1,e2⟩:=str_none
  go_enter Tryz.func128,Tryz.ntmps128
  go_wp2
  go_ret2
  exact⟨retIB rfl rfl,Below.refl _ _⟩
 ·obtain⟨e1,e2⟩:=str_some hne
  by_cases hlen:lenP l=l.length
  ·have hisP:isP l=true:=decide_eq_true ⟨hne,hlen⟩
   obtain⟨sg,I,P,F,E,S2,X,D⟩:=dec_of_isP hisP;have hdl:=dec_len D;have hsgl:sg.length≤l.length:=by omega
   have hdl0:=Lib.hid hdl;have hsg:=dec_sgn D;have Hlen:=Lib.hid hlen;have HD:=Lib.hid D;have Hsg:=Lib.hid hsg;have hf:=str_from (P:=Tryz.prog) (T:=9) Tryz.underlying9 l .i64 sg.length (by omega)
   have hia:Hid (Lib.indexAny (l.drop sg.length) [101,69]=if E=[] then -1 else (((I++(P++F)).length:Nat):Int)):=by
    show _=_
    rw[← hsg];exact dec_index D
   clear hlen D hsg hdl
   go_enter Tryz.func128,Tryz.ntmps128
   go_wp2_with fail
   refine(fx_length l w (by omega)).mono ?_
   rintro e w1 ⟨rfl,hb1⟩;rw[Hlen.out]
   go_wp2_with fail
   refine(fx_sign l _ (by omega)).mono ?_
   rintro e w2 ⟨rfl,rfl⟩;rw[Hsg.out]
   go_wp2_with fail
   refine(Tryz.strings_IndexAny_laid (bytesOf (l.drop sg.length)) ⟨#[101,69]⟩ w1 (by rw[bytesOf_size,List.length_drop];omega) (by decide) (bytes_ascii (by rw[← Hsg.out];exact dec_ascii HD.out)) eE_ascii).mono ?_
   rintro e w2 ⟨rfl,hb2⟩;rw[bytesOf_list,show (⟨#[101,69]⟩:ByteArray).data.toList=[101,69] from rfl,hia.out]
   replace hb2:=hb1.trans (hb2.mono hb1.size)
   clear hb1;obtain⟨r,hr⟩:∃ r,(if E=[] then -1 else (((I++(P++F)).length:Nat):Int))=r:=⟨_,rfl⟩;rw[hr];have Hr:=Lib.hid hr;clear hr
   go_upto_if 34 with (fail)
   go_cut [5,6] (fun s t wx=>s=.string (bytesOf (I++(P++F)))∧t=.string (bytesOf (expP l))∧Below w.heap.size w wx)
   case first =>
    have hdr:=dec_drop HD.out;rw[Hsg.out] at hdr
    by_cases hE:E=[]
    ·have hr:=Hr.out
     rw[if_pos hE] at hr;subst hr;have hx:=dec_expP HD.out;have hx1:expP l=[]:=by rcases hx with⟨_,h⟩ | ⟨h,_⟩;exact h;exact absurd hE h
     have hx2:l.drop sg.length=I++(P++F):=by
      rcases HD.out.hE with⟨_,h2,h3⟩ | ⟨e,h1,_⟩
      ·rw[hdr,hE,h2,h3];simp
      ·rw[hE] at h1;cases h1
     rw[hx2]
     go_wp2_with fail
     go_meet
     exact⟨rfl,by rw[hx1];rfl,hb2⟩
    ·have hr:=Hr.out
     rw[if_neg hE] at hr;have hx:=dec_expP HD.out;have hx1:expP l=(l.drop sg.length).drop ((I++(P++F)).length+1):=by rcases hx with⟨h,_⟩ | ⟨_,h⟩;exact absurd h hE;rw[Hsg.out] at h;exact h
     have hx2:(l.drop sg.length).take (I++(P++F)).length=I++(P++F):=by rw[hdr,List.take_left]
     have hEp:0<E.length:=List.length_pos_iff.2 hE
     have hlb:(I++(P++F)).length+1≤(l.drop sg.length).length:=by
      have h9:=congrArg List.length hdr;simp only[List.length_append] at h9 ⊢
      omega
     have h1:=str_to (P:=Tryz.prog) (T:=9) Tryz.underlying9 (l.drop sg.length) .i64 (I++(P++F)).length (by omega);have h2:=str_from (P:=Tryz.prog) (T:=9) Tryz.underlying9 (l.drop sg.length) .i64 ((I++(P++F)).length+1) hlb;rw[hx2] at h1;rw[← hx1] at h2;have hlb2:(I++(P++F)).length≤1000000:=by rw[List.length_drop] at hlb;omega
     generalize (I++(P++F)).length=N at *
     generalize I++(P++F)=body at *
     generalize l.drop sg.length=rest at *
     generalize expP l=ex at *
     subst hr
     push_cast at h2
     clear hx1 hx2 hdr hx
     go_wp2_with fail
     go_region
     all_goals (go_wp2_with fail;go_meet;exact⟨rfl,rfl,hb2.drew⟩)
   case rest =>
    clear hb2;obtain⟨rfl,rfl,hb2⟩:=hcut;have hIl:I.length≤1000000:=by have:=hdl0.out;omega
    have hFl:F.length≤1000000:=by have:=hdl0.out;omega
    have hIPF:(I++(P++F)).length≤1000000:=by have:=hdl0.out;simp only[List.length_append];omega
    obtain⟨m,hm⟩:=(hw.below hb2).max
    go_wp2_with fail
    refine(Tryz.strings_Cut (bytesOf (I++(P++F))) ⟨#[46]⟩ m _ (by rw[bytesOf_size];omega) hm).mono ?_
    rintro e w3 ⟨rfl,n,rfl⟩;rw[bytesOf_list,show (⟨#[46]⟩:ByteArray).data.toList=[46] from rfl,(dec_cut HD.out).1,(dec_cut HD.out).2];rw[show (⟨I.toArray⟩:ByteArray)=bytesOf I from rfl,show (⟨F.toArray⟩:ByteArray)=bytesOf F from rfl];have hsI:=bytesOf_size I;have hsF:=bytesOf_size F;have hb3:=below_drewN hb2 n
    have hIF:∀ b∈I++F,isD b=true:=by
     intro b hb
     rcases List.mem_append.1 hb with h | h
     ·exact HD.out.hI b h
     ·exact HD.out.hF b h
    have HIF:=Lib.hid hIF;clear hIF;have hel:(expP l).length≤l.length:=by unfold expP;split<;>simp
    have hIF1:=bytesOf_size (I++F);rw[List.length_append] at hIF1;obtain⟨T,hT⟩:∃ T,(I++F).dropWhile (· == 48)=T:=⟨_,rfl⟩
    have hTl:T.length≤I.length+F.length:=by
     rw[← hT];have:=(List.dropWhile_suffix (· == (48:UInt8)) (l:=I++F)).length_le
     rwa[List.length_append] at this
    have hTD:∀ b∈T,isD b=true:=by rw[← hT];exact dropWhile_all HIF.out
    have hsT:=bytesOf_size T
    have hnum:numP l=foldN T ((I.length:Int)+powP (expP l)+3-((I.length+F.length-T.length:Nat):Int)):=by
     unfold numP;rw[← HD.out.lI,← HD.out.lF,foldN_trim,hT,List.length_append]
    have HT:=Lib.hid hT;have HTD:=Lib.hid hTD;have Hnum:=Lib.hid hnum;clear hT hTD hnum;obtain⟨pw,hpw⟩:∃ pw,powP (expP l)=pw:=⟨_,rfl⟩;have hpwb:-999999≤pw∧pw≤999999:=by rw[← hpw];exact powP_range _ (dec_exp_digits HD.out)
    have Hpw:=Lib.hid hpw;clear hpw
    go_wp2_with fail
    refine(fx_power (expP l) _ (by omega) (dec_exp_digits HD.out)).mono ?_
    rintro e w4 ⟨rfl,hb4⟩
    replace hb4:=hb3.trans (hb4.mono hb3.size)
    rw[Hpw.out];clear hb3 hb2;rw[bytesOf_append]
    go_wp2_with fail
    refine(Tryz.strings_TrimLeft_one _ 48 (by decide) _).mono ?_
    rintro e w5 ⟨rfl,rfl⟩;rw[bytesOf_list,show Lib.trimLeftB (I++F) 48=T from HT.out,show (⟨T.toArray⟩:ByteArray)=bytesOf T from rfl];have hTl2:T.length≤2000000:=by omega
    go_upto_block 0 with (fail)
    have hcell:(w5.alloc (.cells #[.string (bytesOf T)] 9)).cell? ⟨w5.heap.size,0,none⟩=some (.string (bytesOf T)):=by simp[World.cell?_alloc_new]
    have hb6:Below w.heap.size w (w5.alloc (.cells #[.string (bytesOf T)] 9)):=hb4.alloc hb4.size _;generalize w5.alloc (.cells #[.string (bytesOf T)] 9)=W6 at *
    generalize w5.heap.size=B at *
    obtain⟨p,hp⟩:∃ p:Int,(I.length:Int)+pw+3-((I.length:Int)+F.length-T.length)=p:=⟨_,rfl⟩;have hpb:-4000000≤p∧p≤4000000:=by omega
    have hnum2:numP l=foldN T p:=by
     rw[Hnum.out,Hpw.out];congr 1;omega
    have Hnum2:=Lib.hid hnum2;rw[hp];clear hp hnum2 hpwb hTl hIF1 hsI hsF hel hb4
    go_cut [14] (fun s wx=>s=.int .i64 (numP l:Nat)∧wx=W6)
    case first =>
     go_wp2_with fail
     go_loop [14,16] (fun n k=>∃ i N:Nat,i≤p.toNat∧N=min (vA T i) M∧n=.int .i64 (N:Int)∧k=.int .i64 (i:Int)) (fun _ k=>p.toNat-(intOf k).toNat)
     case atStart=>exact⟨0,0,by omega,by simp[vA],rfl,rfl⟩
     case round =>
      obtain⟨i,N,hi,hN,rfl,rfl⟩:=hrel;have hNM:N≤1099511627776:=by rw[hN];exact Nat.min_le_right _ _
      have HN:=Lib.hid hN;clear hN
      have fin:∀ (h:N=foldN T p),((N:Nat):Int)=(numP l:Nat):=by
       intro h;rw[Hnum2.out,← h]
      have Hfin:=Lib.hid fin;clear fin
      by_cases c1:(i:Int)<p
      ·have d1:decide ((i:Int)<p)=true:=by simpa using c1
       by_cases c2:N<1099511627776
       ·have d2:decide ((N:Int)<1099511627776)=true:=by simp;omega
        by_cases c3:i<T.length∨0<N
        ·by_cases c4:i<T.length+60
         ·have d4:decide ((i:Int)<(T.length:Int)+60)=true:=by simp;omega
          obtain⟨x,hx⟩:∃ x,((T[i]?).map dv).getD 0=x:=⟨_,rfl⟩;have hcall:=fx_digit T i B W6 hcell HTD.out (by omega);rw[hx] at hcall
          have hx9:x≤9:=by
           rw[← hx]
           by_cases hi2:i<T.length
           ·rw[List.getElem?_eq_getElem hi2]
            have:=isD_range (HTD.out _ (List.getElem_mem hi2))
            simp[dv];omega
           ·rw[List.getElem?_eq_none (by omega)];simp
          have hstep:min (10 * N+x) M=min (vA T (i+1)) M:=by rw[HN.out,← hx];exact vA_step T i
          have Hstep:=Lib.hid hstep;clear hx hstep;have hmin:min (10 * (N:Int)+x) 1099511627776=((min (10 * N+x) M:Nat):Int):=by unfold M;omega
          by_cases c5:i<T.length
          ·have d5:decide ((i:Int)<T.length)=true:=by simp;omega
           go_wp2_with fail
           refine hcall.mono ?_
           rintro e w7 ⟨rfl,rfl⟩
           go_wp2
           exact⟨⟨i+1,_,by omega,Hstep.out,rfl,rfl⟩,by simp[intOf];omega⟩
          ·have d5:decide ((i:Int)<T.length)=false:=by simp;omega
           have hN1:1≤N:=by omega
           have hN2:0<N:=by omega
           have d6:decide ((0:Int)<N)=true:=by simp;omega
           have d7:decide (0<N)=true:=by simp;omega
           have hNI:(N:Int)≤1099511627776:=by omega
           clear c3 c2 hNM hN1
           go_wp2_with fail
           refine hcall.mono ?_
           rintro e w7 ⟨rfl,rfl⟩
           go_wp2
           exact⟨⟨i+1,_,by omega,Hstep.out,rfl,rfl⟩,by simp[intOf];omega⟩
         ·have d4:decide ((i:Int)<(T.length:Int)+60)=false:=by simp;omega
          have d5:decide ((i:Int)<T.length)=false:=by simp;omega
          exfalso
          have hv:vA T i≠0:=by intro h;have:=HN.out;rw[h] at this;simp at this;omega
          have:=vA_far T (by omega) hv;have:=HN.out;unfold M at *
          omega
        ·have d5:decide ((i:Int)<T.length)=false:=by simp;omega
         have hN0:N=0:=by omega
         have hv:vA T i=0:=by have:=HN.out;unfold M at this;omega
         have hf:N=foldN T p:=by
          unfold foldN;rw[vA_nought T (by omega:i≤p.toNat) (by omega) hv,hN0];rfl
         have d6:decide ((0:Int)<N)=false:=by simp;omega
         have Hn:=Lib.hid (Hfin.out hf);have hz0:(N:Int)≤0:=by omega
         have hTi:T.length≤i:=by omega
         clear c3 c2 hNM hN0 Hfin HN hf;generalize (N:Int)=z at *
         go_wp2_with fail
         go_meet
         exact⟨by rw[← Hn.out],rfl⟩
       ·have d2:decide ((N:Int)<1099511627776)=false:=by simp;omega
        have hf:N=foldN T p:=by
         have:=HN.out;unfold foldN;rw[vA_full T (by omega:i≤p.toNat) (by unfold M at *;omega)];unfold M;omega
        have Hn:=Lib.hid (Hfin.out hf);clear c2 hNM Hfin HN hf;generalize (N:Int)=z at *
        go_wp2_with fail
        go_meet
        exact⟨by rw[← Hn.out],rfl⟩
      ·have d1:decide ((i:Int)<p)=false:=by simpa using c1
       have hf:N=foldN T p:=by
        unfold foldN;have:i=p.toNat:=by omega
        rw[HN.out,this]
       have Hn:=Lib.hid (Hfin.out hf);clear hf
       go_wp2_with fail
       go_meet
       exact⟨by rw[← Hn.out],rfl⟩
    case rest =>
     obtain⟨rfl,rfl⟩:=hcut;have hpos:0<l.length:=List.length_pos_iff.2 hne;obtain⟨b,hb⟩:∃ b,l[0]?=some b:=⟨_,List.getElem?_eq_getElem hpos⟩;have hix:=str_at (P:=Tryz.prog) (T:=9) Tryz.underlying9 l .i64 0 b hb;rw[Int.ofNat_zero] at hix;have hnb:numP l≤1099511627776:=by rw[Hnum2.out];exact Nat.min_le_right _ _
     have hpp:parseP l=if l[0]?=some 45 then -(numP l:Int) else (numP l:Int):=by unfold parseP;rw[if_pos hisP]
     have Hpp:=Lib.hid hpp;have Hb:=Lib.hid hb;have HisP:=Lib.hid hisP;clear hpp hb hisP;generalize numP l=N at *
     by_cases hm:b.toNat=45
     ·have hv:parseP l=-(N:Int):=by
       rw[Hpp.out,if_pos];rw[Hb.out];congr 1;exact UInt8.toNat_inj.1 hm
      have Hv:=Lib.hid hv;clear hv;rw[hm] at hix
      go_wp2
      go_ret2
      exact⟨retIB (by rw[Hv.out]) (by rw[HisP.out]),hb6⟩
     ·have hv:parseP l=(N:Int):=by
       rw[Hpp.out,if_neg];rw[Hb.out];intro h;injection h with h;subst h;exact hm rfl
      have Hv:=Lib.hid hv;have hc:=byte_ne hm;clear hv
      go_wp2
      go_ret2
      exact⟨retIB (by rw[Hv.out]) (by rw[HisP.out]),hb6⟩
  ·have hisP:isP l=false:=decide_eq_false (by simp[hlen])
   have hp0:parseP l=0:=by unfold parseP;rw[hisP];rfl
   have hc:((lenP l:Int) == (l.length:Int))=false:=by simp;omega
   have H1:=Lib.hid hisP;have H2:=Lib.hid hp0;clear hisP hp0 hlen
   go_enter Tryz.func128,Tryz.ntmps128
   go_wp2_with fail
   refine(fx_length l w (by omega)).mono ?_
   rintro e w1 ⟨rfl,hb1⟩
   go_wp2
   go_ret2
   exact⟨retIB (by rw[H2.out]) (by rw[H1.out]),hb1⟩
end Go.Proofs.YtfhdihdafmahgaaGreatDoor
