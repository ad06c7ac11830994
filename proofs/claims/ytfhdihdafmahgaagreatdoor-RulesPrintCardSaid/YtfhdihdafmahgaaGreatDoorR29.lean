import Derived.Test.YtfhdihdafmahgaaGreatDoorR27
import Derived.Test.YtfhdihdafmahgaaGreatDoorR16
import Derived.Maps.Own
import Derived.Maps.Views
import Derived.WalkArith
set_option linter.unusedVariables false
set_option linter.unusedSimpArgs false
set_option maxRecDepth 1000000
set_option maxHeartbeats 8000000
namespace Go.Proofs.YtfhdihdafmahgaaGreatDoor
open Go.RowKit Rn Tp
namespace Tp
def standB (t:GTok) (nx:Option GTok):Bool:=oneB t&&(match nx with
 | none=>decide (t.kind≠7)
 | some u=>!(decide (t.kind=1)&&decide (u.kind=1))&&!(decide (t.kind=7)&&decide (u.kind≠1))&&!(decide (t.kind=11)&&decide (t.text=[92])&&decide (u.kind≠1)))
end Tp
theorem pairs_step (t:GTok) (r:List GTok):pairsB (t::r)=(standB t r.head? && pairsB r):=by
 cases r with
 | nil=>simp[pairsB,standB]
 | cons u r=>simp only[pairsB,standB,List.head?_cons];simp only[Bool.and_assoc]
theorem pairs_drop {l:List GTok} {k:Nat} {t:GTok} (h:l[k]?=some t):pairsB (l.drop k)=(standB t l[k+1]? && pairsB (l.drop (k+1))):=by
 have hk:k<l.length:=(List.getElem?_eq_some_iff.1 h).1
 have hd:l.drop k=t::l.drop (k+1):=by
  rw[List.drop_eq_getElem_cons hk];rw[List.getElem?_eq_getElem hk] at h
  injection h with h
  rw[h]
 rw[hd,pairs_step,List.head?_drop]
structure TokRow (w:World) (B:Nat) (A:Option Addr) (n:Nat) (l:List GTok):Prop where
 rd:ReadsT w B A n l
 small:∀ t∈l,t.text.length≤1000000∧-9223372036854775808≤t.n∧t.n≤9223372036854775807
 hn:n≤1000000
theorem TokRow.below {w w':World} {B n:Nat} {A:Option Addr} {l:List GTok} (h:TokRow w B A n l) (hb:Below B w w'):TokRow w' B A n l:=⟨Reads.below h.rd hb,h.small,h.hn⟩
theorem tp_rights (l:List GTok) (A:Option Addr) (n cap:Nat) (w:World) (hr:TokRow w w.heap.size A n l) (hT:Tabs w) :
  Calls Tryz.prog 53 #[.slice A n cap] w fun e w'=>e=.returned (.bool (rightB l))∧Below w.heap.size w w':=by
 have hlen:l.length=n:=hr.rd.len;have hn:=hr.hn;have Hlen:=Lib.hid hlen;clear hlen
 go_enter Tryz.func53,Tryz.ntmps53
 go_wp2_with fail
 go_loopw [8] (fun i wr=>∃ k:Nat,k≤n∧i=.int .i64 k∧Hid (pairsB l=pairsB (l.drop k))∧Below w.heap.size w wr) (fun i _=>n-(intOf i).toNat)
 case atStart=>exact⟨0,by omega,rfl,rfl,Below.refl _ _⟩
 case round =>
  obtain⟨k,hk,rfl,hrun,hb⟩:=hrel;have hrw:=hr.below hb
  by_cases hlt:k<n
  ·obtain⟨b,off,t,hA,hbw,ht,c0,c1,c2⟩:=hrw.rd.at_ hlt
   subst hA;have hsm:=hr.small t (List.mem_of_getElem? ht);have hstep:=pairs_drop ht;have dk:decide ((k:Int)<(n:Int))=true:=by simp;omega
   have hbs:=hb.size;obtain⟨WA,hWA⟩:∃ WA,wr.alloc (.cells #[.int .i64 t.kind,.string (bytesOf t.text),.int .i64 t.n] 58)=WA:=⟨_,rfl⟩;have bA:Below wr.heap.size wr WA:=by rw[←hWA];exact(Below.refl _ _).alloc (Nat.le_refl _) _
   have rA:RowAt WA wr.heap.size [.int .i64 t.kind,.string (bytesOf t.text),.int .i64 t.n]:=by rw[←hWA];exact RowAt.new _ _ _
   have hR:=tp_right t WA (by unfold maxLen;omega) ⟨hsm.2.1,hsm.2.2⟩ (hT.below (hb.trans (bA.mono hbs)));obtain⟨nx,hnx⟩:∃ nx,l[k+1]?=nx:=⟨_,rfl⟩;rw[hnx] at hstep;obtain⟨la,hla⟩:∃ la,((k:Int)==(n:Int)-1)=la:=⟨_,rfl⟩
   have hnext:(nx=none∧la=true)∨∃ u,nx=some u∧la=false∧k+1<n∧∀ W:World,Below w.heap.size w W→W.cell? ⟨b,off+(k+1) * 3,none⟩=some (.int .i64 u.kind):=by
    by_cases h1:k+1<n
    ·right
     obtain⟨b',off',u,hA',_,hu,d0,_,_⟩:=hr.rd.at_ h1
     injection hA' with hA'
     injection hA' with e1 e2
     subst e1 e2
     refine⟨u,by rw[←hnx];exact hu,by rw[←hla];simp;omega,h1,fun W hW=>(hW.cell (p:=⟨b,off+(k+1) * 3,none⟩) hbw).trans d0⟩
    ·left
     exact⟨by rw[←hnx];exact List.getElem?_eq_none (by rw[Hlen.out];omega),by rw[←hla];simp;omega⟩
   obtain⟨kind,text,num⟩:=t;simp only[] at *
   obtain⟨one,hone⟩:∃ o,oneB ⟨kind,text,num⟩=o:=⟨_,rfl⟩;rw[hone] at hR;obtain⟨b5,h5⟩:∃ b5,(!one||(match nx with | none=>false | some u=>(kind==1)&&(u.kind==1)))=b5:=⟨_,rfl⟩;obtain⟨b7,h7⟩:∃ b7,(match nx with | none=>(kind==7) | some u=>((kind==7)||((kind==11)&&decide (text=[92])))&&!(u.kind==1))=b7:=⟨_,rfl⟩
   have hst:standB ⟨kind,text,num⟩ nx=(!b5&&!b7):=by
    rw[←h5,←h7];unfold standB;rw[hone];have ed:∀ a b:Int,(a==b)=decide (a=b):=fun a b=>by rw[Bool.eq_iff_iff];simp
    cases nx with
    | none=>simp only[ed,Bool.or_false,Bool.not_not];rw[Bool.eq_iff_iff];simp
    | some u =>
     simp only[ed,decide_not,ne_eq];generalize decide (kind=1)=p1;generalize decide (kind=7)=p7;generalize decide (kind=11)=p11;generalize decide (text=[92])=pt;generalize decide (u.kind=1)=pu
     cases one<;>cases p1<;>cases p7<;>cases p11<;>cases pt<;>cases pu<;>rfl
   rw[hst] at hstep;have H5:=Lib.hid h5;have H7:=Lib.hid h7;have HS:=Lib.hid hstep;have HN:=Lib.hid hnext;have hwk:IntKind.i64.wrap ((k:Int)+1)=(k:Int)+1:=by rw[IntKind.wrap_i64];omega
   clear h5 h7 hstep hst hone hnext hnx;obtain⟨a0,_⟩:=rA.2 0 _ rfl;obtain⟨a1,_⟩:=rA.2 1 _ rfl;obtain⟨a2,_⟩:=rA.2 2 _ rfl
   go_upto_region 5 with (fail)
   go_cut [5,38] (fun v x wx=>v=.bool la∧x=.bool b5∧Below WA.heap.size WA wx)
   case first =>
    have hun:(undef:Value)=.tuple #[]:=rfl
    go_wp2_with fail
    refine hR.mono ?_
    rintro e w1 ⟨rfl,hb1⟩;have hb1':Below w.heap.size w w1:=(hb.trans (bA.mono hbs)).trans (hb1.mono (Nat.le_trans hbs bA.size));have e0:=(hb1.cell (p:=⟨wr.heap.size,0,none⟩) rA.1).trans a0;have h5:=H5.out
    cases one with
    | false =>
     simp only[Bool.not_false,Bool.true_or] at h5;have HB:=Lib.hid h5;clear h5 H5 H7 HS HN
     go_wp2_with fail
     go_meet
     exact⟨rfl,by rw[HB.out],hb1⟩
    | true =>
     simp only[Bool.not_true,Bool.false_or] at h5
     cases k1:(kind==1) with
     | false =>
      have h5':b5=false:=by
       rw[←h5]
       cases nx<;>simp[k1]
      have HB:=Lib.hid h5';clear h5 h5' H5 H7 HS HN
      go_wp2_with fail
      go_meet
      exact⟨rfl,by rw[HB.out],hb1⟩
     | true =>
      rcases HN.out with⟨hn0,rfl⟩|⟨u,hn0,rfl,hk1,hu⟩
      ·have h5':b5=false:=by rw[←h5,hn0]
       have HB:=Lib.hid h5';clear h5 h5' H5 H7 HS HN hn0
       go_wp2_with fail
       go_meet
       exact⟨rfl,by rw[HB.out],hb1⟩
      ·have h5':b5=(u.kind==1):=by rw[←h5,hn0];simp[k1]
       have HB:=Lib.hid h5';have d0:=hu w1 hb1';clear h5 h5' H5 H7 HS HN hn0 hu
       go_wp2_with fail
       go_meet
       exact⟨rfl,by rw[HB.out],hb1⟩
   case rest =>
    obtain⟨rfl,rfl,hbc⟩:=hcut;have hbc':Below w.heap.size w wc:=(hb.trans (bA.mono hbs)).trans (hbc.mono (Nat.le_trans hbs bA.size));have e0:=(hbc.cell (p:=⟨wr.heap.size,0,none⟩) rA.1).trans a0;have e1:=(hbc.cell (p:=⟨wr.heap.size,1,none⟩) rA.1).trans a1;clear hR H5 a0 a1 a2 hWA hla
    cases b5 with
    | true =>
     have hfin:rightB l=false:=by
      unfold rightB;rw[hrun.out,HS.out];simp
     have HB:=Lib.hid hfin;clear hfin H7 HS HN hrun
     go_wp2
     go_ret
     exact⟨ret_bool HB.out.symm,hbc'⟩
    | false =>
     go_upto_region 7 with (fail)
     go_cut [72] (fun x wx=>x=.bool b7∧wx=wc)
     case first =>
      have hun:(undef:Value)=.tuple #[]:=rfl;have h7:=H7.out
      rcases HN.out with⟨hn0,rfl⟩|⟨u,hn0,rfl,hk1,hu⟩
      ·have h7':b7=(kind==7):=by rw[←h7,hn0]
       have HB:=Lib.hid h7';clear h7 h7' H7 HS HN hn0
       cases k7:(kind==7) with
       | true =>
        go_wp2_with fail
        go_meet
        exact⟨by rw[HB.out,k7],rfl⟩
       | false =>
        cases k11:(kind==11) with
        | false =>
         go_wp2_with fail
         go_meet
         exact⟨by rw[HB.out,k7],rfl⟩
        | true =>
         by_cases ht92:text=[92]
         ·obtain⟨s1,s2⟩:=str_is ht92
          clear ht92
          go_wp2_with fail
          go_meet
          exact⟨by rw[HB.out,k7],rfl⟩
         ·obtain⟨s1,s2⟩:=str_not ht92
          clear ht92
          go_wp2_with fail
          go_meet
          exact⟨by rw[HB.out,k7],rfl⟩
      ·have h7':b7=(((kind==7)||((kind==11)&&decide (text=[92])))&&!(u.kind==1)):=by rw[←h7,hn0]
       have HB:=Lib.hid h7';have d0:=hu wc hbc';clear h7 h7' H7 HS HN hn0 hu
       cases k7:(kind==7) with
       | true =>
        go_wp2_with fail
        go_meet
        exact⟨by rw[HB.out,k7];simp;(try rfl),rfl⟩
       | false =>
        cases k11:(kind==11) with
        | false =>
         go_wp2_with fail
         go_meet
         exact⟨by rw[HB.out,k7,k11];simp,rfl⟩
        | true =>
         by_cases ht92:text=[92]
         ·obtain⟨s1,s2⟩:=str_is ht92
          have h92:decide (text=[92])=true:=by simp[ht92]
          have H92:=Lib.hid h92;clear ht92 h92
          go_wp2_with fail
          go_meet
          exact⟨by rw[HB.out,k7,k11,H92.out];simp;(try rfl),rfl⟩
         ·obtain⟨s1,s2⟩:=str_not ht92
          have h92:decide (text=[92])=false:=by simp[ht92]
          have H92:=Lib.hid h92;clear ht92 h92
          go_wp2_with fail
          go_meet
          exact⟨by rw[HB.out,k7,k11,H92.out];simp,rfl⟩
     case rest =>
      obtain⟨rfl,rfl⟩:=hcut;clear H7 HN
      cases b7 with
      | true =>
       have hfin:rightB l=false:=by
        unfold rightB;rw[hrun.out,HS.out];simp
       have HB:=Lib.hid hfin;clear hfin HS hrun
       go_wp2
       go_ret
       exact⟨ret_bool HB.out.symm,hbc'⟩
      | false =>
       have hnew:Hid (pairsB l=pairsB (l.drop (k+1))):=by
        show _=_
        rw[hrun.out,HS.out];simp
       clear HS hrun
       go_wp2_with fail
       go_roundw
       case rel=>exact⟨k+1,by omega,by go_num,hnew,hbc'⟩
       case measure=>simp[intOf];omega
  ·obtain rfl:k=n:=by omega
   have dk:decide ((k:Int)<(k:Int))=false:=by simp
   have hfin:rightB l=decide ((k:Int)≤16384):=by
    unfold rightB;rw[hrun.out,←Hlen.out,List.drop_length]
    simp[pairsB];omega
   have HB:=Lib.hid hfin;clear hfin hrun hlt hk
   go_wp2
   go_ret
   exact⟨ret_bool HB.out.symm,hb⟩
end Go.Proofs.YtfhdihdafmahgaaGreatDoor
namespace Go.Proofs.YtfhdihdafmahgaaGreatDoor
open Go.RowKit Rn Tp Ru Go.Maps
def boolR (v:Value):Option (DataW Unit×List MemPlace):=match v with
 | .bool b=>some (.lit (.bool b),[])
 | _=>none
theorem boolR_inv {v:Value} {z:DataW Unit×List MemPlace} (h:boolR v=some z):∃ b,v=.bool b∧z.1=.lit (.bool b):=by
 unfold boolR at h
 split at h
 ·rename_i b
  injection h with h
  exact⟨b,rfl,by rw[←h]⟩
 ·cases h
theorem ru_keys:Keyed Tryz.prog 3:=int_keyed Tryz.underlying3
theorem ru_zero_bool (w:World):(zeroValue 4).run Tryz.prog w=.ok (.bool false) w:=by kernel_rfl
def EndMap (w:World) (b:Nat) (l:List GTok) (k:Nat):Prop :=
 ∃ D:DataW Unit,IsMap D∧(∀ z:Int,D.atKey (.int .i64 z) (.lit (.bool false))=.lit (.bool (decide (∃ j,j<k∧endP l j=z))))∧w.ownsMap Tryz.prog 3 boolR b k D
theorem EndMap.new (w:World) (l:List GTok):EndMap (w.alloc (.map #[] 0)) w.heap.size l 0 :=
 ⟨.map [],isMap_empty,fun z=>by
  have h0:¬ ∃ j,j<0∧endP l j=z:=fun ⟨j,hj,_⟩=>absurd hj (Nat.not_lt_zero _)
  rw[decide_eq_false h0];rfl,World.ownsMap_made _ _ _ _⟩
theorem EndMap.kept {w w':World} {b:Nat} {l:List GTok} {k:Nat} (h:EndMap w b l k) {row:Option Nat} (hg:w.grownBy w' row) (hne:some b≠row):EndMap w' b l k:=by
 obtain⟨D,h1,h2,h3⟩:=h
 exact⟨D,h1,h2,h3.kept hg hne⟩
theorem EndMap.alloc {w:World} {b:Nat} {l:List GTok} {k:Nat} (h:EndMap w b l k) (o:Obj):EndMap (w.alloc o) b l k:=by
 obtain⟨D,h1,h2,h3⟩:=h
 exact⟨D,h1,h2,h3.alloc o⟩
theorem EndMap.drewN {w:World} {b:Nat} {l:List GTok} {k:Nat} (h:EndMap w b l k) (n:Nat):EndMap (w.drewN n) b l k:=h
theorem EndMap.put {w w':World} {b:Nat} {l:List GTok} {k:Nat} {D:DataW Unit} (h1:IsMap D) (h2:∀ z:Int,D.atKey (.int .i64 z) (.lit (.bool false))=.lit (.bool (decide (∃ j,j<k∧endP l j=z))))
  (h3:w'.ownsMap Tryz.prog 3 boolR b (k+1) (D.put (.int .i64 (endP l k)) (.lit (.bool true)))):EndMap w' b l (k+1):=by
 refine⟨_,h1.put _ _,fun z=>?_,h3⟩
 by_cases e:z=endP l k
 ·subst e
  rw[atKey_put_same h1 (show WideAt.IsKeyLit (.int .i64 (endP l k)) from trivial)];have:decide (∃ j,j<k+1∧endP l j=endP l k)=true:=decide_eq_true ⟨k,by omega,rfl⟩;rw[this]
 ·rw[atKey_put_other (by intro h;injection h with _ h;exact e h),h2 z]
  congr 2
  rw[Bool.eq_iff_iff];simp only[decide_eq_true_eq]
  constructor
  ·rintro⟨j,hj,hz⟩;exact⟨j,by omega,hz⟩
  ·rintro⟨j,hj,hz⟩
   refine⟨j,?_,hz⟩
   rcases Nat.lt_or_ge j k with h|h
   ·exact h
   ·exact absurd (by rw[←hz,show j=k by omega]) e
theorem EndMap.look {w:World} {b:Nat} {l:List GTok} (h:EndMap w b l l.length) (z:Nat) (hz:z≤1000000):(Instr.lookup 98 (.map (some b)) (.int .i64 (z:Int)) false).run Tryz.prog w=.ok (.bool (closedB l z)) w:=by
 obtain⟨D,h1,h2,h3⟩:=h;obtain⟨v,ps,hrun,hv⟩:=h3.lookup ru_keys Tryz.underlying98 (ru_zero_bool w) (zd:=.lit (.bool false)) (zp:=[]) rfl (keyOf_int_mk Tryz.underlying3 (WalkArith.wf_i64 (n:=(z:Int)) ⟨by omega,by omega⟩));obtain⟨x,rfl,hx⟩:=boolR_inv hv;simp only[] at hx;rw[h2] at hx;simp only[DataW.lit.injEq,Lit.bool.injEq] at hx;rw[hrun,←hx];have:decide (∃ j,j<l.length∧endP l j=(z:Int))=closedB l z:=by unfold closedB;rfl
 rw[this]
theorem open_false {l:List GTok} {k:Nat} (hk:k<l.length) (h:endP l k=(l.length:Int)):openB l=false:=by
 unfold openB;rw[List.all_eq_false]
 exact⟨k,List.mem_range.2 hk,by simp[h]⟩
theorem open_true {l:List GTok} (h:∀ k,k<l.length→endP l k≠(l.length:Int)):openB l=true:=by
 unfold openB;rw[List.all_eq_true];intro k hk
 simpa using h k (List.mem_range.1 hk)
theorem sound_open {l:List GTok} (h:openB l=false):soundP l=false:=by unfold soundP;rw[h];simp
theorem sound_all {l:List GTok} (h1:rightB l=true) (h2:deepB l=true) (h3:openB l=true) (h4:∀ k,k<l.length→soundAt l k=true):soundP l=true:=by
 unfold soundP;rw[h1,h2,h3,Bool.true_and,Bool.true_and,Bool.true_and,List.all_eq_true]
 exact fun k hk=>h4 k (List.mem_range.1 hk)
theorem sound_at {l:List GTok} {k:Nat} (hk:k<l.length) (h:soundAt l k=false):soundP l=false:=by
 have:(List.range l.length).all (soundAt l)=false:=by
  rw[List.all_eq_false]
  exact⟨k,List.mem_range.2 hk,by rw[h];decide⟩
 unfold soundP;rw[this,Bool.and_false]
def badAt (l:List GTok) (t:GTok) (k:Nat):Bool:=barB t||(decide (t.kind=13)&&!closedB l k)
theorem sound_bad {l:List GTok} {k:Nat} {t:GTok} (h:l[k]?=some t):soundAt l k=!badAt l t k:=by
 unfold soundAt badAt;rw[h]
 simp
theorem end_range (l:List GTok) (k:Nat):-1≤endP l k∧endP l k≤(l.length:Int):=by
 rcases end_cases l k with h|⟨e,h,h1,h2⟩
 ·omega
 ·omega
theorem ru_sound (l:List GTok) (A:Option Addr) (n c:Nat) (w:World) (hr:ReadsS w (· < w.heap.size) 3 A n (cellsG l)) (hn:n≤1000000) (hs:∀ t∈l,smallT t) (hT:Tabs w) :
  Calls Tryz.prog 31 #[.slice A n c] w fun e w'=>e=.returned (.bool (soundP l))∧Below w.heap.size w w':=by
 have hlen:l.length=n:=hr.toks_len;have Hlen:=Lib.hid hlen;have hmm:=@run_makeMap Tryz.prog;have hRt:=tp_rights l A n c w ⟨hr,hs,hn⟩ hT;clear hlen
 go_enter Tryz.func31,Tryz.ntmps31
 go_wp2_with fail
 refine hRt.mono ?_
 rintro e w1 ⟨rfl,hb1⟩
 cases hri:rightB l with
 | false =>
  have hf:soundP l=false:=by unfold soundP;rw[hri];simp
  have HF:=Lib.hid hf;clear hf hri hRt
  go_wp2_with fail
  go_ret
  exact⟨ret_bool HF.out.symm,hb1⟩
 | true =>
  have hr1:=hr.below hb1;have Hri:=Lib.hid hri;clear hri hRt
  go_wp2_with fail
  refine(nest_ends l A n c w1 hr1 hn).mono ?_
  rintro e w2 ⟨hb2,hret⟩;have hB2:Below w.heap.size w w2:=hb1.trans (hb2.mono hb1.size);unfold EndsRet at hret
  cases hd:deepB l with
  | false =>
   rw[hd,if_neg (by decide)] at hret;subst hret;have hf:soundP l=false:=by unfold soundP;rw[hd];simp
   have HF:=Lib.hid hf;clear hf hd
   go_wp2_with fail
   go_ret
   exact⟨ret_bool HF.out.symm,hB2⟩
  | true =>
   rw[hd,if_pos rfl] at hret;obtain⟨rfl,he2,hlt2⟩:=hret;have Hd:=Lib.hid hd;have hs1:=hb1.size;have hs2:=hb2.size;clear hd
   go_wp2_with fail
   have hM0:=EndMap.new w2 l;have hbA:Below w.heap.size w (w2.alloc (.map #[] 0)):=hB2.alloc (Nat.le_trans hs1 hs2) _;have heA:EndsS (w2.alloc (.map #[] 0)) (fun b=>b=w1.heap.size) (some ⟨w1.heap.size,0,none⟩) n l:=he2.keep (Kept.of_alloc _ (fun b hb=>by rw[hb];exact hlt2))
   go_loopw [23] (fun i wr=>∃ k:Nat,k≤n∧i=.int .i64 (k:Int)∧Hid (∀ j,j<k→endP l j≠(n:Int))∧EndMap wr w2.heap.size l k∧Below w.heap.size w wr∧EndsS wr (fun b=>b=w1.heap.size) (some ⟨w1.heap.size,0,none⟩) n l∧w2.heap.size<wr.heap.size) (fun i _=>n-(intOf i).toNat)
   case atStart=>exact⟨0,Nat.zero_le _,rfl,(by show ∀ j,j<0→_;intro j hj;omega),hM0,hbA,heA,by simp⟩
   case round =>
    obtain⟨k,hk,rfl,hno,hM,hb,he,hgt⟩:=hrel
    by_cases hlt:k<n
    ·obtain⟨b,off,hA,hbk,hc⟩:=he.at_ hlt
     injection hA with hA
     injection hA with e1 e2
     subst e1 e2;have hrg:=end_range l k;have dk:decide ((k:Int)<(n:Int))=true:=by simp;omega
     have dk':(k:Int)<(n:Int):=by omega
     rw[Nat.zero_add] at hc;obtain⟨E,hE⟩:∃ E,endP l k=E:=⟨_,rfl⟩;rw[hE] at hc hrg
     by_cases heq:E=(n:Int)
     ·have hf:soundP l=false:=sound_open (open_false (k:=k) (by rw[Hlen.out];exact hlt) (by rw[hE,heq,Hlen.out]))
      have HF:=Lib.hid hf;have dE:(E==(n:Int))=true:=by simpa using heq
      clear hf hE heq
      go_wp2_with fail
      go_ret
      exact⟨ret_bool HF.out.symm,hb⟩
     ·have dE:(E==(n:Int))=false:=by simpa using heq
      have hnew:Hid (∀ j,j<k+1→endP l j≠(n:Int)):=by
       show ∀ j,_→_
       intro j hj
       rcases Nat.lt_or_ge j k with h|h
       ·exact hno.out j h
       ·rw[show j=k by omega,hE];exact heq
      obtain⟨D,hD1,hD2,hD3⟩:=hM;have hkey:keyOf Tryz.prog 3 (.int .i64 E)=some (.int .i64 E):=keyOf_int_mk Tryz.underlying3 (WalkArith.wf_i64 (n:=E) ⟨by omega,by have:=Hlen.out;omega⟩);have HE:=Lib.hid hE;have HD2:=Lib.hid hD2;clear hE heq hno hD2
      go_wp2_with (at_mapUpdate;refine wpList_mapUpdate_own _ rfl _ _ _ 98 rfl 3 4 ru_keys Tryz.underlying98 boolR w2.heap.size k D rfl hD3 (by unfold maxLen;omega) _ _ _ rfl rfl hkey (.lit (.bool true)) [] rfl ?_)
      intro w4 hown4 hg4;have hM4:EndMap w4 w2.heap.size l (k+1):=EndMap.put (w:=wr) hD1 HD2.out (by rw[HE.out];exact hown4);have hb4:Below w.heap.size w w4:=hb.grown hg4 (Nat.le_trans hs1 (Nat.le_trans hs2 (Nat.le_of_lt hgt))) (fun j hj=>by cases hj;exact Nat.le_trans hs1 hs2);have he4:=he.keep (Kept.of_grown hg4 (fun b hb=>by rw[hb];exact⟨by omega,by intro e;injection e with e;omega⟩));have hgt4:=Nat.lt_of_lt_of_le hgt hg4.size;clear hown4 hD3 hM0 hbA heA hkey
      go_wp2_with fail
      go_roundw
      case rel=>exact⟨k+1,by omega,by go_num,hnew,hM4,hb4,he4,hgt4⟩
      case measure=>simp[intOf];omega
    ·obtain rfl:k=n:=by omega
     have dk:decide ((k:Int)<(k:Int))=false:=by simp
     have hop:openB l=true:=open_true (fun j hj=>by rw[Hlen.out];exact hno.out j (by rw[Hlen.out] at hj;exact hj));have Hop:=Lib.hid hop;have hMf:EndMap wr w2.heap.size l l.length:=by rw[Hlen.out];exact hM
     have hrr:=hr.keep (Kept.of_below hb (fun b h=>h));clear hop hno hM hM0 hbA heA he he2
     go_wp2_with fail
     go_loopw [36] (fun i wx=>∃ k':Nat,k'≤k∧i=.int .i64 (k':Int)∧Hid (∀ j,j<k'→soundAt l j=true)∧EndMap wx w2.heap.size l l.length∧Below w.heap.size w wx) (fun i _=>k-(intOf i).toNat)
     case atStart=>exact⟨0,Nat.zero_le _,rfl,(by show ∀ j,j<0→_;intro j hj;omega),hMf,hb⟩
     case round =>
      obtain⟨i,hi,rfl,hall,hM,hbx⟩:=hrel
      by_cases hlt:i<k
      ·obtain⟨b,off,t,hA,hbw,ht,c0,c1,c2⟩:=hr.tok hlt
       subst hA;have dk:decide ((i:Int)<(k:Int))=true:=by simp;omega
       have dk':(i:Int)<(k:Int):=by omega
       obtain⟨WA,hWA⟩:∃ WA,wr.alloc (.cells #[.int .i64 t.kind,.string (bytesOf t.text),.int .i64 t.n] 58)=WA:=⟨_,rfl⟩;have bA:Below wr.heap.size wr WA:=by rw[←hWA];exact(Below.refl _ _).alloc (Nat.le_refl _) _
       have rA:RowAt WA wr.heap.size [.int .i64 t.kind,.string (bytesOf t.text),.int .i64 t.n]:=by rw[←hWA];exact RowAt.new _ _ _
       have hMA:EndMap WA w2.heap.size l l.length:=by rw[←hWA];exact hM.alloc _
       have hlk:=hMA.look i (by omega);have hBA:=hbx.trans (bA.mono hbx.size)
       replace c0:=(hbx.cell (p:=⟨b,off+i * 3,none⟩) hbw).trans c0
       replace c1:=(hbx.cell (p:=⟨b,off+i * 3+1,none⟩) hbw).trans c1
       replace c2:=(hbx.cell (p:=⟨b,off+i * 3+2,none⟩) hbw).trans c2
       obtain⟨a0,_⟩:=rA.2 0 _ rfl;obtain⟨a1,_⟩:=rA.2 1 _ rfl;obtain⟨a2,_⟩:=rA.2 2 _ rfl;have hsb:=sound_bad ht;obtain⟨q,hq⟩:∃ q,badAt l t i=q:=⟨_,rfl⟩;rw[hq] at hsb;obtain⟨cl,hcl⟩:∃ cl,closedB l i=cl:=⟨_,rfl⟩;rw[hcl] at hlk
       have hqe:q=((t.kind==7)||((t.kind==11)&&decide (t.text=[92]))||((t.kind==13)&&!cl)):=by
        rw[←hq];unfold badAt barB;rw[hcl];rw[Bool.eq_iff_iff];simp
       have HQ:=Lib.hid hqe;have HSB:=Lib.hid hsb;have Ht:=Lib.hid ht;obtain⟨kind,text,num⟩:=t;simp only[] at *
       have HM5:=Lib.hid hMA;clear hq hqe hsb hcl ht hM hMf rA hMA
       go_upto_region 17 with (fail)
       go_cut [64] (fun x wz=>x=.bool q∧WA=wz)
       case first =>
        have hun:(undef:Value)=.tuple #[]:=rfl
        cases k7:(kind==7) with
        | true =>
         have e:q=true:=by rw[HQ.out,k7];rfl
         have HE:=Lib.hid e;clear e
         go_wp2_with fail
         go_meet
         exact⟨by rw[HE.out],rfl⟩
        | false =>
         cases k11:(kind==11) with
         | true =>
          have k13:(kind==13)=false:=by
           have:=of_decide_eq_true (p:=kind=11) (by simpa using k11);subst this;rfl
          by_cases ht92:text=[92]
          ·obtain⟨s1,s2⟩:=txt_is ht92
           have e:q=true:=by rw[HQ.out,k7,k11,ht92];rfl
           have HE:=Lib.hid e;clear e ht92
           go_wp2_with fail
           go_meet
           exact⟨by rw[HE.out],rfl⟩
          ·obtain⟨s1,s2⟩:=txt_not ht92
           have e:q=false:=by rw[HQ.out,k7,k11,k13,decide_eq_false ht92];rfl
           have HE:=Lib.hid e;clear e ht92
           go_wp2_with fail
           go_meet
           exact⟨by rw[HE.out],rfl⟩
         | false =>
          cases k13:(kind==13) with
          | true =>
           have e:q=!cl:=by rw[HQ.out,k7,k11,k13];cases cl<;>rfl
           have HE:=Lib.hid e;clear e
           go_wp2_with fail
           go_meet
           exact⟨by rw[HE.out],rfl⟩
          | false =>
           have e:q=false:=by rw[HQ.out,k7,k11,k13];rfl
           have HE:=Lib.hid e;clear e
           go_wp2_with fail
           go_meet
           exact⟨by rw[HE.out],rfl⟩
       case rest =>
        obtain⟨rfl,rfl⟩:=hcut
        cases q with
        | true =>
         have hf:soundP l=false:=sound_at (k:=i) (by rw[Hlen.out];exact hlt) (by rw[HSB.out];rfl);have HF:=Lib.hid hf;clear hf
         go_wp2_with fail
         go_ret
         exact⟨ret_bool HF.out.symm,hBA⟩
        | false =>
         have hnew:Hid (∀ j,j<i+1→soundAt l j=true):=by
          show ∀ j,_→_
          intro j hj
          rcases Nat.lt_or_ge j i with h|h
          ·exact hall.out j h
          ·rw[show j=i by omega,HSB.out];rfl
         have hM5:=HM5.out;clear hall
         go_wp2_with fail
         go_roundw
         case rel=>exact⟨i+1,by omega,by go_num,hnew,hM5,hBA⟩
         case measure=>simp[intOf];omega
      ·obtain rfl:i=k:=by omega
       have dk:decide ((i:Int)<(i:Int))=false:=by simp
       have hf:soundP l=true:=sound_all Hri.out Hd.out Hop.out (fun j hj=>hall.out j (by rw[Hlen.out] at hj;exact hj));have HF:=Lib.hid hf;clear hf hall
       go_wp2_with fail
       go_ret
       exact⟨ret_bool HF.out.symm,hbx⟩
end Go.Proofs.YtfhdihdafmahgaaGreatDoor
namespace Go.Proofs.YtfhdihdafmahgaaGreatDoor
open Go.RowKit Rn Tp Ru
def ImpRet (v:List GTok) (S:Nat→Prop) (w:World) (e:Ending) (w':World):Prop :=
 ∃ (y:List GTok) (b:Bool) (A':Option Addr) (c':Nat),e=.returned (.tuple #[.slice A' y.length c',.bool b])∧ReadsS w S 3 A' y.length (cellsG y)∧y.length≤c'∧y.length≤v.length∧b=(importantP v).isSome∧(b=false→y=v)
  ∧ (b=true→(∀ t∈v.head?,t.kind≠1)→importantP v=some y)∧(∀ t∈y,t∈v)∧Below w.heap.size w w'
theorem ru_tok_elem:Tryz.prog.elem 32=58:=by kernel_rfl
theorem ru_tok_size (W:World):(sizeOf 58).run Tryz.prog W=.ok 3 W:=by
 obtain⟨hi0,hi,hz0,hz1,hz2⟩:=info_take ru_tok_info
 simp[sizeOf,typeInfo,hi,hz1]
theorem run_to {P:Program} {T e s:Nat} (ht:P.underlying T=some (.slice e)) (hel:P.elem T=e) (hs:∀ W,(sizeOf e).run P W=.ok s W) (A:Option Addr) (n c:Nat) (kd:IntKind) (b:Nat) (hb:b≤c) (W:World) :
  (Instr.slice T (.slice A n c) none (some (.int kd (b:Int))) none).run P W=.ok (.slice (cutAt A c 0 s) b c) W:=by
 rw[run_slice_h W T A n c (by rw[hel];exact ht) kd (b:Int) (by omega) (by omega),hel,hs]
 simp[sliced,cutAt]
theorem ru_important (v:List GTok) (S:Nat→Prop) (A:Option Addr) (n c:Nat) (w:World) (h:ReadsS w S 3 A n (cellsG v)) (hS:∀ b,S b→b<w.heap.size) (hn:n≤1000000) (hc:n≤c) (hs:∀ t∈v,smallT t) :
  Calls Tryz.prog 94 #[.slice A n c] w (ImpRet v S w):=by
 have hlen:=h.toks_len;have Hlen:=Lib.hid hlen
 by_cases hn0:n=0
 ·have hv:v=[]:=List.eq_nil_of_length_eq_zero (by omega)
  have Hv:=Lib.hid hv;subst hn0;clear hv hlen
  go_enter Tryz.func94,Tryz.ntmps94
  go_wp2_with fail
  go_ret2
  refine⟨v,false,A,c,?_,?_,?_,Nat.le_refl _,?_,fun _=>rfl,(fun e=>by cases e),fun t ht=>ht,Below.refl _ _⟩
  ·rw[Hlen.out];rfl
  ·rw[Hlen.out];exact h
  ·rw[Hlen.out];omega
  ·rw[Hv.out];rfl
 ·obtain⟨m,rfl⟩:∃ m,n=m+1:=⟨n-1,by omega⟩
  obtain⟨b,off,t,rfl,hb,ht,c0,c1,c2⟩:=h.tok (k:=m) (by omega);have hst:=hs t (List.mem_of_getElem? ht);have cN:=fun W:World=>ru_named t 2 importantS W hst.1
  have d0:(((m+1:Nat):Int)==0)=false:=by simp;omega
  have w1':IntKind.i64.wrap (((m+1:Nat):Int)-1)=(m:Int):=by rw[IntKind.wrap_i64];omega
  have d1:(m:Int)<((m+1:Nat):Int):=by omega
  have d2:(0:Int)≤(m:Int):=by omega
  obtain⟨q,hq⟩:∃ q,namedB t 2 importantS=q:=⟨_,rfl⟩;simp only[hq] at cN;rw[show bytesOf importantS=⟨#[105,109,112,111,114,116,97,110,116]⟩ from rfl] at cN
  have hsame:∀ (w':World),Below w.heap.size w w'→importantP v=none→ImpRet v S w (.returned (.tuple #[.slice (some ⟨b,off,none⟩) (m+1) c,.bool false])) w':=fun w' hb' hi =>
   ⟨v,false,some ⟨b,off,none⟩,c,by rw[hlen],by rw[hlen];exact h,by omega,Nat.le_refl _,by rw[hi];rfl,fun _=>rfl,(fun e=>by cases e),fun t ht=>ht,hb'⟩
  have Hq:=Lib.hid hq;have Ht:=Lib.hid ht;clear hq ht hlen hn0
  go_enter Tryz.func94,Tryz.ntmps94
  go_wp2_with fail
  refine(cN _).mono ?_
  rintro e w1 ⟨rfl,hb1⟩
  cases q with
  | false =>
   have hf:=hsame w1 hb1 (imp_not Hlen.out Ht.out Hq.out);have HF:=Lib.hid hf;clear hsame hf cN
   go_wp2_with fail
   go_ret2
   exact HF.out
  | true =>
   have h1':=h.keep (Kept.of_below hb1 hS);have h1:ReadsS w1 (· < w1.heap.size) 3 (some ⟨b,off,none⟩) (m+1) (cellsG v):=h1'.more (fun b hb=>Nat.lt_of_lt_of_le (hS b hb) hb1.size)
   go_wp2_with fail
   refine(nest_trim v _ _ (m+1) c 0 m w1 h1 hn (Nat.zero_le _) (by omega)).mono ?_
   rintro e w2 ⟨⟨j,i,rfl,_,hji,hiz,hd1,hd2⟩,rfl⟩;have hcase:=imp_yes Hlen.out Ht.out Hq.out hji hiz hd1 hd2;clear cN hd1 hd2 h1';have hl1:=Hlen.out
   obtain⟨g,hg⟩:∃ g:Bool,(g=true∧importantP v=none∧(i=0∨∃ u,0<i∧v[i-1]?=some u∧¬ (u.kind=11∧u.text=[33])))∨(g=false∧∃ u,0<i∧v[i-1]?=some u∧u.kind=11∧u.text=[33]∧importantP v=some (dropS (segP v 0 (i-1)).reverse).reverse):=by
    rcases hcase with⟨e1,e2⟩|⟨u,e0,e1,e2⟩
    ·refine⟨true,.inl ⟨rfl,e1,?_⟩⟩
     by_cases hi0:i=0
     ·exact .inl hi0
     ·right
      obtain⟨u,hu⟩:∃ u,v[i-1]?=some u:=⟨_,List.getElem?_eq_getElem (by omega)⟩
      exact⟨u,by omega,hu,by have:=e2 u hi0 hu;omega⟩
    ·by_cases hk:u.kind=11∧u.text=[33]
     ·rw[if_pos hk] at e2
      exact⟨false,.inr ⟨rfl,u,e0,e1,hk.1,hk.2,e2⟩⟩
     ·rw[if_neg hk] at e2
      exact⟨true,.inl ⟨rfl,e2,.inr ⟨u,e0,e1,hk⟩⟩⟩
   have HG:=Lib.hid hg;clear hg hcase hl1
   go_upto_region 5 with (fail)
   go_cut [47] (fun x wx=>x=.bool g∧w2=wx)
   case first =>
    have hun:(undef:Value)=.tuple #[]:=rfl
    have tok:∀ u,0<i→v[i-1]?=some u→w2.cell? ⟨b,off+(i-1) * 3,none⟩=some (.int .i64 u.kind)∧w2.cell? ⟨b,off+(i-1) * 3+1,none⟩=some (.string (bytesOf u.text)):=fun u hi0 hu=>by
     obtain⟨b',off',u',hA,_,hu',d0,d1,_⟩:=h1.tok (k:=i-1) (by omega)
     injection hA with hA
     injection hA with q1 q2
     subst q1 q2;rw[hu] at hu'
     injection hu' with hu'
     subst hu'
     exact⟨d0,d1⟩
    have dw:IntKind.i64.wrap ((i:Int)-1)=(i:Int)-1:=by rw[IntKind.wrap_i64];omega
    rcases HG.out with⟨rfl,_,hi0|⟨u,hi0,hu,hno⟩⟩|⟨rfl,u,hi0,hu,hk1,hk2,_⟩
    ·have di:((i:Int)==0)=true:=by simp;omega
     clear tok HG hi0
     go_wp2_with fail
     go_meet
     exact⟨rfl,rfl⟩
    ·obtain⟨e0,e1⟩:=tok u hi0 hu
     have di:((i:Int)==0)=false:=by simp;omega
     have dn:((i:Int)-1).toNat=i-1:=by omega
     have dp:(0:Int)≤(i:Int)-1:=by omega
     have dq:(i:Int)-1<((m+1:Nat):Int):=by omega
     by_cases hk:u.kind=11
     ·have ht:u.text≠[33]:=fun e=>hno ⟨hk,e⟩
      obtain⟨s1,s2⟩:=txt_not ht;rw[hk] at e0;have s3:(!((bytesOf u.text).toList==[33]))=true:=by rw[s2];rfl
      clear tok HG hu hno hk ht
      go_wp2_with fail
      go_meet
      exact⟨rfl,rfl⟩
     ·have k1:(u.kind==11)=false:=by simpa using hk
      have k2:(u.kind != 11)=true:=by simp[hk]
      clear tok HG hu hno hk
      go_wp2_with fail
      go_meet
      exact⟨rfl,rfl⟩
    ·obtain⟨e0,e1⟩:=tok u hi0 hu
     have di:((i:Int)==0)=false:=by simp;omega
     have dn:((i:Int)-1).toNat=i-1:=by omega
     have dp:(0:Int)≤(i:Int)-1:=by omega
     have dq:(i:Int)-1<((m+1:Nat):Int):=by omega
     obtain⟨s1,s2⟩:=txt_is hk2;rw[hk1] at e0;clear tok HG hu hk1 hk2
     go_wp2_with fail
     go_meet
     exact⟨rfl,rfl⟩
   case rest =>
    obtain⟨rfl,rfl⟩:=hcut
    rcases HG.out with⟨rfl,hno,_⟩|⟨rfl,u,hi0,hu,hk1,hk2,hyes⟩
    ·have hf:=hsame _ hb1 hno
     have HF:=Lib.hid hf;clear hsame hf HG hno
     go_wp2_with fail
     go_ret2
     exact HF.out
    ·have hl1:=Hlen.out
     obtain⟨i1,hi1⟩:∃ i1,i=i1+1:=⟨i-1,by omega⟩;subst hi1;have dw:IntKind.i64.wrap (((i1+1:Nat):Int)-1)=(i1:Int):=by rw[IntKind.wrap_i64];omega
     rw[Nat.add_sub_cancel] at hyes hu;have Hyes:=Lib.hid hyes;clear hsame HG hyes hu hk1 hk2 hl1
     go_wp2_with fail
     refine(nest_trim v _ _ (m+1) c 0 i1 _ h1 hn (Nat.zero_le _) (by omega)).mono ?_
     rintro e w3 ⟨⟨j',i',rfl,_,hji',hiz',hd1,hd2⟩,rfl⟩;have hval:=fun hv=>imp_value (v:=v) (m:=i1) (by rw[Hlen.out];omega) hji' hiz' hd1 hd2 hv
     have hp:=fun W=>run_to (P:=Tryz.prog) Tryz.underlying32 ru_tok_elem ru_tok_size (some ⟨b,off,none⟩) (m+1) c .i64 i' (by omega) W
     have hR:=h.seg (c:=c) (k:=0) (z:=i') (Nat.zero_le _) (by omega) hc;rw[Nat.sub_zero] at hR;have hsl:(segP v 0 i').length=i':=by rw[seg_length,Hlen.out];omega
     have HV:Hid ((∀ t∈v.head?,t.kind≠1)→importantP v=some (segP v 0 i')):=fun hv=>by rw[Hyes.out,hval hv]
     have HS:=Lib.hid hsl;clear hd1 hd2 hval hsl
     go_wp2_with fail
     go_ret2
     refine⟨segP v 0 i',true,cutAt (some ⟨b,off,none⟩) c 0 3,c,?_,?_,?_,?_,?_,(fun e=>by cases e),fun _=>HV.out,fun t ht=>seg_mem ht,hb1⟩
     ·rw[HS.out];rfl
     ·rw[HS.out];exact hR
     ·rw[HS.out];omega
     ·rw[HS.out,Hlen.out];omega
     ·rw[Hyes.out];rfl
end Go.Proofs.YtfhdihdafmahgaaGreatDoor
namespace Go.Proofs.YtfhdihdafmahgaaGreatDoor
open Go.RowKit Rn Tp
noncomputable def rightTest:Code:=(regionOf 10 (Tryz.f73.body.getD .skip)).getD .skip
theorem rp_test {wr:World} {b off n cap k:Nat} {kind nx:Int} {text:List UInt8} (u1 u2 u5 u6 u7 u8 u9 u10 u11 u12 u13 u14 u15 u16 u17 u18 u19 u20 u21 u22 u23 u24 u25 u26 u27 u28 u29 u30 u31 u32 u33 u34 u35 u36 u37 u38 u39 u40 u41 u42 u43 u44 u45 u46 u47 u48 u49 u50 u51 u52 u53 u54 u55 u56 u57 u58 u59 u60 u61 u62 u63 u64 u65 u66 u67 u68 u69 u70 u71 u72 u73 u74 u75 u76 u77 u78 u79 u80:Value)
  (hblt:b<wr.heap.size) (hk:k<n) (hn:n≤1000000) (c0:wr.cell? ⟨b,off+k * 3,none⟩=some (.int .i64 kind)) (c1:wr.cell? ⟨b,off+k * 3+1,none⟩=some (.string (bytesOf text)))
  (t1:(kind==1)=false) (t7:(kind==7)=false) (t11:(kind==11)=true) :
  Code.wp Tryz.prog rightTest (fun e a W=>match e with
   | .normal=>(∃ v34 v35 v36 v37 v38 v39 v40 v41 v42 v43 v44 v45 v46 v47 v48 v49 v50 v51 v52 v53 v54 v55 v56 v57 v58 v59 v60 v61 v62 v63 v64 v65 v66 v67 v68 v69 v70 v71 v72 v73 v74 v75 v76:Value,a=⟨(List.toArray (Value.slice (some ⟨b,off,none⟩) n cap::u1::u2::Value.int .i64 (k:Int)::Value.int .i64 nx::u5::u6::u7::u8::u9::u10::u11::u12::u13::u14::u15::u16::u17::u18::u19::u20::u21::u22::u23::u24::u25::u26::u27::u28::u29::u30::u31::u32::u33::v34::v35::v36::v37::v38::v39::v40::v41::v42::v43::v44::v45::v46::v47::v48::v49::v50::v51::v52::v53::v54::v55::v56::v57::v58::v59::v60::v61::v62::v63::v64::v65::v66::v67::v68::v69::v70::v71::v72::v73::v74::v75::v76::Value.bool (decide (text=[92])&&!(nx==1))::u78::u79::u80::[])),[]⟩)∧Below wr.heap.size wr W
   | _=>False) ⟨(List.toArray (Value.slice (some ⟨b,off,none⟩) n cap::u1::u2::Value.int .i64 (k:Int)::Value.int .i64 nx::u5::u6::u7::u8::u9::u10::u11::u12::u13::u14::u15::u16::u17::u18::u19::u20::u21::u22::u23::u24::u25::u26::u27::u28::u29::u30::u31::u32::u33::u34::u35::u36::u37::u38::u39::u40::u41::u42::u43::u44::u45::u46::u47::u48::u49::u50::u51::u52::u53::u54::u55::u56::u57::u58::u59::u60::u61::u62::u63::u64::u65::u66::u67::u68::u69::u70::u71::u72::u73::u74::u75::u76::u77::u78::u79::u80::[])),[]⟩ wr:=by
 conv=>arg 2;whnf
 have hrow0:RowAt (wr.alloc (.cells #[.int .u8 92] 5)) wr.heap.size ([(92:UInt8)].map b8):=RowAt.new wr 5 #[.int .u8 92];have hrow:∀ j:Nat,RowAt ((wr.alloc (.cells #[.int .u8 92] 5)).drewN j) wr.heap.size ([(92:UInt8)].map b8):=fun j=>hrow0
 have hconv:∀ j:Nat,(convert 22 9 (.slice (some ⟨wr.heap.size,0,none⟩) 1 1)).run Tryz.prog ((wr.alloc (.cells #[.int .u8 92] 5)).drewN j)=.ok (.string (bytesOf [92])) ((wr.alloc (.cells #[.int .u8 92] 5)).drewN j):=fun j =>
  run_str (P:=Tryz.prog) Tryz.underlying22 Tryz.underlying5 Tryz.underlying9 1 ((hrow j).reads (B:=wr.heap.size+1) (by omega))
 have k0:(convert 22 9 (.slice (some ⟨wr.heap.size,0,none⟩) 1 1)).run Tryz.prog (wr.alloc (.cells #[.int .u8 92] 5))=.ok (.string (bytesOf [92])) (wr.alloc (.cells #[.int .u8 92] 5)):=hconv 0;have k1:(convert 22 9 (.slice (some ⟨wr.heap.size,0,none⟩) 1 1)).run Tryz.prog (wr.alloc (.cells #[.int .u8 92] 5)).drew=.ok (.string (bytesOf [92])) (wr.alloc (.cells #[.int .u8 92] 5)).drew:=hconv 1;have k2:(convert 22 9 (.slice (some ⟨wr.heap.size,0,none⟩) 1 1)).run Tryz.prog (wr.drew.alloc (.cells #[.int .u8 92] 5))=.ok (.string (bytesOf [92])) (wr.drew.alloc (.cells #[.int .u8 92] 5)):=hconv 1;have hb:Below wr.heap.size wr (wr.alloc (.cells #[.int .u8 92] 5)).drew:=((Below.refl _ _).alloc (Nat.le_refl _) _).drew;have hb0:Below wr.heap.size wr (wr.alloc (.cells #[.int .u8 92] 5)):=(Below.refl _ _).alloc (Nat.le_refl _) _;have c1a:(wr.alloc (.cells #[.int .u8 92] 5)).cell? ⟨b,off+k * 3+1,none⟩=some (.string (bytesOf text)):=(hb0.cell (p:=⟨b,off+k * 3+1,none⟩) hblt).trans c1;clear hconv hrow hrow0 hb0
 rcases (show (text=[92]∨text≠[92]) from Decidable.em _) with h|h
 ·have q1:(bytesOf text).toList=(bytesOf [92]).toList:=by rw[h]
  have Hh:=Lib.hid h;clear h
  refine wp_region_any (by kernel_rfl) ?_
  try(change wpAny _ _ _ _ _ _ _ (World.drew _))
  refine wpAny_take (i:=0) (v:=?_) rfl (by kernel_rfl) (by kernel_rfl) (by kernel_rfl) (fun _ _ _ h=>h) (Or.inl ⟨by kernel_rfl,?_⟩) ?_
  rotate_left
  ·intro w;go_simp;(try with_reducible rfl)
  refine wpAny_take (i:=1) (v:=?_) rfl (by kernel_rfl) (by kernel_rfl) (by kernel_rfl) (fun _ _ _ h=>h) (Or.inl ⟨by kernel_rfl,?_⟩) ?_
  rotate_left
  ·intro w;go_simp;(try with_reducible rfl)
  refine wpAny_take (i:=2) (v:=?_) rfl (by kernel_rfl) (by kernel_rfl) (by kernel_rfl) (fun _ _ _ h=>h) (Or.inl ⟨by kernel_rfl,?_⟩) ?_
  rotate_left
  ·intro w;go_simp;(try with_reducible rfl)
  refine wpAny_take (i:=3) (v:=?_) rfl (by kernel_rfl) (by kernel_rfl) (by kernel_rfl) (fun _ _ _ h=>h) (Or.inl ⟨by kernel_rfl,?_⟩) ?_
  rotate_left
  ·intro w;go_simp;(try with_reducible rfl)
  refine wpAny_ready (rs:=[4]) (by kernel_rfl) (by simp) ?_
  refine AllReady.cons rfl (fun K hK=>?_) ?_
  ·go_simp
   (try(refine hK _ _ ?_;clear hK K))
   refine wpAny_take (i:=5) (v:=?_) rfl (by kernel_rfl) (by kernel_rfl) (by kernel_rfl) (fun _ _ _ h=>h) (Or.inl ⟨by kernel_rfl,?_⟩) ?_
   rotate_left
   ·intro w;go_simp;(try with_reducible rfl)
   refine wpAny_take (i:=6) (v:=?_) rfl (by kernel_rfl) (by kernel_rfl) (by kernel_rfl) (fun _ _ _ h=>h) (Or.inl ⟨by kernel_rfl,?_⟩) ?_
   rotate_left
   ·intro w;go_simp;(try with_reducible rfl)
   refine wpAny_take (i:=7) (v:=undef) rfl (by kernel_rfl) (by kernel_rfl) (by kernel_rfl) (fun _ _ _ h=>h) (Or.inr ⟨by kernel_rfl,rfl⟩) ?_
   refine wpAny_take (i:=8) (v:=undef) rfl (by kernel_rfl) (by kernel_rfl) (by kernel_rfl) (fun _ _ _ h=>h) (Or.inr ⟨by kernel_rfl,rfl⟩) ?_
   refine wpAny_take (i:=9) (v:=?_) rfl (by kernel_rfl) (by kernel_rfl) (by kernel_rfl) (fun _ _ _ h=>h) (Or.inl ⟨by kernel_rfl,?_⟩) ?_
   rotate_left
   ·intro w;go_simp;(try with_reducible rfl)
   refine wpAny_take (i:=10) (v:=?_) rfl (by kernel_rfl) (by kernel_rfl) (by kernel_rfl) (fun _ _ _ h=>h) (Or.inl ⟨by kernel_rfl,?_⟩) ?_
   rotate_left
   ·intro w;go_simp;(try with_reducible rfl)
   refine wpAny_take (i:=11) (v:=?_) rfl (by kernel_rfl) (by kernel_rfl) (by kernel_rfl) (fun _ _ _ h=>h) (Or.inl ⟨by kernel_rfl,?_⟩) ?_
   rotate_left
   ·intro w;go_simp;(try with_reducible rfl)
   refine wpAny_take (i:=12) (v:=?_) rfl (by kernel_rfl) (by kernel_rfl) (by kernel_rfl) (fun _ _ _ h=>h) (Or.inl ⟨by kernel_rfl,?_⟩) ?_
   rotate_left
   ·intro w;go_simp;(try with_reducible rfl)
   refine wpAny_take (i:=13) (v:=?_) rfl (by kernel_rfl) (by kernel_rfl) (by kernel_rfl) (fun _ _ _ h=>h) (Or.inl ⟨by kernel_rfl,?_⟩) ?_
   rotate_left
   ·intro w;go_simp;(try with_reducible rfl)
   refine wpAny_take (i:=14) (v:=?_) rfl (by kernel_rfl) (by kernel_rfl) (by kernel_rfl) (fun _ _ _ h=>h) (Or.inl ⟨by kernel_rfl,?_⟩) ?_
   rotate_left
   ·intro w;go_simp;(try with_reducible rfl)
   refine wpAny_ready (rs:=[15]) (by kernel_rfl) (by simp) ?_
   refine AllReady.cons rfl (fun K hK=>?_) ?_
   ·go_simp
    (try(refine hK _ _ ?_;clear hK K))
    refine wpAny_take (i:=16) (v:=?_) rfl (by kernel_rfl) (by kernel_rfl) (by kernel_rfl) (fun _ _ _ h=>h) (Or.inl ⟨by kernel_rfl,?_⟩) ?_
    rotate_left
    ·intro w;go_simp;(try with_reducible rfl)
    refine wpAny_take (i:=17) (v:=?_) rfl (by kernel_rfl) (by kernel_rfl) (by kernel_rfl) (fun _ _ _ h=>h) (Or.inl ⟨by kernel_rfl,?_⟩) ?_
    rotate_left
    ·intro w;go_simp;(try with_reducible rfl)
    refine wpAny_take (i:=18) (v:=undef) rfl (by kernel_rfl) (by kernel_rfl) (by kernel_rfl) (fun _ _ _ h=>h) (Or.inr ⟨by kernel_rfl,rfl⟩) ?_
    refine wpAny_take (i:=19) (v:=undef) rfl (by kernel_rfl) (by kernel_rfl) (by kernel_rfl) (fun _ _ _ h=>h) (Or.inr ⟨by kernel_rfl,rfl⟩) ?_
    refine wpAny_take (i:=20) (v:=?_) rfl (by kernel_rfl) (by kernel_rfl) (by kernel_rfl) (fun _ _ _ h=>h) (Or.inl ⟨by kernel_rfl,?_⟩) ?_
    rotate_left
    ·intro w;go_simp;(try with_reducible rfl)
    refine wpAny_take (i:=21) (v:=?_) rfl (by kernel_rfl) (by kernel_rfl) (by kernel_rfl) (fun _ _ _ h=>h) (Or.inl ⟨by kernel_rfl,?_⟩) ?_
    rotate_left
    ·intro w;go_simp;(try with_reducible rfl)
    refine wpAny_take (i:=22) (v:=?_) rfl (by kernel_rfl) (by kernel_rfl) (by kernel_rfl) (fun _ _ _ h=>h) (Or.inl ⟨by kernel_rfl,?_⟩) ?_
    rotate_left
    ·intro w;go_simp;(try with_reducible rfl)
    refine wpAny_take (i:=23) (v:=?_) rfl (by kernel_rfl) (by kernel_rfl) (by kernel_rfl) (fun _ _ _ h=>h) (Or.inl ⟨by kernel_rfl,?_⟩) ?_
    rotate_left
    ·intro w;go_simp;(try with_reducible rfl)
    refine wpAny_take (i:=24) (v:=?_) rfl (by kernel_rfl) (by kernel_rfl) (by kernel_rfl) (fun _ _ _ h=>h) (Or.inl ⟨by kernel_rfl,?_⟩) ?_
    rotate_left
    ·intro w;go_simp;(try with_reducible rfl)
    refine wpAny_take (i:=25) (v:=?_) rfl (by kernel_rfl) (by kernel_rfl) (by kernel_rfl) (fun _ _ _ h=>h) (Or.inl ⟨by kernel_rfl,?_⟩) ?_
    rotate_left
    ·intro w;go_simp;(try with_reducible rfl)
    refine wpAny_take (i:=26) (v:=?_) rfl (by kernel_rfl) (by kernel_rfl) (by kernel_rfl) (fun _ _ _ h=>h) (Or.inl ⟨by kernel_rfl,?_⟩) ?_
    rotate_left
    ·intro w;go_simp;(try with_reducible rfl)
    refine wpAny_ready (rs:=[27]) (by kernel_rfl) (by simp) ?_
    refine AllReady.cons rfl (fun K hK=>?_) ?_
    ·go_simp
     (try(refine hK _ _ ?_;clear hK K))
     refine wpAny_take (i:=28) (v:=?_) rfl (by kernel_rfl) (by kernel_rfl) (by kernel_rfl) (fun _ _ _ h=>h) (Or.inl ⟨by kernel_rfl,?_⟩) ?_
     rotate_left
     ·intro w;go_simp;(try with_reducible rfl)
     refine wpAny_take (i:=29) (v:=?_) rfl (by kernel_rfl) (by kernel_rfl) (by kernel_rfl) (fun _ _ _ h=>h) (Or.inl ⟨by kernel_rfl,?_⟩) ?_
     rotate_left
     ·intro w;go_simp;(try with_reducible rfl)
     refine wpAny_take (i:=30) (v:=?_) rfl (by kernel_rfl) (by kernel_rfl) (by kernel_rfl) (fun _ _ _ h=>h) (Or.inl ⟨by kernel_rfl,?_⟩) ?_
     rotate_left
     ·intro w;go_simp;(try with_reducible rfl)
     refine wpAny_take (i:=31) (v:=?_) rfl (by kernel_rfl) (by kernel_rfl) (by kernel_rfl) (fun _ _ _ h=>h) (Or.inl ⟨by kernel_rfl,?_⟩) ?_
     rotate_left
     ·intro w;go_simp;(try with_reducible rfl)
     refine wpAny_take (i:=32) (v:=?_) rfl (by kernel_rfl) (by kernel_rfl) (by kernel_rfl) (fun _ _ _ h=>h) (Or.inl ⟨by kernel_rfl,?_⟩) ?_
     rotate_left
     ·intro w;go_simp;(try with_reducible rfl)
     refine wpAny_take (i:=33) (v:=?_) rfl (by kernel_rfl) (by kernel_rfl) (by kernel_rfl) (fun _ _ _ h=>h) (Or.inl ⟨by kernel_rfl,?_⟩) ?_
     rotate_left
     ·intro w;go_simp;(try with_reducible rfl)
     refine wpAny_ready (rs:=[34,35]) (by kernel_rfl) (by simp) ?_
     refine AllReady.cons rfl (fun K hK=>?_) ?_
     ·go_simp
      (try(refine hK _ _ ?_;clear hK K))
      refine wpAny_ready (rs:=[35]) (by kernel_rfl) (by simp) ?_
      refine AllReady.cons rfl (fun K hK=>?_) ?_
      ·go_simp
       (try(refine hK _ _ ?_;clear hK K))
       refine wpAny_ready (rs:=[36]) (by kernel_rfl) (by simp) ?_
       refine AllReady.cons rfl (fun K hK=>?_) ?_
       ·go_simp
        (try(refine hK _ _ ?_;clear hK K))
        refine wpAny_take (i:=37) (v:=?_) rfl (by kernel_rfl) (by kernel_rfl) (by kernel_rfl) (fun _ _ _ h=>h) (Or.inl ⟨by kernel_rfl,?_⟩) ?_
        rotate_left
        ·intro w;go_simp;(try with_reducible rfl)
        refine wpAny_take (i:=38) (v:=?_) rfl (by kernel_rfl) (by kernel_rfl) (by kernel_rfl) (fun _ _ _ h=>h) (Or.inl ⟨by kernel_rfl,?_⟩) ?_
        rotate_left
        ·intro w;go_simp;(try with_reducible rfl)
        refine wpAny_take (i:=39) (v:=?_) rfl (by kernel_rfl) (by kernel_rfl) (by kernel_rfl) (fun _ _ _ h=>h) (Or.inl ⟨by kernel_rfl,?_⟩) ?_
        rotate_left
        ·intro w;go_simp;(try with_reducible rfl)
        refine wpAny_take (i:=40) (v:=?_) rfl (by kernel_rfl) (by kernel_rfl) (by kernel_rfl) (fun _ _ _ h=>h) (Or.inl ⟨by kernel_rfl,?_⟩) ?_
        rotate_left
        ·intro w;go_simp;(try with_reducible rfl)
        refine wpAny_take (i:=41) (v:=?_) rfl (by kernel_rfl) (by kernel_rfl) (by kernel_rfl) (fun _ _ _ h=>h) (Or.inl ⟨by kernel_rfl,?_⟩) ?_
        rotate_left
        ·intro w;go_simp;(try with_reducible rfl)
        refine wpAny_take (i:=42) (v:=?_) rfl (by kernel_rfl) (by kernel_rfl) (by kernel_rfl) (fun _ _ _ h=>h) (Or.inl ⟨by kernel_rfl,?_⟩) ?_
        rotate_left
        ·intro w;go_simp;(try with_reducible rfl)
        refine wpAny_take (i:=43) (v:=?_) rfl (by kernel_rfl) (by kernel_rfl) (by kernel_rfl) (fun _ _ _ h=>h) (Or.inl ⟨by kernel_rfl,?_⟩) ?_
        rotate_left
        ·intro w;go_simp;(try with_reducible rfl)
        refine wpAny_done (by kernel_rfl) ?_ _
        (go_simp;(simp[Hh.out,bne]))
       ·exact AllReady.nil
      ·exact AllReady.nil
     ·refine AllReady.cons rfl (fun K hK=>?_) ?_
      ·go_simp
       (try(refine hK _ _ ?_;clear hK K))
       refine wpAny_ready (rs:=[34,36]) (by kernel_rfl) (by simp) ?_
       refine AllReady.cons rfl (fun K hK=>?_) ?_
       ·go_simp
        (try(refine hK _ _ ?_;clear hK K))
        refine wpAny_ready (rs:=[36]) (by kernel_rfl) (by simp) ?_
        refine AllReady.cons rfl (fun K hK=>?_) ?_
        ·go_simp
         (try(refine hK _ _ ?_;clear hK K))
         refine wpAny_take (i:=37) (v:=?_) rfl (by kernel_rfl) (by kernel_rfl) (by kernel_rfl) (fun _ _ _ h=>h) (Or.inl ⟨by kernel_rfl,?_⟩) ?_
         rotate_left
         ·intro w;go_simp;(try with_reducible rfl)
         refine wpAny_take (i:=38) (v:=?_) rfl (by kernel_rfl) (by kernel_rfl) (by kernel_rfl) (fun _ _ _ h=>h) (Or.inl ⟨by kernel_rfl,?_⟩) ?_
         rotate_left
         ·intro w;go_simp;(try with_reducible rfl)
         refine wpAny_take (i:=39) (v:=?_) rfl (by kernel_rfl) (by kernel_rfl) (by kernel_rfl) (fun _ _ _ h=>h) (Or.inl ⟨by kernel_rfl,?_⟩) ?_
         rotate_left
         ·intro w;go_simp;(try with_reducible rfl)
         refine wpAny_take (i:=40) (v:=?_) rfl (by kernel_rfl) (by kernel_rfl) (by kernel_rfl) (fun _ _ _ h=>h) (Or.inl ⟨by kernel_rfl,?_⟩) ?_
         rotate_left
         ·intro w;go_simp;(try with_reducible rfl)
         refine wpAny_take (i:=41) (v:=?_) rfl (by kernel_rfl) (by kernel_rfl) (by kernel_rfl) (fun _ _ _ h=>h) (Or.inl ⟨by kernel_rfl,?_⟩) ?_
         rotate_left
         ·intro w;go_simp;(try with_reducible rfl)
         refine wpAny_take (i:=42) (v:=?_) rfl (by kernel_rfl) (by kernel_rfl) (by kernel_rfl) (fun _ _ _ h=>h) (Or.inl ⟨by kernel_rfl,?_⟩) ?_
         rotate_left
         ·intro w;go_simp;(try with_reducible rfl)
         refine wpAny_take (i:=43) (v:=?_) rfl (by kernel_rfl) (by kernel_rfl) (by kernel_rfl) (fun _ _ _ h=>h) (Or.inl ⟨by kernel_rfl,?_⟩) ?_
         rotate_left
         ·intro w;go_simp;(try with_reducible rfl)
         refine wpAny_done (by kernel_rfl) ?_ _
         (go_simp;(simp[Hh.out,bne]))
        ·exact AllReady.nil
       ·refine AllReady.cons rfl (fun K hK=>?_) ?_
        ·go_simp
         (try(refine hK _ _ ?_;clear hK K))
         refine wpAny_ready (rs:=[34]) (by kernel_rfl) (by simp) ?_
         refine AllReady.cons rfl (fun K hK=>?_) ?_
         ·go_simp
          (try(refine hK _ _ ?_;clear hK K))
          refine wpAny_take (i:=37) (v:=?_) rfl (by kernel_rfl) (by kernel_rfl) (by kernel_rfl) (fun _ _ _ h=>h) (Or.inl ⟨by kernel_rfl,?_⟩) ?_
          rotate_left
          ·intro w;go_simp;(try with_reducible rfl)
          refine wpAny_take (i:=38) (v:=?_) rfl (by kernel_rfl) (by kernel_rfl) (by kernel_rfl) (fun _ _ _ h=>h) (Or.inl ⟨by kernel_rfl,?_⟩) ?_
          rotate_left
          ·intro w;go_simp;(try with_reducible rfl)
          refine wpAny_take (i:=39) (v:=?_) rfl (by kernel_rfl) (by kernel_rfl) (by kernel_rfl) (fun _ _ _ h=>h) (Or.inl ⟨by kernel_rfl,?_⟩) ?_
          rotate_left
          ·intro w;go_simp;(try with_reducible rfl)
          refine wpAny_take (i:=40) (v:=?_) rfl (by kernel_rfl) (by kernel_rfl) (by kernel_rfl) (fun _ _ _ h=>h) (Or.inl ⟨by kernel_rfl,?_⟩) ?_
          rotate_left
          ·intro w;go_simp;(try with_reducible rfl)
          refine wpAny_take (i:=41) (v:=?_) rfl (by kernel_rfl) (by kernel_rfl) (by kernel_rfl) (fun _ _ _ h=>h) (Or.inl ⟨by kernel_rfl,?_⟩) ?_
          rotate_left
          ·intro w;go_simp;(try with_reducible rfl)
          refine wpAny_take (i:=42) (v:=?_) rfl (by kernel_rfl) (by kernel_rfl) (by kernel_rfl) (fun _ _ _ h=>h) (Or.inl ⟨by kernel_rfl,?_⟩) ?_
          rotate_left
          ·intro w;go_simp;(try with_reducible rfl)
          refine wpAny_take (i:=43) (v:=?_) rfl (by kernel_rfl) (by kernel_rfl) (by kernel_rfl) (fun _ _ _ h=>h) (Or.inl ⟨by kernel_rfl,?_⟩) ?_
          rotate_left
          ·intro w;go_simp;(try with_reducible rfl)
          refine wpAny_done (by kernel_rfl) ?_ _
          (go_simp;(simp[Hh.out,bne]))
         ·exact AllReady.nil
        ·exact AllReady.nil
      ·exact AllReady.nil
    ·exact AllReady.nil
   ·exact AllReady.nil
  ·exact AllReady.nil
 ·have q1:¬ (bytesOf text).toList=(bytesOf [92]).toList:=by rw[bytesOf_toList,bytesOf_toList];exact h
  have q2:((bytesOf text).toList==(bytesOf [92]).toList)=false:=by simpa using q1
  have Hh:=Lib.hid h;clear h
  refine wp_region_any (by kernel_rfl) ?_
  try(change wpAny _ _ _ _ _ _ _ (World.drew _))
  refine wpAny_take (i:=0) (v:=?_) rfl (by kernel_rfl) (by kernel_rfl) (by kernel_rfl) (fun _ _ _ h=>h) (Or.inl ⟨by kernel_rfl,?_⟩) ?_
  rotate_left
  ·intro w;go_simp;(try with_reducible rfl)
  refine wpAny_take (i:=1) (v:=?_) rfl (by kernel_rfl) (by kernel_rfl) (by kernel_rfl) (fun _ _ _ h=>h) (Or.inl ⟨by kernel_rfl,?_⟩) ?_
  rotate_left
  ·intro w;go_simp;(try with_reducible rfl)
  refine wpAny_take (i:=2) (v:=?_) rfl (by kernel_rfl) (by kernel_rfl) (by kernel_rfl) (fun _ _ _ h=>h) (Or.inl ⟨by kernel_rfl,?_⟩) ?_
  rotate_left
  ·intro w;go_simp;(try with_reducible rfl)
  refine wpAny_take (i:=3) (v:=?_) rfl (by kernel_rfl) (by kernel_rfl) (by kernel_rfl) (fun _ _ _ h=>h) (Or.inl ⟨by kernel_rfl,?_⟩) ?_
  rotate_left
  ·intro w;go_simp;(try with_reducible rfl)
  refine wpAny_ready (rs:=[4]) (by kernel_rfl) (by simp) ?_
  refine AllReady.cons rfl (fun K hK=>?_) ?_
  ·go_simp
   (try(refine hK _ _ ?_;clear hK K))
   refine wpAny_take (i:=5) (v:=?_) rfl (by kernel_rfl) (by kernel_rfl) (by kernel_rfl) (fun _ _ _ h=>h) (Or.inl ⟨by kernel_rfl,?_⟩) ?_
   rotate_left
   ·intro w;go_simp;(try with_reducible rfl)
   refine wpAny_take (i:=6) (v:=?_) rfl (by kernel_rfl) (by kernel_rfl) (by kernel_rfl) (fun _ _ _ h=>h) (Or.inl ⟨by kernel_rfl,?_⟩) ?_
   rotate_left
   ·intro w;go_simp;(try with_reducible rfl)
   refine wpAny_take (i:=7) (v:=undef) rfl (by kernel_rfl) (by kernel_rfl) (by kernel_rfl) (fun _ _ _ h=>h) (Or.inr ⟨by kernel_rfl,rfl⟩) ?_
   refine wpAny_take (i:=8) (v:=undef) rfl (by kernel_rfl) (by kernel_rfl) (by kernel_rfl) (fun _ _ _ h=>h) (Or.inr ⟨by kernel_rfl,rfl⟩) ?_
   refine wpAny_take (i:=9) (v:=?_) rfl (by kernel_rfl) (by kernel_rfl) (by kernel_rfl) (fun _ _ _ h=>h) (Or.inl ⟨by kernel_rfl,?_⟩) ?_
   rotate_left
   ·intro w;go_simp;(try with_reducible rfl)
   refine wpAny_take (i:=10) (v:=?_) rfl (by kernel_rfl) (by kernel_rfl) (by kernel_rfl) (fun _ _ _ h=>h) (Or.inl ⟨by kernel_rfl,?_⟩) ?_
   rotate_left
   ·intro w;go_simp;(try with_reducible rfl)
   refine wpAny_take (i:=11) (v:=?_) rfl (by kernel_rfl) (by kernel_rfl) (by kernel_rfl) (fun _ _ _ h=>h) (Or.inl ⟨by kernel_rfl,?_⟩) ?_
   rotate_left
   ·intro w;go_simp;(try with_reducible rfl)
   refine wpAny_take (i:=12) (v:=?_) rfl (by kernel_rfl) (by kernel_rfl) (by kernel_rfl) (fun _ _ _ h=>h) (Or.inl ⟨by kernel_rfl,?_⟩) ?_
   rotate_left
   ·intro w;go_simp;(try with_reducible rfl)
   refine wpAny_take (i:=13) (v:=?_) rfl (by kernel_rfl) (by kernel_rfl) (by kernel_rfl) (fun _ _ _ h=>h) (Or.inl ⟨by kernel_rfl,?_⟩) ?_
   rotate_left
   ·intro w;go_simp;(try with_reducible rfl)
   refine wpAny_take (i:=14) (v:=?_) rfl (by kernel_rfl) (by kernel_rfl) (by kernel_rfl) (fun _ _ _ h=>h) (Or.inl ⟨by kernel_rfl,?_⟩) ?_
   rotate_left
   ·intro w;go_simp;(try with_reducible rfl)
   refine wpAny_ready (rs:=[15]) (by kernel_rfl) (by simp) ?_
   refine AllReady.cons rfl (fun K hK=>?_) ?_
   ·go_simp
    (try(refine hK _ _ ?_;clear hK K))
    refine wpAny_take (i:=16) (v:=?_) rfl (by kernel_rfl) (by kernel_rfl) (by kernel_rfl) (fun _ _ _ h=>h) (Or.inl ⟨by kernel_rfl,?_⟩) ?_
    rotate_left
    ·intro w;go_simp;(try with_reducible rfl)
    refine wpAny_take (i:=17) (v:=?_) rfl (by kernel_rfl) (by kernel_rfl) (by kernel_rfl) (fun _ _ _ h=>h) (Or.inl ⟨by kernel_rfl,?_⟩) ?_
    rotate_left
    ·intro w;go_simp;(try with_reducible rfl)
    refine wpAny_take (i:=18) (v:=undef) rfl (by kernel_rfl) (by kernel_rfl) (by kernel_rfl) (fun _ _ _ h=>h) (Or.inr ⟨by kernel_rfl,rfl⟩) ?_
    refine wpAny_take (i:=19) (v:=undef) rfl (by kernel_rfl) (by kernel_rfl) (by kernel_rfl) (fun _ _ _ h=>h) (Or.inr ⟨by kernel_rfl,rfl⟩) ?_
    refine wpAny_take (i:=20) (v:=?_) rfl (by kernel_rfl) (by kernel_rfl) (by kernel_rfl) (fun _ _ _ h=>h) (Or.inl ⟨by kernel_rfl,?_⟩) ?_
    rotate_left
    ·intro w;go_simp;(try with_reducible rfl)
    refine wpAny_take (i:=21) (v:=?_) rfl (by kernel_rfl) (by kernel_rfl) (by kernel_rfl) (fun _ _ _ h=>h) (Or.inl ⟨by kernel_rfl,?_⟩) ?_
    rotate_left
    ·intro w;go_simp;(try with_reducible rfl)
    refine wpAny_take (i:=22) (v:=?_) rfl (by kernel_rfl) (by kernel_rfl) (by kernel_rfl) (fun _ _ _ h=>h) (Or.inl ⟨by kernel_rfl,?_⟩) ?_
    rotate_left
    ·intro w;go_simp;(try with_reducible rfl)
    refine wpAny_take (i:=23) (v:=?_) rfl (by kernel_rfl) (by kernel_rfl) (by kernel_rfl) (fun _ _ _ h=>h) (Or.inl ⟨by kernel_rfl,?_⟩) ?_
    rotate_left
    ·intro w;go_simp;(try with_reducible rfl)
    refine wpAny_take (i:=24) (v:=?_) rfl (by kernel_rfl) (by kernel_rfl) (by kernel_rfl) (fun _ _ _ h=>h) (Or.inl ⟨by kernel_rfl,?_⟩) ?_
    rotate_left
    ·intro w;go_simp;(try with_reducible rfl)
    refine wpAny_take (i:=25) (v:=?_) rfl (by kernel_rfl) (by kernel_rfl) (by kernel_rfl) (fun _ _ _ h=>h) (Or.inl ⟨by kernel_rfl,?_⟩) ?_
    rotate_left
    ·intro w;go_simp;(try with_reducible rfl)
    refine wpAny_take (i:=26) (v:=?_) rfl (by kernel_rfl) (by kernel_rfl) (by kernel_rfl) (fun _ _ _ h=>h) (Or.inl ⟨by kernel_rfl,?_⟩) ?_
    rotate_left
    ·intro w;go_simp;(try with_reducible rfl)
    refine wpAny_ready (rs:=[27]) (by kernel_rfl) (by simp) ?_
    refine AllReady.cons rfl (fun K hK=>?_) ?_
    ·go_simp
     (try(refine hK _ _ ?_;clear hK K))
     refine wpAny_take (i:=28) (v:=?_) rfl (by kernel_rfl) (by kernel_rfl) (by kernel_rfl) (fun _ _ _ h=>h) (Or.inl ⟨by kernel_rfl,?_⟩) ?_
     rotate_left
     ·intro w;go_simp;(try with_reducible rfl)
     refine wpAny_take (i:=29) (v:=?_) rfl (by kernel_rfl) (by kernel_rfl) (by kernel_rfl) (fun _ _ _ h=>h) (Or.inl ⟨by kernel_rfl,?_⟩) ?_
     rotate_left
     ·intro w;go_simp;(try with_reducible rfl)
     refine wpAny_take (i:=30) (v:=?_) rfl (by kernel_rfl) (by kernel_rfl) (by kernel_rfl) (fun _ _ _ h=>h) (Or.inl ⟨by kernel_rfl,?_⟩) ?_
     rotate_left
     ·intro w;go_simp;(try with_reducible rfl)
     refine wpAny_take (i:=31) (v:=?_) rfl (by kernel_rfl) (by kernel_rfl) (by kernel_rfl) (fun _ _ _ h=>h) (Or.inl ⟨by kernel_rfl,?_⟩) ?_
     rotate_left
     ·intro w;go_simp;(try with_reducible rfl)
     refine wpAny_take (i:=32) (v:=?_) rfl (by kernel_rfl) (by kernel_rfl) (by kernel_rfl) (fun _ _ _ h=>h) (Or.inl ⟨by kernel_rfl,?_⟩) ?_
     rotate_left
     ·intro w;go_simp;(try with_reducible rfl)
     refine wpAny_take (i:=33) (v:=?_) rfl (by kernel_rfl) (by kernel_rfl) (by kernel_rfl) (fun _ _ _ h=>h) (Or.inl ⟨by kernel_rfl,?_⟩) ?_
     rotate_left
     ·intro w;go_simp;(try with_reducible rfl)
     refine wpAny_ready (rs:=[34,35]) (by kernel_rfl) (by simp) ?_
     refine AllReady.cons rfl (fun K hK=>?_) ?_
     ·go_simp
      (try(refine hK _ _ ?_;clear hK K))
      refine wpAny_ready (rs:=[35]) (by kernel_rfl) (by simp) ?_
      refine AllReady.cons rfl (fun K hK=>?_) ?_
      ·go_simp
       (try(refine hK _ _ ?_;clear hK K))
       refine wpAny_ready (rs:=[36]) (by kernel_rfl) (by simp) ?_
       refine AllReady.cons rfl (fun K hK=>?_) ?_
       ·go_simp
        (try(refine hK _ _ ?_;clear hK K))
        refine wpAny_take (i:=37) (v:=?_) rfl (by kernel_rfl) (by kernel_rfl) (by kernel_rfl) (fun _ _ _ h=>h) (Or.inl ⟨by kernel_rfl,?_⟩) ?_
        rotate_left
        ·intro w;go_simp;(try with_reducible rfl)
        refine wpAny_take (i:=38) (v:=?_) rfl (by kernel_rfl) (by kernel_rfl) (by kernel_rfl) (fun _ _ _ h=>h) (Or.inl ⟨by kernel_rfl,?_⟩) ?_
        rotate_left
        ·intro w;go_simp;(try with_reducible rfl)
        refine wpAny_take (i:=39) (v:=?_) rfl (by kernel_rfl) (by kernel_rfl) (by kernel_rfl) (fun _ _ _ h=>h) (Or.inl ⟨by kernel_rfl,?_⟩) ?_
        rotate_left
        ·intro w;go_simp;(try with_reducible rfl)
        refine wpAny_take (i:=40) (v:=undef) rfl (by kernel_rfl) (by kernel_rfl) (by kernel_rfl) (fun _ _ _ h=>h) (Or.inr ⟨by kernel_rfl,rfl⟩) ?_
        refine wpAny_take (i:=41) (v:=undef) rfl (by kernel_rfl) (by kernel_rfl) (by kernel_rfl) (fun _ _ _ h=>h) (Or.inr ⟨by kernel_rfl,rfl⟩) ?_
        refine wpAny_take (i:=42) (v:=?_) rfl (by kernel_rfl) (by kernel_rfl) (by kernel_rfl) (fun _ _ _ h=>h) (Or.inl ⟨by kernel_rfl,?_⟩) ?_
        rotate_left
        ·intro w;go_simp;(try with_reducible rfl)
        refine wpAny_take (i:=43) (v:=?_) rfl (by kernel_rfl) (by kernel_rfl) (by kernel_rfl) (fun _ _ _ h=>h) (Or.inl ⟨by kernel_rfl,?_⟩) ?_
        rotate_left
        ·intro w;go_simp;(try with_reducible rfl)
        refine wpAny_done (by kernel_rfl) ?_ _
        (go_simp;(simp[Hh.out,bne]))
       ·exact AllReady.nil
      ·exact AllReady.nil
     ·refine AllReady.cons rfl (fun K hK=>?_) ?_
      ·go_simp
       (try(refine hK _ _ ?_;clear hK K))
       refine wpAny_ready (rs:=[34,36]) (by kernel_rfl) (by simp) ?_
       refine AllReady.cons rfl (fun K hK=>?_) ?_
       ·go_simp
        (try(refine hK _ _ ?_;clear hK K))
        refine wpAny_ready (rs:=[36]) (by kernel_rfl) (by simp) ?_
        refine AllReady.cons rfl (fun K hK=>?_) ?_
        ·go_simp
         (try(refine hK _ _ ?_;clear hK K))
         refine wpAny_take (i:=37) (v:=?_) rfl (by kernel_rfl) (by kernel_rfl) (by kernel_rfl) (fun _ _ _ h=>h) (Or.inl ⟨by kernel_rfl,?_⟩) ?_
         rotate_left
         ·intro w;go_simp;(try with_reducible rfl)
         refine wpAny_take (i:=38) (v:=?_) rfl (by kernel_rfl) (by kernel_rfl) (by kernel_rfl) (fun _ _ _ h=>h) (Or.inl ⟨by kernel_rfl,?_⟩) ?_
         rotate_left
         ·intro w;go_simp;(try with_reducible rfl)
         refine wpAny_take (i:=39) (v:=?_) rfl (by kernel_rfl) (by kernel_rfl) (by kernel_rfl) (fun _ _ _ h=>h) (Or.inl ⟨by kernel_rfl,?_⟩) ?_
         rotate_left
         ·intro w;go_simp;(try with_reducible rfl)
         refine wpAny_take (i:=40) (v:=undef) rfl (by kernel_rfl) (by kernel_rfl) (by kernel_rfl) (fun _ _ _ h=>h) (Or.inr ⟨by kernel_rfl,rfl⟩) ?_
         refine wpAny_take (i:=41) (v:=undef) rfl (by kernel_rfl) (by kernel_rfl) (by kernel_rfl) (fun _ _ _ h=>h) (Or.inr ⟨by kernel_rfl,rfl⟩) ?_
         refine wpAny_take (i:=42) (v:=?_) rfl (by kernel_rfl) (by kernel_rfl) (by kernel_rfl) (fun _ _ _ h=>h) (Or.inl ⟨by kernel_rfl,?_⟩) ?_
         rotate_left
         ·intro w;go_simp;(try with_reducible rfl)
         refine wpAny_take (i:=43) (v:=?_) rfl (by kernel_rfl) (by kernel_rfl) (by kernel_rfl) (fun _ _ _ h=>h) (Or.inl ⟨by kernel_rfl,?_⟩) ?_
         rotate_left
         ·intro w;go_simp;(try with_reducible rfl)
         refine wpAny_done (by kernel_rfl) ?_ _
         (go_simp;(simp[Hh.out,bne]))
        ·exact AllReady.nil
       ·refine AllReady.cons rfl (fun K hK=>?_) ?_
        ·go_simp
         (try(refine hK _ _ ?_;clear hK K))
         refine wpAny_ready (rs:=[34]) (by kernel_rfl) (by simp) ?_
         refine AllReady.cons rfl (fun K hK=>?_) ?_
         ·go_simp
          (try(refine hK _ _ ?_;clear hK K))
          refine wpAny_take (i:=37) (v:=?_) rfl (by kernel_rfl) (by kernel_rfl) (by kernel_rfl) (fun _ _ _ h=>h) (Or.inl ⟨by kernel_rfl,?_⟩) ?_
          rotate_left
          ·intro w;go_simp;(try with_reducible rfl)
          refine wpAny_take (i:=38) (v:=?_) rfl (by kernel_rfl) (by kernel_rfl) (by kernel_rfl) (fun _ _ _ h=>h) (Or.inl ⟨by kernel_rfl,?_⟩) ?_
          rotate_left
          ·intro w;go_simp;(try with_reducible rfl)
          refine wpAny_take (i:=39) (v:=?_) rfl (by kernel_rfl) (by kernel_rfl) (by kernel_rfl) (fun _ _ _ h=>h) (Or.inl ⟨by kernel_rfl,?_⟩) ?_
          rotate_left
          ·intro w;go_simp;(try with_reducible rfl)
          refine wpAny_take (i:=40) (v:=undef) rfl (by kernel_rfl) (by kernel_rfl) (by kernel_rfl) (fun _ _ _ h=>h) (Or.inr ⟨by kernel_rfl,rfl⟩) ?_
          refine wpAny_take (i:=41) (v:=undef) rfl (by kernel_rfl) (by kernel_rfl) (by kernel_rfl) (fun _ _ _ h=>h) (Or.inr ⟨by kernel_rfl,rfl⟩) ?_
          refine wpAny_take (i:=42) (v:=?_) rfl (by kernel_rfl) (by kernel_rfl) (by kernel_rfl) (fun _ _ _ h=>h) (Or.inl ⟨by kernel_rfl,?_⟩) ?_
          rotate_left
          ·intro w;go_simp;(try with_reducible rfl)
          refine wpAny_take (i:=43) (v:=?_) rfl (by kernel_rfl) (by kernel_rfl) (by kernel_rfl) (fun _ _ _ h=>h) (Or.inl ⟨by kernel_rfl,?_⟩) ?_
          rotate_left
          ·intro w;go_simp;(try with_reducible rfl)
          refine wpAny_done (by kernel_rfl) ?_ _
          (go_simp;(simp[Hh.out,bne]))
         ·exact AllReady.nil
        ·exact AllReady.nil
      ·exact AllReady.nil
    ·exact AllReady.nil
   ·exact AllReady.nil
  ·exact AllReady.nil
end Go.Proofs.YtfhdihdafmahgaaGreatDoor
