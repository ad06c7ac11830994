import Derived.Test.YtfhdihdafmahgaaGreatDoorR22
import Derived.Test.YtfhdihdafmahgaaGreatDoorR33
set_option linter.unusedVariables false
set_option linter.unusedSimpArgs false
set_option maxRecDepth 100000
set_option maxHeartbeats 8000000
namespace Go.Proofs.YtfhdihdafmahgaaGreatDoor
open Go.RowKit Rn Tp Ru
namespace Ru
def LimD (d:Decl):Prop:=d.name.length≤maxLen∧d.value.length≤maxLen∧∀ t∈d.value,t.text.length≤maxLen
def LimM (m:Margin):Prop:=m.name.length≤maxLen∧m.decls.length≤maxLen∧∀ d∈m.decls,LimD d
def LimR (r:Rule):Prop:=r.prelude.length≤maxLen∧(∀ t∈r.prelude,t.text.length≤maxLen)∧r.decls.length≤maxLen∧(∀ d∈r.decls,LimD d)∧r.margins.length≤maxLen∧∀ m∈r.margins,LimM m
end Ru
theorem take_all {α:Type} {P:α→Bool} {l:List α} {k:Nat} {x:α} (h:∀ y∈l.take k,P y=true) (hx:l[k]?=some x) (hp:P x=true):∀ y∈l.take (k+1),P y=true:=by
 rw[List.take_add_one,hx,Option.toList_some];intro y hy
 rcases List.mem_append.1 hy with h1|h1
 ·exact h y h1
 ·rw[List.mem_singleton.1 h1];exact hp
theorem all_not {α:Type} {P:α→Bool} {l:List α} {k:Nat} {x:α} (hx:l[k]?=some x) (hp:P x=false):l.all P=false:=by
 rw[List.all_eq_false]
 exact⟨x,List.mem_of_getElem? hx,by rw[hp];decide⟩
theorem ru_few1 (ds:List Decl) (A:Option Addr) (n c:Nat) (w:World) (h:DeclsS w (· < w.heap.size) A n ds) (hn:n≤maxLen) (hs:∀ d∈ds,LimD d) :
  Calls Tryz.prog 47 #[.slice A n c] w fun e w'=>e=.returned (.bool (declsFew ds))∧Below w.heap.size w w':=by
 unfold maxLen at hn;have hlen:=h.len;have Hlen:=Lib.hid hlen;have Hs:=Lib.hid hs;clear hlen hs
 go_enter Tryz.func47,Tryz.ntmps47
 go_wp2_with fail
 go_loopw [7] (fun i wr=>∃ k:Nat,k≤n∧i=.int .i64 (k:Int)∧Hid (∀ d∈ds.take k,declFew d=true)∧Below w.heap.size w wr) (fun i _=>n-(intOf i).toNat)
 case atStart=>exact⟨0,by omega,rfl,(by show ∀ d∈_,_;simp),Below.refl _ _⟩
 case round =>
  obtain⟨k,hk,rfl,hall,hb⟩:=hrel
  by_cases hlt:k<n
  ·have hbs:=hb.size
   obtain⟨b,off,A1,c1,d,hA,hbl,hdk,f0,f1,f2,hX⟩:=h.at_ hlt;subst hA;have hki:(k:Int)<(n:Int):=by omega
   have hl:=Hs.out d (List.mem_of_getElem? hdk);obtain⟨m1,m2,m3⟩:=hl;unfold maxLen at m1 m2
   replace f0:=(hb.cell (p:=⟨b,off+k * 3,none⟩) hbl).trans f0
   replace f1:=(hb.cell (p:=⟨b,off+k * 3+1,none⟩) hbl).trans f1
   replace f2:=(hb.cell (p:=⟨b,off+k * 3+2,none⟩) hbl).trans f2
   obtain⟨WA,hWA⟩:∃ WA,wr.alloc (.cells #[.string (bytesOf d.name),.slice A1 d.value.length c1,.bool d.imp] 34)=WA:=⟨_,rfl⟩;have bA:Below wr.heap.size wr WA:=by rw[←hWA];exact(Below.refl _ _).alloc (Nat.le_refl _) _
   have rA:RowAt WA wr.heap.size [.string (bytesOf d.name),.slice A1 d.value.length c1,.bool d.imp]:=by rw[←hWA];exact RowAt.new _ _ _
   have hBA:=hb.trans (bA.mono hbs);have cF:=tp_few d.value A1 d.value.length c1 WA (hX.below hBA) (by omega) m3;obtain⟨a0,_⟩:=rA.2 0 _ rfl;obtain⟨a1,_⟩:=rA.2 1 _ rfl;obtain⟨a2,_⟩:=rA.2 2 _ rfl;obtain⟨r,hr⟩:∃ r,fewB d.value=r:=⟨_,rfl⟩;rw[hr] at cF;have hr4:few4 d.value=r:=hr;have hsz:=bytesOf_size d.name;obtain⟨g,hg⟩:∃ g,declFew d=g:=⟨_,rfl⟩;have hge:g=(decide (d.name.length≤100)&&decide (d.value.length≤20)&&r):=by rw[←hg,←hr4];rfl
   have Hg:=Lib.hid hg;have Hge:=Lib.hid hge;have Hdk:=Lib.hid hdk;clear hg hge hr hr4 hdk m3 rA
   go_upto_region 4 with (fail)
   go_cut [26] (fun x wx=>x=.bool (!g)∧WA=wx)
   case first =>
    have hun:(undef:Value)=.tuple #[]:=rfl
    by_cases h1:d.name.length≤100
    ·have e1:decide ((100:Int)<(d.name.length:Int))=false:=by simp;omega
     by_cases h2:d.value.length≤20
     ·have e2:decide ((20:Int)<(d.value.length:Int))=false:=by simp;omega
      have eg:g=r:=by rw[Hge.out,decide_eq_true h1,decide_eq_true h2];simp
      have EG:=Lib.hid eg;clear eg h1 h2
      go_wp2_with fail
      refine cF.mono ?_
      rintro e w3 ⟨rfl,rfl⟩
      go_wp2_with fail
      go_meet
      exact⟨by rw[EG.out],rfl⟩
     ·have e2:decide ((20:Int)<(d.value.length:Int))=true:=by simp;omega
      have eg:g=false:=by rw[Hge.out,decide_eq_false h2];simp
      have EG:=Lib.hid eg;clear eg h1 h2 cF
      go_wp2_with fail
      go_meet
      exact⟨by rw[EG.out];rfl,rfl⟩
    ·have e1:decide ((100:Int)<(d.name.length:Int))=true:=by simp;omega
     have eg:g=false:=by rw[Hge.out,decide_eq_false h1];simp
     have EG:=Lib.hid eg;clear eg h1 cF
     go_wp2_with fail
     go_meet
     exact⟨by rw[EG.out];rfl,rfl⟩
   case rest =>
    obtain⟨rfl,rfl⟩:=hcut
    cases g with
    | false =>
     have hf:declsFew ds=false:=by unfold declsFew;rw[all_not Hdk.out Hg.out,Bool.and_false]
     have HF:=Lib.hid hf;clear hf hall
     go_wp2_with fail
     go_ret
     exact⟨ret_bool HF.out.symm,hBA⟩
    | true =>
     have hnew:Hid (∀ d∈ds.take (k+1),declFew d=true):=take_all hall.out Hdk.out Hg.out;clear hall
     go_wp2_with fail
     go_roundw
     case rel=>exact⟨k+1,by omega,by go_num,hnew,hBA⟩
     case measure=>simp[intOf];omega
  ·obtain rfl:k=n:=by omega
   have dk:¬ (k:Int)<(k:Int):=by omega
   have hf:declsFew ds=decide ((k:Int)≤8):=by
    have h2:=hall.out;rw[←Hlen.out,List.take_length] at h2;unfold declsFew;rw[List.all_eq_true.2 h2,Hlen.out,Bool.and_true]
    exact decide_eq_decide.2 ⟨fun h=>by omega,fun h=>by omega⟩
   have HF:=Lib.hid hf;clear hf hall
   go_wp2_with fail
   go_ret
   exact⟨ret_bool HF.out.symm,hb⟩
theorem ru_few (l:List Rule) (A:Option Addr) (n c:Nat) (w:World) (h:RulesS w (· < w.heap.size) A n l) (hn:n≤maxLen) (hs:∀ r∈l,LimR r) :
  Calls Tryz.prog 12 #[.slice A n c] w fun e w'=>e=.returned (.bool (fewR l))∧Below w.heap.size w w':=by
 unfold maxLen at hn;have hlen:=h.len;have Hlen:=Lib.hid hlen;have Hs:=Lib.hid hs;clear hlen hs
 go_enter Tryz.func12,Tryz.ntmps12
 go_wp2_with fail
 go_loopw [4] (fun i wr=>∃ k:Nat,k≤n∧k≤9∧i=.int .i64 (k:Int)∧Hid (∀ r∈l.take k,ruleFew r=true)∧Below w.heap.size w wr) (fun i _=>9-(intOf i).toNat)
 case atStart=>exact⟨0,by omega,by omega,rfl,(by show ∀ d∈_,_;simp),Below.refl _ _⟩
 case round =>
  obtain⟨k,hk,hk9,rfl,hall,hb⟩:=hrel;have hbs:=hb.size
  by_cases hlt:k<n∧k≤8
  ·obtain⟨hlt1,hlt2⟩:=hlt
   obtain⟨b,off,A1,c1,A2,c2,A3,c3,r,hA,hbl,hrk,f0,f1,f2,f3,hX1,hX2,hX3⟩:=h.at_ hlt1;subst hA;have hki:(k:Int)<(n:Int):=by omega
   have hki8:(k:Int)≤8:=by omega
   have hki8n:decide (k≤8)=true:=by simp;omega
   obtain⟨m1,m2,m3,m4,m5,m6⟩:=Hs.out r (List.mem_of_getElem? hrk);unfold maxLen at m1 m3 m5
   replace f1:=(hb.cell (p:=⟨b,off+k * 4+1,none⟩) hbl).trans f1
   replace f2:=(hb.cell (p:=⟨b,off+k * 4+2,none⟩) hbl).trans f2
   replace f3:=(hb.cell (p:=⟨b,off+k * 4+3,none⟩) hbl).trans f3
   have cF:=tp_few r.prelude A1 r.prelude.length c1 wr (hX1.below hb) (by omega) m2;have cD:=ru_few1 r.decls A2 r.decls.length c2 wr (hX2.below hb) (by unfold maxLen;omega) m4;have hM:=hX3.below hb;obtain⟨q1,hq1⟩:∃ q,fewB r.prelude=q:=⟨_,rfl⟩;obtain⟨q2,hq2⟩:∃ q,declsFew r.decls=q:=⟨_,rfl⟩;rw[hq1] at cF;rw[hq2] at cD;have hq1':few4 r.prelude=q1:=hq1;obtain⟨q3,hq3⟩:∃ q,r.margins.all marginFew=q:=⟨_,rfl⟩;have hge:ruleFew r=(decide (r.prelude.length≤20)&&q1&&decide (r.margins.length≤8)&&q2&&q3):=by rw[←hq1',←hq2,←hq3];rfl
   obtain⟨g,hg⟩:∃ g,(decide (r.prelude.length≤20)&&q1&&decide (r.margins.length≤8)&&q2)=g:=⟨_,rfl⟩;rw[hg] at hge;have Hg:=Lib.hid hg;have Hge:=Lib.hid hge;have Hq3:=Lib.hid hq3;have Hrk:=Lib.hid hrk;have M6:=Lib.hid m6;clear hg hge hq1 hq1' hq2 hq3 hrk m2 m4 m6 hX1 hX2 hX3 f0
   go_upto_region 5 with (fail)
   go_cut [51] (fun x wx=>x=.bool (!g)∧Below wr.heap.size wr wx)
   case first =>
    have hun:(undef:Value)=.tuple #[]:=rfl
    by_cases h1:r.prelude.length≤20
    ·have e1:decide ((20:Int)<(r.prelude.length:Int))=false:=by simp;omega
     cases q1 with
     | false =>
      have eg:g=false:=by rw[←Hg.out];simp
      have EG:=Lib.hid eg;clear eg h1 cD
      go_wp2_with fail
      refine cF.mono ?_
      rintro e w3 ⟨rfl,rfl⟩
      go_wp2_with fail
      go_meet
      exact⟨by rw[EG.out];rfl,Below.refl _ _⟩
     | true =>
      by_cases h2:r.margins.length≤8
      ·have e2:decide ((8:Int)<(r.margins.length:Int))=false:=by simp;omega
       have eg:g=q2:=by rw[←Hg.out,decide_eq_true h1,decide_eq_true h2];simp
       have EG:=Lib.hid eg;clear eg h1 h2
       go_wp2_with fail
       refine cF.mono ?_
       rintro e w3 ⟨rfl,rfl⟩
       go_wp2_with fail
       refine cD.mono ?_
       rintro e w4 ⟨rfl,hb4⟩
       go_wp2_with fail
       go_meet
       exact⟨by rw[EG.out],hb4⟩
      ·have e2:decide ((8:Int)<(r.margins.length:Int))=true:=by simp;omega
       have eg:g=false:=by rw[←Hg.out,decide_eq_false h2];simp
       have EG:=Lib.hid eg;clear eg h1 h2 cD
       go_wp2_with fail
       refine cF.mono ?_
       rintro e w3 ⟨rfl,rfl⟩
       go_wp2_with fail
       go_meet
       exact⟨by rw[EG.out];rfl,Below.refl _ _⟩
    ·have e1:decide ((20:Int)<(r.prelude.length:Int))=true:=by simp;omega
     have eg:g=false:=by rw[←Hg.out,decide_eq_false h1];simp
     have EG:=Lib.hid eg;clear eg h1 cF cD
     go_wp2_with fail
     go_meet
     exact⟨by rw[EG.out];rfl,Below.refl _ _⟩
   case rest =>
    obtain⟨rfl,hbc⟩:=hcut;obtain⟨wc1,hu⟩:∃ x,x=wc:=⟨_,rfl⟩;subst hu;have hbW:=hb.trans (hbc.mono hbs);have hlb:b<wr.heap.size:=Nat.lt_of_lt_of_le hbl hbs;have f3':=(hbc.cell (p:=⟨b,off+k * 4+3,none⟩) hlb).trans f3;have hMc:=hM.below hbc;clear cF cD hM
    cases g with
    | false =>
     have hf:fewR l=false:=by unfold fewR;rw[all_not Hrk.out (by rw[Hge.out];rfl),Bool.and_false]
     have HF:=Lib.hid hf;clear hf hall
     go_wp2_with fail
     go_ret
     exact⟨ret_bool HF.out.symm,hbW⟩
    | true =>
     obtain⟨mm,hmm⟩:∃ mm,r.margins.length=mm:=⟨_,rfl⟩;rw[hmm] at hMc f3' m5;have Hmm:=Lib.hid hmm;clear hmm f1 f2 f3
     go_wp2_with fail
     go_loopw [58] (fun i wx=>∃ j:Nat,j≤mm∧i=.int .i64 (j:Int)∧Hid (∀ m∈r.margins.take j,marginFew m=true)∧Below wc1.heap.size wc1 wx) (fun i _=>mm-(intOf i).toNat)
     case atStart=>exact⟨0,by omega,rfl,(by show ∀ d∈_,_;simp),Below.refl _ _⟩
     case round =>
      obtain⟨j,hj,rfl,hallm,hbx⟩:=hrel;obtain⟨wx,hux⟩:∃ x,x=wr:=⟨_,rfl⟩;subst hux;have hbWx:=hbW.trans (hbx.mono hbW.size)
      by_cases hjl:j<mm
      ·have hbxs:=hbx.size
       obtain⟨b',off',A4,c4,m,hA,hbl',hmj,g0,g1,hX⟩:=hMc.at_ hjl;subst hA;have hji:(j:Int)<(mm:Int):=by omega
       obtain⟨n1,n2,n3⟩:=M6.out m (List.mem_of_getElem? hmj);unfold maxLen at n1 n2
       replace g0:=(hbx.cell (p:=⟨b',off'+j * 2,none⟩) hbl').trans g0
       replace g1:=(hbx.cell (p:=⟨b',off'+j * 2+1,none⟩) hbl').trans g1
       obtain⟨WA,hWA⟩:∃ WA,wx.alloc (.cells #[.string (bytesOf m.name),.slice A4 m.decls.length c4] 41)=WA:=⟨_,rfl⟩;have bA:Below wx.heap.size wx WA:=by rw[←hWA];exact(Below.refl _ _).alloc (Nat.le_refl _) _
       have rA:RowAt WA wx.heap.size [.string (bytesOf m.name),.slice A4 m.decls.length c4]:=by rw[←hWA];exact RowAt.new _ _ _
       have hBA:=hbx.trans (bA.mono hbxs);have cF:=ru_few1 m.decls A4 m.decls.length c4 WA (hX.below hBA) (by unfold maxLen;omega) n3;obtain⟨a0,_⟩:=rA.2 0 _ rfl;obtain⟨a1,_⟩:=rA.2 1 _ rfl;obtain⟨r',hr⟩:∃ r,declsFew m.decls=r:=⟨_,rfl⟩;rw[hr] at cF;have hsz:=bytesOf_size m.name;obtain⟨g,hg⟩:∃ g,marginFew m=g:=⟨_,rfl⟩;have hge:g=(decide (m.name.length≤100)&&r'):=by rw[←hg,←hr];rfl
       have Hg2:=Lib.hid hg;have Hge2:=Lib.hid hge;have Hmj:=Lib.hid hmj;clear hg hge hr hmj n3 rA
       go_upto_region 10 with (fail)
       go_cut [72] (fun x wy=>x=.bool (!g)∧Below WA.heap.size WA wy)
       case first =>
        have hun:(undef:Value)=.tuple #[]:=rfl
        by_cases h1:m.name.length≤100
        ·have e1:decide ((100:Int)<(m.name.length:Int))=false:=by simp;omega
         have eg:g=r':=by rw[Hge2.out,decide_eq_true h1];simp
         have EG:=Lib.hid eg;clear eg h1
         go_wp2_with fail
         refine cF.mono ?_
         rintro e w3 ⟨rfl,hb3⟩
         go_wp2_with fail
         go_meet
         exact⟨by rw[EG.out],hb3⟩
        ·have e1:decide ((100:Int)<(m.name.length:Int))=true:=by simp;omega
         have eg:g=false:=by rw[Hge2.out,decide_eq_false h1];simp
         have EG:=Lib.hid eg;clear eg h1 cF
         go_wp2_with fail
         go_meet
         exact⟨by rw[EG.out];rfl,Below.refl _ _⟩
       case rest =>
        obtain⟨rfl,hby⟩:=hcut;have hBy:=hBA.trans (hby.mono hBA.size)
        cases g with
        | false =>
         have hf:fewR l=false:=by
          have h3:r.margins.all marginFew=false:=all_not Hmj.out Hg2.out;unfold fewR;rw[all_not Hrk.out (by rw[Hge.out,←Hq3.out,h3];rfl),Bool.and_false]
         have HF:=Lib.hid hf;clear hf hall hallm
         go_wp2_with fail
         go_ret
         exact⟨ret_bool HF.out.symm,hbW.trans (hBy.mono hbW.size)⟩
        | true =>
         have hnew:Hid (∀ m∈r.margins.take (j+1),marginFew m=true):=take_all hallm.out Hmj.out Hg2.out;clear hallm
         go_wp2_with fail
         go_roundw
         case rel=>exact⟨j+1,by omega,by go_num,hnew,hBy⟩
         case measure=>simp[intOf];omega
      ·obtain rfl:j=mm:=by omega
       have dj:¬ (j:Int)<(j:Int):=by omega
       have hrf:ruleFew r=true:=by
        have h2:=hallm.out;rw[←Hmm.out,List.take_length] at h2;rw[Hge.out,←Hq3.out,List.all_eq_true.2 h2];rfl
       have hnew:Hid (∀ r∈l.take (k+1),ruleFew r=true):=take_all hall.out Hrk.out hrf;have wk:IntKind.i64.wrap ((k:Int)+1)=(k:Int)+1:=by rw[IntKind.wrap_i64];omega
       clear hall hallm hrf
       go_wp2_with fail
       go_roundw
       case rel=>exact⟨k+1,by omega,by omega,by go_num,hnew,hbWx⟩
       case measure=>simp[intOf];omega
  ·have hf:fewR l=decide ((n:Int)≤8):=by
    unfold fewR;rw[Hlen.out]
    by_cases h8:n≤8
    ·obtain rfl:k=n:=by omega
     have h2:=hall.out;rw[←Hlen.out,List.take_length] at h2;rw[List.all_eq_true.2 h2,Bool.and_true]
     exact decide_eq_decide.2 ⟨fun h=>by omega,fun h=>by omega⟩
    ·rw[decide_eq_false h8,Bool.false_and]
     exact(decide_eq_false (by omega)).symm
   have HF:=Lib.hid hf;have h2:k=n∨(k<n∧k=9):=by omega
   clear hf hall hlt
   rcases h2 with h2|⟨h2,h3⟩
   ·subst h2
    have dk:¬ (k:Int)<(k:Int):=by omega
    go_wp2_with fail
    go_ret
    exact⟨ret_bool HF.out.symm,hb⟩
   ·subst h3
    have dk:((9:Nat):Int)<(n:Int):=by omega
    go_wp2_with fail
    go_ret
    exact⟨ret_bool HF.out.symm,hb⟩
end Go.Proofs.YtfhdihdafmahgaaGreatDoor
namespace Go.Proofs.YtfhdihdafmahgaaGreatDoor
open Go.RowKit Ru
def okT (t:GTok):Prop:=t.text.length≤maxLen∧num64 t
def okD (d:Decl):Prop:=d.name.length≤maxLen∧d.value.length≤maxLen∧∀ t∈d.value,okT t
def okM (m:Margin):Prop:=m.name.length≤maxLen∧m.decls.length≤maxLen∧∀ d∈m.decls,okD d
def okR (r:Rule):Prop:=r.prelude.length≤maxLen∧(∀ t∈r.prelude,okT t)∧r.decls.length≤maxLen∧(∀ d∈r.decls,okD d)∧r.margins.length≤maxLen∧∀ m∈r.margins,okM m
theorem okR.lim {r:Rule} (h:okR r):LimR r:=by
 obtain⟨a1,a2,a3,a4,a5,a6⟩:=h
 exact⟨a1,fun t ht=>(a2 t ht).1,a3,fun d hd=>⟨(a4 d hd).1,(a4 d hd).2.1,fun t ht=>((a4 d hd).2.2 t ht).1⟩,a5,fun m hm=>⟨(a6 m hm).1,(a6 m hm).2.1,fun d hd=>⟨((a6 m hm).2.2 d hd).1,((a6 m hm).2.2 d hd).2.1,fun t ht=>(((a6 m hm).2.2 d hd).2.2 t ht).1⟩⟩⟩
theorem okR.num {l:List Rule} (h:∀ r∈l,okR r):AllT num64 l:=fun r hr=>by
 obtain⟨a1,a2,a3,a4,a5,a6⟩:=h r hr
 exact⟨fun t ht=>(a2 t ht).2,fun d hd t ht=>((a4 d hd).2.2 t ht).2,fun m hm d hd t ht=>(((a6 m hm).2.2 d hd).2.2 t ht).2⟩
end Go.Proofs.YtfhdihdafmahgaaGreatDoor
