import Derived.Test.YtfhdihdafmahgaaGreatDoorR30
import Derived.Test.YtfhdihdafmahgaaGreatDoorR29
set_option linter.unusedVariables false
set_option linter.unusedSimpArgs false
set_option maxRecDepth 100000
set_option maxHeartbeats 8000000
namespace Go.Proofs.YtfhdihdafmahgaaGreatDoor
open Go.RowKit Rn Tp Fx
theorem tokenP_len {t:GTok} (hl:t.text.length≤1000000):(tokenP t).length≤10000100:=by
 cases hO:oneB t with
 | false=>unfold tokenP;rw[if_neg (by rw[hO];decide)];simp
 | true =>
  obtain⟨e1,e2,e3,e4,e5⟩:=one_facts hO;obtain⟨k1,k2⟩:=kind_range hO;have hv:∀ c∈textC t,isB c=true:=fun c hc=>(e2 c hc).1
  have hcl:(textC t).length≤1000000:=by
   have:=posU_ge (textC t) (textC t).length (Nat.le_refl _);rw[posU_end,e3] at this;omega
  have hx:(utfP t.text).getD []=textC t:=rfl;have hN:=nameP_len (l:=textC t) false hv;have hM:=nameP_len (l:=textC t) true hv;have hQ:=quotedP_len (l:=textC t) hv;have hF:=printP_len t.n;unfold tokenP;rw[if_pos hO];simp only[hx];generalize t.kind=k at *
  have hK:k=1∨k=2∨k=3∨k=4∨k=5∨k=6∨k=7∨k=8∨k=9∨k=10∨k=11∨k=12∨k=13∨k=14∨k=15∨k=16:=by omega
  rcases hK with rfl | rfl | rfl | rfl | rfl | rfl | rfl | rfl | rfl | rfl | rfl | rfl | rfl | rfl | rfl | rfl<;>simp<;>omega
def gapP (p:Option GTok) (t:GTok):List UInt8:=match p with
 | none=>[]
 | some s=>if apartB s.kind t.kind=true then [47,42,42,47] else []
def runP:Option GTok→List GTok→List UInt8
 | _,[]=>[]
 | p,t::l=>gapP p t++(tokenP t++runP (some t) l)
theorem run_join:∀ (l:List GTok) (p:GTok),runP (some p) l=match l with
  | []=>[]
  | t::r=>gapP (some p) t++joinP (t::r)
 | [],p=>rfl
 | [t],p=>by simp[runP,joinP]
 | t::u::r,p=>by
  have:=run_join (u::r) t;rw[runP,this]
  rfl
theorem run_all (l:List GTok):runP none l=joinP l:=by
 cases l with
 | nil=>rfl
 | cons t r =>
  rw[runP]
  show []++(tokenP t++runP (some t) r)=_
  rw[run_join]
  cases r with
  | nil=>simp[joinP]
  | cons u r=>rfl
def prevT (l:List GTok) (k:Nat):Option GTok:=if k=0 then none else l[k-1]?
theorem run_step {l:List GTok} {k:Nat} {t:GTok} (h:l[k]?=some t):runP (prevT l k) (l.drop k)=gapP (prevT l k) t++(tokenP t++runP (prevT l (k+1)) (l.drop (k+1))):=by
 have hk:k<l.length:=(List.getElem?_eq_some_iff.1 h).1
 have hd:l.drop k=t::l.drop (k+1):=by
  rw[List.drop_eq_getElem_cons hk];rw[List.getElem?_eq_getElem hk] at h
  injection h with h
  rw[h]
 have hp:prevT l (k+1)=some t:=by unfold prevT;rw[if_neg (by omega)];exact h
 rw[hd,hp];rfl
theorem isB_below {T e:TypeId} {B b:Nat} {bs:List Value} {w w':World} (h:Lib.IsBuilder T e B b bs w) (hb:Below w.heap.size w w'):Lib.IsBuilder T e B b bs w':=by
 rcases h with h|h
 ·have hlt:=h.lt
  obtain⟨h1,v,h2,h3,h4⟩:=h
  exact .inl ⟨h1,v,(hb.block b hlt).trans h2,own_below h3 hb,h4⟩
 ·have hlt:=h.lt
  obtain⟨h1,v,h2,h3,h4⟩:=h
  exact .inr ⟨h1,v,(hb.block b hlt).trans h2,own_below h3 hb,h4⟩
theorem tp_print (l:List GTok) (A:Option Addr) (n cap:Nat) (w:World) (hr:TokRow w w.heap.size A n l) (hT:Tabs w) (hE:Env w) (hD:Db w) :
  Calls Tryz.prog 50 #[.slice A n cap] w fun e w'=>e=.returned (.string (bytesOf (printL l)))∧Below w.heap.size w w':=by
 have hlen:l.length=n:=hr.rd.len;have hn:=hr.hn;have Hlen:=Lib.hid hlen;clear hlen;have hRt:=tp_rights l A n cap w hr hT
 cases hO:rightB l with
 | false =>
  rw[hO] at hRt;have hfin:printL l=[]:=by unfold printL;rw[if_neg (by rw[hO];decide)]
  have HF:=Lib.hid hfin;clear hfin hO
  go_enter Tryz.func50,Tryz.ntmps50
  go_wp2_with fail
  refine hRt.mono ?_
  rintro e w1 ⟨rfl,hb⟩
  go_wp2
  go_ret
  exact⟨by rw[HF.out];rfl,hb⟩
 | true =>
  rw[hO] at hRt;have hfin:printL l=runP none l:=by unfold printL;rw[if_pos hO,run_all]
  have HF:=Lib.hid hfin;clear hfin hO
  go_enter Tryz.func50,Tryz.ntmps50
  go_wp2_with fail
  refine hRt.mono ?_
  rintro e w1 ⟨rfl,hb1⟩;have hs1:=hb1.size
  go_wp2_with fail
  obtain⟨W0,hW0⟩:∃ W0,w1.alloc (.cells #[.pointer none,.slice none 0 0] 109)=W0:=⟨_,rfl⟩;have I0:IsB w1.heap.size w1.heap.size [] W0:=by rw[←hW0];exact Lib.fresh_isBuilder _ _ _
  have b0:Below w1.heap.size w1 W0:=by rw[←hW0];exact(Below.refl _ _).alloc (Nat.le_refl _) _
  rw[hW0];clear hW0
  go_loopw [11] (fun i wr=>∃ (k:Nat) (acc:List UInt8),k≤n∧i=.int .i64 k∧Hid (acc++runP (prevT l k) (l.drop k)=runP none l)∧acc.length≤10000104 * k∧IsB w1.heap.size w1.heap.size acc wr∧Below w1.heap.size w1 wr) (fun i _=>n-(intOf i).toNat)
  case atStart=>exact⟨0,[],by omega,rfl,rfl,by simp,I0,b0⟩
  case round =>
   obtain⟨k,acc,hk,rfl,hrun,hal,hI,hb⟩:=hrel;have hbw:Below w.heap.size w wr:=hb1.trans (hb.mono hs1);have hrw:=hr.below hbw;have hbs:=hb.size;have hws:=hbw.size
   by_cases hlt:k<n
   ·obtain⟨b,off,t,hA,hbl,ht,c0,c1,c2⟩:=hrw.rd.at_ hlt
    subst hA;have hsm:=hr.small t (List.mem_of_getElem? ht);have hstep:=run_step ht;have dk:decide ((k:Int)<(n:Int))=true:=by simp;omega
    obtain⟨WA,hWA⟩:∃ WA,wr.alloc (.cells #[.int .i64 t.kind,.string (bytesOf t.text),.int .i64 t.n] 58)=WA:=⟨_,rfl⟩;have bA:Below wr.heap.size wr WA:=by rw[←hWA];exact(Below.refl _ _).alloc (Nat.le_refl _) _
    have rA:RowAt WA wr.heap.size [.int .i64 t.kind,.string (bytesOf t.text),.int .i64 t.n]:=by rw[←hWA];exact RowAt.new _ _ _
    have xA:WA.heap[wr.heap.size]?=some (.cells #[.int .i64 t.kind,.string (bytesOf t.text),.int .i64 t.n] 58):=by rw[←hWA];exact heap_alloc_new _ _
    have hTl:=tokenP_len (t:=t) hsm.1;have hbA:Below w.heap.size w WA:=hbw.trans (bA.mono hws);obtain⟨a0,_⟩:=rA.2 0 _ rfl;obtain⟨a1,_⟩:=rA.2 1 _ rfl;obtain⟨a2,_⟩:=rA.2 2 _ rfl
    obtain⟨ap,hap⟩:∃ ap:Bool,(gapP (prevT l k) t=if ap=true then [47,42,42,47] else [])∧((k=0∧ap=false)∨∃ (j:Nat) (u:GTok),k=j+1∧ap=apartB u.kind t.kind∧wr.cell? ⟨b,off+j * 3,none⟩=some (.int .i64 u.kind)):=by
     cases k with
     | zero=>exact⟨false,rfl,.inl ⟨rfl,rfl⟩⟩
     | succ j =>
      obtain⟨b',off',u,hA',_,hu,d0,_,_⟩:=hrw.rd.at_ (show j<n by omega)
      injection hA' with hA'
      injection hA' with e1 e2
      subst e1 e2
      refine⟨apartB u.kind t.kind,?_,.inr ⟨j,u,rfl,rfl,d0⟩⟩
      have:prevT l (j+1)=some u:=by unfold prevT;rw[if_neg (by omega)];exact hu
      rw[this];rfl
    obtain⟨hgap,hap2⟩:=hap
    have hnew:Hid ((acc++(if ap=true then [47,42,42,47] else []))++tokenP t++runP (prevT l (k+1)) (l.drop (k+1))=runP none l):=by
     show _=_
     rw[←hrun.out,hstep,hgap];simp
    have HAP:=Lib.hid hap2;have hz47:=bytesOf_size (tokenP t);have hTA:Tabs WA:=hT.below hbA;have hEA:Env WA:=hE.below hbA;have hDA:Db WA:=hD.below hbA;have hIA:IsB w1.heap.size w1.heap.size acc WA:=isB_below hI bA;clear hrun hstep hgap hap2
    go_upto_region 7 with (fail)
    go_cut [28] (fun x wx=>x=.bool ap∧Below WA.heap.size WA wx)
    case first =>
     rcases HAP.out with⟨hk0,hap⟩|⟨j,u,hkj,hap,d0⟩
     ·have tk:decide ((0:Int)<(k:Int))=false:=by simp;omega
      have tk2:decide (0<k)=false:=by simp;omega
      have HN:=Lib.hid hap;clear hk0 hap HAP hnew
      refine wp_region_bw WA.heap.size (by kernel_rfl) (by kernel_rfl) ?_
      repeat(go_big_quiet_step (fail))
      refine wpQuiet_nil ?_
      intro _ hw';obtain⟨W,rfl⟩:=hw'
      go_wp2_with fail
      go_meet
      exact⟨by rw[HN.out],W.is⟩
     ·have tk:decide ((0:Int)<(k:Int))=true:=by simp;omega
      have tk2:decide (0<k)=true:=by simp;omega
      have HN:=Lib.hid hap;have hwj:IntKind.i64.wrap ((k:Int)-1)=(j:Int):=by rw[IntKind.wrap_i64];omega
      have hj1:(k:Int)-1=(j:Int):=by omega
      have hjn:(j:Int)<(n:Int):=by omega
      have hblA:b<WA.heap.size:=Nat.lt_of_lt_of_le hbl hbA.size;have z0:=bw_cell (B:=WA.heap.size) a0 rA.1;have z1:=bw_cell (B:=WA.heap.size) ((bA.cell (p:=⟨b,off+j * 3,none⟩) (Nat.lt_of_lt_of_le hbl hws)).trans d0) hblA;have cA:=fun W=>tp_apart u.kind t.kind W
      clear hkj hap HAP hnew d0
      refine wp_region_bw WA.heap.size (by kernel_rfl) (by kernel_rfl) ?_
      repeat(go_big_quiet_step (first | (go_at_call 74;exact calls_bw_same (cA _))))
      refine wpQuiet_nil ?_
      intro _ hw';obtain⟨W,rfl⟩:=hw'
      go_wp2_with fail
      go_meet
      exact⟨by rw[HN.out],W.is⟩
    case rest =>
     obtain⟨rfl,hbc⟩:=hcut;have hI1:=isB_below hIA hbc;have e0:=(hbc.cell (p:=⟨wr.heap.size,0,none⟩) rA.1).trans a0;have e1:=(hbc.cell (p:=⟨wr.heap.size,1,none⟩) rA.1).trans a1;have e2:=(hbc.cell (p:=⟨wr.heap.size,2,none⟩) rA.1).trans a2;have hbA1:Below w1.heap.size w1 WA:=hb.trans (bA.mono hbs);have hb3:Below w1.heap.size w1 wc:=hbA1.trans (hbc.mono hbA1.size);have hB3:w1.heap.size≤wc.heap.size:=hb3.size;have hltr:wr.heap.size<wc.heap.size:=Nat.lt_of_lt_of_le rA.1 hbc.size;clear HAP hWA a0 a1 a2 c0 c1 c2 hrw
     cases ap with
     | true =>
      rw[if_pos rfl] at hnew
      go_wp2_with fail
      refine(tp_wstr w1.heap.size w1.heap.size acc [47,42,42,47] wc hI1 (by simp;omega) hB3).mono ?_
      rintro e w4 ⟨rfl,hI2,hb4,ko4⟩;have hblt:w1.heap.size<wr.heap.size:=by rcases hI with h | h<;>exact h.lt
      have x4:=ko4 wr.heap.size _ ((hbc.block wr.heap.size rA.1).trans xA) (by intro e;injection e;omega) (by intro c fz e;injection e with _ e _;exact absurd e (by decide));have e0:w4.cell? ⟨wr.heap.size,0,none⟩=some (.int .i64 t.kind):=by simp[World.cell?,x4]
      have e1:w4.cell? ⟨wr.heap.size,1,none⟩=some (.string (bytesOf t.text)):=by simp[World.cell?,x4]
      have e2:w4.cell? ⟨wr.heap.size,2,none⟩=some (.int .i64 t.n):=by simp[World.cell?,x4]
      have hb2:Below w1.heap.size w1 w4:=hb3.trans hb4;have hbw2:Below w.heap.size w w4:=hb1.trans (hb2.mono hs1);have hTw:Tabs w4:=hT.below hbw2;have hEw:Env w4:=hE.below hbw2;have hDw:Db w4:=hD.below hbw2;have hB2:w1.heap.size≤w4.heap.size:=hb2.size;have cT:=tp_token t w4 hsm.1 ⟨hsm.2.1,hsm.2.2⟩ hTw hEw hDw
      go_wp2_with fail
      refine cT.mono ?_
      rintro e w5 ⟨rfl,hb5⟩;have hI5:=isB_below hI2 hb5;have hB5:w1.heap.size≤w5.heap.size:=Nat.le_trans hB2 hb5.size
      go_wp2_with fail
      refine(tp_wstr w1.heap.size w1.heap.size _ (tokenP t) w5 hI5 (by simp;omega) hB5).mono ?_
      rintro e w6 ⟨rfl,hI6,hb6,_⟩
      go_wp2_with fail
      go_roundw
      case rel=>exact⟨k+1,_,by omega,by go_num,hnew,(by simp;omega),hI6,hb2.trans ((hb5.mono hB2).trans hb6)⟩
      case measure=>simp[intOf];omega
     | false =>
      rw[if_neg (by decide),List.append_nil] at hnew;have hI2:=hI1;have hb2:=hb3;have hbw2:Below w.heap.size w wc:=hb1.trans (hb2.mono hs1);have hTw:Tabs wc:=hT.below hbw2;have hEw:Env wc:=hE.below hbw2;have hDw:Db wc:=hD.below hbw2;have hB2:w1.heap.size≤wc.heap.size:=hb2.size;have cT:=tp_token t wc hsm.1 ⟨hsm.2.1,hsm.2.2⟩ hTw hEw hDw
      go_wp2_with fail
      refine cT.mono ?_
      rintro e w5 ⟨rfl,hb5⟩;have hI5:=isB_below hI2 hb5;have hB5:w1.heap.size≤w5.heap.size:=Nat.le_trans hB2 hb5.size
      go_wp2_with fail
      refine(tp_wstr w1.heap.size w1.heap.size _ (tokenP t) w5 hI5 (by omega) hB5).mono ?_
      rintro e w6 ⟨rfl,hI6,hb6,_⟩
      go_wp2_with fail
      go_roundw
      case rel=>exact⟨k+1,_,by omega,by go_num,hnew,(by simp;omega),hI6,hb2.trans ((hb5.mono hB2).trans hb6)⟩
      case measure=>simp[intOf];omega
   ·obtain rfl:k=n:=by omega
    have dk:decide ((k:Int)<(k:Int))=false:=by simp
    have hfin:acc=printL l:=by
     rw[HF.out,←hrun.out,←Hlen.out,List.drop_length]
     simp[runP]
    have HB:=Lib.hid hfin;have hS:=Tryz.Builder_String_any w1.heap.size w1.heap.size acc wr hI (Nat.le_trans (Nat.le_refl _) hbs);clear hfin hrun hlt hk hRt hr hrw
    go_wp2_with fail
    refine hS.mono ?_
    rintro e w4 ⟨rfl,hb4⟩
    go_wp2
    go_ret
    exact⟨congrArg (fun x=>Ending.returned (Value.string (bytesOf x))) HB.out,hb1.trans ((hb.trans hb4).mono hs1)⟩
end Go.Proofs.YtfhdihdafmahgaaGreatDoor
namespace Go.Proofs.YtfhdihdafmahgaaGreatDoor
open Go.RowKit Rn Tp Tk
namespace Tp
def fewB (l:List GTok):Bool:=decide (l.length≤100)&&l.all (fun t=>decide (t.text.length≤100))
end Tp
theorem few_facts {l:List GTok} (h:fewB l=true):l.length≤100∧∀ t∈l,t.text.length≤100:=by
 unfold fewB at h;simp only[Bool.and_eq_true,decide_eq_true_eq,List.all_eq_true] at h
 exact h
theorem tp_few (l:List GTok) (A:Option Addr) (n cap:Nat) (w:World) (hr:ReadsT w w.heap.size A n l) (hn:n≤9223372036854775807) (hs:∀ t∈l,t.text.length≤maxLen) :
  Calls Tryz.prog 48 #[.slice A n cap] w fun e w'=>e=.returned (.bool (fewB l))∧w=w':=by
 have hlen:l.length=n:=hr.len;have Hlen:=Lib.hid hlen;have Hs:=Lib.hid hs;clear hlen hs
 go_enter Tryz.func48,Tryz.ntmps48
 go_wp2_with fail
 go_loopw [3] (fun i wr=>∃ k:Nat,k≤n∧k≤101∧i=.int .i64 k∧w=wr∧Hid (∀ t∈l.take k,t.text.length≤100)) (fun i _=>101-(intOf i).toNat)
 case atStart=>exact⟨0,by omega,by omega,rfl,rfl,(by show ∀ t∈_,_;simp)⟩
 case round =>
  obtain⟨k,hk,hk1,rfl,rfl,hx⟩:=hrel
  by_cases hlt:k<n
  ·have dk:decide ((k:Int)<(n:Int))=true:=by simp;omega
   by_cases h100:k≤100
   ·have d100:decide ((k:Int)≤100)=true:=by simp;omega
    have d100n:decide (k≤100)=true:=by simp;omega
    obtain⟨b,off,t,hA,hbw,ht,c0,c1,c2⟩:=hr.at_ hlt;subst hA;have hsm:=Hs.out t (List.mem_of_getElem? ht);unfold maxLen at hsm;have hz:=bytesOf_size t.text
    by_cases hl:t.text.length≤100
    ·have dl:decide ((100:Int)<(t.text.length:Int))=false:=by simp;omega
     have hnew:Hid (∀ t∈l.take (k+1),t.text.length≤100):=by
      show ∀ t∈_,_
      rw[take_snoc l k t ht];intro x hx2
      rcases List.mem_append.1 hx2 with h|h
      ·exact hx.out x h
      ·obtain rfl:x=t:=by simpa using h
       exact hl
     clear hx ht hl
     go_wp2_with fail
     go_roundw
     case rel=>exact⟨k+1,by omega,by omega,by go_num,trivial,hnew⟩
     case measure=>simp[intOf];omega
    ·have dl:decide ((100:Int)<(t.text.length:Int))=true:=by simp;omega
     have hfin:fewB l=false:=by
      cases h:fewB l with
      | false=>rfl
      | true=>exact absurd ((few_facts h).2 t (List.mem_of_getElem? ht)) hl
     have HF:=Lib.hid hfin;clear hfin hx ht hl
     go_wp2
     go_ret
     exact⟨ret_bool HF.out.symm,rfl⟩
   ·have d100:decide ((k:Int)≤100)=false:=by simp;omega
    have d100n:decide (k≤100)=false:=by simp;omega
    have hfin:fewB l=decide ((n:Int)≤100):=by
     unfold fewB;rw[Hlen.out];have:¬ n≤100:=by omega
     simp[this];omega
    have HF:=Lib.hid hfin;clear hfin hx
    go_wp2
    go_ret
    exact⟨ret_bool HF.out.symm,rfl⟩
  ·obtain rfl:k=n:=by omega
   have dk:decide ((k:Int)<(k:Int))=false:=by simp
   have hfin:fewB l=decide ((k:Int)≤100):=by
    have h2:=hx.out;rw[←Hlen.out,List.take_length] at h2;unfold fewB;rw[Hlen.out];have:l.all (fun t=>decide (t.text.length≤100))=true:=by rw[List.all_eq_true];intro t ht;simpa using h2 t ht
    rw[this]
    simp;omega
   have HF:=Lib.hid hfin;clear hfin hx hlt
   go_wp2
   go_ret
   exact⟨ret_bool HF.out.symm,rfl⟩
end Go.Proofs.YtfhdihdafmahgaaGreatDoor
