import Derived.Test.YtfhdihdafmahgaaGreatDoorR24
set_option linter.unusedVariables false
set_option linter.unusedSimpArgs false
namespace Go.Proofs.YtfhdihdafmahgaaGreatDoor
open Go.RowKit Rn Tk Fx Tp
theorem escP_low (c:Int):∀ b∈escP c,b.toNat<128∧32≤b.toNat:=by
 intro b hb;unfold escP at hb
 rcases List.mem_cons.1 hb with rfl|hb
 ·decide
 ·rcases List.mem_append.1 hb with hb|hb
  ·have:=hexT_low c.toNat c.toNat (Nat.le_refl _) b hb;omega
  ·obtain rfl:b=32:=by simpa using hb
   decide
theorem part_write (c:Int) (b:Bool):partP c b=writeP (partC c b):=by
 cases b with
 | true=>exact(write_chr (escP c) (fun b hb=>(escP_low c b hb).1)).symm
 | false=>exact(write_one c).symm
theorem name_write (l:List Int) (dim:Bool):∀ (r:List Int) (i:Nat),nameF l dim i r=writeP (nameG l dim i r)
 | [],i=>rfl
 | c::r,i=>by
  unfold nameF nameG;rw[write_app,part_write,name_write l dim r (i+1)]
theorem nameP_write (l:List Int) (dim:Bool):nameP l dim=writeP (nameC l dim):=name_write l dim l 0
theorem quoted_write (l:List Int):quotedP l=writeP (34::bodyC l):=by
 have:∀ l:List Int,l.flatMap (fun c=>partP c (quoteB c))=writeP (bodyC l):=by
  intro l
  induction l with
  | nil=>rfl
  | cons c l ih =>
   show partP c (quoteB c)++l.flatMap (fun c=>partP c (quoteB c))=writeP (partC c (quoteB c)++bodyC l)
   rw[ih,write_app,part_write]
 rw[write_cons];unfold quotedP;rw[this];rfl
theorem printP_low (n:Int):∀ b∈Fx.printP n,b.toNat<128∧32≤b.toNat:=by
 intro b hb
 rcases printP_bytes n b hb with h|rfl|rfl
 ·unfold isD at h;simp at h;omega
 ·decide
 ·decide
theorem printP_write (n:Int):Fx.printP n=writeP (chr (Fx.printP n)):=(write_chr _ (fun b hb=>(printP_low n b hb).1)).symm
theorem token_write {t:GTok} (h:oneB t=true):tokenP t=writeP (tC t):=by
 obtain⟨e1,e2,e3,e4,e5⟩:=one_facts h;have w1:∀ a:List UInt8,(∀ b∈a,b.toNat<128)→a=writeP (chr a):=fun a ha=>(write_chr a ha).symm
 obtain⟨k1,k2⟩:=kind_range h;have hx:(utfP t.text).getD []=textC t:=rfl;unfold tokenP tC;rw[if_pos h];simp only[hx];generalize textC t=l at *
 rw[←e3];generalize t.kind=k at *
 have hK:k=1∨k=2∨k=3∨k=4∨k=5∨k=6∨k=7∨k=8∨k=9∨k=10∨k=11∨k=12∨k=13∨k=14∨k=15∨k=16:=by omega
 rcases hK with rfl|rfl|rfl|rfl|rfl|rfl|rfl|rfl|rfl|rfl|rfl|rfl|rfl|rfl|rfl|rfl
 ·rfl
 ·exact nameP_write l false
 ·show nameP l false++[40]=writeP (nameC l false++[40])
  rw[write_app,nameP_write];rfl
 ·show 64::nameP l false=writeP (64::nameC l false)
  rw[write_cons,nameP_write];rfl
 ·show 35::nameP l false=writeP (35::nameC l false)
  rw[write_cons,nameP_write];rfl
 ·show quotedP l++[34]=writeP ((34::bodyC l)++[34])
  rw[write_app,quoted_write];rfl
 ·exact quoted_write l
 ·exact printP_write _
 ·show Fx.printP t.n++[37]=writeP (chr (Fx.printP t.n)++[37])
  rw[write_app,←printP_write];rfl
 ·show Fx.printP t.n++nameP l true=writeP (chr (Fx.printP t.n)++nameC l true)
  rw[write_app,←printP_write,nameP_write]
 ·rfl
 ·rfl
 ·rfl
 ·rfl
 ·rfl
 ·rfl
theorem sep_write (a b:Int):(if apartB a b=true then ([47,42,42,47]:List UInt8) else [])=writeP (sepC a b):=by
 unfold sepC
 split<;>rfl
theorem one_of_pairs {t:GTok}:∀ {l:List GTok},pairsB l=true→t∈l→oneB t=true
 | [],_,ht=>by cases ht
 | [u],h,ht=>by
  obtain rfl:t=u:=by simpa using ht
  simp[pairsB] at h;exact h.1
 | u::v::l,h,ht=>by
  unfold pairsB at h;simp only[Bool.and_eq_true] at h
  rcases List.mem_cons.1 ht with rfl|ht
  ·exact h.1.1.1.1
  ·exact one_of_pairs h.2 ht
theorem join_write:∀ {l:List GTok},(∀ t∈l,oneB t=true)→joinP l=writeP (joinC l)
 | [],_=>rfl
 | [t],h=>token_write (h t (by simp))
 | t::u::l,h=>by
  show tokenP t++(_++joinP (u::l))=writeP (tC t++(sepC t.kind u.kind++joinC (u::l)))
  rw[write_app,write_app,←token_write (h t (by simp)),←sep_write,join_write (l:=u::l) (fun x hx=>h x (by simp[hx]))]
def PlainL (l:List Int):Prop:=∀ c∈l,Plain c
theorem PlainL.app {a b:List Int} (ha:PlainL a) (hb:PlainL b):PlainL (a++b):=fun c hc=>by
 rcases List.mem_append.1 hc with h|h
 ·exact ha c h
 ·exact hb c h
theorem PlainL.cons {c:Int} {a:List Int} (hc:Plain c) (ha:PlainL a):PlainL (c::a):=fun d hd=>by
 rcases List.mem_cons.1 hd with rfl|h
 ·exact hc
 ·exact ha d h
theorem PlainL.low {a:List UInt8} (h:∀ b∈a,b.toNat<128∧32≤b.toNat):PlainL (chr a):=fun c hc=>by
 obtain⟨b,hb,rfl⟩:=List.mem_map.1 hc;have:=h b hb
 exact low_plain this.1 (by omega) (by omega) (by omega)
theorem part_plain {c:Int} (hc:isB c=true∧c≠0) (b:Bool) (hb:b=false→c≠12∧c≠13):PlainL (partC c b):=by
 cases b with
 | true=>exact PlainL.low (escP_low c)
 | false =>
  intro d hd;obtain rfl:d=c:=by simpa [partC] using hd
  exact⟨hc.1,hc.2,(hb rfl).1,(hb rfl).2⟩
theorem need_within {c:Int} {a b d:Bool} (h:needB c a b d=false):withinB c=true:=by
 unfold needB at h
 rcases hw:withinB c with _|_
 ·rw[hw] at h;simp at h
 ·rfl
theorem within_not {c:Int} (h:withinB c=true):c≠12∧c≠13∧c≠10:=by
 refine⟨?_,?_,?_⟩<;>rintro rfl<;>revert h<;>decide
theorem name_plain (l:List Int) (dim:Bool):∀ (r:List Int) (i:Nat),(∀ c∈r,isB c=true∧c≠0)→PlainL (nameG l dim i r)
 | [],i,_=>fun c hc=>by cases hc
 | c::r,i,h=>by
  unfold nameG
  exact(part_plain (h c (by simp)) _ (fun hf=>⟨(within_not (need_within hf)).1,(within_not (need_within hf)).2.1⟩)).app (name_plain l dim r (i+1) (fun d hd=>h d (by simp[hd])))
theorem body_plain:∀ (r:List Int),(∀ c∈r,isB c=true∧c≠0)→PlainL (bodyC r)
 | [],_=>fun c hc=>by cases hc
 | c::r,h=>by
  show PlainL (partC c (quoteB c)++bodyC r)
  exact(part_plain (h c (by simp)) _ (fun hf=>by have:=of_decide_eq_false hf;omega)).app (body_plain r (fun d hd=>h d (by simp[hd])))
theorem plain_of (k:Int) (h:isB k=true∧k≠0∧k≠12∧k≠13):Plain k:=⟨h.1,h.2.1,h.2.2.1,h.2.2.2⟩
theorem one_plain {k:Int} (h:isB k=true∧k≠0∧k≠12∧k≠13):PlainL [k]:=PlainL.cons (plain_of k h) (fun c hc=>by cases hc)
theorem tok_plain {t:GTok} (h:oneB t=true):PlainL (tC t):=by
 obtain⟨e1,e2,e3,e4,e5⟩:=one_facts h;obtain⟨k1,k2⟩:=kind_range h;unfold tC;generalize textC t=l at *
 generalize t.kind=k at *
 have hK:k=1∨k=2∨k=3∨k=4∨k=5∨k=6∨k=7∨k=8∨k=9∨k=10∨k=11∨k=12∨k=13∨k=14∨k=15∨k=16:=by omega
 have hN:PlainL (nameC l false):=name_plain l false l 0 e2;have hM:PlainL (nameC l true):=name_plain l true l 0 e2;have hB:PlainL (34::bodyC l):=(body_plain l e2).cons (plain_of _ (by decide))
 rcases hK with rfl|rfl|rfl|rfl|rfl|rfl|rfl|rfl|rfl|rfl|rfl|rfl|rfl|rfl|rfl|rfl
 ·exact one_plain (k:=10) (by decide)
 ·exact hN
 ·exact hN.app (one_plain (k:=40) (by decide))
 ·exact hN.cons (plain_of 64 (by decide))
 ·exact hN.cons (plain_of 35 (by decide))
 ·exact hB.app (one_plain (k:=34) (by decide))
 ·exact hB
 ·exact PlainL.low (printP_low t.n)
 ·exact(PlainL.low (printP_low t.n)).app (one_plain (k:=37) (by decide))
 ·exact(PlainL.low (printP_low t.n)).app hM
 ·obtain⟨c,rfl,hd⟩:=single_of e5
  have hc:=e2 c (by simp);obtain⟨d1,d2,d3,d4⟩:=delim_facts hd
  exact one_plain (k:=c) ⟨hc.1,hc.2,by omega,by omega⟩
 ·have hl:l=[40]∨l=[91]∨l=[123]:=by simpa [kindB] using e5
  rcases hl with rfl|rfl|rfl
  ·exact one_plain (k:=40) (by decide)
  ·exact one_plain (k:=91) (by decide)
  ·exact one_plain (k:=123) (by decide)
 ·have hl:l=[41]∨l=[93]∨l=[125]:=by simpa [kindB] using e5
  rcases hl with rfl|rfl|rfl
  ·exact one_plain (k:=41) (by decide)
  ·exact one_plain (k:=93) (by decide)
  ·exact one_plain (k:=125) (by decide)
 ·exact one_plain (k:=58) (by decide)
 ·exact one_plain (k:=59) (by decide)
 ·exact one_plain (k:=44) (by decide)
theorem sep_plain (a b:Int):PlainL (sepC a b):=by
 unfold sepC
 split
 ·exact PlainL.low (a:=[47,42,42,47]) (by decide)
 ·exact fun c hc=>by cases hc
theorem join_plain:∀ {l:List GTok},(∀ t∈l,oneB t=true)→PlainL (joinC l)
 | [],_=>fun c hc=>by cases hc
 | [t],h=>tok_plain (h t (by simp))
 | t::u::l,h=>(tok_plain (h t (by simp))).app ((sep_plain _ _).app (join_plain (l:=u::l) (fun x hx=>h x (by simp[hx]))))
def Asc (n:Nat) (l:List UInt8):Prop:=(∀ b∈l,b.toNat<128)∧l.count 10=n
theorem Asc.app {a b:List UInt8} {m n:Nat} (ha:Asc m a) (hb:Asc n b):Asc (m+n) (a++b):=⟨fun x hx=>by
 rcases List.mem_append.1 hx with h|h
 ·exact ha.1 x h
 ·exact hb.1 x h,by rw[List.count_append,ha.2,hb.2]⟩
end Go.Proofs.YtfhdihdafmahgaaGreatDoor
namespace Go.Proofs.YtfhdihdafmahgaaGreatDoor
open Go.RowKit Rn Tp Tk Ru
namespace Ru
def spT:GTok:=⟨1,[],0⟩
def Goes (m:List GTok) (rs:List Rule):Prop :=
 stackP m m.length=[]∧deepB m=true∧∀ (L:List GTok) (p:Nat),Lies L p m→stackP L p=[]→rulesP L p=rs++rulesP L (p+m.length)
end Ru
theorem deep_iff {l:List GTok}:deepB l=true↔∀ k,k≤l.length→(stackP l k).length≤64:=by
 unfold deepB;rw[List.all_eq_true]
 constructor
 ·intro h k hk
  have:=h k (List.mem_range.2 (by omega))
  simpa using this
 ·intro h k hk
  have:=h k (by have:=List.mem_range.1 hk;omega)
  simpa using this
theorem Ru.Goes.nil:Goes [] []:=⟨rfl,by decide,fun L p _ _=>by simp⟩
theorem Ru.Goes.app {a b:List GTok} {ra rb:List Rule} (ha:Goes a ra) (hb:Goes b rb):Goes (a++b) (ra++rb):=by
 obtain⟨a1,a2,a3⟩:=ha;obtain⟨b1,b2,b3⟩:=hb;have hs:stackP (a++b) a.length=[]:=by rw[stack_app_left a b _ (Nat.le_refl _)];exact a1
 have hst:=stack_at (Lies.app a b) (.inr hs)
 refine⟨?_,?_,fun L p h hp=>?_⟩
 ·rw[List.length_append,hst b.length (Nat.le_refl _),b1,hs];rfl
 ·rw[deep_iff] at a2 b2 ⊢
  intro k hk;rw[List.length_append] at hk
  by_cases h:k≤a.length
  ·rw[stack_app_left a b k h];exact a2 k h
  ·have:=hst (k-a.length) (by omega)
   rw[show a.length+(k-a.length)=k by omega,hs] at this;rw[this]
   simpa using b2 (k-a.length) (by omega)
 ·have h2:stackP L (p+a.length)=[]:=by rw[stack_at h.left (.inr hp) a.length (Nat.le_refl _),a1,hp];rfl
  rw[a3 L p h.left hp,b3 L _ h.right h2,List.length_append,Nat.add_assoc,List.append_assoc]
theorem Ru.Goes.sp:Goes [spT] []:=⟨by decide,by decide,fun L p h _=>by
 have:=h.get (j:=0) (by simp);rw[Nat.add_zero] at this
 exact rules_sp (t:=spT) (by simpa using this) rfl⟩
theorem Ru.Goes.tokens {rs:List Rule} (h:rulesB rs=true):Goes (tokensP rs) rs:=by
 unfold rulesB at h;simp only[Bool.and_eq_true] at h;obtain⟨⟨⟨⟨h1,_⟩,h2⟩,_⟩,_⟩:=h
 exact⟨(Full.tokens h1).2,h2,fun L p hl _=>rules_read rs p h1 hl⟩
theorem Ru.Goes.parse {m:List GTok} {rs:List Rule} (h:Goes m rs) (hn:rs.length≤1024):parseT m=(0,rs):=by
 have h1:=h.2.2 m 0 (Lies.self m) rfl;rw[Nat.zero_add,rules_end (Nat.le_refl _),List.append_nil] at h1;unfold parseT;rw[h1,h.2.1,if_neg (by decide),if_neg (by omega)]
theorem Ru.Goes.drop {m:List GTok} {t:GTok} {e:Nat} (h0:m[0]?=some t) (hs:stackP m m.length=[]) (hd:deepB m=true) (h1:t.kind≠1) (he:e<m.length)
  (hend:∀ (L:List GTok) (p:Nat),Lies L p m→stackP L p=[]→ruleEnd L t p=p+e) (hsk:skipP m e=m.length) (hem:endP m e<(m.length:Int))
  (hno:∀ (L:List GTok) (p:Nat),Lies L p m→ruleAt L t p (p+e)=none):Goes m []:=by
 refine⟨hs,hd,fun L p h hp=>?_⟩
 have hg:=h.get (j:=0) (by omega);rw[Nat.add_zero,h0] at hg;rw[rules_item hg h1,hend L p h hp,hno L p h,skip_at h (.inr hp) he (.inl hem),hsk]
 rfl
theorem Lies.get0 {L m:List GTok} {p:Nat} (h:Lies L p m) (j:Nat) {t:GTok} (hj:m[j]?=some t):L[p+j]?=some t:=by
 rw[h.get (List.getElem?_eq_some_iff.1 hj).1];exact hj
theorem Lies.next {L m:List GTok} {p:Nat} (h:Lies L p m) (j:Nat) {t:GTok} {is:GTok→Bool} (hj:m[j]?=some t) (ho:opensP t=[]) (hb:is t=false):findP L is (p+j) L.length=findP L is (p+(j+1)) L.length:=by
 have hl:=h.le;have hlt:=(List.getElem?_eq_some_iff.1 hj).1;rw[find_next (Nat.le_refl _) (by omega) (h.get0 j hj) ho hb];rfl
theorem Lies.hit {L m:List GTok} {p:Nat} (h:Lies L p m) (j:Nat) {t:GTok} {is:GTok→Bool} (hj:m[j]?=some t) (hb:is t=true):findP L is (p+j) L.length=p+j:=by
 have hl:=h.le;have hlt:=(List.getElem?_eq_some_iff.1 hj).1
 exact find_hit (by omega) (h.get0 j hj) hb
namespace Ru
def badS:Nat→List UInt8
 | 0=>[41,123,120,58,121,125]
 | 1=>[64,109,101,100,105,97,32,122,123,112,123,120,58,121,125,125]
 | 2=>[64,105,109,112,111,114,116,32,39,120,39,59]
 | 3=>[97,32,93,32,98,123,120,58,121,59,64,116,111,112,45,108,101,102,116,123,125,125]
 | _=>[64,112,97,103,101,32,41,123,120,58,121,125]
end Ru
theorem After.app {t:GTok} {s:List Int} (h:After t s) (hne:s≠[]) (rest:List Int):After t (s++rest):=by
 obtain⟨h1,h2,h3⟩:=h
 refine⟨fun hk=>?_,fun hk=>?_,fun hk ht=>?_⟩
 ·rcases h1 hk with e|⟨c,r,e,hc⟩
  ·exact absurd e hne
  ·exact .inr ⟨c,r++rest,by rw[e];rfl,hc⟩
 ·obtain⟨r,e⟩:=h2 hk
  exact⟨r++rest,by rw[e];rfl⟩
 ·rcases h3 hk ht with e|⟨r,e⟩
  ·exact absurd e hne
  ·exact .inr ⟨r++rest,by rw[e];rfl⟩
theorem gT_g {t:GTok} (h:oneB t=true):(gT t).g=t:=by
 have h1:=(kind_range h).1;obtain⟨k,x,n⟩:=t;unfold gT Tok.g;simp only[GTok.mk.injEq,and_true] at *
 omega
theorem map_g {l:List GTok} (h:pairsB l=true):(l.map gT).map Tok.g=l:=by
 rw[List.map_map];have:∀ t∈l,(Tok.g ∘ gT) t=t:=fun t ht=>gT_g (one_of_pairs h ht)
 exact(List.map_congr_left this).trans (List.map_id _)
theorem rules_print {rs:List Rule} (h:rulesB rs=true):printL (tokensP rs)=writeP (joinC (tokensP rs))∧PlainL (joinC (tokensP rs))∧pairsB (tokensP rs)=true∧rs.all ruleB=true∧rs.length≤1024:=by
 have h0:=h;unfold rulesB at h;simp only[Bool.and_eq_true,decide_eq_true_eq] at h;obtain⟨⟨⟨⟨h1,h2⟩,_⟩,h3⟩,_⟩:=h;have hp:pairsB (tokensP rs)=true:=by unfold rightB at h3;simp only[Bool.and_eq_true] at h3;exact h3.1
 refine⟨?_,join_plain (fun t ht=>one_of_pairs hp ht),hp,h1,h2⟩
 unfold printL;rw[if_pos h3,join_write (fun t ht=>one_of_pairs hp ht)]
def Stop (rest:List Int):Prop:=Tk.esc rest=false∧withinB (pk rest 0)=false∧pk rest 0≠40
end Go.Proofs.YtfhdihdafmahgaaGreatDoor
