import Derived.Test.YtfhdihdafmahgaaGreatDoorR10
import Derived.WalkSmall
set_option linter.unusedVariables false
set_option linter.unusedSimpArgs false
set_option maxRecDepth 100000
set_option maxHeartbeats 4000000
namespace Go.Proofs.YtfhdihdafmahgaaGreatDoor
open Go.RowKit Rn Tp Ru
theorem opens_cases (t:GTok):(t.kind=3∧opensP t=[41])∨(t.kind=12∧t.text=[40]∧opensP t=[41])∨(t.kind=12∧t.text=[91]∧opensP t=[93])∨(t.kind=12∧t.text=[123]∧opensP t=[125])
  ∨ (t.kind=12∧t.text≠[40]∧t.text≠[91]∧t.text≠[123]∧opensP t=[])∨(t.kind≠3∧t.kind≠12∧opensP t=[]):=by
 obtain⟨k,x,n⟩:=t;unfold opensP;simp only[]
 by_cases h3:k=3
 ·simp[h3]
 ·by_cases h12:k=12
  ·by_cases a:x=[40]
   ·simp[h12,a]
   ·by_cases b:x=[91]
    ·simp[h12,b]
    ·by_cases c:x=[123]
     ·simp[h12,c]
     ·simp[h12,a,b,c]
  ·simp[h3,h12]
theorem nest_opens (t:GTok) (w:World) :
  Calls Tryz.prog 58 #[gtokV t] w fun e w'=>e=.returned (.string (bytesOf (opensP t)))∧Below w.heap.size w w':=by
 have hc:=opens_cases t;obtain⟨kind,text,n⟩:=t;simp only[] at hc;obtain⟨wA,hwA⟩:∃ wA,w.alloc (.cells #[.int .i64 kind,.string (bytesOf text),.int .i64 n] 58)=wA:=⟨_,rfl⟩;have bA:Below w.heap.size w wA:=by rw[←hwA];exact(Below.refl _ _).alloc (Nat.le_refl _) _
 have rA:RowAt wA w.heap.size [.int .i64 kind,.string (bytesOf text),.int .i64 n]:=by rw[←hwA];exact RowAt.new _ _ _
 obtain⟨x0,_⟩:=rA.2 0 _ rfl;obtain⟨x1,_⟩:=rA.2 1 _ rfl;generalize hop:opensP ⟨kind,text,n⟩=o at *
 clear hop
 rcases hc with⟨h3,ho⟩|⟨h12,ht,ho⟩|⟨h12,ht,ho⟩|⟨h12,ht,ho⟩|⟨h12,ht1,ht2,ht3,ho⟩|⟨h3,h12,ho⟩
 ·subst h3 ho
  go_enter Tryz.func58,Tryz.ntmps58
  go_wp2
  go_ret
  exact⟨rfl,bA⟩
 ·obtain⟨s1,s2⟩:=txt_is ht
  subst h12 ho;clear ht
  go_enter Tryz.func58,Tryz.ntmps58
  go_wp2
  go_ret
  exact⟨rfl,bA⟩
 ·obtain⟨s1,s2⟩:=txt_is ht
  obtain⟨s3,s4⟩:=txt_not (l:=text) (c:=[40]) (by rw[ht];decide);subst h12 ho;clear ht
  go_enter Tryz.func58,Tryz.ntmps58
  go_wp2
  go_ret
  exact⟨rfl,bA⟩
 ·obtain⟨s1,s2⟩:=txt_is ht
  obtain⟨s3,s4⟩:=txt_not (l:=text) (c:=[40]) (by rw[ht];decide);obtain⟨s5,s6⟩:=txt_not (l:=text) (c:=[91]) (by rw[ht];decide);subst h12 ho;clear ht
  go_enter Tryz.func58,Tryz.ntmps58
  go_wp2
  go_ret
  exact⟨rfl,bA⟩
 ·obtain⟨s1,s2⟩:=txt_not ht1
  obtain⟨s3,s4⟩:=txt_not ht2;obtain⟨s5,s6⟩:=txt_not ht3;subst h12 ho;clear ht1 ht2 ht3
  go_enter Tryz.func58,Tryz.ntmps58
  go_wp2
  go_ret
  exact⟨rfl,bA⟩
 ·have k3:(kind==3)=false:=by simp[h3]
  have k12:(kind==12)=false:=by simp[h12]
  subst ho;clear h3 h12
  go_enter Tryz.func58,Tryz.ntmps58
  go_wp2
  go_ret
  exact⟨rfl,bA⟩
namespace Ru
def impT:List GTok:=[⟨11,[33],0⟩,⟨2,importantS,0⟩]
def openT:GTok:=⟨12,[123],0⟩
def shutT:GTok:=⟨13,[125],0⟩
def semiT:GTok:=⟨15,[],0⟩
def declT (d:Decl):List GTok:=[⟨2,d.name,0⟩,⟨14,[],0⟩]++(d.value++((if d.imp=true then impT else [])++[semiT]))
def marginT (m:Margin):List GTok:=[⟨4,m.name,0⟩]++([openT]++(m.decls.flatMap declT++[shutT]))
def innerT (r:Rule):List GTok:=r.decls.flatMap declT++r.margins.flatMap marginT
def headT (r:Rule):List GTok:=if r.kind=2 then [⟨4,pageS,0⟩,⟨1,[],0⟩] else []
def ruleT (r:Rule):List GTok:=headT r++(r.prelude++([openT]++(innerT r++[shutT])))
def tokensP (l:List Rule):List GTok:=l.flatMap ruleT
def trimmedB (l:List GTok) (is:GTok→Bool):Bool:=decide ((trimL l).length=l.length)&&deepB l&&decide (findP l is 0 l.length=l.length)&&soundP l
def declB (d:Decl):Bool:=rightB [⟨2,d.name,0⟩]&&decide (lowerP d.name=d.name)&&trimmedB d.value semiB&&!((importantP d.value).isSome&&!d.imp)
def marginB (m:Margin):Bool:=decide (m.name∈boxes)&&m.decls.all declB
def ruleB (r:Rule):Bool :=
 trimmedB r.prelude (if r.kind=2 then eitherB else braceB)&&r.decls.all declB&&!(decide (r.kind=1)&&((match r.prelude with | t::_=>decide (t.kind=4) | []=>false)||decide (0<r.margins.length)))
 && r.margins.all marginB&&(decide (r.kind=1)||decide (r.kind=2))
def rulesB (l:List Rule):Bool:=l.all ruleB&&decide (l.length≤1024)&&deepB (tokensP l)&&rightB (tokensP l)&&decide ((printL (tokensP l)).length≤65536)
end Ru
theorem dropS_len (l:List GTok):(dropS l).length≤l.length:=(List.dropWhile_suffix _).length_le
theorem dropS_id {l:List GTok} (h:∀ t∈l.head?,t.kind≠1):dropS l=l:=by
 unfold dropS
 cases l with
 | nil=>rfl
 | cons t l=>rw[List.dropWhile_cons_of_neg];have:=h t (by simp);simp[isSp,this]
theorem trimL_id {l:List GTok} (h:∀ t∈l.head?,t.kind≠1) (h2:∀ t∈l.getLast?,t.kind≠1):trimL l=l:=by
 unfold trimL rtrim;rw[dropS_id h,dropS_id (by rw[List.head?_reverse];exact h2),List.reverse_reverse]
theorem dropS_full {l:List GTok} (h:(dropS l).length=l.length):dropS l=l:=(List.dropWhile_suffix _).eq_of_length h
theorem dropS_head {l:List GTok} (h:dropS l=l):∀ t∈l.head?,t.kind≠1:=by
 intro t ht hk
 cases l with
 | nil=>cases ht
 | cons u l =>
  simp at ht;subst ht
  unfold dropS at h;rw[List.dropWhile_cons_of_pos (by simp[isSp,hk])] at h;have:=(List.dropWhile_suffix (p:=isSp) (l:=l)).length_le;rw[h] at this
  simp at this
  omega
theorem trim_ends {l:List GTok} (h:(trimL l).length=l.length):(∀ t∈l.head?,t.kind≠1)∧∀ t∈l.getLast?,t.kind≠1:=by
 unfold trimL rtrim at h;rw[List.length_reverse] at h;have h1:=dropS_len (dropS l).reverse;have h2:=dropS_len l;rw[List.length_reverse] at h1;have e1:dropS l=l:=dropS_full (by omega);rw[e1] at h;have e2:dropS l.reverse=l.reverse:=dropS_full (by rw[List.length_reverse];exact h)
 refine⟨dropS_head e1,?_⟩
 have:=dropS_head e2
 rwa[List.head?_reverse] at this
theorem opens_of {t:GTok} (h3:t.kind≠3) (h12:t.kind≠12):opensP t=[]:=by unfold opensP;simp[h3,h12]
theorem Full.imp (b:Bool):Full (if b=true then impT else []):=by
 split
 ·exact(Full.one (t:=⟨11,[33],0⟩) (opens_of (by simp) (by simp)) (by simp)).app (Full.one (t:=⟨2,importantS,0⟩) (opens_of (by simp) (by simp)) (by simp))
 ·exact Full.nil
theorem trimmed_parts {l:List GTok} {is:GTok→Bool} (h:trimmedB l is=true):((∀ t∈l.head?,t.kind≠1)∧∀ t∈l.getLast?,t.kind≠1)∧findP l is 0 l.length=l.length∧soundP l=true:=by
 unfold trimmedB at h;simp only[Bool.and_eq_true,decide_eq_true_eq] at h
 exact⟨trim_ends h.1.1.1,h.1.2,h.2⟩
theorem decl_parts {d:Decl} (h:declB d=true):lowerP d.name=d.name∧trimmedB d.value semiB=true∧((importantP d.value).isSome=true→d.imp=true):=by
 unfold declB at h;simp only[Bool.and_eq_true,decide_eq_true_eq,Bool.not_eq_true'] at h
 refine⟨h.1.1.2,h.1.2,fun hi=>?_⟩
 have h2:=h.2;rw[hi] at h2
 simpa using h2
theorem Full.decl {d:Decl} (h:declB d=true):Full (declT d):=by
 have hv:=sound_full (trimmed_parts (decl_parts h).2.1).2.2;unfold declT
 exact(((Full.one (t:=⟨2,d.name,0⟩) (opens_of (by simp) (by simp)) (by simp)).app (Full.one (t:=⟨14,[],0⟩) (opens_of (by simp) (by simp)) (by simp))):Full [⟨2,d.name,0⟩,⟨14,[],0⟩]).app (hv.app ((Full.imp _).app (Full.one (t:=semiT) (opens_of (by decide) (by decide)) (by decide))))
theorem Full.margin {m:Margin} (h:m.decls.all declB=true):Full (marginT m):=by
 rw[List.all_eq_true] at h;unfold marginT
 exact(Full.one (t:=⟨4,m.name,0⟩) (opens_of (by simp) (by simp)) (by simp)).app (Full.wrap (by decide) (by decide) rfl rfl (Full.flat fun d hd=>Full.decl (h d hd)))
theorem imp_first (b:Bool):∀ t∈((if b=true then impT else []):List GTok).head?,t.kind≠1:=by
 cases b
 ·intro t h;cases h
 ·intro t h;simp[impT] at h;subst h;decide
theorem trim_value {v:List GTok} (b:Bool) (h:(∀ t∈v.head?,t.kind≠1)∧∀ t∈v.getLast?,t.kind≠1):trimL (v++if b=true then impT else [])=v++if b=true then impT else []:=by
 apply trimL_id
 ·cases v with
  | nil=>exact imp_first b
  | cons t v=>intro u hu;simp at hu;subst hu;exact h.1 _ (by simp)
 ·cases b with
  | false=>simpa using h.2
  | true=>intro u hu;simp[impT] at hu;subst hu;decide
theorem low_important:lowerP importantS=importantS:=by decide
theorem decl_read {d:Decl} (h:declB d=true):declP ([⟨2,d.name,0⟩,⟨14,[],0⟩]++(d.value++if d.imp=true then impT else []))=some d:=by
 obtain⟨hl,ht,hi⟩:=decl_parts h;obtain⟨he,_,hs⟩:=trimmed_parts ht;have h14:dropS (⟨14,[],0⟩::(d.value++if d.imp=true then impT else []))=⟨14,[],0⟩::(d.value++if d.imp=true then impT else []):=dropS_id (by intro t h;simp at h;subst h;decide)
 show declP (⟨2,d.name,0⟩::⟨14,[],0⟩::(d.value++if d.imp=true then impT else []))=some d
 unfold declP;simp only[if_true];rw[h14];simp only[if_true];rw[trim_value d.imp he];obtain⟨name,value,imp⟩:=d;simp only[] at *
 cases imp with
 | true =>
  have h33:dropS (⟨11,[33],0⟩::value.reverse)=⟨11,[33],0⟩::value.reverse:=dropS_id (by intro t h;simp at h;subst h;decide);have hvr:dropS value.reverse=value.reverse:=dropS_id (by rw[List.head?_reverse];exact he.2)
  have hip:importantP (value++impT)=some value:=by
   unfold importantP;rw[List.reverse_append];simp only[impT,List.reverse_cons,List.reverse_nil,List.nil_append,List.cons_append];rw[if_pos (by simp[namedB,low_important]),h33]
   simp[hvr]
  simp only[if_true,hip,hs,hl]
 | false =>
  have hip:importantP value=none:=by
   cases hh:importantP value with
   | none=>rfl
   | some x=>have:=hi (by rw[hh];rfl);cases this
  simp only[Bool.false_eq_true,if_false,List.append_nil,hip,hs,hl,if_true]
theorem declT_len (d:Decl):(declT d).length=2+d.value.length+(if d.imp=true then impT else []).length+1:=by
 unfold declT;simp;omega
theorem decl_item {L:List GTok} {p z:Nat} {d:Decl} (h:declB d=true) (ha:Lies L p (declT d)) (hto:p+(declT d).length≤z) (htl:z≤L.length) :
  itemsP L p z=(p,p+(declT d).length-1)::itemsP L (p+(declT d).length) z∧declOf L (p,p+(declT d).length-1)=some d∧(L[p]?.map (·.kind))=some 2:=by
 obtain⟨hl,ht,hi⟩:=decl_parts h;obtain⟨he,hf,hs⟩:=trimmed_parts ht;have hv:=sound_full hs;have hlen:=declT_len d;have ha':=ha;unfold declT at ha';have g0:L[p]?=some ⟨2,d.name,0⟩:=by have:=ha'.left.get (j:=0) (by simp);simpa using this
 have g1:L[p+1]?=some ⟨14,[],0⟩:=by have:=ha'.left.get (j:=1) (by simp);simpa using this
 have aV:Lies L (p+2) d.value:=ha'.right.left;have aI:Lies L (p+2+d.value.length) (if d.imp=true then impT else []):=ha'.right.right.left;have aS:Lies L (p+2+d.value.length+(if d.imp=true then impT else []).length) [semiT]:=ha'.right.right.right;have gS:L[p+2+d.value.length+(if d.imp=true then impT else []).length]?=some semiT:=by have:=aS.get (j:=0) (by simp);simpa using this
 have hfi:findP (if d.imp=true then impT else []) semiB 0 (if d.imp=true then impT else []).length=(if d.imp=true then impT else []).length:=by
  cases d.imp<;>decide
 have hfind:findP L semiB p z=p+(declT d).length-1:=by
  rw[find_next htl (by omega) g0 (opens_of (by simp) (by simp)) rfl,find_next htl (by omega) g1 (opens_of (by decide) (by decide)) rfl];rw[find_over aV hv (by omega) htl hf,find_over aI (Full.imp _) (by omega) htl hfi,find_hit (by omega) gS rfl]
  omega
 refine⟨?_,?_,by rw[g0];rfl⟩
 ·rw[items_else htl (by omega) g0 (by simp) (by simp) (by simp),hfind]
  rw[show p+(declT d).length-1=p+2+d.value.length+(if d.imp=true then impT else []).length by omega];rw[items_sp htl (by omega) gS (.inr rfl)];rw[show p+2+d.value.length+(if d.imp=true then impT else []).length+1=p+(declT d).length by omega]
 ·have hseg:Lies L p ([⟨2,d.name,0⟩,⟨14,[],0⟩]++(d.value++if d.imp=true then impT else [])):=by
   have:Lies L p (([⟨2,d.name,0⟩,⟨14,[],0⟩]++(d.value++if d.imp=true then impT else []))++[semiT]):=by
    rw[List.append_assoc,List.append_assoc];exact ha'
   exact this.left
  have hsl:p+([⟨2,d.name,0⟩,⟨14,[],0⟩]++(d.value++if d.imp=true then impT else []):List GTok).length=p+(declT d).length-1:=by
   rw[hlen];simp;omega
  have:=hseg.seg;rw[hsl] at this;unfold declOf;simp only[g0];rw[if_neg (by decide),this]
  exact decl_read h
theorem flat_cons {α:Type} (f:α→List GTok) (x:α) (l:List α):(x::l).flatMap f=f x++l.flatMap f:=List.flatMap_cons
theorem margin_none {L:List GTok} {z:Nat} {x:Nat×Nat} {k:Int} (h:L[x.1]?.map (·.kind)=some k) (hk:k≠4):marginOf L z x=none:=by
 unfold marginOf
 cases hx:L[x.1]? with
 | none=>rfl
 | some t =>
  rw[hx] at h
  simp at h
  simp only[];rw[if_neg];rintro⟨h4,_⟩
  omega
theorem decls_items {L:List GTok} {z:Nat} (htl:z≤L.length):∀ (ds:List Decl) (p:Nat),ds.all declB=true→Lies L p (ds.flatMap declT)→p+(ds.flatMap declT).length≤z →
  (itemsP L p z).filterMap (declOf L)=ds++(itemsP L (p+(ds.flatMap declT).length) z).filterMap (declOf L)∧(itemsP L p z).filterMap (marginOf L z)=(itemsP L (p+(ds.flatMap declT).length) z).filterMap (marginOf L z)
 | [],p,_,_,_=>by simp
 | d::ds,p,h,ha,hto=>by
  rw[flat_cons] at ha hto ⊢;simp only[List.all_cons,Bool.and_eq_true] at h;rw[List.length_append] at hto ⊢;obtain⟨h1,h2,h3⟩:=decl_item h.1 ha.left (by omega) htl;obtain⟨i1,i2⟩:=decls_items htl ds _ h.2 ha.right (by omega);rw[h1,List.filterMap_cons,h2,List.filterMap_cons,margin_none h3 (by decide),i1,i2,←Nat.add_assoc]
  exact⟨rfl,rfl⟩
theorem decls_read {L:List GTok} {ds:List Decl} {p:Nat} (h:ds.all declB=true) (ha:Lies L p (ds.flatMap declT)):declsP L p (p+(ds.flatMap declT).length)=ds:=by
 have:=(decls_items ha.le ds p h ha (Nat.le_refl _)).1;unfold declsP;rw[this,items_end (Nat.le_refl _)];simp
theorem boxes_low:∀ s∈boxes,lowerP s=s:=by decide
theorem margin_item {L:List GTok} {p z:Nat} {m:Margin} (h:marginB m=true) (ha:Lies L p (marginT m)) (hto:p+(marginT m).length≤z) (htl:z≤L.length) :
  itemsP L p z=(p,p+1)::itemsP L (p+(marginT m).length) z∧declOf L (p,p+1)=none∧marginOf L z (p,p+1)=some m:=by
 unfold marginB at h;simp only[Bool.and_eq_true,decide_eq_true_eq] at h;obtain⟨hbx,hds⟩:=h;have hlow:=boxes_low _ hbx;have hfull:Full (m.decls.flatMap declT):=Full.flat fun d hd=>Full.decl (List.all_eq_true.1 hds d hd)
 have ha':=ha;unfold marginT at ha';have hlen:(marginT m).length=1+(1+((m.decls.flatMap declT).length+1)):=by unfold marginT;simp;omega
 have g0:L[p]?=some ⟨4,m.name,0⟩:=by have:=ha'.left.get (j:=0) (by simp);simpa using this
 have aW:Lies L (p+1) ([openT]++(m.decls.flatMap declT++[shutT])):=ha'.right;have g1:L[p+1]?=some openT:=by have:=aW.left.get (j:=0) (by simp);simpa using this
 have aD:Lies L (p+2) (m.decls.flatMap declT):=aW.right.left;have hE:=wrap_end (by decide) rfl rfl hfull aW;have hf:findP L eitherB (p+1) z=p+1:=find_hit (by omega) g1 (by decide);have hl:=ha.le
 have hsk:skipP L (p+1)=p+(marginT m).length:=by
  unfold skipP;rw[hE,if_pos (by omega)];omega
 refine⟨?_,?_,?_⟩
 ·rw[items_at htl (by omega) g0 rfl,hf,hsk]
 ·unfold declOf;simp[g0]
 ·unfold marginOf
  simp only[g0];have hseg:segP L (p+1) (p+1)=[]:=by unfold segP;simp
  have hbox:0≤boxP m.name:=by unfold boxP;rw[hlow,if_pos hbx];omega
  rw[if_pos ⟨trivial,by omega,by rw[g1];rfl,hbox,by rw[hseg];rfl⟩,hlow,hE];have hmin:min ((p+1+1+(m.decls.flatMap declT).length:Nat):Int).toNat z=p+2+(m.decls.flatMap declT).length:=by omega
  rw[hmin,decls_read hds aD]
theorem margins_items {L:List GTok} {z:Nat} (htl:z≤L.length):∀ (ms:List Margin) (p:Nat),ms.all marginB=true→Lies L p (ms.flatMap marginT)→p+(ms.flatMap marginT).length≤z →
  (itemsP L p z).filterMap (marginOf L z)=ms++(itemsP L (p+(ms.flatMap marginT).length) z).filterMap (marginOf L z)∧(itemsP L p z).filterMap (declOf L)=(itemsP L (p+(ms.flatMap marginT).length) z).filterMap (declOf L)
 | [],p,_,_,_=>by simp
 | m::ms,p,h,ha,hto=>by
  rw[flat_cons] at ha hto ⊢;simp only[List.all_cons,Bool.and_eq_true] at h;rw[List.length_append] at hto ⊢;obtain⟨h1,h2,h3⟩:=margin_item h.1 ha.left (by omega) htl;obtain⟨i1,i2⟩:=margins_items htl ms _ h.2 ha.right (by omega);rw[h1,List.filterMap_cons,h3,List.filterMap_cons,h2,i1,i2,←Nat.add_assoc]
  exact⟨rfl,rfl⟩
theorem inner_read {L:List GTok} {r:Rule} {p:Nat} (hd:r.decls.all declB=true) (hm:r.margins.all marginB=true) (ha:Lies L p (innerT r)) :
  declsP L p (p+(innerT r).length)=r.decls∧marginsP L p (p+(innerT r).length)=r.margins:=by
 have hl:(innerT r).length=(r.decls.flatMap declT).length+(r.margins.flatMap marginT).length:=by unfold innerT;simp
 have hle:=ha.le;unfold innerT at ha;obtain⟨a1,a2⟩:=decls_items (z:=p+(innerT r).length) hle r.decls p hd ha.left (by omega);obtain⟨b1,b2⟩:=margins_items (z:=p+(innerT r).length) hle r.margins _ hm ha.right (by omega);unfold declsP marginsP;rw[a1,a2,b1,b2,items_end (by omega)]
 simp
theorem Full.inner {r:Rule} (hd:r.decls.all declB=true) (hm:r.margins.all marginB=true):Full (innerT r):=by
 unfold innerT
 refine(Full.flat fun d h=>Full.decl (List.all_eq_true.1 hd d h)).app (Full.flat fun m h=>Full.margin ?_)
 have:=List.all_eq_true.1 hm m h;unfold marginB at this;simp only[Bool.and_eq_true] at this
 exact this.2
theorem rule_parts {r:Rule} (h:ruleB r=true):trimmedB r.prelude (if r.kind=2 then eitherB else braceB)=true∧r.decls.all declB=true∧r.margins.all marginB=true∧(r.kind=1∨r.kind=2)∧(r.kind=1→(∀ t∈r.prelude.head?,t.kind≠4)∧r.margins=[]):=by
 unfold ruleB at h;simp only[Bool.and_eq_true,Bool.or_eq_true,decide_eq_true_eq,Bool.not_eq_true'] at h;obtain⟨⟨⟨⟨h1,h2⟩,h3⟩,h4⟩,h5⟩:=h
 refine⟨h1,h2,h4,h5,fun hk=>?_⟩
 simp only[hk,decide_true,Bool.true_and,Bool.or_eq_false_iff,decide_eq_false_iff_not] at h3
 refine⟨fun t ht=>?_,List.eq_nil_of_length_eq_zero (by omega)⟩
 cases hp:r.prelude with
 | nil=>rw[hp] at ht;cases ht
 | cons u q =>
  rw[hp] at ht h3
  simp at ht;subst ht
  simpa using h3.1
theorem Full.rule {r:Rule} (h:ruleB r=true):Full (ruleT r):=by
 obtain⟨h1,h2,h3,h4,h5⟩:=rule_parts h;unfold ruleT
 refine Full.app ?_ ((sound_full (trimmed_parts h1).2.2).app (Full.wrap (by decide) (by decide) rfl rfl (Full.inner h2 h3)))
 unfold headT
 split
 ·exact(Full.one (t:=⟨4,pageS,0⟩) (opens_of (by simp) (by simp)) (by simp)).app (Full.one (t:=⟨1,[],0⟩) (opens_of (by simp) (by simp)) (by simp))
 ·exact Full.nil
theorem ruleT_len (r:Rule):(ruleT r).length=(headT r).length+r.prelude.length+1+(innerT r).length+1:=by unfold ruleT;simp;omega
theorem rule_read {L:List GTok} {p:Nat} {r:Rule} (h:ruleB r=true) (ha:Lies L p (ruleT r)):rulesP L p=r::rulesP L (p+(ruleT r).length):=by
 obtain⟨h1,h2,h3,h4,h5⟩:=rule_parts h;obtain⟨he,hf,hs⟩:=trimmed_parts h1;have hv:=sound_full hs;have hl:=ha.le;have hlen:=ruleT_len r;have ha':=ha;unfold ruleT at ha';have aP:Lies L (p+(headT r).length) r.prelude:=ha'.right.left;have aW:Lies L (p+(headT r).length+r.prelude.length) ([openT]++(innerT r++[shutT])):=ha'.right.right;have gO:L[p+(headT r).length+r.prelude.length]?=some openT:=by have:=aW.left.get (j:=0) (by simp);simpa using this
 have hE:=wrap_end (by decide) rfl rfl (Full.inner h2 h3) aW;have hI:=inner_read h2 h3 aW.right.left;simp only[List.length_singleton] at hI
 have hsk:skipP L (p+(headT r).length+r.prelude.length)=p+(ruleT r).length:=by
  unfold skipP;rw[hE,if_pos (by omega)];omega
 have hseg:=aP.seg;have htrim:trimL r.prelude=r.prelude:=trimL_id he.1 he.2;obtain⟨kind,prelude,decls,margins⟩:=r;simp only[] at *
 rcases h4 with rfl|rfl
 ·replace hf:findP prelude braceB 0 prelude.length=prelude.length:=hf
  have hh:headT ⟨1,prelude,decls,margins⟩=[]:=rfl;rw[hh] at aP aW gO hE hI hsk hseg hlen;simp only[List.length_nil,Nat.add_zero] at aP aW gO hE hI hsk hseg hlen;obtain⟨h6,rfl⟩:=h5 rfl
  have key:∀ t,L[p]?=some t→t.kind≠1→t.kind≠4→rulesP L p=⟨1,prelude,decls,[]⟩::rulesP L (p+(ruleT ⟨1,prelude,decls,[]⟩).length):=by
   intro t ht hk1 hk4
   have hend:ruleEnd L t p=p+prelude.length:=by
    unfold ruleEnd;rw[if_neg hk4,find_over aP hv (by omega) (Nat.le_refl _) hf,find_hit (by omega) gO (by decide)]
   rw[rules_item ht hk1,hend,hsk];unfold ruleAt;simp only[hk4,decide_false,Bool.false_eq_true,if_false];rw[if_pos ⟨by omega,by rw[gO];rfl,fun h=>h.elim⟩,hseg,htrim,if_pos hs,hE];rw[show ((p+prelude.length+1+(innerT ⟨1,prelude,decls,[]⟩).length:Nat):Int).toNat=p+prelude.length+1+(innerT ⟨1,prelude,decls,[]⟩).length by omega,hI.1]
   rfl
  cases prelude with
  | nil=>exact key openT (by simpa using gO) (by decide) (by decide)
  | cons t q =>
   have g0:L[p]?=some t:=by have:=aP.get (j:=0) (by simp);simpa using this
   exact key t g0 (he.1 t (by simp)) (h6 t (by simp))
 ·replace hf:findP prelude eitherB 0 prelude.length=prelude.length:=hf
  have hh:headT ⟨2,prelude,decls,margins⟩=[⟨4,pageS,0⟩,⟨1,[],0⟩]:=rfl;rw[hh] at aP aW gO hE hI hsk hseg hlen ha';simp only[List.length_cons,List.length_nil,Nat.zero_add,Nat.reduceAdd] at aP aW gO hE hI hsk hseg hlen;have g0:L[p]?=some ⟨4,pageS,0⟩:=by have:=ha'.left.get (j:=0) (by simp);simpa using this
  have g1:L[p+1]?=some ⟨1,[],0⟩:=by have:=ha'.left.get (j:=1) (by simp);simpa using this
  have hend:ruleEnd L ⟨4,pageS,0⟩ p=p+2+prelude.length:=by
   unfold ruleEnd;rw[if_pos rfl,find_next (Nat.le_refl _) (by omega) g1 (opens_of (by decide) (by decide)) rfl,find_over aP hv (by omega) (Nat.le_refl _) hf,find_hit (by omega) gO (by decide)]
  have hseg2:trimL (segP L (p+1) (p+2+prelude.length))=prelude:=by
   have a2:Lies L (p+1) ([⟨1,[],0⟩]++prelude):=by
    have:Lies L p ([⟨4,pageS,0⟩]++(([⟨1,[],0⟩]++prelude)++([openT]++(innerT ⟨2,prelude,decls,margins⟩++[shutT])))):=by simpa using ha'
    exact this.right.left
   have:=a2.seg;rw[show p+1+([⟨1,[],0⟩]++prelude:List GTok).length=p+2+prelude.length by simp;omega] at this;rw[this]
   show rtrim (dropS (⟨1,[],0⟩::prelude))=prelude
   have e:dropS (⟨1,[],0⟩::prelude)=dropS prelude:=by unfold dropS;rw[List.dropWhile_cons_of_pos (by decide)]
   rw[e];exact htrim
  rw[rules_item g0 (by decide),hend,hsk];unfold ruleAt;simp only[decide_true,if_true];rw[if_pos ⟨by omega,by rw[gO];rfl,fun _=>by decide⟩,hseg2,if_pos hs,hE];rw[show ((p+2+prelude.length+1+(innerT ⟨2,prelude,decls,margins⟩).length:Nat):Int).toNat=p+2+prelude.length+1+(innerT ⟨2,prelude,decls,margins⟩).length by omega,hI.1,hI.2]
  rfl
theorem rules_read {L:List GTok}:∀ (rs:List Rule) (p:Nat),rs.all ruleB=true→Lies L p (tokensP rs)→rulesP L p=rs++rulesP L (p+(tokensP rs).length)
 | [],p,_,_=>by simp[tokensP]
 | r::rs,p,h,ha=>by
  have e:tokensP (r::rs)=ruleT r++tokensP rs:=List.flatMap_cons;rw[e] at ha ⊢;simp only[List.all_cons,Bool.and_eq_true] at h;rw[rule_read h.1 ha.left,rules_read rs _ h.2 ha.right,List.length_append,←Nat.add_assoc];rfl
theorem Full.tokens {rs:List Rule} (h:rs.all ruleB=true):Full (tokensP rs):=Full.flat fun r hr=>Full.rule (List.all_eq_true.1 h r hr)
end Go.Proofs.YtfhdihdafmahgaaGreatDoor
namespace Go.Proofs.YtfhdihdafmahgaaGreatDoor
open Go.RowKit Rn Tp Ru
def endsV (l:List GTok):List Value:=(endsP l).map (Value.int .i64)
theorem endsV_len (l:List GTok):(endsV l).length=l.length:=by simp[endsV,endsP]
theorem endsV_at (l:List GTok) {k:Nat} (hk:k<l.length):(endsV l)[k]?=some (.int .i64 (endP l k)):=by
 simp[endsV,endsP,List.getElem?_map,List.getElem?_range hk]
abbrev EndsS (w:World) (S:Nat→Prop) (A:Option Addr) (n:Nat) (l:List GTok):Prop:=ReadsS w S 1 A n (endsV l)
theorem EndsS.len {w:World} {S:Nat→Prop} {A:Option Addr} {n:Nat} {l:List GTok} (h:EndsS w S A n l):l.length=n:=by
 have:=h.1;rw[endsV_len] at this;omega
theorem EndsS.at_ {w:World} {S:Nat→Prop} {A:Option Addr} {n:Nat} {l:List GTok} (h:EndsS w S A n l) {k:Nat} (hk:k<n):∃ b off,A=some ⟨b,off,none⟩∧S b∧w.cell? ⟨b,off+k,none⟩=some (.int .i64 (endP l k)):=by
 obtain⟨b,off,hA,hb,hc⟩:=h.2 (by omega)
 exact⟨b,off,hA,hb,hc k _ (endsV_at l (by rw[h.len];exact hk))⟩
theorem nest_skip (l:List GTok) (S:Nat→Prop) (A:Option Addr) (n c k:Nat) (w:World) (h:EndsS w S A n l) (hn:n≤1000000) (hk:k≤2000000) :
  Calls Tryz.prog 27 #[.slice A n c,.int .i64 (k:Int)] w fun e w'=>e=.returned (.int .i64 (skipP l k:Nat))∧w'=w:=by
 have hlen:=h.len;have Hlen:=Lib.hid hlen;have d0:decide ((k:Int)<0)=false:=by simp
 have w1:IntKind.i64.wrap ((k:Int)+1)=(k:Int)+1:=by rw[IntKind.wrap_i64];omega
 by_cases hlt:k<n
 ·obtain⟨b,off,rfl,hb,hc⟩:=h.at_ hlt
  have d1:decide ((n:Int)≤(k:Int))=false:=by simp;omega
  have d1':(k:Int)<(n:Int):=by omega
  rcases end_cases l k with e|⟨x,e,h1,h2⟩
  ·have hs:skipP l k=k+1:=by unfold skipP;rw[e,if_neg (by omega)]
   have Hs:=Lib.hid hs;rw[e] at hc;have d2:decide ((-1:Int)<(k:Int))=true:=by simp;omega
   clear e hs hlen
   go_enter Tryz.func27,Tryz.ntmps27
   go_wp2
   go_ret
   exact⟨ret_int (by rw[Hs.out];omega),rfl⟩
  ·have hs:skipP l k=min (x+1) n:=by unfold skipP;rw[e,if_pos (by omega),hlen];simp
   have Hs:=Lib.hid hs;rw[e] at hc;have d2:decide ((x:Int)<(k:Int))=false:=by simp;omega
   have w2:IntKind.i64.wrap ((x:Int)+1)=(x:Int)+1:=by rw[IntKind.wrap_i64];omega
   clear e hs hlen
   go_enter Tryz.func27,Tryz.ntmps27
   go_wp2
   go_ret
   exact⟨ret_int (by rw[Hs.out];omega),rfl⟩
 ·have d1:decide ((n:Int)≤(k:Int))=true:=by simp;omega
  have hs:skipP l k=k+1:=skip_past (by omega);have Hs:=Lib.hid hs;clear hs hlen
  go_enter Tryz.func27,Tryz.ntmps27
  go_wp2
  go_ret
  exact⟨ret_int (by rw[Hs.out];omega),rfl⟩
theorem nest_within (n k z:Nat) (w:World) (hk:k≤z) (hz:z≤n) :
  Calls Tryz.prog 93 #[.int .i64 (n:Int),.int .i64 (k:Int),.int .i64 (z:Int)] w fun e w'=>e=.returned (.bool true)∧w'=w:=by
 have d0:decide ((0:Int)≤(k:Int))=true:=by simp
 have d1:decide ((k:Int)≤(z:Int))=true:=by simp;omega
 have d2:decide ((z:Int)≤(n:Int))=true:=by simp;omega
 go_enter Tryz.func93,Tryz.ntmps93
 go_wp2
 go_ret
 exact⟨rfl,rfl⟩
theorem seg_nil (l:List GTok) (k:Nat):segP l k k=[]:=by unfold segP;simp
theorem seg_len (l:List GTok) {k z:Nat} (hz:z≤l.length):(segP l k z).length=z-k:=by unfold segP;simp;omega
theorem seg_cons {l:List GTok} {k z:Nat} {t:GTok} (ht:l[k]?=some t) (hk:k<z):segP l k z=t::segP l (k+1) z:=by
 have hl:=(List.getElem?_eq_some_iff.1 ht).1;unfold segP;rw[List.drop_eq_getElem_cons (by simp;omega)]
 congr 1
 rw[List.getElem_take];rw[List.getElem?_eq_getElem hl] at ht
 injection ht
theorem seg_snoc {l:List GTok} {k z:Nat} {t:GTok} (ht:l[z]?=some t) (hk:k≤z):segP l k (z+1)=segP l k z++[t]:=by
 have hl:=(List.getElem?_eq_some_iff.1 ht).1;unfold segP;rw[List.take_add_one,ht,Option.toList_some,List.drop_append_of_le_length (by simp;omega)]
theorem rtrim_snoc (l:List GTok) {t:GTok} (h:t.kind=1):rtrim (l++[t])=rtrim l:=by
 unfold rtrim dropS;rw[List.reverse_append]
 show (List.dropWhile isSp (t::l.reverse)).reverse=_
 rw[List.dropWhile_cons_of_pos (by simp[isSp,h])]
theorem rtrim_id (l:List GTok) {t:GTok} (h:t.kind≠1):rtrim (l++[t])=l++[t]:=by
 unfold rtrim dropS;rw[List.reverse_append]
 show (List.dropWhile isSp (t::l.reverse)).reverse=_
 rw[List.dropWhile_cons_of_neg (by simp[isSp,h])]
 simp
theorem nest_trim (l:List GTok) (S:Nat→Prop) (A:Option Addr) (n c k z:Nat) (w:World) (h:ReadsS w S 3 A n (cellsG l)) (hn:n≤1000000) (hk:k≤z) (hz:z≤n) :
  Calls Tryz.prog 60 #[.slice A n c,.int .i64 (k:Int),.int .i64 (z:Int)] w fun e w'=>(∃ j i:Nat,e=.returned (.tuple #[.int .i64 (j:Int),.int .i64 (i:Int)])∧k≤j∧j≤i∧i≤z∧dropS (segP l k z)=segP l j z∧trimL (segP l k z)=segP l j i)∧w'=w:=by
 have hlen:=h.toks_len;have Hlen:=Lib.hid hlen;clear hlen
 go_enter Tryz.func60,Tryz.ntmps60
 go_wp2_with fail
 refine(nest_within n k z w hk hz).mono ?_
 rintro e w1 ⟨rfl,rfl⟩
 go_wp2_with fail
 go_loopw [1] (fun i wr=>∃ j:Nat,i=.int .i64 (j:Int)∧k≤j∧j≤z∧Hid (dropS (segP l k z)=dropS (segP l j z))∧wr=w1) (fun i _=>z-(intOf i).toNat)
 case atStart=>exact⟨k,rfl,Nat.le_refl _,hk,rfl,rfl⟩
 case round =>
  obtain⟨j,rfl,hkj,hjz,hrun,rfl⟩:=hrel
  have key:(j=z∨∃ t,l[j]?=some t∧t.kind≠1)→Hid (dropS (segP l k z)=segP l j z):=by
   rintro (rfl|⟨t,ht,h1⟩)
   ·show _=_
    rw[hrun.out,seg_nil];rfl
   ·show _=_
    rw[hrun.out]
    by_cases e:j=z
    ·subst e;rw[seg_nil];rfl
    ·rw[seg_cons ht (by omega)]
     exact dropS_id (by intro u hu;simp at hu;subst hu;exact h1)
  obtain⟨g,hg⟩:∃ g,(decide (j<z)&&((l[j]?.map (fun t=>decide (t.kind=1))).getD false))=g:=⟨_,rfl⟩
  go_upto_region 3 with (fail)
  go_cut [26] (fun x wx=>x=.bool g∧wr=wx)
  case first =>
   have hun:(undef:Value)=.tuple #[]:=rfl
   by_cases hlt:j<z
   ·obtain⟨b,off,t,rfl,hb,ht,c0,c1,c2⟩:=h.tok (k:=j) (by omega)
    have d0:(j:Int)<(z:Int):=by omega
    have d1:(j:Int)<(n:Int):=by omega
    have hg':g=(t.kind==1):=by
     rw[←hg,ht];simp[hlt];rw[Bool.eq_iff_iff];simp
    have HG:=Lib.hid hg';clear hrun key ht hg hg'
    go_wp2_with fail
    go_meet
    exact⟨by rw[HG.out],rfl⟩
   ·have d0:decide ((j:Int)<(z:Int))=false:=by simp;omega
    have hg':g=false:=by rw[←hg];simp[hlt]
    have HG:=Lib.hid hg';clear hrun key hg hg'
    go_wp2_with fail
    go_meet
    exact⟨by rw[HG.out],rfl⟩
  case rest =>
   obtain⟨rfl,rfl⟩:=hcut
   cases g with
   | true =>
    simp only[Bool.and_eq_true,decide_eq_true_eq] at hg;obtain⟨t,ht⟩:∃ t,l[j]?=some t:=⟨_,List.getElem?_eq_getElem (by rw[Hlen.out];omega)⟩;have hk1':t.kind=1:=by have:=hg.2;rw[ht] at this;simpa using this
    have hnew:Hid (dropS (segP l k z)=dropS (segP l (j+1) z)):=by
     show _=_
     rw[hrun.out,seg_cons ht hg.1];unfold dropS;rw[List.dropWhile_cons_of_pos (by simp[isSp,hk1'])]
    have hj1:j+1≤z:=hg.1;have w1':IntKind.i64.wrap ((j:Int)+1)=(j:Int)+1:=by rw[IntKind.wrap_i64];omega
    clear hrun key ht hk1' hg
    go_wp2_with fail
    go_roundw
    case rel=>exact⟨j+1,by go_num,by omega,by omega,hnew,by first | rfl | trivial⟩
    case measure=>simp[intOf];omega
   | false =>
    have hK:Hid (dropS (segP l k z)=segP l j z):=by
     by_cases e:j=z
     ·exact key (.inl e)
     ·obtain⟨t,ht⟩:∃ t,l[j]?=some t:=⟨_,List.getElem?_eq_getElem (by rw[Hlen.out];omega)⟩
      refine key (.inr ⟨t,ht,?_⟩)
      have hjz':j<z:=by omega
      rw[ht] at hg
      simpa [hjz'] using hg
    clear hrun key hg
    go_wp2_with fail
    go_loopw [2] (fun v wv=>∃ i:Nat,v=.int .i64 (i:Int)∧j≤i∧i≤z∧Hid (rtrim (segP l j z)=rtrim (segP l j i))∧wv=wr) (fun v _=>(intOf v).toNat)
    case atStart=>exact⟨z,rfl,hjz,Nat.le_refl _,rfl,rfl⟩
    case round =>
     obtain⟨i,rfl,hji,hiz,hrun,rfl⟩:=hrel;obtain⟨g,hg⟩:∃ g,(decide (j<i)&&((l[i-1]?.map (fun t=>decide (t.kind=1))).getD false))=g:=⟨_,rfl⟩;have w1':IntKind.i64.wrap ((i:Int)-1)=(i:Int)-1:=by rw[IntKind.wrap_i64];omega
     go_upto_region 5 with (fail)
     go_cut [40] (fun x wx=>x=.bool g∧wr=wx)
     case first =>
      have hun:(undef:Value)=.tuple #[]:=rfl
      by_cases hlt:j<i
      ·obtain⟨b,off,t,rfl,hb,ht,c0,c1,c2⟩:=h.tok (k:=i-1) (by omega)
       have d0:(j:Int)<(i:Int):=by omega
       have d1:(i:Int)-1<(n:Int):=by omega
       have d2:(0:Int)≤(i:Int)-1:=by omega
       have e1:((i:Int)-1).toNat=i-1:=by omega
       have hg':g=(t.kind==1):=by
        rw[←hg,ht];simp[hlt];rw[Bool.eq_iff_iff];simp
       have HG:=Lib.hid hg';clear hrun hK ht hg hg'
       go_wp2_with fail
       go_meet
       exact⟨by rw[HG.out],rfl⟩
      ·have d0:decide ((j:Int)<(i:Int))=false:=by simp;omega
       have hg':g=false:=by rw[←hg];simp[hlt]
       have HG:=Lib.hid hg';clear hrun hK hg hg'
       go_wp2_with fail
       go_meet
       exact⟨by rw[HG.out],rfl⟩
     case rest =>
      obtain⟨rfl,rfl⟩:=hcut
      cases g with
      | true =>
       simp only[Bool.and_eq_true,decide_eq_true_eq] at hg;obtain⟨t,ht⟩:∃ t,l[i-1]?=some t:=⟨_,List.getElem?_eq_getElem (by rw[Hlen.out];omega)⟩;have hk1':t.kind=1:=by have:=hg.2;rw[ht] at this;simpa using this
       have hnew:Hid (rtrim (segP l j z)=rtrim (segP l j (i-1))):=by
        show _=_
        have:=seg_snoc (k:=j) ht (by omega);rw[show i-1+1=i by omega] at this;rw[hrun.out,this,rtrim_snoc _ hk1']
       have hj1:j<i:=hg.1;clear hrun ht hk1' hg
       go_wp2_with fail
       go_roundw
       case rel=>exact⟨i-1,by first | go_num | (congr 1;omega),by omega,by omega,hnew,by first | rfl | trivial⟩
       case measure=>simp[intOf];omega
      | false =>
       have hfin:Hid (trimL (segP l k z)=segP l j i):=by
        show _=_
        unfold trimL;rw[hK.out,hrun.out]
        by_cases e:j=i
        ·subst e;rw[seg_nil];rfl
        ·obtain⟨t,ht⟩:∃ t,l[i-1]?=some t:=⟨_,List.getElem?_eq_getElem (by rw[Hlen.out];omega)⟩
         have hji':j<i:=by omega
         have h1:t.kind≠1:=by
          rw[ht] at hg
          simpa [hji'] using hg
         have:=seg_snoc (k:=j) ht (by omega);rw[show i-1+1=i by omega] at this;rw[this,rtrim_id _ h1]
       clear hrun hg
       go_wp2_with fail
       go_ret2
       exact⟨⟨j,i,rfl,hkj,hji,hiz,hK.out,hfin.out⟩,by first | rfl | trivial⟩
def Asks (f:Nat) (is:GTok→Bool) (l:List GTok) (w:World):Prop:=∀ t∈l,∀ W:World,Below w.heap.size w W→Calls Tryz.prog f #[gtokV t] W fun e W'=>e=.returned (.bool (is t))∧Below W.heap.size W W'
theorem run_equalIn_func_nil {P:Program} (w:World) (d:Nat) (t:TypeId) {ps rs:Array TypeId} {v:Bool} (h:P.underlying t=some (.func ps rs v)) (fn:Fn) (first cap:Array Value) :
  (Op.equalIn (d+1) t (.func fn first cap) .nilFunc).run P w=.ok false w:=by
 simp[Op.equalIn,run_underlying h]
theorem run_eql_func_nil {P:Program} (w:World) (t:TypeId) {ps rs:Array TypeId} {v:Bool} (h:P.underlying t=some (.func ps rs v)) (fn:Fn) (first cap:Array Value) :
  (binOp .eql t (.func fn first cap) .nilFunc).run P w=.ok (.bool false) w:=by
 simp only[binOp]
 simp[Op.equal,Op.maxDepth,run_equalIn_func_nil w 9999 t h fn first cap]
def findI (l:List GTok) (is:GTok→Bool) (k z:Nat):Int:=if findP l is k z<z then (findP l is k z:Nat) else -1
theorem nest_find (l:List GTok) (is:GTok→Bool) (f:Nat) (A A':Option Addr) (n c c' k z:Nat) (w:World) (h:ReadsS w (· < w.heap.size) 3 A n (cellsG l)) (he:EndsS w (· < w.heap.size) A' n l) (hn:n≤1000000) (hk:k≤z) (hz:z≤n) (hf:Asks f is l w) (hen:∀ (args:Array Value) (W:World),(callFunc f args).run Tryz.prog W=.ok (.enter f args) W) :
  Calls Tryz.prog 59 #[.slice A n c,.slice A' n c',.int .i64 (k:Int),.int .i64 (z:Int),.func (.func f) #[] #[]] w fun e w'=>e=.returned (.int .i64 (findI l is k z))∧Below w.heap.size w w':=by
 have hnf:=fun W:World=>run_eql_func_nil (P:=Tryz.prog) W 59 Tryz.underlying59 (.func f) #[] #[]
 have hlen:=h.toks_len;have Hlen:=Lib.hid hlen;clear hlen
 go_enter Tryz.func59,Tryz.ntmps59
 go_wp2_with fail
 refine(nest_within n k z w hk hz).mono ?_
 rintro e w1 ⟨rfl,rfl⟩
 go_wp2_with fail
 go_loopw [11] (fun i wr=>∃ j:Nat,i=.int .i64 (j:Int)∧j≤z+n+1∧Hid (findP l is k z=findP l is j z)∧Below w1.heap.size w1 wr) (fun i _=>z-(intOf i).toNat)
 case atStart=>exact⟨k,rfl,by omega,rfl,Below.refl _ _⟩
 case round =>
  obtain⟨j,rfl,hjn,hrun,hb⟩:=hrel
  by_cases hlt:j<z
  ·have d0:(j:Int)<(z:Int):=by omega
   obtain⟨b,off,t,rfl,hbl,ht,c0,c1,c2⟩:=h.tok (k:=j) (by omega);have d1:(j:Int)<(n:Int):=by omega
   replace c0:=(hb.cell (p:=⟨b,off+j * 3,none⟩) hbl).trans c0
   replace c1:=(hb.cell (p:=⟨b,off+j * 3+1,none⟩) hbl).trans c1
   replace c2:=(hb.cell (p:=⟨b,off+j * 3+2,none⟩) hbl).trans c2
   have hcall:=hf t (List.mem_of_getElem? ht) wr hb;obtain⟨q,hq⟩:∃ q,is t=q:=⟨_,rfl⟩;rw[hq] at hcall;have hsk:=skip_gt (l:=l) (k:=j) (by rw[Hlen.out];omega);have hsl:=skip_le (l:=l) (k:=j) (by rw[Hlen.out];omega);have Hsk:=Lib.hid hsk;have Hsl:=Lib.hid hsl
   have hnext:q=false→Hid (findP l is k z=findP l is (skipP l j) z):=fun e=>by
    show _=_
    rw[hrun.out,find_miss (by rw[Hlen.out];exact hz) hlt ht (by rw[hq];exact e)]
   have hhit:q=true→Hid (findI l is k z=(j:Int)):=fun e=>by
    show _=_
    unfold findI;rw[hrun.out,find_hit hlt ht (by rw[hq];exact e),if_pos hlt]
   clear hrun ht hq hsk hsl
   go_wp2_with fail
   refine hcall.mono ?_
   rintro e w2 ⟨rfl,hb2⟩;have hB:=hb.trans (hb2.mono hb.size)
   cases q with
   | true =>
    have hH:=hhit rfl;clear hnext hhit
    go_wp2_with fail
    go_ret
    exact⟨ret_int (by rw[hH.out]),hB⟩
   | false =>
    have hH:=hnext rfl;clear hnext hhit
    go_wp2_with fail
    refine(nest_skip l _ A' n c' j w2 (he.keep (Kept.of_below hB (fun b hb=>hb))) hn (by omega)).mono ?_
    rintro e w3 ⟨rfl,rfl⟩
    go_wp2_with fail
    go_roundw
    case rel=>exact⟨skipP l j,rfl,by have:=Hsl.out;have:=Hlen.out;omega,hH,hB⟩
    case measure=>have:=Hsk.out;simp[intOf];omega
  ·have d0:decide ((j:Int)<(z:Int))=false:=by simp;omega
   have hfin:findI l is k z=-1:=by
    unfold findI;rw[hrun.out,find_end (by omega),if_neg (Nat.lt_irrefl _)]
   have HF:=Lib.hid hfin;clear hrun hfin
   go_wp2_with fail
   go_ret
   exact⟨ret_int (by rw[HF.out]),hb⟩
structure OutAt (w:World) (g n:Nat) (φ:Nat→Int):Prop where
 lt:g<w.heap.size
 cell:∀ j,j<n→w.cell? ⟨g,j,none⟩=some (.int .i64 (φ j))∧w.frozen? ⟨g,j,none⟩=false
theorem OutAt.keep {w w':World} {g n:Nat} {φ:Nat→Int} (h:OutAt w g n φ) (hs:w.heap.size≤w'.heap.size) (hk:w'.heap[g]?=w.heap[g]?):OutAt w' g n φ :=
 ⟨Nat.lt_of_lt_of_le h.lt hs,fun j hj=>⟨(World.cell?_of_block (w:=w) (a:=⟨g,j,none⟩) hk).trans (h.cell j hj).1,(World.frozen?_of_block (w:=w) (a:=⟨g,j,none⟩) hk).trans (h.cell j hj).2⟩⟩
theorem OutAt.below {w w':World} {g n B:Nat} {φ:Nat→Int} (h:OutAt w g n φ) (hb:Below B w w') (hg:g<B):OutAt w' g n φ:=h.keep hb.size (hb.block g hg)
theorem OutAt.grown {w w':World} {g n:Nat} {φ:Nat→Int} {row:Option Nat} (h:OutAt w g n φ) (hg:w.grownBy w' row) (hr:some g≠row):OutAt w' g n φ:=h.keep hg.size (hg.block g h.lt hr)
theorem OutAt.drew {w:World} {g n:Nat} {φ:Nat→Int} (h:OutAt w g n φ):OutAt w.drew g n φ:=⟨h.lt,h.cell⟩
theorem OutAt.drewN {w:World} {g n:Nat} {φ:Nat→Int} (h:OutAt w g n φ) (k:Nat):OutAt (w.drewN k) g n φ:=⟨h.lt,h.cell⟩
theorem OutAt.store {w:World} {g n:Nat} {φ:Nat→Int} (h:OutAt w g n φ) (k:Nat) (hk:k<n) (v:Int):OutAt (w.setCell ⟨g,k,none⟩ (.int .i64 v)) g n (fun j=>if j=k then v else φ j):=by
 refine⟨by simpa [World.setCell] using h.lt,fun j hj=>?_⟩
 have hfr:∀ p,(w.setCell ⟨g,k,none⟩ (.int .i64 v)).frozen? p=w.frozen? p:=fun p=>World.frozen?_setCell _ _ _ _
 rw[hfr]
 refine⟨?_,(h.cell j hj).2⟩
 by_cases e:j=k
 ·subst e
  rw[if_pos rfl]
  exact World.cell?_setCell_same w ⟨g,j,none⟩ (.int .i64 v) (h.cell j hj).1
 ·rw[if_neg e]
  rw[World.cell?_setCell_other w _ _ _ (by intro h2;injection h2 with _ h2;exact e h2.symm)]
  exact(h.cell j hj).1
theorem OutAt.congr {w:World} {g n:Nat} {φ ψ:Nat→Int} (h:OutAt w g n φ) (he:∀ j,j<n→φ j=ψ j):OutAt w g n ψ:=⟨h.lt,fun j hj=>by rw[←he j hj];exact h.cell j hj⟩
theorem OutAt.of_own {w:World} {base g n c:Nat} {e:TypeId} {z:Int} (h:w.ownsRow base e 1 (.slice (some ⟨g,0,none⟩) n c) n (List.replicate n (Value.int .i64 z))) (hn:0<n∨g<w.heap.size):OutAt w g n (fun _=>z):=by
 obtain⟨_,⟨hv,_⟩|⟨g',cap,cur,hv,hg,hh,hnc,_,hsz,htake⟩⟩:=h
 ·cases hv
 ·injection hv with hv _ hv2
  injection hv with hv
  injection hv with hv
  subst hv hv2
  refine⟨(Array.getElem?_eq_some_iff.1 hh).1,fun j hj=>?_⟩
  have h1:cur[j]?=some (Value.int .i64 z):=by
   have:(cur.toList.take (n * 1))[j]?=(List.replicate n (Value.int .i64 z))[j]?:=by rw[htake]
   rw[List.getElem?_take,if_pos (by omega),List.getElem?_replicate,if_pos hj,Array.getElem?_toList] at this
   exact this
  exact⟨by simp[World.cell?,hh,h1],by simp[World.frozen?,hh]⟩
def partE (l:List GTok) (k:Nat) (j:Nat):Int:=if j<k then (if j∈stackP l k then -1 else endP l j) else 0
def stackV (l:List GTok) (k:Nat):List Value:=(stackP l k).reverse.map fun j=>Value.int .i64 ((j:Nat):Int)
theorem stackV_len (l:List GTok) (k:Nat):(stackV l k).length=(stackP l k).length:=by simp[stackV]
theorem stack_len (l:List GTok):∀ k,(stackP l k).length≤k
 | 0=>Nat.le_refl _
 | k+1=>by
  have ih:=stack_len l k;rw[stack_succ];unfold stepP
  split
  ·omega
  ·split
   ·simp;omega
   ·split
    ·simp
    ·rename_i heq
     rw[heq] at ih;simp only[List.length_cons] at ih
     split
     ·omega
     ·first | (rw[heq];simp;omega) | (simp;omega)
structure EJ (w w':World) (l:List GTok) (k:Nat) (v:Value):Prop where
 bel:Below w.heap.size w w'
 out:OutAt w' w.heap.size l.length (partE l k)
 own:w'.ownsRow (w.heap.size+1) 3 1 v (stackP l k).length (stackV l k)
 deep:∀ i,i≤k→(stackP l i).length≤64
 kn:k≤l.length
theorem step_push {l:List GTok} {k:Nat} {t:GTok} (ht:l[k]?=some t) (ho:opensP t≠[]):stackP l (k+1)=k::stackP l k:=by
 rw[stack_succ];unfold stepP;rw[ht];simp only[if_pos ho]
theorem step_pop {l:List GTok} {k p:Nat} {t:GTok} {r:List Nat} (ht:l[k]?=some t) (ho:opensP t=[]) (hs:stackP l k=p::r) (h13:t.kind=13) (hp:l[p]?.map opensP=some t.text):stackP l (k+1)=r:=by
 rw[stack_succ];unfold stepP;rw[ht,hs];simp only[ho];rw[if_neg (by simp),if_pos ⟨h13,hp⟩]
theorem step_stay {l:List GTok} {k:Nat} {t:GTok} (ht:l[k]?=some t) (ho:opensP t=[]) (h:∀ p r,stackP l k=p::r→¬ (t.kind=13∧l[p]?.map opensP=some t.text)):stackP l (k+1)=stackP l k:=by
 rw[stack_succ];unfold stepP;rw[ht];simp only[ho];rw[if_neg (by simp)]
 cases hs:stackP l k with
 | nil=>rfl
 | cons p r=>simp only[];rw[if_neg (h p r hs)]
theorem pop_end {l:List GTok} {k p:Nat} {r:List Nat} (hk:k<l.length) (hs:stackP l k=p::r) (hs2:stackP l (k+1)=r):endP l p=(k:Int):=by
 have hp:p∈stackP l k:=by rw[hs];simp
 have hlt:=stack_lt l k p hp;obtain⟨t,ht,ho⟩:=stack_open l k p hp;have hsort:=stack_sorted l k;rw[hs] at hsort
 refine end_eq ht ho hlt (by omega) (fun i hi hik=>?_) (fun _=>?_)
 ·refine Classical.byContradiction fun hn=>?_
  have:=gone_on l hn (by omega) (k-(i+1));rw[show i+1+(k-(i+1))=k by omega] at this
  exact this hp
 ·rw[hs2]
  intro h;have:=(List.pairwise_cons.1 hsort).1 p h
  omega
theorem last_end {l:List GTok} {p:Nat} (hp:p∈stackP l l.length):endP l p=(l.length:Int):=by
 have hlt:=stack_lt l _ p hp;obtain⟨t,ht,ho⟩:=stack_open l _ p hp
 refine end_eq ht ho hlt (Nat.le_refl _) (fun i hi hik=>?_) (fun h=>absurd h (Nat.lt_irrefl _))
 refine Classical.byContradiction fun hn=>?_
 have:=gone_on l hn (by omega) (l.length-(i+1));rw[show i+1+(l.length-(i+1))=l.length by omega] at this
 exact this hp
theorem no_open {l:List GTok} {k:Nat} {t:GTok} (ht:l[k]?=some t) (ho:opensP t=[]):endP l k=-1:=end_else fun u hu=>by rw[ht] at hu;injection hu with hu;rw[←hu];exact ho
theorem part_push {l:List GTok} {k:Nat} {t:GTok} (ht:l[k]?=some t) (ho:opensP t≠[]) (j:Nat):(if j=k then -1 else partE l k j)=partE l (k+1) j:=by
 unfold partE;rw[step_push ht ho]
 by_cases e:j=k
 ·subst e;simp
 ·simp only[if_neg e,List.mem_cons,e,false_or]
  by_cases h:j<k
  ·rw[if_pos h,if_pos (show j<k+1 by omega)];simp
  ·rw[if_neg h,if_neg (show ¬ j<k+1 by omega)];simp
theorem part_stay {l:List GTok} {k:Nat} {t:GTok} (ht:l[k]?=some t) (ho:opensP t=[]) (hs:stackP l (k+1)=stackP l k) (j:Nat):(if j=k then -1 else partE l k j)=partE l (k+1) j:=by
 unfold partE;rw[hs]
 by_cases e:j=k
 ·subst e
  have:j∉stackP l j:=fun h=>Nat.lt_irrefl _ (stack_lt l j j h)
  rw[if_pos rfl,if_pos (by omega),if_neg this,no_open ht ho]
 ·simp only[if_neg e]
  by_cases h:j<k
  ·rw[if_pos h,if_pos (show j<k+1 by omega)]
  ·rw[if_neg h,if_neg (show ¬ j<k+1 by omega)]
theorem part_pop {l:List GTok} {k p:Nat} {t:GTok} {r:List Nat} (ht:l[k]?=some t) (ho:opensP t=[]) (hs:stackP l k=p::r) (hs2:stackP l (k+1)=r) (j:Nat):(if j=p then (k:Int) else if j=k then -1 else partE l k j)=partE l (k+1) j:=by
 have hk:k<l.length:=(List.getElem?_eq_some_iff.1 ht).1;have hp:p<k:=stack_lt l k p (by rw[hs];simp)
 have hpr:p∉r:=by
  have hsort:=stack_sorted l k;rw[hs] at hsort;intro h;have:=(List.pairwise_cons.1 hsort).1 p h
  omega
 unfold partE;rw[hs2]
 by_cases e:j=p
 ·subst e
  rw[if_pos rfl,if_pos (by omega),if_neg hpr,pop_end hk hs hs2]
 ·rw[if_neg e]
  by_cases e2:j=k
  ·subst e2
   have:j∉r:=fun h=>Nat.lt_irrefl _ (stack_lt l j j (by rw[hs];exact List.mem_cons_of_mem _ h))
   rw[if_pos rfl,if_pos (by omega),if_neg this,no_open ht ho]
  ·simp only[if_neg e2]
   by_cases h:j<k
   ·rw[if_pos h,if_pos (show j<k+1 by omega),hs];simp[e]
   ·rw[if_neg h,if_neg (show ¬ j<k+1 by omega)]
theorem ru_int_info:(Tryz.prog.info? 3).map (fun i=>(i.zero,i.size,i.bytes))=some (some (.int .i64 0),1,8):=by kernel_rfl
theorem info_take {o:Option TypeInfo} {z:Value} {s b:Nat} (h:o.map (fun i=>(i.zero,i.size,i.bytes))=some (some z,s,b)):∃ i,o=some i∧i.zero=some z∧i.size=s∧i.bytes=b:=by
 cases o with
 | none=>cases h
 | some i=>simp at h;exact⟨i,rfl,h.1,h.2.1,h.2.2⟩
def EJump (w:World) (A:Option Addr) (n c:Nat) (l:List GTok) (a':Act) (w':World):Prop :=
 ∃ (k:Nat) (v u1 u7 u8 u9 u10 u11 u12 u13 u14 u15 u16 u17 u18 u19 u20 u21 u22 u23 u24 u25 u26 u27 u28 u29 u30 u31 u32 u33 u34 u35 u36 u37 u38 u39 u40 u41 u42 u43 u44 u45 u46 u47 u48 u49 u50 u51 u52 u53 u54 u55 u56 u57 u58 u59 u60 u61 u62 u63 u64 u65 u66 u67 u68 u69 u70 u71 u72 u73 u74 u75 u76 u77 u78 u79 u80 u81 u82 u83 u84:Value),a'={ tmps:=#[.slice A n c,u1,.slice none 0 0,.int .i64 0,.slice (some ⟨w.heap.size,0,none⟩) n n,v,.int .i64 (k:Int),u7,u8,u9,u10,u11,u12,u13,u14,u15,u16,u17,u18,u19,u20,u21,u22,u23,u24,u25,u26,u27,u28,u29,u30,u31,u32,u33,u34,u35,u36,u37,u38,u39,u40,u41,u42,u43,u44,u45,u46,u47,u48,u49,u50,u51,u52,u53,u54,u55,u56,u57,u58,u59,u60,u61,u62,u63,u64,u65,u66,u67,u68,u69,u70,u71,u72,u73,u74,u75,u76,u77,u78,u79,u80,u81,u82,u83,u84],defers:=[] }∧EJ w w' l k v
theorem ownsRow_base {w:World} {base base':Nat} {e:TypeId} {size:Nat} {v:Value} {n:Nat} {xs:List Value} (h:w.ownsRow base e size v n xs) (hb:base'≤base):w.ownsRow base' e size v n xs:=by
 obtain⟨h1,h2⟩:=h
 refine⟨h1,?_⟩
 rcases h2 with h2|⟨g,cap,cur,a1,a2,a3⟩
 ·exact .inl h2
 ·exact .inr ⟨g,cap,cur,a1,by omega,a3⟩
def atOf (a:Act):Nat:=(intOf (a.tmps.getD 6 undef)).toNat
def EndsRet (l:List GTok) (n:Nat) (w:World) (e:Ending) (w':World):Prop :=
 if deepB l=true then e=.returned (.tuple #[.slice (some ⟨w.heap.size,0,none⟩) n n,.int .i64 0])∧EndsS w' (fun b=>b=w.heap.size) (some ⟨w.heap.size,0,none⟩) n l∧w.heap.size<w'.heap.size
 else e=.returned (.tuple #[.slice none 0 0,.int .i64 3])
theorem nest_ends (l:List GTok) (A:Option Addr) (n c:Nat) (w:World) (h:ReadsS w (· < w.heap.size) 3 A n (cellsG l)) (hn:n≤1000000) :
  Calls Tryz.prog 22 #[.slice A n c] w fun e w'=>Below w.heap.size w w'∧EndsRet l n w e w':=by
 have hlen:=h.toks_len;have Hlen:=Lib.hid hlen;clear hlen;obtain⟨hi0,hi,hz0,hz1,hz2⟩:=info_take ru_int_info
 go_enter Tryz.func22,Tryz.ntmps22
 go_wp2_with fail
 refine wp_scope_pass 0 (EJump w A n c l) (fun a' _=>n-atOf a') rfl ?_ ?_
 ·rintro a' w1 ⟨k,v,u1,u7,u8,u9,u10,u11,u12,u13,u14,u15,u16,u17,u18,u19,u20,u21,u22,u23,u24,u25,u26,u27,u28,u29,u30,u31,u32,u33,u34,u35,u36,u37,u38,u39,u40,u41,u42,u43,u44,u45,u46,u47,u48,u49,u50,u51,u52,u53,u54,u55,u56,u57,u58,u59,u60,u61,u62,u63,u64,u65,u66,u67,u68,u69,u70,u71,u72,u73,u74,u75,u76,u77,u78,u79,u80,u81,u82,u83,u84,rfl,hJ⟩
  obtain⟨A2,c2,rfl,hcc,hcm⟩:=own_form hJ.own;have hrow:=hJ.own.lt;have hdp:=hJ.deep;have hsl:=stack_len l k;have hkl:=hJ.kn;have hgl:w.heap.size<w1.heap.size:=hJ.out.lt;have hbs:=hJ.bel.size;have hd64:=hJ.deep k (Nat.le_refl _)
  by_cases hlt:k<n
  ·obtain⟨b,off,t,rfl,hbl,ht,c0,c1,c2'⟩:=h.tok hlt
   have d0:((k:Int)==(n:Int))=false:=by simp;omega
   have d1:(k:Int)<(n:Int):=by omega
   replace c0:=(hJ.bel.cell (p:=⟨b,off+k * 3,none⟩) hbl).trans c0
   replace c1:=(hJ.bel.cell (p:=⟨b,off+k * 3+1,none⟩) hbl).trans c1
   replace c2':=(hJ.bel.cell (p:=⟨b,off+k * 3+2,none⟩) hbl).trans c2'
   obtain⟨WA,hWA⟩:∃ WA,w1.alloc (.cells #[.int .i64 t.kind,.string (bytesOf t.text),.int .i64 t.n] 58)=WA:=⟨_,rfl⟩;have bA:Below w1.heap.size w1 WA:=by rw[←hWA];exact(Below.refl _ _).alloc (Nat.le_refl _) _
   have rA:RowAt WA w1.heap.size [.int .i64 t.kind,.string (bytesOf t.text),.int .i64 t.n]:=by rw[←hWA];exact RowAt.new _ _ _
   have oA:=hJ.out.below bA hgl;obtain⟨q1,q2⟩:=oA.cell k (by rw[Hlen.out];exact hlt);have oB:=oA.store k (by rw[Hlen.out];exact hlt) (-1);obtain⟨WB,hWB⟩:∃ WB,WA.setCell ⟨w.heap.size,k,none⟩ (.int .i64 (-1))=WB:=⟨_,rfl⟩;rw[hWB] at oB
   have ownB:WB.ownsRow (w.heap.size+1) 3 1 (.slice A2 (stackP l k).length c2) (stackP l k).length (stackV l k):=by
    rw[←hWB];exact ownsRow_setCell_below (own_below hJ.own bA) (by simp) _
   have bB:Below w.heap.size w WB:=by
    rw[←hWB];exact(hJ.bel.trans (bA.mono hbs)).setCell (Nat.le_refl _) _
   have rB:RowAt WB w1.heap.size [.int .i64 t.kind,.string (bytesOf t.text),.int .i64 t.n]:=by
    refine⟨by rw[←hWB];simpa [World.setCell] using rA.1,fun j u hu=>?_⟩
    obtain⟨z1,z2⟩:=rA.2 j u hu;rw[←hWB]
    exact⟨(World.cell?_setCell_other WA _ _ _ (by intro e;injection e with e;omega)).trans z1,by rw[World.frozen?_setCell];exact z2⟩
   obtain⟨y0,_⟩:=rB.2 0 _ rfl;obtain⟨y1,_⟩:=rB.2 1 _ rfl;obtain⟨y2,_⟩:=rB.2 2 _ rfl;have hlB:=rB.1;clear hJ rA oA
   go_wp2_with fail
   refine(nest_opens t WB).mono ?_
   rintro e w2 ⟨rfl,hb2⟩;have ht0:=Lib.hid ht;have oC:=oB.below hb2 (by omega);have ownC:=own_below ownB hb2;have bC:Below w.heap.size w w2:=bB.trans (hb2.mono (by omega))
   replace y0:=(hb2.cell (p:=⟨w1.heap.size,0,none⟩) hlB).trans y0
   replace y1:=(hb2.cell (p:=⟨w1.heap.size,1,none⟩) hlB).trans y1
   have hs2:=hb2.size;have hl2:w1.heap.size<w2.heap.size:=by omega
   clear rB oB ownB bB q1 q2 hWB hWA c0 c1 c2' bA y2
   by_cases ho:opensP t=[]
   ·have Ho:=Lib.hid ho
    obtain⟨s1,s2⟩:=txt_is ho;have hw1:IntKind.i64.wrap ((k:Int)+1)=(k:Int)+1:=by rw[IntKind.wrap_i64];omega
    have hstay:stackP l (k+1)=stackP l k→Hid (∀ W,Below w2.heap.size w2 W→EJ w W l (k+1) (.slice A2 (stackP l k).length c2)):=fun hs W hW =>
     ⟨bC.trans (hW.mono (by omega)),(oC.below hW (by omega)).congr (fun j _=>part_stay ht ho hs j),by
      have:=own_below ownC hW;unfold stackV at this ⊢;rw[hs];exact this,fun i hi=>by
      rcases Nat.lt_or_ge i (k+1) with h1|h1
      ·exact hdp i (by omega)
      ·rw[show i=k+1 by omega,hs];omega,by rw[Hlen.out];omega⟩
    by_cases hk13:t.kind=13
    ·have k13:(t.kind==13)=true:=by simpa using hk13
     obtain⟨S,hS⟩:∃ S,stackP l k=S:=⟨_,rfl⟩
     cases S with
     | nil =>
      have hJ2:=hstay (step_stay ht ho (fun p r hpr=>by rw[hS] at hpr;cases hpr));obtain⟨m,hmm⟩:∃ m,(stackP l k).length=m:=⟨_,rfl⟩;have d64:decide ((0:Int)<(m:Int))=false:=by rw[←hmm,hS];simp
      have d65:decide (0<m)=false:=by rw[←hmm,hS];simp
      rw[hmm] at ownC hcc hsl hd64 hstay hJ2 ⊢;clear hmm;clear hstay ownC oC hdp hd64 ho ht ht0 hS hk13
      go_wp2_with fail
      go_quiet (fail)
      go_wp2_with fail
      go_step3
      refine⟨rfl,⟨k+1,_,_,_,_,_,_,_,_,_,_,_,_,_,_,_,_,_,_,_,_,_,_,_,_,_,_,_,_,_,_,_,_,_,_,_,_,_,_,_,_,_,_,_,_,_,_,_,_,_,_,_,_,_,_,_,_,_,_,_,_,_,_,_,_,_,_,_,_,_,_,_,_,_,_,_,_,_,_,_,_,rfl,hJ2.out _ (below_drewN (Below.refl _ _) _)⟩,?_⟩
      show n-((k:Int)+1).toNat<n-(k:Int).toNat
      omega
     | cons p r =>
      have hm:(stackP l k).length=r.length+1:=by rw[hS];rfl
      obtain⟨m,hmm⟩:∃ m,(stackP l k).length=m:=⟨_,rfl⟩;have hp:p<k:=stack_lt l k p (by rw[hS];simp);obtain⟨b',off',tp,hA',_,htp,e0,e1,e2⟩:=h.tok (k:=p) (by omega)
      injection hA' with hA'
      injection hA' with q1 q2
      subst q1 q2;have bC0:=bC
      replace e0:=(bC0.cell (p:=⟨b,off+p * 3,none⟩) hbl).trans e0
      replace e1:=(bC0.cell (p:=⟨b,off+p * 3+1,none⟩) hbl).trans e1
      replace e2:=(bC0.cell (p:=⟨b,off+p * 3+2,none⟩) hbl).trans e2
      have hVm:(stackV l k)[m-1]?=some (.int .i64 (p:Int)):=by
       unfold stackV;rw[hS,List.map_reverse,List.map_cons,List.reverse_cons,show m-1=(List.map (fun j:Nat=>Value.int .i64 (j:Int)) r).reverse.length by simp;omega,List.getElem?_append_right (Nat.le_refl _)]
       simp
      obtain⟨g2,off2,hA2,hg2,hcell2⟩:=(Reads.of_own ownC).2 (by omega);have e3:=hcell2 _ _ hVm;have hrow2:=hrow g2 (by rw[hA2];rfl);rw[hmm] at ownC hcc hsl hd64 hstay ⊢;have hop:(l[p]?.map opensP)=some (opensP tp):=by rw[htp];rfl
      have dm:decide ((0:Int)<(m:Int))=true:=by simp;omega
      have dm2:decide (0<m)=true:=by simp;omega
      have dw:IntKind.i64.wrap ((m:Int)-1)=(m:Int)-1:=by rw[IntKind.wrap_i64];omega
      have dn:((m:Int)-1).toNat=m-1:=by omega
      have d5:(0:Int)≤(m:Int)-1:=by omega
      have d6:(m:Int)-1<(m:Int):=by omega
      have d7:(p:Int)<(n:Int):=by omega
      obtain⟨q,hq⟩:∃ q,decide (opensP tp=t.text)=q:=⟨_,rfl⟩;have dq:((bytesOf (opensP tp)).toList==(bytesOf t.text).toList)=q:=by rw[bytesOf_toList,bytesOf_toList,←hq];rw[Bool.eq_iff_iff];simp
      subst hA2;have x0:=bw_cell (B:=w2.heap.size) y0 hl2;have x1:=bw_cell (B:=w2.heap.size) y1 hl2;have x2:=bw_cell (B:=w2.heap.size) e0 (by show b<_;omega);have x3:=bw_cell (B:=w2.heap.size) e1 (by show b<_;omega);have x4:=bw_cell (B:=w2.heap.size) e2 (by show b<_;omega);have x5:=bw_cell (B:=w2.heap.size) e3 hg2;have ht1:=Lib.hid ht;have hS1:=Lib.hid hS;have hop1:=Lib.hid hop;have hq1:=Lib.hid hq;have hk1:=Lib.hid hk13;have hmm1:=Lib.hid hmm;have hm1:=Lib.hid hm;clear ht hS hop hq hk13 hmm hm hVm htp e0 e1 e2 y0 y1 hcell2 e3 ho ht0
      go_wp2_with fail
      refine wp_region_bw w2.heap.size (by kernel_rfl) (by kernel_rfl) ?_
      repeat(go_big_quiet_step (first | (go_at_call 58;rename_i W;exact calls_bw (Nat.le_refl _) (nest_opens tp W.val))))
      refine wpQuiet_nil ?_
      intro _ hw';obtain⟨W,rfl⟩:=hw';have hWb:=W.is
      cases q with
      | true =>
       have hpop:=step_pop ht1.out Ho.out hS1.out hk1.out (by rw[hop1.out];congr 1;exact of_decide_eq_true hq1.out);have hpart:=fun j=>part_pop ht1.out Ho.out hS1.out hpop j
       have HP:Hid (∀ j,(if j=p then (k:Int) else if j=k then -1 else partE l k j)=partE l (k+1) j):=hpart
       have HS:Hid (stackV l k=stackV l (k+1)++[.int .i64 (p:Int)]):=by
        show _=_
        unfold stackV;rw[hpop,hS1.out];simp
       have HL:Hid ((stackP l (k+1)).length=m-1):=by
        show _=_
        rw[hpop,←hmm1.out,hm1.out];simp
       have oW:=oC.below hWb (by omega);obtain⟨p1,p2⟩:=oW.cell p (by rw[Hlen.out];omega);have oX:=oW.store p (by rw[Hlen.out];omega) (k:Int);have ownW:=own_below ownC hWb;have bW:Below w.heap.size w W.val:=bC.trans (hWb.mono (by omega));clear hpart hpop hstay ownC oC bC;have x5W:=x5 W;have dcap:(m:Int)-1≤(c2:Int):=by omega
       have hoff:off2=0:=by
        obtain⟨g3,cap3,hv,_,_⟩:=ownW.form (by omega)
        injection hv with hv
        injection hv with hv
        injection hv
       have ownX:=ownsRow_setCell_below ownW (a:=⟨w.heap.size,p,none⟩) (by simp) (.int .i64 (k:Int))
       have ownY:(W.val.setCell ⟨w.heap.size,p,none⟩ (.int .i64 (k:Int))).ownsRow (w.heap.size+1) 3 1 (.slice (some ⟨g2,off2,none⟩) (m-1) c2) (stackP l (k+1)).length (stackV l (k+1)):=by
        rw[HL.out];rw[hoff] at ownX ⊢;rw[HS.out] at ownX;have e:m-1+1=m:=by omega
        refine ownsRow_pop (n:=m-1) (last:=[.int .i64 (p:Int)]) (by rw[stackV_len,HL.out];omega) ?_
        rw[e];exact ownX
       have bX:Below w.heap.size w (W.val.setCell ⟨w.heap.size,p,none⟩ (.int .i64 (k:Int))):=bW.setCell (Nat.le_refl _) _
       have hJ2:Hid (EJ w (W.val.setCell ⟨w.heap.size,p,none⟩ (.int .i64 (k:Int))) l (k+1) (.slice (some ⟨g2,off2,none⟩) (m-1) c2)):=⟨bX,oX.congr (fun j _=>HP.out j),ownY,fun i hi=>by
        rcases Nat.lt_or_ge i (k+1) with h1|h1
        ·exact hdp i (by omega)
        ·rw[show i=k+1 by omega,HL.out];omega,by rw[Hlen.out];omega⟩
       clear ownX ownY bX oX ownW oW hdp hd64 hoff
       go_wp2_with fail
       go_step3
       refine⟨rfl,⟨k+1,_,_,_,_,_,_,_,_,_,_,_,_,_,_,_,_,_,_,_,_,_,_,_,_,_,_,_,_,_,_,_,_,_,_,_,_,_,_,_,_,_,_,_,_,_,_,_,_,_,_,_,_,_,_,_,_,_,_,_,_,_,_,_,_,_,_,_,_,_,_,_,_,_,_,_,_,_,_,_,_,rfl,hJ2.out⟩,?_⟩
       show n-((k:Int)+1).toNat<n-(k:Int).toNat
       omega
      | false =>
       have hJ2:=hstay (step_stay ht1.out Ho.out (fun p' r' hpr hh=>by
        rw[hS1.out] at hpr
        injection hpr with e1 e2
        subst e1;rw[hop1.out] at hh;have:=of_decide_eq_false hq1.out
        exact this (by have:=hh.2;injection this)))
       clear hstay ownC oC hdp hd64
       go_wp2_with fail
       go_step3
       refine⟨rfl,⟨k+1,_,_,_,_,_,_,_,_,_,_,_,_,_,_,_,_,_,_,_,_,_,_,_,_,_,_,_,_,_,_,_,_,_,_,_,_,_,_,_,_,_,_,_,_,_,_,_,_,_,_,_,_,_,_,_,_,_,_,_,_,_,_,_,_,_,_,_,_,_,_,_,_,_,_,_,_,_,_,_,_,rfl,hJ2.out _ hWb⟩,?_⟩
       show n-((k:Int)+1).toNat<n-(k:Int).toNat
       omega
    ·have k13:(t.kind==13)=false:=by simpa using hk13
     have hJ2:=hstay (step_stay ht ho (fun p r _ hpr=>hk13 hpr.1));clear hstay ownC oC hdp hd64 ho ht ht0 hk13
     go_wp2_with fail
     go_quiet (fail)
     go_wp2_with fail
     go_step3
     refine⟨rfl,⟨k+1,_,_,_,_,_,_,_,_,_,_,_,_,_,_,_,_,_,_,_,_,_,_,_,_,_,_,_,_,_,_,_,_,_,_,_,_,_,_,_,_,_,_,_,_,_,_,_,_,_,_,_,_,_,_,_,_,_,_,_,_,_,_,_,_,_,_,_,_,_,_,_,_,_,_,_,_,_,_,_,_,rfl,hJ2.out _ (below_drewN (Below.refl _ _) _)⟩,?_⟩
     show n-((k:Int)+1).toNat<n-(k:Int).toNat
     omega
   ·obtain⟨s1,s2⟩:=txt_not ho
    have hk13:(t.kind==13)=false:=by
     have:t.kind≠13:=fun e=>ho (by unfold opensP;simp[e])
     simpa using this
    have hpush:=step_push ht ho;have hpart:=fun j=>part_push ht ho j
    have hV:stackV l k++[Value.int .i64 (k:Int)]=stackV l (k+1):=by unfold stackV;rw[hpush];simp
    have hL:(stackP l k).length+1=(stackP l (k+1)).length:=by rw[hpush];rfl
    have HV:=Lib.hid hV;have HL:=Lib.hid hL;have HP:Hid (∀ j,(if j=k then -1 else partE l k j)=partE l (k+1) j):=hpart;clear hpart hV hL hpush ho ht
    go_wp2_with (at_builtin;refine wpList_append_own _ rfl _ _ 51 rfl (w.heap.size+1) 3 hi0 (.int .i64 0) 1 8 Tryz.underlying51 hi hz0 hz1 hz2 rfl (by decide) _ _ _ rfl (ownC.alloc _) ⟨w2.heap.size,0,none⟩ 1 1 [.int .i64 (k:Int)] rfl rfl ?e1 ?e2 ?e3 ?e4 ?e5 ?_)
    case e1=>exact cell_one_new _ _ _
    case e2=>intro u hu;simp at hu;subst hu;rfl
    case e3=>unfold maxLen;omega
    case e4=>omega
    case e5=>simp;omega
    intro v' w3 hown3 hgrow _;rw[HV.out,HL.out] at hown3;have hsz3:=hgrow.size;have hown2lt:=ownC.lt;have oD:=(oC.below ((Below.refl w2.heap.size w2).alloc (Nat.le_refl _) (.cells #[.int .i64 (k:Int)] 3)) (by omega)).grown hgrow (by intro e;have:=(hown2lt _ e.symm).1;omega);have bD:Below w.heap.size w w3:=push_below (bC.mono (Nat.le_refl _)) (by omega) (ownsRow_base ownC (by omega)) hgrow;have hne:some w1.heap.size≠(Value.slice A2 (stackP l k).length c2).ownBlock:=fun e=>by have:=(hrow _ e.symm).2;omega
    have z0:=World.cell?_alloc_lt w2 (.cells #[.int .i64 (k:Int)] 3) ⟨w1.heap.size,0,none⟩ hl2
    replace y0:=hgrow.cell (z0.trans y0) hne
    have z1:=World.cell?_alloc_lt w2 (.cells #[.int .i64 (k:Int)] 3) ⟨w1.heap.size,1,none⟩ hl2
    replace y1:=hgrow.cell (z1.trans y1) hne
    obtain⟨A3,c3,rfl,hcc3,hcm3⟩:=own_form hown3;clear ownC oC hgrow z0 z1 hown2lt hb2 hrow
    by_cases hdeep:64<(stackP l (k+1)).length
    ·have dd:decide ((64:Int)<((stackP l (k+1)).length:Int))=true:=by simp;omega
     have hfin:deepB l=false:=by
      unfold deepB;rw[List.all_eq_false]
      exact⟨k+1,List.mem_range.2 (by rw[Hlen.out];omega),by simp;omega⟩
     have HF:=Lib.hid hfin;clear hfin hdp hd64
     go_wp2_with fail
     simp only[Exit.jump]
     go_ret2
     refine⟨bD,?_⟩
     unfold EndsRet;rw[HF.out,if_neg (by decide)]
     rfl
    ·have dd:decide ((64:Int)<((stackP l (k+1)).length:Int))=false:=by simp;omega
     have hw1:IntKind.i64.wrap ((k:Int)+1)=(k:Int)+1:=by rw[IntKind.wrap_i64];omega
     have hJ2:∀ m,EJ w (w3.drewN m) l (k+1) (.slice A3 (stackP l (k+1)).length c3):=fun m=>⟨below_drewN bD _,(oD.drewN _).congr (fun j _=>HP.out j),own_drewN hown3 _,fun i hi=>by
      rcases Nat.lt_or_ge i (k+1) with h1|h1
      ·exact hdp i (by omega)
      ·rw[show i=k+1 by omega];omega,by rw[Hlen.out];omega⟩
     clear hdp hd64 hdeep
     go_wp2_with fail
     go_quiet (fail)
     go_wp2_with fail
     go_step3
     refine⟨rfl,⟨k+1,_,_,_,_,_,_,_,_,_,_,_,_,_,_,_,_,_,_,_,_,_,_,_,_,_,_,_,_,_,_,_,_,_,_,_,_,_,_,_,_,_,_,_,_,_,_,_,_,_,_,_,_,_,_,_,_,_,_,_,_,_,_,_,_,_,_,_,_,_,_,_,_,_,_,_,_,_,_,_,_,rfl,hJ2 _⟩,?_⟩
     show n-((k:Int)+1).toNat<n-(k:Int).toNat
     omega
  ·obtain rfl:k=n:=by have:=Hlen.out;omega
   have d0:((k:Int)==(k:Int))=true:=by simp
   have hdB:deepB l=true:=by
    unfold deepB;rw[List.all_eq_true];intro i hi;have:=hdp i (by have:=List.mem_range.1 hi;have:=Hlen.out;omega)
    simpa using this
   obtain⟨m,hmm⟩:∃ m,(stackP l k).length=m:=⟨_,rfl⟩;have ownJ:=hJ.own;rw[hmm] at ownJ hcc hsl hd64 ⊢;have HDB:=Lib.hid hdB;have Hmm:=Lib.hid hmm;have w1k:∀ i:Nat,i<m→IntKind.i64.wrap ((i:Int)+1)=(i:Int)+1:=fun i hi=>by rw[IntKind.wrap_i64];omega
   have bJ:=hJ.bel;have oJ:=hJ.out;clear hJ hdB hmm hdp
   go_wp2_with fail
   go_loopw [20] (fun x wx=>∃ i:Nat,i≤m∧x=.int .i64 (i:Int)∧Below w.heap.size w wx∧OutAt wx w.heap.size l.length (fun j=>if j∈(stackP l k).reverse.take i then (k:Int) else partE l k j)∧wx.ownsRow (w.heap.size+1) 3 1 (.slice A2 m c2) m (stackV l k)) (fun x _=>m-(intOf x).toNat)
   case atStart=>exact⟨0,Nat.zero_le _,rfl,bJ,oJ.congr (fun j _=>by simp),ownJ⟩
   case round =>
    obtain⟨i,him,rfl,hb,ho,hown⟩:=hrel
    by_cases hi':i<m
    ·have e0:decide ((i:Int)<(m:Int))=true:=by simp;omega
     have e1:(i:Int)<(m:Int):=by omega
     have hlen2:(stackP l k).reverse.length=m:=by rw[List.length_reverse];exact Hmm.out
     obtain⟨p,hp⟩:∃ p,(stackP l k).reverse[i]?=some p:=⟨_,List.getElem?_eq_getElem (by rw[hlen2];exact hi')⟩;have hpk:p<k:=stack_lt l k p (by have:=List.mem_of_getElem? hp;simpa using this);have hv:(stackV l k)[i]?=some (.int .i64 (p:Int)):=by unfold stackV;rw[List.getElem?_map,hp];rfl
     obtain⟨g2,off2,hA2,hg2,hc2'⟩:=(Reads.of_own hown).2 (by omega);have x1:=hc2' i _ hv;obtain⟨y1,y2⟩:=ho.cell p (by rw[Hlen.out];exact hpk);have oS:=ho.store p (by rw[Hlen.out];exact hpk) (k:Int);have bS:=hb.setCell (p:=⟨w.heap.size,p,none⟩) (Nat.le_refl _) (.int .i64 (k:Int));have ownS:=ownsRow_setCell_below hown (a:=⟨w.heap.size,p,none⟩) (by simp) (.int .i64 (k:Int))
     have oT:Hid (OutAt (wr.setCell ⟨w.heap.size,p,none⟩ (.int .i64 (k:Int))) w.heap.size l.length (fun j=>if j∈(stackP l k).reverse.take (i+1) then (k:Int) else partE l k j)):=by
      refine oS.congr fun j _=>?_
      rw[List.take_add_one,hp,Option.toList_some];simp only[List.mem_append,List.mem_singleton]
      by_cases q1:j=p
      ·simp[q1]
      ·simp[q1]
     have d7:(p:Int)<(k:Int):=by omega
     have wi:=w1k i hi';subst hA2;clear hc2' hv hp oS ho hown w1k hlen2
     go_wp2_with fail
     go_roundw
     case rel=>exact⟨i+1,by omega,by go_num,bS,oT.out,ownS⟩
     case measure=>simp[intOf];omega
    ·obtain rfl:i=m:=by omega
     have e0:decide ((i:Int)<(i:Int))=false:=by simp
     have hfin:Hid (EndsS wr (fun b=>b=w.heap.size) (some ⟨w.heap.size,0,none⟩) k l):=by
      refine⟨by rw[endsV_len,Hlen.out];omega,fun _=>⟨w.heap.size,0,rfl,rfl,fun j u hu=>?_⟩⟩
      have hj:j<l.length:=by have:=(List.getElem?_eq_some_iff.1 hu).1;rwa[endsV_len] at this
      rw[endsV_at l hj] at hu
      injection hu with hu
      rw[Nat.zero_add,(ho.cell j hj).1,←hu]
      congr 2
      rw[List.take_of_length_le (by rw[List.length_reverse,Hmm.out];omega)];have hjk:j<k:=by have:=Hlen.out;omega
      simp only[List.mem_reverse]
      by_cases hmem:j∈stackP l k
      ·rw[if_pos hmem]
       have:=last_end (l:=l) (p:=j) (by rw[Hlen.out];exact hmem);rw[this,Hlen.out]
      ·rw[if_neg hmem];unfold partE;rw[if_pos hjk,if_neg hmem]
     have hgl2:=ho.lt;clear ho hown w1k
     go_wp2_with fail
     simp only[Exit.jump]
     go_ret2
     refine⟨hb,?_⟩
     unfold EndsRet;rw[HDB.out,if_pos rfl]
     exact⟨rfl,hfin.out,hgl2⟩
 ·intro hrest
  go_wp2_with (at_make;refine wpList_make_full _ rfl _ _ 51 rfl w.heap.size 3 hi0 (.int .i64 0) 1 Tryz.underlying51 hi hz0 hz1 _ _ _ _ n rfl rfl rfl rfl ?b2 ?b3 ?b4 ?_)
  case b2=>rw[hz2];omega
  case b3=>unfold maxLen;omega
  case b4=>exact Nat.le_refl _
  intro w0 hown0 hg0
  have hown0':w0.ownsRow w.heap.size 3 1 (.slice (some ⟨w.heap.size,0,none⟩) n n) n (List.replicate n (.int .i64 0)):=by
   have e:(madeCells #[Value.int .i64 0] n).toList=List.replicate n (Value.int .i64 0):=toList_madeCells_one _ _;rw[e] at hown0;exact hown0
  have hgs:=(hown0.lt w.heap.size rfl).2;have hout:=OutAt.of_own hown0' (.inr hgs);have hJ0:EJ w w0 l 0 (.slice none 0 0):=⟨(Below.refl _ _).grown hg0 (Nat.le_refl _) (by simp),by rw[Hlen.out];exact hout,World.ownsRow_nil _ _ _ _,fun i hi=>by rw[Nat.le_zero.1 hi];simp[stackP],Nat.zero_le _⟩;clear hown0 hown0' hout
  go_wp2_with fail
  go_step3
  rename_i K hK
  exact hK _ _ (hrest _ _ ⟨0,.slice none 0 0,_,_,_,_,_,_,_,_,_,_,_,_,_,_,_,_,_,_,_,_,_,_,_,_,_,_,_,_,_,_,_,_,_,_,_,_,_,_,_,_,_,_,_,_,_,_,_,_,_,_,_,_,_,_,_,_,_,_,_,_,_,_,_,_,_,_,_,_,_,_,_,_,_,_,_,_,_,_,_,rfl,hJ0⟩)
namespace Ru
def few4 (l:List GTok):Bool:=decide (l.length≤100)&&l.all (fun t=>decide (t.text.length≤100))
def declFew (d:Decl):Bool:=decide (d.name.length≤100)&&decide (d.value.length≤20)&&few4 d.value
def declsFew (l:List Decl):Bool:=decide (l.length≤8)&&l.all declFew
def marginFew (m:Margin):Bool:=decide (m.name.length≤100)&&declsFew m.decls
def ruleFew (r:Rule):Bool:=decide (r.prelude.length≤20)&&few4 r.prelude&&decide (r.margins.length≤8)&&declsFew r.decls&&r.margins.all marginFew
def fewR (l:List Rule):Bool:=decide (l.length≤8)&&l.all ruleFew
def AllT (P:GTok→Prop) (l:List Rule):Prop:=∀ r∈l,(∀ t∈r.prelude,P t)∧(∀ d∈r.decls,∀ t∈d.value,P t)∧(∀ m∈r.margins,∀ d∈m.decls,∀ t∈d.value,P t)
def num64 (t:GTok):Prop:=-9223372036854775808≤t.n∧t.n≤9223372036854775807
def smallT (t:GTok):Prop:=t.text.length≤1000000∧-9223372036854775808≤t.n∧t.n≤9223372036854775807
end Ru
theorem declFew_facts {d:Decl} (h:declFew d=true):d.name.length≤100∧d.value.length≤20∧∀ t∈d.value,t.text.length≤100:=by
 unfold declFew few4 at h;simp only[Bool.and_eq_true,decide_eq_true_eq,List.all_eq_true] at h
 exact⟨h.1.1,h.1.2,h.2.2⟩
theorem declsFew_facts {l:List Decl} (h:declsFew l=true):l.length≤8∧∀ d∈l,declFew d=true:=by
 unfold declsFew at h;simp only[Bool.and_eq_true,decide_eq_true_eq,List.all_eq_true] at h
 exact h
theorem marginFew_facts {m:Margin} (h:marginFew m=true):m.name.length≤100∧declsFew m.decls=true:=by
 unfold marginFew at h;simp only[Bool.and_eq_true,decide_eq_true_eq] at h
 exact h
theorem ruleFew_facts {r:Rule} (h:ruleFew r=true):r.prelude.length≤20∧(∀ t∈r.prelude,t.text.length≤100)∧r.margins.length≤8∧declsFew r.decls=true∧∀ m∈r.margins,marginFew m=true:=by
 unfold ruleFew few4 at h;simp only[Bool.and_eq_true,decide_eq_true_eq,List.all_eq_true] at h
 exact⟨h.1.1.1.1,h.1.1.1.2.2,h.1.1.2,h.1.2,h.2⟩
theorem fewR_facts {l:List Rule} (h:fewR l=true):l.length≤8∧∀ r∈l,ruleFew r=true:=by
 unfold fewR at h;simp only[Bool.and_eq_true,decide_eq_true_eq,List.all_eq_true] at h
 exact h
theorem flat_le {α:Type} {f:α→List GTok} {b:Nat}:∀ {l:List α},(∀ x∈l,(f x).length≤b)→(l.flatMap f).length≤b * l.length
 | [],_=>by simp
 | x::l,h=>by
  have h1:=h x (by simp);have h2:=flat_le (l:=l) (fun y hy=>h y (by simp[hy]));rw[List.flatMap_cons,List.length_append,List.length_cons,Nat.mul_add];omega
theorem declT_le {d:Decl} (h:declFew d=true):(declT d).length≤25:=by
 have:=(declFew_facts h).2.1;rw[declT_len]
 split<;>simp[impT]<;>omega
theorem declsT_le {l:List Decl} (h:declsFew l=true):(l.flatMap declT).length≤200:=by
 obtain⟨h1,h2⟩:=declsFew_facts h;have:=flat_le (f:=declT) (b:=25) (l:=l) (fun d hd=>declT_le (h2 d hd))
 omega
theorem marginT_le {m:Margin} (h:marginFew m=true):(marginT m).length≤203:=by
 have:=declsT_le (marginFew_facts h).2;unfold marginT;simp at this ⊢;omega
theorem ruleT_le {r:Rule} (h:ruleFew r=true):(ruleT r).length≤1848:=by
 obtain⟨h1,_,h2,h3,h4⟩:=ruleFew_facts h;have a:=declsT_le h3;have b:=flat_le (f:=marginT) (b:=203) (l:=r.margins) (fun m hm=>marginT_le (h4 m hm));rw[ruleT_len];unfold headT innerT;rw[List.length_append]
 split<;>simp at a b ⊢<;>omega
theorem tokens_le {l:List Rule} (h:fewR l=true):(tokensP l).length≤1848 * l.length:=flat_le (fun r hr=>ruleT_le ((fewR_facts h).2 r hr))
theorem mem_declT {P:GTok→Prop} {d:Decl} (h1:P ⟨2,d.name,0⟩) (h2:P ⟨14,[],0⟩) (h3:∀ t∈d.value,P t) (h4:∀ t∈impT,P t) (h5:P semiT):∀ t∈declT d,P t:=by
 intro t ht;unfold declT at ht;simp only[List.mem_append,List.mem_cons,List.not_mem_nil,or_false] at ht
 rcases ht with (rfl|rfl)|h|h|rfl
 ·exact h1
 ·exact h2
 ·exact h3 t h
 ·split at h
  ·exact h4 t h
  ·cases h
 ·exact h5
theorem tokens_small {l:List Rule} (h:fewR l=true) (hn:AllT num64 l):∀ t∈tokensP l,smallT t:=by
 obtain⟨_,h2⟩:=fewR_facts h;have lit:∀ (k:Int) (x:List UInt8),x.length≤100→smallT ⟨k,x,0⟩:=fun k x hx=>⟨by show x.length≤_;omega,by show (-9223372036854775808:Int)≤0;decide,by show (0:Int)≤9223372036854775807;decide⟩
 have imp:∀ t∈impT,smallT t:=fun t ht=>by
  unfold impT at ht;simp only[List.mem_cons,List.not_mem_nil,or_false] at ht
  rcases ht with rfl|rfl
  ·exact lit _ _ (by decide)
  ·exact lit _ _ (by decide)
 have dec:∀ d:Decl,declFew d=true→(∀ t∈d.value,num64 t)→∀ t∈declT d,smallT t:=fun d hd hv=>by
  obtain⟨g1,g2,g3⟩:=declFew_facts hd
  exact mem_declT (lit _ _ g1) (lit _ _ (by decide)) (fun t ht=>⟨by have:=g3 t ht;omega,hv t ht⟩) imp (lit _ _ (by decide))
 intro t ht;obtain⟨r,hr,ht⟩:=List.mem_flatMap.1 ht;obtain⟨r1,r2,r3,r4,r5⟩:=ruleFew_facts (h2 r hr);obtain⟨n1,n2,n3⟩:=hn r hr;unfold ruleT headT innerT at ht;simp only[List.mem_append] at ht
 rcases ht with h|h|h|((h|h)|h)
 ·split at h
  ·simp only[List.mem_cons,List.not_mem_nil,or_false] at h
   rcases h with rfl|rfl
   ·exact lit _ _ (by decide)
   ·exact lit _ _ (by decide)
  ·cases h
 ·exact⟨by have:=r2 t h;omega,n1 t h⟩
 ·rw[List.mem_singleton.1 h];exact lit _ _ (by decide)
 ·obtain⟨d,hd,h⟩:=List.mem_flatMap.1 h
  exact dec d ((declsFew_facts r4).2 d hd) (n2 d hd) t h
 ·obtain⟨m,hm,h⟩:=List.mem_flatMap.1 h
  obtain⟨m1,m2⟩:=marginFew_facts (r5 m hm);unfold marginT at h;simp only[List.mem_append] at h
  rcases h with h|h|h|h
  ·rw[List.mem_singleton.1 h];exact lit _ _ m1
  ·rw[List.mem_singleton.1 h];exact lit _ _ (by decide)
  ·obtain⟨d,hd,h⟩:=List.mem_flatMap.1 h
   exact dec d ((declsFew_facts m2).2 d hd) (n3 m hm d hd) t h
  ·rw[List.mem_singleton.1 h];exact lit _ _ (by decide)
 ·rw[List.mem_singleton.1 h];exact lit _ _ (by decide)
end Go.Proofs.YtfhdihdafmahgaaGreatDoor
namespace Go.Proofs.YtfhdihdafmahgaaGreatDoor
open Go.RowKit Rn Tp Ru
theorem seg_all (l:List GTok):segP l 0 l.length=l:=by unfold segP;simp
theorem seg_split (l:List GTok) {k j z:Nat} (h1:k≤j) (h2:j≤z):segP l k z=segP l k j++segP l j z:=by
 unfold segP;have:l.take z=l.take j++(l.drop j).take (z-j):=by rw[←List.take_add,show j+(z-j)=z by omega]
 have h3:(l.take z).drop j=(l.drop j).take (z-j):=by rw[List.drop_take]
 rw[h3]
 by_cases hl:k≤l.length
 ·rw[this,List.drop_append_of_le_length (by rw[List.length_take];omega)]
 ·rw[List.drop_of_length_le (by rw[List.length_take];omega),List.drop_of_length_le (by rw[List.length_take];omega),List.drop_of_length_le (by omega),List.take_nil];rfl
theorem seg_length (l:List GTok) (k z:Nat):(segP l k z).length=min z l.length-k:=by unfold segP;simp
theorem seg_last {l:List GTok} {z:Nat} {t:GTok} (ht:l[z]?=some t):(segP l 0 (z+1)).reverse=t::(segP l 0 z).reverse:=by
 have hl:=(List.getElem?_eq_some_iff.1 ht).1;unfold segP;rw[List.take_add_one,ht,Option.toList_some,List.drop_zero,List.drop_zero,List.reverse_append];rfl
theorem dropS_app (a b:List GTok):dropS (a++b)=if dropS a=[] then dropS b else dropS a++b:=by
 unfold dropS;rw[List.dropWhile_append]
 cases h:List.dropWhile isSp a with
 | nil=>simp
 | cons t l=>simp
theorem dropS_none {a:List GTok} (h:∀ t∈a,t.kind=1):dropS a=[]:=by
 induction a with
 | nil=>rfl
 | cons t l ih =>
  unfold dropS;rw[List.dropWhile_cons_of_pos (by simp[isSp,h t (by simp)])]
  exact ih (fun x hx=>h x (by simp[hx]))
theorem dropS_nil {a:List GTok} (h:dropS a=[]):∀ t∈a,t.kind=1:=by
 induction a with
 | nil=>intro t ht;cases ht
 | cons t l ih =>
  unfold dropS at h
  by_cases h1:t.kind=1
  ·rw[List.dropWhile_cons_of_pos (by simp[isSp,h1])] at h
   intro x hx
   rcases List.mem_cons.1 hx with rfl|hx
   ·exact h1
   ·exact ih h x hx
  ·rw[List.dropWhile_cons_of_neg (by simp[isSp,h1])] at h;cases h
theorem dropS_first {a:List GTok} {t:GTok} {r:List GTok} (h:dropS a=t::r):t.kind≠1:=by
 intro h1
 have h2:=dropS_head (l:=dropS a) (by unfold dropS;induction a with
  | nil=>rfl
  | cons x l ih =>
   by_cases hx:isSp x=true
   ·rw[List.dropWhile_cons_of_pos hx];exact ih (by unfold dropS at h;rw[List.dropWhile_cons_of_pos hx] at h;exact h)
   ·rw[List.dropWhile_cons_of_neg hx,List.dropWhile_cons_of_neg hx])
 rw[h] at h2
 exact h2 t rfl h1
theorem rev_parts {l:List GTok} {z j i:Nat} (hz:z≤l.length) (hji:j≤i) (hiz:i≤z) (h1:dropS (segP l 0 z)=segP l j z) (h2:trimL (segP l 0 z)=segP l j i) :
  (j<i∧dropS (segP l 0 z).reverse=(segP l 0 i).reverse)∨(i=z∧dropS (segP l 0 z).reverse=[]∧∀ t∈segP l 0 z,t.kind=1):=by
 have hs:=seg_split l (k:=0) (j:=j) (z:=z) (by omega) (by omega)
 have ht:(segP l 0 z).takeWhile isSp=segP l 0 j:=by
  have h3:(segP l 0 z).takeWhile isSp++dropS (segP l 0 z)=segP l 0 z:=List.takeWhile_append_dropWhile;rw[h1] at h3
  exact List.append_cancel_right (h3.trans hs)
 have hsp:∀ t∈segP l 0 j,t.kind=1:=fun t hm=>by
  rw[←ht] at hm;have:=List.all_takeWhile (p:=isSp) (l:=segP l 0 z);rw[List.all_eq_true] at this
  simpa [isSp] using this t hm
 have hr:dropS (segP l j z).reverse=(segP l j i).reverse:=by
  have:rtrim (segP l j z)=segP l j i:=by rw[←h2];unfold trimL;rw[h1]
  unfold rtrim at this;rw[←this,List.reverse_reverse]
 have hrev:(segP l 0 z).reverse=(segP l j z).reverse++(segP l 0 j).reverse:=by rw[hs,List.reverse_append]
 by_cases hlt:j<i
 ·left
  refine⟨hlt,?_⟩
  rw[hrev,dropS_app,hr,if_neg,←List.reverse_append,←seg_split l (by omega) hji];intro e;have:=congrArg List.length e;rw[List.length_reverse,seg_length] at this
  simp at this;omega
 ·right
  have hij:i=j:=by omega
  have hz0:segP l j z=[]:=by
   cases hx:segP l j z with
   | nil=>rfl
   | cons t r =>
    have hn:=dropS_first (h1.trans hx);have h4:dropS (segP l j z).reverse=[]:=by rw[hr,hij];unfold segP;simp
    exact absurd (dropS_nil h4 t (by rw[hx];simp)) hn
  have hjz:j=z:=by
   have:=congrArg List.length hz0;rw[seg_length] at this
   simp at this;omega
  subst hjz
  exact⟨by omega,dropS_none (fun t ht=>hsp t (by simpa using ht)),hsp⟩
theorem imp_not {v:List GTok} {n:Nat} {t:GTok} (hn:v.length=n+1) (ht:v[n]?=some t) (h:namedB t 2 importantS=false):importantP v=none:=by
 have hr:v.reverse=t::(segP v 0 n).reverse:=by
  have:=seg_last ht;rw[←hn,seg_all] at this;exact this
 unfold importantP;rw[hr];simp only[h];rfl
theorem imp_yes {v:List GTok} {n:Nat} {t:GTok} (hn:v.length=n+1) (ht:v[n]?=some t) (h:namedB t 2 importantS=true) {j i:Nat} (hji:j≤i) (hiz:i≤n) (h1:dropS (segP v 0 n)=segP v j n) (h2:trimL (segP v 0 n)=segP v j i) :
  (importantP v=none∧∀ u,i≠0→v[i-1]?=some u→u.kind=1)∨∃ u,0<i∧v[i-1]?=some u∧importantP v=if u.kind=11∧u.text=[33] then some (dropS (segP v 0 (i-1)).reverse).reverse else none:=by
 have hr:v.reverse=t::(segP v 0 n).reverse:=by
  have:=seg_last ht;rw[←hn,seg_all] at this;exact this
 rcases rev_parts (by omega) hji hiz h1 h2 with⟨hlt,hd⟩|⟨rfl,hd,hall⟩
 ·right
  obtain⟨u,hu⟩:∃ u,v[i-1]?=some u:=⟨_,List.getElem?_eq_getElem (by omega)⟩
  refine⟨u,by omega,hu,?_⟩
  have hl:=seg_last hu;rw[show i-1+1=i by omega] at hl;unfold importantP;rw[hr];simp only[h,if_true];rw[hd,hl]
 ·left
  refine⟨?_,fun u hi hu=>hall u ?_⟩
  ·unfold importantP
   rw[hr];simp only[h,if_true];rw[hd]
  ·have:=seg_last hu
   rw[show i-1+1=i by omega] at this;rw[←List.mem_reverse,this];simp
theorem imp_value {v:List GTok} {m j i:Nat} (hm:m≤v.length) (hji:j≤i) (hiz:i≤m) (h1:dropS (segP v 0 m)=segP v j m) (h2:trimL (segP v 0 m)=segP v j i) (hv:∀ t∈v.head?,t.kind≠1) :
  (dropS (segP v 0 m).reverse).reverse=segP v 0 i:=by
 rcases rev_parts hm hji hiz h1 h2 with⟨hlt,hd⟩|⟨rfl,hd,hall⟩
 ·rw[hd,List.reverse_reverse]
 ·rw[hd]
  cases v with
  | nil=>simp[segP]
  | cons x v =>
   have hx:=hv x rfl
   cases i with
   | zero=>simp[segP]
   | succ i=>exact absurd (hall x (by simp[segP])) hx
theorem seg_mem {l:List GTok} {k z:Nat} {t:GTok} (h:t∈segP l k z):t∈l:=List.mem_of_mem_take (List.mem_of_mem_drop h)
theorem dropS_mem {l:List GTok} {t:GTok} (h:t∈dropS l):t∈l:=(List.dropWhile_suffix _).subset h
theorem trim_mem {l:List GTok} {t:GTok} (h:t∈trimL l):t∈l:=by
 unfold trimL rtrim at h;have h1:=dropS_mem (List.mem_reverse.1 h)
 exact dropS_mem (List.mem_reverse.1 h1)
theorem rtrim_head {l:List GTok} {t:GTok} {r:List GTok} (h:l=t::r) (ht:t.kind≠1):∀ u∈(rtrim l).head?,u.kind≠1:=by
 subst h;intro u hu;unfold rtrim at hu;rw[List.reverse_cons,dropS_app] at hu
 split at hu
 ·have:dropS [t]=[t]:=by unfold dropS;rw[List.dropWhile_cons_of_neg (by simp[isSp,ht])]
  rw[this] at hu
  simp at hu;subst hu;exact ht
 ·rw[List.reverse_append] at hu
  simp at hu;subst hu;exact ht
theorem trim_head (l:List GTok):∀ u∈(trimL l).head?,u.kind≠1:=by
 unfold trimL
 cases h:dropS l with
 | nil=>intro u hu;simp[rtrim,dropS] at hu
 | cons t r=>exact rtrim_head rfl (dropS_first h)
end Go.Proofs.YtfhdihdafmahgaaGreatDoor
