import Derived.Test.YtfhdihdafmahgaaGreatDoorR08
set_option linter.unusedVariables false
set_option linter.unusedSimpArgs false
namespace Go.Proofs.YtfhdihdafmahgaaGreatDoor
open Go.RowKit Rn
namespace Ru
def opensP (t:GTok):List UInt8 :=
 if t.kind=3∨(t.kind=12∧t.text=[40]) then [41] else if t.kind=12∧t.text=[91] then [93] else if t.kind=12∧t.text=[123] then [125] else []
def stepP (l:List GTok) (at':Nat) (st:List Nat):List Nat:=match l[at']? with
 | none=>st
 | some t =>
  if opensP t≠[] then at'::st
  else match st with
   | []=>[]
   | k::r=>if t.kind=13∧(l[k]?.map opensP)=some t.text then r else st
def stackP (l:List GTok):Nat→List Nat
 | 0=>[]
 | k+1=>stepP l k (stackP l k)
def closeP (l:List GTok) (k:Nat):Nat→Nat→Nat
 | 0,j=>l.length
 | f+1,j=>if k∉stackP l (j+1) then j else closeP l k f (j+1)
def endP (l:List GTok) (k:Nat):Int:=match l[k]? with
 | none=>-1
 | some t=>if opensP t=[] then -1 else (closeP l k (l.length-(k+1)) (k+1):Nat)
def endsP (l:List GTok):List Int:=(List.range l.length).map (endP l)
def deepB (l:List GTok):Bool:=(List.range (l.length+1)).all fun k=>decide ((stackP l k).length≤64)
end Ru
open Ru
theorem stack_lt (l:List GTok):∀ k,∀ j∈stackP l k,j<k
 | 0,j,h=>by cases h
 | k+1,j,h=>by
  have ih:=stack_lt l k;unfold stackP stepP at h
  split at h
  ·exact Nat.lt_succ_of_lt (ih j h)
  ·split at h
   ·rcases List.mem_cons.1 h with rfl|h
    ·exact Nat.lt_succ_self _
    ·exact Nat.lt_succ_of_lt (ih j h)
   ·split at h
    ·cases h
    ·rename_i heq
     split at h
     ·exact Nat.lt_succ_of_lt (ih j (by rw[heq];exact List.mem_cons_of_mem _ h))
     ·exact Nat.lt_succ_of_lt (ih j (by rw[heq];first | exact h | (rw[←heq];exact h)))
theorem stack_sorted (l:List GTok):∀ k,(stackP l k).Pairwise (· > ·)
 | 0=>List.Pairwise.nil
 | k+1=>by
  have ih:=stack_sorted l k;have hlt:=stack_lt l k;unfold stackP stepP
  split
  ·exact ih
  ·split
   ·exact List.Pairwise.cons hlt ih
   ·split
    ·exact List.Pairwise.nil
    ·rename_i heq
     rw[heq] at ih
     split
     ·exact(List.pairwise_cons.1 ih).2
     ·rw[heq];exact ih
theorem stack_gone (l:List GTok) {k j:Nat} (h:k∉stackP l j) (hk:k<j):k∉stackP l (j+1):=by
 unfold stackP stepP
 split
 ·exact h
 ·split
  ·intro h2
   rcases List.mem_cons.1 h2 with rfl|h2
   ·omega
   ·exact h h2
  ·split
   ·exact fun h=>by cases h
   ·rename_i heq
    rw[heq] at h
    split
    ·exact fun h2=>h (List.mem_cons_of_mem _ h2)
    ·rw[heq];exact h
theorem stack_succ (l:List GTok) (k:Nat):stackP l (k+1)=stepP l k (stackP l k):=rfl
theorem stack_has (l:List GTok) {k:Nat} {t:GTok} (ht:l[k]?=some t) (ho:opensP t≠[]):∀ d,(k::stackP l k) <:+ stackP l (k+1+d)∨k∉stackP l (k+1+d)
 | 0=>by
  left
  show _ <:+ stackP l (k+1)
  rw[stack_succ];unfold stepP;rw[ht];simp only[if_pos ho]
  exact List.suffix_refl _
 | d+1=>by
  rcases stack_has l ht ho d with h|h
  ·show _ <:+ stackP l (k+1+d+1)∨k∉stackP l (k+1+d+1)
   have hlt:=stack_lt l (k+1+d);obtain⟨p,hp⟩:=h;rw[stack_succ l (k+1+d)];unfold stepP;rw[←hp]
   split
   ·exact .inl ⟨p,rfl⟩
   ·split
    ·exact .inl ⟨(k+1+d)::p,rfl⟩
    ·split
     ·exact .inr (by simp)
     ·rename_i heq
      split
      ·cases p with
       | nil =>
        right
        simp only[List.nil_append,List.cons.injEq] at heq;rw[←heq.2];intro h2
        exact absurd (stack_lt l k k h2) (by omega)
       | cons x p =>
        left
        simp only[List.cons_append,List.cons.injEq] at heq
        exact⟨p,heq.2⟩
      ·exact .inl ⟨p,by first | rfl | exact heq⟩
  ·exact .inr (stack_gone l (j:=k+1+d) h (by omega))
theorem stack_test (l:List GTok) {k:Nat} {t:GTok} (ht:l[k]?=some t) (ho:opensP t≠[]) (d:Nat) :
  k∈stackP l (k+1+d)↔(stackP l (k+1+d)).reverse[(stackP l k).length]?=some k:=by
 constructor
 ·intro h
  rcases stack_has l ht ho d with⟨p,hp⟩|h2
  ·rw[←hp]
   simp
  ·exact absurd h h2
 ·intro h
  have:=List.mem_of_getElem? h
  simpa using this
end Go.Proofs.YtfhdihdafmahgaaGreatDoor
namespace Go.Proofs.YtfhdihdafmahgaaGreatDoor
open Go.RowKit Rn Tp
namespace Ru
structure Decl where
 name:List UInt8
 value:List GTok
 imp:Bool
deriving DecidableEq
structure Margin where
 name:List UInt8
 decls:List Decl
deriving DecidableEq
structure Rule where
 kind:Int
 prelude:List GTok
 decls:List Decl
 margins:List Margin
deriving DecidableEq
def isSp (t:GTok):Bool:=decide (t.kind=1)
def braceB (t:GTok):Bool:=decide (t.kind=12)&&decide (t.text=[123])
def semiB (t:GTok):Bool:=decide (t.kind=15)
def eitherB (t:GTok):Bool:=semiB t||braceB t
def skipP (l:List GTok) (k:Nat):Nat:=if (k:Int)≤endP l k then min ((endP l k).toNat+1) l.length else k+1
def findF (l:List GTok) (is:GTok→Bool) (z:Nat):Nat→Nat→Nat
 | 0,_=>z
 | f+1,k=>if k<z then (match l[k]? with
   | some t=>if is t=true then k else findF l is z f (skipP l k)
   | none=>z) else z
def findP (l:List GTok) (is:GTok→Bool) (k z:Nat):Nat:=findF l is z (z-k) k
def dropS (l:List GTok):List GTok:=l.dropWhile isSp
def rtrim (l:List GTok):List GTok:=(dropS l.reverse).reverse
def trimL (l:List GTok):List GTok:=rtrim (dropS l)
def segP (l:List GTok) (k z:Nat):List GTok:=(l.take z).drop k
def closedB (l:List GTok) (k:Nat):Bool:=decide (∃ j<l.length,endP l j=(k:Int))
def barB (t:GTok):Bool:=decide (t.kind=7)||(decide (t.kind=11)&&decide (t.text=[92]))
def soundAt (l:List GTok) (k:Nat):Bool:=match l[k]? with
 | some t=>!barB t&&!(decide (t.kind=13)&&!closedB l k)
 | none=>true
def openB (l:List GTok):Bool:=(List.range l.length).all fun k=>decide (endP l k≠(l.length:Int))
def soundP (l:List GTok):Bool:=rightB l&&deepB l&&openB l&&(List.range l.length).all (soundAt l)
def namedB (t:GTok) (k:Int) (s:List UInt8):Bool:=decide (t.kind=k)&&decide (lowerP t.text=s)
def importantS:List UInt8:=[105,109,112,111,114,116,97,110,116]
def pageS:List UInt8:=[112,97,103,101]
def importantP (v:List GTok):Option (List GTok):=match v.reverse with
 | []=>none
 | t::r=>if namedB t 2 importantS=true then (match dropS r with
   | []=>none
   | u::q=>if u.kind=11∧u.text=[33] then some (dropS q).reverse else none) else none
def declP (s:List GTok):Option Decl:=match s with
 | []=>none
 | t::r=>if t.kind=2 then (match dropS r with
   | []=>none
   | c::q=>if c.kind=14 then
     (let v:=trimL q
      let x:List GTok×Bool:=match importantP v with | some y=>(y,true) | none=>(v,false)
      if soundP x.1=true then some ⟨lowerP t.text,x.1,x.2⟩ else none) else none) else none
def boxes:List (List UInt8):=[
 [116,111,112,45,108,101,102,116,45,99,111,114,110,101,114],[116,111,112,45,108,101,102,116],[116,111,112,45,99,101,110,116,101,114],[116,111,112,45,114,105,103,104,116],
 [116,111,112,45,114,105,103,104,116,45,99,111,114,110,101,114],[114,105,103,104,116,45,116,111,112],[114,105,103,104,116,45,109,105,100,100,108,101],[114,105,103,104,116,45,98,111,116,116,111,109],
 [98,111,116,116,111,109,45,114,105,103,104,116,45,99,111,114,110,101,114],[98,111,116,116,111,109,45,114,105,103,104,116],[98,111,116,116,111,109,45,99,101,110,116,101,114],[98,111,116,116,111,109,45,108,101,102,116],
 [98,111,116,116,111,109,45,108,101,102,116,45,99,111,114,110,101,114],[108,101,102,116,45,98,111,116,116,111,109],[108,101,102,116,45,109,105,100,100,108,101],[108,101,102,116,45,116,111,112]]
def boxP (s:List UInt8):Int:=if lowerP s∈boxes then (boxes.idxOf (lowerP s):Nat) else -1
def itemsF (l:List GTok) (z:Nat):Nat→Nat→List (Nat×Nat)
 | 0,_=>[]
 | f+1,k=>if k<z then (match l[k]? with
   | some t =>
    if t.kind=1∨t.kind=15 then itemsF l z f (k+1)
    else if t.kind=4 then (k,findP l eitherB (k+1) z)::itemsF l z f (skipP l (findP l eitherB (k+1) z))
    else (k,findP l semiB k z)::itemsF l z f (findP l semiB k z)
   | none=>[]) else []
def itemsP (l:List GTok) (k z:Nat):List (Nat×Nat):=itemsF l z (z-k) k
def declOf (l:List GTok) (x:Nat×Nat):Option Decl:=match l[x.1]? with
 | some t=>if t.kind=4 then none else declP (segP l x.1 x.2)
 | none=>none
def declsP (l:List GTok) (k z:Nat):List Decl:=(itemsP l k z).filterMap (declOf l)
def marginOf (l:List GTok) (z:Nat) (x:Nat×Nat):Option Margin:=match l[x.1]? with
 | some t=>if t.kind=4∧x.2<z∧(l[x.2]?.map braceB)=some true∧0≤boxP t.text∧trimL (segP l (x.1+1) x.2)=[] then
   some ⟨lowerP t.text,declsP l (x.2+1) (min (endP l x.2).toNat z)⟩ else none
 | none=>none
def marginsP (l:List GTok) (k z:Nat):List Margin:=(itemsP l k z).filterMap (marginOf l z)
def ruleAt (l:List GTok) (t:GTok) (k e:Nat):Option Rule :=
 let at':Bool:=decide (t.kind=4)
 if e<l.length∧(l[e]?.map braceB)=some true∧(at'=true→lowerP t.text=pageS) then
  (let p:=trimL (segP l (if at'=true then k+1 else k) e)
   if soundP p=true then some ⟨if at'=true then 2 else 1,p,declsP l (e+1) (endP l e).toNat,if at'=true then marginsP l (e+1) (endP l e).toNat else []⟩ else none)
 else none
def ruleEnd (l:List GTok) (t:GTok) (k:Nat):Nat:=if t.kind=4 then findP l eitherB (k+1) l.length else findP l braceB k l.length
def rulesF (l:List GTok):Nat→Nat→List Rule
 | 0,_=>[]
 | f+1,k=>match l[k]? with
  | none=>[]
  | some t=>if t.kind=1 then rulesF l f (k+1)
   else (ruleAt l t k (ruleEnd l t k)).toList++rulesF l f (skipP l (ruleEnd l t k))
def rulesP (l:List GTok) (k:Nat):List Rule:=rulesF l (l.length-k) k
def parseT (l:List GTok):Int×List Rule:=if deepB l=false then (3,[]) else if 1024<(rulesP l 0).length then (2,[]) else (0,rulesP l 0)
end Ru
open Ru
theorem close_le (l:List GTok) (k:Nat):∀ f j,closeP l k f j≤l.length∨closeP l k f j<j+f
 | 0,j=>.inl (Nat.le_refl _)
 | f+1,j=>by
  unfold closeP
  split
  ·exact .inr (by omega)
  ·rcases close_le l k f (j+1) with h|h
   ·exact .inl h
   ·exact .inr (by omega)
theorem close_ge (l:List GTok) (k:Nat):∀ f j,j≤closeP l k f j∨closeP l k f j=l.length
 | 0,j=>.inr rfl
 | f+1,j=>by
  unfold closeP
  split
  ·exact .inl (Nat.le_refl _)
  ·rcases close_ge l k f (j+1) with h|h
   ·exact .inl (by omega)
   ·exact .inr h
theorem end_open {l:List GTok} {k:Nat} {t:GTok} (ht:l[k]?=some t) (ho:opensP t≠[]):∃ e:Nat,endP l k=(e:Int)∧k<e∧e≤l.length:=by
 have hk:k<l.length:=(List.getElem?_eq_some_iff.1 ht).1
 refine⟨closeP l k (l.length-(k+1)) (k+1),?_,?_,?_⟩
 ·unfold endP;rw[ht];simp only[if_neg ho]
 ·rcases close_ge l k (l.length-(k+1)) (k+1) with h | h<;>omega
 ·rcases close_le l k (l.length-(k+1)) (k+1) with h | h<;>omega
theorem end_else {l:List GTok} {k:Nat} (h:∀ t,l[k]?=some t→opensP t=[]):endP l k=-1:=by
 unfold endP
 split
 ·rfl
 ·rename_i t ht;rw[if_pos (h t ht)]
theorem end_cases (l:List GTok) (k:Nat):endP l k=-1∨∃ e:Nat,endP l k=(e:Int)∧k<e∧e≤l.length:=by
 by_cases h:∀ t,l[k]?=some t→opensP t=[]
 ·exact .inl (end_else h)
 ·obtain⟨t,h⟩:=Classical.not_forall.1 h
  obtain⟨h1,h2⟩:=Classical.not_imp.1 h
  exact .inr (end_open h1 h2)
theorem skip_gt {l:List GTok} {k:Nat} (hk:k<l.length):k<skipP l k:=by
 unfold skipP
 rcases end_cases l k with h|⟨e,h,h1,h2⟩
 ·rw[h,if_neg (by omega)];omega
 ·rw[h,if_pos (by omega)];simp;omega
theorem skip_ge (l:List GTok) (k:Nat):k≤skipP l k:=by
 unfold skipP
 rcases end_cases l k with h|⟨e,h,h1,h2⟩
 ·rw[h,if_neg (by omega)];omega
 ·rw[h,if_pos (by omega)];simp;omega
theorem skip_past {l:List GTok} {k:Nat} (hk:l.length≤k):skipP l k=k+1:=by
 unfold skipP;rw[end_else (fun t ht=>by rw[List.getElem?_eq_none hk] at ht;cases ht),if_neg (by omega)]
theorem skip_le {l:List GTok} {k:Nat} (hk:k<l.length):skipP l k≤l.length:=by
 unfold skipP
 rcases end_cases l k with h|⟨e,h,h1,h2⟩
 ·rw[h,if_neg (by omega)];omega
 ·rw[h,if_pos (by omega)];simp;omega
theorem findF_fuel (l:List GTok) (is:GTok→Bool) {z:Nat} (hto:z≤l.length):∀ f g k,z≤k+f→z≤k+g→findF l is z f k=findF l is z g k
 | 0,0,k,_,_=>rfl
 | 0,g+1,k,hf,_=>by unfold findF;rw[if_neg (by omega)]
 | f+1,0,k,_,hg=>by unfold findF;rw[if_neg (by omega)]
 | f+1,g+1,k,hf,hg=>by
  unfold findF
  split
  ·rename_i hk
   split
   ·split
    ·rfl
    ·have:=skip_gt (l:=l) (k:=k) (by omega)
     exact findF_fuel l is hto f g _ (by omega) (by omega)
   ·rfl
  ·rfl
theorem find_end {l:List GTok} {is:GTok→Bool} {k z:Nat} (h:z≤k):findP l is k z=z:=by
 unfold findP;rw[show z-k=0 by omega];rfl
theorem find_hit {l:List GTok} {is:GTok→Bool} {k z:Nat} {t:GTok} (hk:k<z) (ht:l[k]?=some t) (h:is t=true):findP l is k z=k:=by
 unfold findP;obtain⟨f,hf⟩:∃ f,z-k=f+1:=⟨z-k-1,by omega⟩;rw[hf];unfold findF;rw[if_pos hk,ht];simp[h]
theorem find_miss {l:List GTok} {is:GTok→Bool} {k z:Nat} {t:GTok} (hto:z≤l.length) (hk:k<z) (ht:l[k]?=some t) (h:is t=false):findP l is k z=findP l is (skipP l k) z:=by
 unfold findP;obtain⟨f,hf⟩:∃ f,z-k=f+1:=⟨z-k-1,by omega⟩;rw[hf]
 conv=>lhs;unfold findF
 rw[if_pos hk,ht];simp only[h,Bool.false_eq_true,if_false];have:=skip_gt (l:=l) (k:=k) (by omega)
 exact findF_fuel l is hto _ _ _ (by omega) (by omega)
theorem find_ge {l:List GTok} {is:GTok→Bool} {z:Nat} (hto:z≤l.length):∀ f k,k≤z→k≤findF l is z f k∧findF l is z f k≤z
 | 0,k,h=>⟨h,Nat.le_refl _⟩
 | f+1,k,h=>by
  unfold findF
  split
  ·rename_i hk
   split
   ·split
    ·exact⟨Nat.le_refl _,h⟩
    ·have h1:=skip_gt (l:=l) (k:=k) (by omega)
     by_cases h2:skipP l k≤z
     ·have:=find_ge (is:=is) hto f (skipP l k) h2
      omega
     ·have h3:findF l is z f (skipP l k)=z:=by
       cases f with
       | zero=>rfl
       | succ f=>unfold findF;rw[if_neg (by omega)]
      rw[h3];exact⟨h,Nat.le_refl _⟩
   ·exact⟨h,Nat.le_refl _⟩
  ·exact⟨h,Nat.le_refl _⟩
theorem find_bounds {l:List GTok} (is:GTok→Bool) {k z:Nat} (hto:z≤l.length) (h:k≤z):k≤findP l is k z∧findP l is k z≤z:=find_ge hto _ _ h
theorem find_is {l:List GTok} {is:GTok→Bool} {z:Nat}:∀ f k,findF l is z f k<z→(l[findF l is z f k]?.map is)=some true
 | 0,k,h=>absurd h (Nat.lt_irrefl _)
 | f+1,k,h=>by
  unfold findF at h ⊢
  split at h
  ·rename_i hk
   rw[if_pos hk]
   cases ht:l[k]? with
   | none=>rw[ht] at h;exact absurd h (Nat.lt_irrefl _)
   | some t =>
    rw[ht] at h;simp only[] at h ⊢
    by_cases hi:is t=true
    ·rw[if_pos hi,ht];simp[hi]
    ·rw[if_neg hi] at h ⊢;exact find_is f _ h
  ·exact absurd h (Nat.lt_irrefl _)
theorem itemsF_fuel (l:List GTok) {z:Nat} (hto:z≤l.length):∀ f g k,z≤k+f→z≤k+g→itemsF l z f k=itemsF l z g k
 | 0,0,k,_,_=>rfl
 | 0,g+1,k,hf,_=>by unfold itemsF;rw[if_neg (by omega)]
 | f+1,0,k,_,hg=>by unfold itemsF;rw[if_neg (by omega)]
 | f+1,g+1,k,hf,hg=>by
  unfold itemsF
  split
  ·rename_i hk
   split
   ·rename_i t ht
    split
    ·exact itemsF_fuel l hto f g _ (by omega) (by omega)
    ·rename_i hn
     split
     ·have h1:=(find_bounds (l:=l) eitherB hto (k:=k+1) (by omega)).1
      have h2:=skip_ge l (findP l eitherB (k+1) z);rw[itemsF_fuel l hto f g _ (by omega) (by omega)]
     ·have h1:k<findP l semiB k z:=by
       have hs:semiB t=false:=by unfold semiB;simp;omega
       rw[find_miss hto hk ht hs];have h2:=skip_gt (l:=l) (k:=k) (by omega)
       by_cases h3:skipP l k≤z
       ·have:=(find_bounds (l:=l) semiB hto h3).1;omega
       ·rw[find_end (by omega)];omega
      rw[itemsF_fuel l hto f g _ (by omega) (by omega)]
   ·rfl
  ·rfl
theorem semi_gt {l:List GTok} {k z:Nat} {t:GTok} (hto:z≤l.length) (hk:k<z) (ht:l[k]?=some t) (h:t.kind≠15):k<findP l semiB k z:=by
 have hs:semiB t=false:=by unfold semiB;simp[h]
 rw[find_miss hto hk ht hs];have h2:=skip_gt (l:=l) (k:=k) (by omega)
 by_cases h3:skipP l k≤z
 ·have:=(find_bounds (l:=l) semiB hto h3).1;omega
 ·rw[find_end (by omega)];omega
theorem items_end {l:List GTok} {k z:Nat} (h:z≤k):itemsP l k z=[]:=by
 unfold itemsP;rw[show z-k=0 by omega];rfl
theorem items_sp {l:List GTok} {k z:Nat} {t:GTok} (hto:z≤l.length) (hk:k<z) (ht:l[k]?=some t) (h:t.kind=1∨t.kind=15):itemsP l k z=itemsP l (k+1) z:=by
 unfold itemsP;obtain⟨f,hf⟩:∃ f,z-k=f+1:=⟨z-k-1,by omega⟩;rw[hf]
 conv=>lhs;unfold itemsF
 rw[if_pos hk,ht];simp only[if_pos h]
 exact itemsF_fuel l hto _ _ _ (by omega) (by omega)
theorem items_at {l:List GTok} {k z:Nat} {t:GTok} (hto:z≤l.length) (hk:k<z) (ht:l[k]?=some t) (h:t.kind=4):itemsP l k z=(k,findP l eitherB (k+1) z)::itemsP l (skipP l (findP l eitherB (k+1) z)) z:=by
 have h1:=(find_bounds (l:=l) eitherB hto (k:=k+1) (by omega)).1;have h2:=skip_ge l (findP l eitherB (k+1) z);unfold itemsP;obtain⟨f,hf⟩:∃ f,z-k=f+1:=⟨z-k-1,by omega⟩;rw[hf]
 conv=>lhs;unfold itemsF
 rw[if_pos hk,ht];simp only[h];rw[if_neg (by omega),if_pos trivial];rw[itemsF_fuel l hto f (z-skipP l (findP l eitherB (k+1) z)) _ (by omega) (by omega)]
theorem items_else {l:List GTok} {k z:Nat} {t:GTok} (hto:z≤l.length) (hk:k<z) (ht:l[k]?=some t) (h1:t.kind≠1) (h2:t.kind≠15) (h3:t.kind≠4):itemsP l k z=(k,findP l semiB k z)::itemsP l (findP l semiB k z) z:=by
 have h4:=semi_gt hto hk ht h2;unfold itemsP;obtain⟨f,hf⟩:∃ f,z-k=f+1:=⟨z-k-1,by omega⟩;rw[hf]
 conv=>lhs;unfold itemsF
 rw[if_pos hk,ht];simp only[];rw[if_neg (by omega),if_neg h3];rw[itemsF_fuel l hto f (z-findP l semiB k z) _ (by omega) (by omega)]
theorem end_ge {l:List GTok} {t:GTok} {k:Nat} (hk:k<l.length):k≤ruleEnd l t k∧ruleEnd l t k≤l.length:=by
 unfold ruleEnd
 split
 ·have:=find_bounds (l:=l) eitherB (Nat.le_refl _) (k:=k+1) (by omega);omega
 ·exact find_bounds (l:=l) braceB (Nat.le_refl _) (by omega)
theorem rule_next {l:List GTok} {t:GTok} {k:Nat} (hk:k<l.length):k<skipP l (ruleEnd l t k):=by
 obtain⟨h1,h2⟩:=end_ge (t:=t) hk
 by_cases h:ruleEnd l t k<l.length
 ·have:=skip_gt h;omega
 ·rw[skip_past (by omega)];omega
theorem rulesF_fuel (l:List GTok):∀ f g k,l.length≤k+f→l.length≤k+g→rulesF l f k=rulesF l g k
 | 0,0,k,_,_=>rfl
 | 0,g+1,k,hf,_=>by unfold rulesF;rw[List.getElem?_eq_none (by omega)]
 | f+1,0,k,_,hg=>by unfold rulesF;rw[List.getElem?_eq_none (by omega)]
 | f+1,g+1,k,hf,hg=>by
  unfold rulesF
  split
  ·rfl
  ·rename_i t ht
   have hk:k<l.length:=(List.getElem?_eq_some_iff.1 ht).1
   split
   ·exact rulesF_fuel l f g _ (by omega) (by omega)
   ·have:=rule_next (t:=t) hk
    rw[rulesF_fuel l f g _ (by omega) (by omega)]
theorem rules_end {l:List GTok} {k:Nat} (h:l.length≤k):rulesP l k=[]:=by
 unfold rulesP;rw[show l.length-k=0 by omega];rfl
theorem rules_sp {l:List GTok} {k:Nat} {t:GTok} (ht:l[k]?=some t) (h:t.kind=1):rulesP l k=rulesP l (k+1):=by
 have hk:k<l.length:=(List.getElem?_eq_some_iff.1 ht).1;unfold rulesP;obtain⟨f,hf⟩:∃ f,l.length-k=f+1:=⟨l.length-k-1,by omega⟩;rw[hf]
 conv=>lhs;unfold rulesF
 rw[ht];simp only[if_pos h]
 exact rulesF_fuel l _ _ _ (by omega) (by omega)
theorem rules_item {l:List GTok} {k:Nat} {t:GTok} (ht:l[k]?=some t) (h:t.kind≠1):rulesP l k=(ruleAt l t k (ruleEnd l t k)).toList++rulesP l (skipP l (ruleEnd l t k)):=by
 have hk:k<l.length:=(List.getElem?_eq_some_iff.1 ht).1;have:=rule_next (t:=t) hk;unfold rulesP;obtain⟨f,hf⟩:∃ f,l.length-k=f+1:=⟨l.length-k-1,by omega⟩;rw[hf]
 conv=>lhs;unfold rulesF
 rw[ht];simp only[if_neg h];rw[rulesF_fuel l f (l.length-skipP l (ruleEnd l t k)) _ (by omega) (by omega)]
end Go.Proofs.YtfhdihdafmahgaaGreatDoor
namespace Go.Proofs.YtfhdihdafmahgaaGreatDoor
open Go.RowKit Rn Tk Ru
def ReadsS (w:World) (S:Nat→Prop) (size:Nat) (A:Option Addr) (n:Nat) (xs:List Value):Prop :=
 xs.length=n * size∧(0<n→∃ b off,A=some ⟨b,off,none⟩∧S b∧∀ j u,xs[j]?=some u→w.cell? ⟨b,off+j,none⟩=some u)
def Kept (S:Nat→Prop) (w w':World):Prop:=∀ b,S b→w'.heap[b]?=w.heap[b]?
theorem Kept.trans {S:Nat→Prop} {a b c:World} (h:Kept S a b) (k:Kept S b c):Kept S a c:=fun x hx=>(k x hx).trans (h x hx)
theorem Kept.of_below {S:Nat→Prop} {B:Nat} {w w':World} (h:Below B w w') (hS:∀ b,S b→b<B):Kept S w w':=fun b hb=>h.block b (hS b hb)
theorem Kept.of_grown {S:Nat→Prop} {row:Option Nat} {w w':World} (h:w.grownBy w' row) (hS:∀ b,S b→b<w.heap.size∧some b≠row):Kept S w w':=fun b hb=>h.block b (hS b hb).1 (hS b hb).2
theorem Kept.of_alloc {S:Nat→Prop} {w:World} (o:Obj) (hS:∀ b,S b→b<w.heap.size):Kept S w (w.alloc o):=fun b hb=>Below.heap_alloc w o b (hS b hb)
theorem Kept.drewN {S:Nat→Prop} {w w':World} (h:Kept S w w') (k:Nat):Kept S w (w'.drewN k):=h
section
variable {w w':World} {S S':Nat→Prop} {size n:Nat} {A:Option Addr} {xs:List Value}
theorem ReadsS.keep (h:ReadsS w S size A n xs) (hk:Kept S w w'):ReadsS w' S size A n xs :=
 ⟨h.1,fun hn=>by
  obtain⟨b,off,e,hb,hc⟩:=h.2 hn
  exact⟨b,off,e,hb,fun j u hu=>(World.cell?_of_block (w:=w) (hk b hb)).trans (hc j u hu)⟩⟩
theorem ReadsS.more (h:ReadsS w S size A n xs) (hS:∀ b,S b→S' b):ReadsS w S' size A n xs :=
 ⟨h.1,fun hn=>by
  obtain⟨b,off,e,hb,hc⟩:=h.2 hn
  exact⟨b,off,e,hS b hb,hc⟩⟩
theorem ReadsS.reads {B:Nat} (h:ReadsS w S size A n xs) (hS:∀ b,S b→b<B):Reads w B size A n xs:=h.more hS
theorem ReadsS.of_own {base:Nat} {e:TypeId} {c:Nat} (h:w.ownsRow base e size (.slice A n c) n xs) (hS:∀ b,(Value.slice A n c).ownBlock=some b→S b):ReadsS w S size A n xs:=by
 obtain⟨h1,h2⟩:=Reads.of_own h
 refine⟨h1,fun hn=>?_⟩
 obtain⟨b,off,rfl,hb,hc⟩:=h2 hn
 exact⟨b,off,rfl,hS b rfl,hc⟩
theorem ReadsS.nil:ReadsS w S size A 0 []:=⟨by simp,fun h=>absurd h (by omega)⟩
end
structure MDecl where
 d:Decl
 A:Option Addr
 c:Nat
def MDecl.cells (m:MDecl):List Value:=[.string (bytesOf m.d.name),.slice m.A m.d.value.length m.c,.bool m.d.imp]
def cellsD (ms:List MDecl):List Value:=ms.flatMap MDecl.cells
def DeclsM (w:World) (S:Nat→Prop) (ms:List MDecl):Prop:=∀ m∈ms,ReadsS w S 3 m.A m.d.value.length (cellsG m.d.value)
def DeclsS (w:World) (S:Nat→Prop) (A:Option Addr) (n:Nat) (ds:List Decl):Prop:=∃ ms:List MDecl,ms.map (·.d)=ds∧ReadsS w S 3 A n (cellsD ms)∧DeclsM w S ms
structure MMargin where
 m:Margin
 A:Option Addr
 c:Nat
def MMargin.cells (x:MMargin):List Value:=[.string (bytesOf x.m.name),.slice x.A x.m.decls.length x.c]
def cellsM (ms:List MMargin):List Value:=ms.flatMap MMargin.cells
def MarginsM (w:World) (S:Nat→Prop) (ms:List MMargin):Prop:=∀ x∈ms,DeclsS w S x.A x.m.decls.length x.m.decls
def MarginsS (w:World) (S:Nat→Prop) (A:Option Addr) (n:Nat) (l:List Margin):Prop:=∃ ms:List MMargin,ms.map (·.m)=l∧ReadsS w S 2 A n (cellsM ms)∧MarginsM w S ms
structure MRule where
 r:Rule
 A1:Option Addr
 c1:Nat
 A2:Option Addr
 c2:Nat
 A3:Option Addr
 c3:Nat
def MRule.cells (x:MRule):List Value:=[.int .i64 x.r.kind,.slice x.A1 x.r.prelude.length x.c1,.slice x.A2 x.r.decls.length x.c2,.slice x.A3 x.r.margins.length x.c3]
def cellsR (ms:List MRule):List Value:=ms.flatMap MRule.cells
def MRule.Reads (w:World) (S:Nat→Prop) (x:MRule):Prop:=ReadsS w S 3 x.A1 x.r.prelude.length (cellsG x.r.prelude)∧DeclsS w S x.A2 x.r.decls.length x.r.decls∧MarginsS w S x.A3 x.r.margins.length x.r.margins
def RulesM (w:World) (S:Nat→Prop) (ms:List MRule):Prop:=∀ x∈ms,x.Reads w S
def RulesS (w:World) (S:Nat→Prop) (A:Option Addr) (n:Nat) (l:List Rule):Prop:=∃ ms:List MRule,ms.map (·.r)=l∧ReadsS w S 4 A n (cellsR ms)∧RulesM w S ms
section
variable {w w':World} {S S':Nat→Prop} {n:Nat} {A:Option Addr}
theorem DeclsM.keep {ms:List MDecl} (h:DeclsM w S ms) (hk:Kept S w w'):DeclsM w' S ms:=fun m hm=>(h m hm).keep hk
theorem DeclsM.more {ms:List MDecl} (h:DeclsM w S ms) (hS:∀ b,S b→S' b):DeclsM w S' ms:=fun m hm=>(h m hm).more hS
theorem DeclsS.keep {l:List Decl} (h:DeclsS w S A n l) (hk:Kept S w w'):DeclsS w' S A n l:=by
 obtain⟨ms,h1,h2,h3⟩:=h;exact⟨ms,h1,h2.keep hk,h3.keep hk⟩
theorem DeclsS.more {l:List Decl} (h:DeclsS w S A n l) (hS:∀ b,S b→S' b):DeclsS w S' A n l:=by
 obtain⟨ms,h1,h2,h3⟩:=h;exact⟨ms,h1,h2.more hS,h3.more hS⟩
theorem MarginsM.keep {ms:List MMargin} (h:MarginsM w S ms) (hk:Kept S w w'):MarginsM w' S ms:=fun m hm=>(h m hm).keep hk
theorem MarginsM.more {ms:List MMargin} (h:MarginsM w S ms) (hS:∀ b,S b→S' b):MarginsM w S' ms:=fun m hm=>(h m hm).more hS
theorem MarginsS.keep {l:List Margin} (h:MarginsS w S A n l) (hk:Kept S w w'):MarginsS w' S A n l:=by
 obtain⟨ms,h1,h2,h3⟩:=h;exact⟨ms,h1,h2.keep hk,h3.keep hk⟩
theorem MarginsS.more {l:List Margin} (h:MarginsS w S A n l) (hS:∀ b,S b→S' b):MarginsS w S' A n l:=by
 obtain⟨ms,h1,h2,h3⟩:=h;exact⟨ms,h1,h2.more hS,h3.more hS⟩
theorem MRule.Reads.keep {x:MRule} (h:x.Reads w S) (hk:Kept S w w'):x.Reads w' S:=⟨h.1.keep hk,h.2.1.keep hk,h.2.2.keep hk⟩
theorem MRule.Reads.more {x:MRule} (h:x.Reads w S) (hS:∀ b,S b→S' b):x.Reads w S':=⟨h.1.more hS,h.2.1.more hS,h.2.2.more hS⟩
theorem RulesM.keep {ms:List MRule} (h:RulesM w S ms) (hk:Kept S w w'):RulesM w' S ms:=fun m hm=>(h m hm).keep hk
theorem RulesM.more {ms:List MRule} (h:RulesM w S ms) (hS:∀ b,S b→S' b):RulesM w S' ms:=fun m hm=>(h m hm).more hS
theorem RulesS.keep {l:List Rule} (h:RulesS w S A n l) (hk:Kept S w w'):RulesS w' S A n l:=by
 obtain⟨ms,h1,h2,h3⟩:=h;exact⟨ms,h1,h2.keep hk,h3.keep hk⟩
theorem RulesS.more {l:List Rule} (h:RulesS w S A n l) (hS:∀ b,S b→S' b):RulesS w S' A n l:=by
 obtain⟨ms,h1,h2,h3⟩:=h;exact⟨ms,h1,h2.more hS,h3.more hS⟩
end
theorem flat_len {α:Type} {f:α→List Value} {s:Nat} (hf:∀ x,(f x).length=s) (l:List α):(l.flatMap f).length=l.length * s:=by
 induction l with
 | nil=>simp
 | cons x l ih=>rw[List.flatMap_cons,List.length_append,hf,ih,List.length_cons];rw[Nat.add_mul];omega
theorem flat_at {α:Type} {f:α→List Value} {s:Nat} (hf:∀ x,(f x).length=s):∀ (l:List α) (k j:Nat) (x:α),l[k]?=some x→j<s→(l.flatMap f)[k * s+j]?=(f x)[j]?
 | [],k,j,x,h,_=>by simp at h
 | y::l,0,j,x,h,hj=>by
  simp at h;subst h
  rw[List.flatMap_cons,List.getElem?_append_left (by rw[hf];omega)];simp
 | y::l,k+1,j,x,h,hj=>by
  rw[List.flatMap_cons,List.getElem?_append_right (by rw[hf,Nat.add_mul];omega),hf];rw[show (k+1) * s+j-s=k * s+j by rw[Nat.add_mul];omega]
  exact flat_at hf l k j x (by simpa using h) hj
theorem MDecl.len (m:MDecl):m.cells.length=3:=rfl
theorem MMargin.len (m:MMargin):m.cells.length=2:=rfl
theorem MRule.len (m:MRule):m.cells.length=4:=rfl
theorem ReadsS.elem {α:Type} {f:α→List Value} {s:Nat} (hf:∀ x,(f x).length=s) (hs:0<s) {w:World} {S:Nat→Prop} {A:Option Addr} {n:Nat} {l:List α} (h:ReadsS w S s A n (l.flatMap f)) :
  l.length=n∧(0<n→∃ b off,A=some ⟨b,off,none⟩∧S b∧∀ k x,l[k]?=some x→∀ j u,(f x)[j]?=some u→w.cell? ⟨b,off+k * s+j,none⟩=some u):=by
 have h1:=h.1;rw[flat_len hf] at h1;have h1':l.length=n:=Nat.eq_of_mul_eq_mul_right hs h1
 refine⟨h1',fun hn=>?_⟩
 obtain⟨b,off,hA,hb,hc⟩:=h.2 hn
 refine⟨b,off,hA,hb,fun k x hx j u hu=>?_⟩
 have hj:j<s:=by have:=(List.getElem?_eq_some_iff.1 hu).1;rw[hf] at this;exact this
 rw[Nat.add_assoc]
 exact hc _ u (by rw[flat_at hf l k j x hx hj];exact hu)
theorem DeclsS.len {w:World} {S:Nat→Prop} {A:Option Addr} {n:Nat} {l:List Decl} (h:DeclsS w S A n l):l.length=n:=by
 obtain⟨ms,rfl,h2,h3⟩:=h;rw[List.length_map];exact(h2.elem MDecl.len (by omega)).1
theorem MarginsS.len {w:World} {S:Nat→Prop} {A:Option Addr} {n:Nat} {l:List Margin} (h:MarginsS w S A n l):l.length=n:=by
 obtain⟨ms,rfl,h2,h3⟩:=h;rw[List.length_map];exact(h2.elem MMargin.len (by omega)).1
theorem RulesS.len {w:World} {S:Nat→Prop} {A:Option Addr} {n:Nat} {l:List Rule} (h:RulesS w S A n l):l.length=n:=by
 obtain⟨ms,rfl,h2,h3⟩:=h;rw[List.length_map];exact(h2.elem MRule.len (by omega)).1
theorem DeclsS.at_ {w:World} {S:Nat→Prop} {A:Option Addr} {n:Nat} {l:List Decl} (h:DeclsS w S A n l) {k:Nat} (hk:k<n) :
  ∃ b off A1 c1 d,A=some ⟨b,off,none⟩∧S b∧l[k]?=some d∧w.cell? ⟨b,off+k * 3,none⟩=some (.string (bytesOf d.name))∧w.cell? ⟨b,off+k * 3+1,none⟩=some (.slice A1 d.value.length c1)∧w.cell? ⟨b,off+k * 3+2,none⟩=some (.bool d.imp)∧ReadsS w S 3 A1 d.value.length (cellsG d.value):=by
 have hl:=h.len;obtain⟨ms,rfl,h2,h3⟩:=h;rw[List.length_map] at hl;obtain⟨b,off,hA,hb,hc⟩:=(h2.elem MDecl.len (by omega)).2 (by omega);have hm:ms[k]?=some ms[k]:=List.getElem?_eq_getElem (by omega);have hr:=h3 ms[k] (List.getElem_mem _)
 exact⟨b,off,ms[k].A,ms[k].c,ms[k].d,hA,hb,by simp[hm],hc k _ hm 0 _ rfl,hc k _ hm 1 _ rfl,hc k _ hm 2 _ rfl,hr⟩
theorem MarginsS.at_ {w:World} {S:Nat→Prop} {A:Option Addr} {n:Nat} {l:List Margin} (h:MarginsS w S A n l) {k:Nat} (hk:k<n) :
  ∃ b off A1 c1 m,A=some ⟨b,off,none⟩∧S b∧l[k]?=some m∧w.cell? ⟨b,off+k * 2,none⟩=some (.string (bytesOf m.name))∧w.cell? ⟨b,off+k * 2+1,none⟩=some (.slice A1 m.decls.length c1)∧DeclsS w S A1 m.decls.length m.decls:=by
 have hl:=h.len;obtain⟨ms,rfl,h2,h3⟩:=h;rw[List.length_map] at hl;obtain⟨b,off,hA,hb,hc⟩:=(h2.elem MMargin.len (by omega)).2 (by omega);have hm:ms[k]?=some ms[k]:=List.getElem?_eq_getElem (by omega);have hr:=h3 ms[k] (List.getElem_mem _)
 exact⟨b,off,ms[k].A,ms[k].c,ms[k].m,hA,hb,by simp[hm],hc k _ hm 0 _ rfl,hc k _ hm 1 _ rfl,hr⟩
theorem RulesS.at_ {w:World} {S:Nat→Prop} {A:Option Addr} {n:Nat} {l:List Rule} (h:RulesS w S A n l) {k:Nat} (hk:k<n) :
  ∃ b off A1 c1 A2 c2 A3 c3 r,A=some ⟨b,off,none⟩∧S b∧l[k]?=some r∧w.cell? ⟨b,off+k * 4,none⟩=some (.int .i64 r.kind)∧w.cell? ⟨b,off+k * 4+1,none⟩=some (.slice A1 r.prelude.length c1)
   ∧ w.cell? ⟨b,off+k * 4+2,none⟩=some (.slice A2 r.decls.length c2)∧w.cell? ⟨b,off+k * 4+3,none⟩=some (.slice A3 r.margins.length c3)
   ∧ ReadsS w S 3 A1 r.prelude.length (cellsG r.prelude)∧DeclsS w S A2 r.decls.length r.decls∧MarginsS w S A3 r.margins.length r.margins:=by
 have hl:=h.len;obtain⟨ms,rfl,h2,h3⟩:=h;rw[List.length_map] at hl;obtain⟨b,off,hA,hb,hc⟩:=(h2.elem MRule.len (by omega)).2 (by omega);have hm:ms[k]?=some ms[k]:=List.getElem?_eq_getElem (by omega);have hr:=h3 ms[k] (List.getElem_mem _)
 exact⟨b,off,ms[k].A1,ms[k].c1,ms[k].A2,ms[k].c2,ms[k].A3,ms[k].c3,ms[k].r,hA,hb,by simp[hm],hc k _ hm 0 _ rfl,hc k _ hm 1 _ rfl,hc k _ hm 2 _ rfl,hc k _ hm 3 _ rfl,hr.1,hr.2.1,hr.2.2⟩
theorem cellsD_snoc (ms:List MDecl) (m:MDecl):cellsD (ms++[m])=cellsD ms++[.string (bytesOf m.d.name),.slice m.A m.d.value.length m.c,.bool m.d.imp]:=by simp[cellsD,MDecl.cells]
theorem cellsM_snoc (ms:List MMargin) (m:MMargin):cellsM (ms++[m])=cellsM ms++[.string (bytesOf m.m.name),.slice m.A m.m.decls.length m.c]:=by simp[cellsM,MMargin.cells]
theorem cellsR_snoc (ms:List MRule) (m:MRule):cellsR (ms++[m])=cellsR ms++[.int .i64 m.r.kind,.slice m.A1 m.r.prelude.length m.c1,.slice m.A2 m.r.decls.length m.c2,.slice m.A3 m.r.margins.length m.c3]:=by simp[cellsR,MRule.cells]
theorem DeclsM.snoc {w:World} {S:Nat→Prop} {ms:List MDecl} {m:MDecl} (h:DeclsM w S ms) (hm:ReadsS w S 3 m.A m.d.value.length (cellsG m.d.value)):DeclsM w S (ms++[m]):=fun x hx=>by
 rcases List.mem_append.1 hx with h1|h1
 ·exact h x h1
 ·rw[List.mem_singleton.1 h1];exact hm
theorem MarginsM.snoc {w:World} {S:Nat→Prop} {ms:List MMargin} {m:MMargin} (h:MarginsM w S ms) (hm:DeclsS w S m.A m.m.decls.length m.m.decls):MarginsM w S (ms++[m]):=fun x hx=>by
 rcases List.mem_append.1 hx with h1|h1
 ·exact h x h1
 ·rw[List.mem_singleton.1 h1];exact hm
theorem RulesM.snoc {w:World} {S:Nat→Prop} {ms:List MRule} {m:MRule} (h:RulesM w S ms) (hm:m.Reads w S):RulesM w S (ms++[m]):=fun x hx=>by
 rcases List.mem_append.1 hx with h1|h1
 ·exact h x h1
 ·rw[List.mem_singleton.1 h1];exact hm
theorem cells1_len (t:GTok):(cells1 t).length=3:=rfl
theorem ReadsS.toks_len {w:World} {S:Nat→Prop} {A:Option Addr} {n:Nat} {l:List GTok} (h:ReadsS w S 3 A n (cellsG l)):l.length=n:=(h.elem cells1_len (by omega)).1
theorem ReadsS.tok {w:World} {S:Nat→Prop} {A:Option Addr} {n:Nat} {l:List GTok} (h:ReadsS w S 3 A n (cellsG l)) {k:Nat} (hk:k<n) :
  ∃ b off t,A=some ⟨b,off,none⟩∧S b∧l[k]?=some t∧w.cell? ⟨b,off+k * 3,none⟩=some (.int .i64 t.kind)∧w.cell? ⟨b,off+k * 3+1,none⟩=some (.string (bytesOf t.text))∧w.cell? ⟨b,off+k * 3+2,none⟩=some (.int .i64 t.n):=by
 obtain⟨hl,h2⟩:=h.elem cells1_len (by omega);obtain⟨b,off,hA,hb,hc⟩:=h2 (by omega);have hm:l[k]?=some l[k]:=List.getElem?_eq_getElem (by omega)
 exact⟨b,off,l[k],hA,hb,hm,hc k _ hm 0 _ rfl,hc k _ hm 1 _ rfl,hc k _ hm 2 _ rfl⟩
abbrev gtokV (t:GTok):Value:=.agg #[.int .i64 t.kind,.string (bytesOf t.text),.int .i64 t.n]
theorem txt_not {l c:List UInt8} (h:l≠c):¬ (bytesOf l).toList=c∧((bytesOf l).toList==c)=false:=by
 rw[bytesOf_toList];exact⟨h,by simpa using h⟩
theorem txt_is {l c:List UInt8} (h:l=c):(bytesOf l).toList=c∧((bytesOf l).toList==c)=true:=by
 rw[bytesOf_toList];exact⟨h,by simpa using h⟩
end Go.Proofs.YtfhdihdafmahgaaGreatDoor
namespace Go.Proofs.YtfhdihdafmahgaaGreatDoor
open Go.RowKit Rn Tp Ru
def Lies (L:List GTok) (p:Nat) (m:List GTok):Prop:=∃ pre post,L=pre++(m++post)∧pre.length=p
def Nst (m:List GTok):Prop:=∀ j t,m[j]?=some t→t.kind=13→∃ k r,stackP m j=k::r∧m[k]?.map opensP=some t.text
def Full (m:List GTok):Prop:=Nst m∧stackP m m.length=[]
theorem Lies.le {L m:List GTok} {p:Nat} (h:Lies L p m):p+m.length≤L.length:=by
 obtain⟨pre,post,rfl,rfl⟩:=h;simp
theorem Lies.get {L m:List GTok} {p:Nat} (h:Lies L p m) {j:Nat} (hj:j<m.length):L[p+j]?=m[j]?:=by
 obtain⟨pre,post,rfl,rfl⟩:=h;rw[List.getElem?_append_right (by omega),Nat.add_sub_cancel_left,List.getElem?_append_left hj]
theorem Lies.left {L a b:List GTok} {p:Nat} (h:Lies L p (a++b)):Lies L p a:=by
 obtain⟨pre,post,rfl,rfl⟩:=h
 exact⟨pre,b++post,by simp,rfl⟩
theorem Lies.right {L a b:List GTok} {p:Nat} (h:Lies L p (a++b)):Lies L (p+a.length) b:=by
 obtain⟨pre,post,rfl,rfl⟩:=h
 exact⟨pre++a,post,by simp,by simp⟩
theorem Lies.self (L:List GTok):Lies L 0 L:=⟨[],[],by simp,rfl⟩
theorem Lies.seg {L m:List GTok} {p:Nat} (h:Lies L p m):segP L p (p+m.length)=m:=by
 obtain⟨pre,post,rfl,rfl⟩:=h;unfold segP;rw[←List.append_assoc,show pre.length+m.length=(pre++m).length by simp,List.take_left',List.drop_left']
 ·rfl
 ·rfl
theorem stack_at {L m:List GTok} {p:Nat} (h:Lies L p m) (hn:Nst m∨stackP L p=[]):∀ j,j≤m.length→stackP L (p+j)=(stackP m j).map (·+p)++stackP L p
 | 0,_=>by simp[stackP]
 | j+1,hj=>by
  have ih:=stack_at h hn j (by omega);have hg:=h.get (j:=j) (by omega);have ht:m[j]?=some m[j]:=List.getElem?_eq_getElem (by omega);rw[←Nat.add_assoc,stack_succ,stack_succ,ih];unfold stepP;rw[hg,ht];simp only[]
  split
  ·simp[Nat.add_comm]
  ·have hlt:=stack_lt m j
   cases hS:stackP m j with
   | nil =>
    simp only[List.map_nil,List.nil_append]
    cases hs:stackP L p with
    | nil=>rfl
    | cons k r =>
     simp only[];rw[if_neg];rintro⟨hk,-⟩
     rcases hn with hn|hn
     ·obtain⟨k',r',e,_⟩:=hn j m[j] ht hk
      rw[hS] at e;cases e
     ·rw[hn] at hs;cases hs
   | cons k r =>
    have hk:k<j:=hlt k (by rw[hS];simp);have hgk:=h.get (j:=k) (by omega);simp only[List.map_cons,List.cons_append];rw[show k+p=p+k by omega,hgk]
    split
    ·rfl
    ·simp[Nat.add_comm]
theorem close_eq (l:List GTok) (k:Nat):∀ f j c,j+f=l.length→j≤c→c≤l.length→(∀ i,j≤i→i<c→k∈stackP l (i+1))→(c<l.length→k∉stackP l (c+1))→closeP l k f j=c
 | 0,j,c,h,h1,h2,_,_=>by unfold closeP;omega
 | f+1,j,c,h,h1,h2,h3,h4=>by
  unfold closeP
  by_cases e:j=c
  ·subst e;rw[if_pos (h4 (by omega))]
  ·rw[if_neg (by intro hn;exact hn (h3 j (Nat.le_refl _) (by omega)))]
   exact close_eq l k f (j+1) c (by omega) (by omega) h2 (fun i hi hc=>h3 i (by omega) hc) h4
theorem close_spec (l:List GTok) (k:Nat):∀ f j,j+f=l.length→(∀ i,j≤i→i<closeP l k f j→k∈stackP l (i+1))∧(closeP l k f j<l.length→k∉stackP l (closeP l k f j+1))
 | 0,j,h=>by unfold closeP;exact⟨fun i hi hc=>by omega,fun h=>absurd h (Nat.lt_irrefl _)⟩
 | f+1,j,h=>by
  unfold closeP
  split
  ·rename_i hn;exact⟨fun i hi hc=>by omega,fun _=>hn⟩
  ·rename_i hn
   obtain⟨h1,h2⟩:=close_spec l k f (j+1) (by omega)
   refine⟨fun i hi hc=>?_,h2⟩
   by_cases e:i=j
   ·subst e;exact Classical.not_not.1 hn
   ·exact h1 i (by omega) hc
theorem end_eq {l:List GTok} {k c:Nat} {t:GTok} (ht:l[k]?=some t) (ho:opensP t≠[]) (h1:k<c) (h2:c≤l.length) (h3:∀ i,k<i→i<c→k∈stackP l (i+1)) (h4:c<l.length→k∉stackP l (c+1)):endP l k=(c:Int):=by
 have hk:k<l.length:=(List.getElem?_eq_some_iff.1 ht).1;unfold endP;rw[ht];simp only[if_neg ho];rw[close_eq l k (l.length-(k+1)) (k+1) c (by omega) (by omega) h2 (fun i hi=>h3 i (by omega)) h4]
theorem end_spec {l:List GTok} {k c:Nat} (h:endP l k=(c:Int)):(∃ t,l[k]?=some t∧opensP t≠[])∧(∀ i,k<i→i<c→k∈stackP l (i+1))∧(c<l.length→k∉stackP l (c+1)):=by
 unfold endP at h
 split at h
 ·omega
 ·rename_i t ht
  have hk:k<l.length:=(List.getElem?_eq_some_iff.1 ht).1
  split at h
  ·omega
  ·rename_i ho
   obtain⟨h1,h2⟩:=close_spec l k (l.length-(k+1)) (k+1) (by omega);have hc:closeP l k (l.length-(k+1)) (k+1)=c:=by exact_mod_cast h
   rw[hc] at h1 h2
   exact⟨⟨t,ht,ho⟩,fun i hi=>h1 i (by omega),h2⟩
theorem mem_up {S st:List Nat} {p i:Nat} (h:∀ x∈st,x<p):p+i∈S.map (·+p)++st↔i∈S:=by
 simp only[List.mem_append,List.mem_map]
 constructor
 ·rintro (⟨x,hx,e⟩|hx)
  ·have:x=i:=by omega
   rw[←this];exact hx
  ·exact absurd (h _ hx) (by omega)
 ·intro hi;exact .inl ⟨i,hi,by omega⟩
theorem end_at {L m:List GTok} {p:Nat} (h:Lies L p m) (hn:Nst m∨stackP L p=[]) {i:Nat} (hi:i<m.length) (hc:endP m i<(m.length:Int)∨p+m.length=L.length):endP L (p+i)=if endP m i=-1 then -1 else endP m i+p:=by
 have hg:=h.get hi
 rcases end_cases m i with e|⟨c,e,h1,h2⟩
 ·rw[if_pos e]
  refine end_else fun t ht=>?_
  rw[hg] at ht;unfold endP at e;rw[ht] at e;simp only[] at e
  split at e
  ·assumption
  ·exact absurd e (by omega)
 ·rw[if_neg (by omega),e]
  obtain⟨⟨t,ht,ho⟩,h3,h4⟩:=end_spec e;have hs:=stack_at h hn;have hl:=h.le;have hst:=stack_lt L p
  have:=end_eq (l:=L) (k:=p+i) (c:=p+c) (t:=t) (by rw[hg,ht]) ho (by omega) (by omega) (fun x hx hxc=>by
   have h5:=h3 (x-p) (by omega) (by omega);have h6:=hs (x-p+1) (by omega);rw[show p+(x-p+1)=x+1 by omega] at h6;rw[h6,mem_up hst];exact h5) (fun hlt=>by
   have hcm:c<m.length:=by
    rcases hc with hc|hc
    ·rw[e] at hc;omega
    ·omega
   have h6:=hs (c+1) (by omega);rw[show p+(c+1)=p+c+1 by omega] at h6;rw[h6,mem_up hst];exact h4 hcm)
  rw[this];omega
theorem skip_at {L m:List GTok} {p:Nat} (h:Lies L p m) (hn:Nst m∨stackP L p=[]) {i:Nat} (hi:i<m.length) (hc:endP m i<(m.length:Int)∨p+m.length=L.length):skipP L (p+i)=p+skipP m i:=by
 have he:=end_at h hn hi hc;have hl:=h.le;unfold skipP
 rcases end_cases m i with e|⟨c,e,h1,h2⟩
 ·rw[he,e,if_pos rfl,if_neg (by omega),if_neg (by omega)];omega
 ·rw[e,if_neg (show ¬ (c:Int)=-1 by omega)] at he
  rw[he,e,if_pos (by omega),if_pos (by omega)];rw[e] at hc
  rcases hc with hc | hc<;>omega
theorem full_end {m:List GTok} (h:stackP m m.length=[]) {i:Nat} (hi:i<m.length):endP m i<(m.length:Int):=by
 rcases end_cases m i with e|⟨c,e,h1,h2⟩
 ·omega
 ·obtain⟨_,h3,_⟩:=end_spec e
  rcases Nat.lt_or_ge c m.length with h4|h4
  ·omega
  ·have hc:c=m.length:=by omega
   subst hc
   rcases Nat.lt_or_ge (i+1) m.length with h5|h5
   ·have:=h3 (m.length-1) (by omega) (by omega)
    rw[show m.length-1+1=m.length by omega,h] at this
    cases this
   ·exfalso
    obtain⟨t,ht,ho⟩:=(end_spec e).1;have hs:=stack_succ m i;rw[show i+1=m.length by omega,h] at hs;unfold stepP at hs;rw[ht] at hs;simp only[if_pos ho] at hs
    cases hs
theorem find_at {L m:List GTok} {p z:Nat} (is:GTok→Bool) (h:Lies L p m) (hf:Full m) (hto:p+m.length≤z) (htl:z≤L.length):∀ n i,m.length-i≤n→i≤m.length→findP L is (p+i) z=if findP m is i m.length<m.length then p+findP m is i m.length else findP L is (p+m.length) z
 | 0,i,hn,hi=>by
  have:i=m.length:=by omega
  subst this
  rw[find_end (Nat.le_refl _),if_neg (Nat.lt_irrefl _)]
 | n+1,i,hn,hi=>by
  by_cases hlt:i<m.length
  ·have hg:=h.get hlt
   have ht:m[i]?=some m[i]:=List.getElem?_eq_getElem hlt;rw[ht] at hg
   cases hb:is m[i] with
   | true =>
    rw[find_hit (by omega) hg hb,find_hit hlt ht hb,if_pos hlt]
   | false =>
    rw[find_miss htl (by omega) hg hb,find_miss (Nat.le_refl _) hlt ht hb,skip_at h (.inl hf.1) hlt (.inl (full_end hf.2 hlt))];have h1:=skip_gt hlt;have h2:=skip_le hlt
    exact find_at is h hf hto htl n (skipP m i) (by omega) h2
  ·have:i=m.length:=by omega
   subst this;rw[find_end (Nat.le_refl _),if_neg (Nat.lt_irrefl _)]
theorem find_over {L m:List GTok} {p z:Nat} {is:GTok→Bool} (h:Lies L p m) (hf:Full m) (hto:p+m.length≤z) (htl:z≤L.length) (hn:findP m is 0 m.length=m.length):findP L is p z=findP L is (p+m.length) z:=by
 have:=find_at is h hf hto htl m.length 0 (by omega) (by omega);rw[hn,if_neg (Nat.lt_irrefl _),Nat.add_zero] at this
 exact this
theorem skip_plain {L:List GTok} {k:Nat} {t:GTok} (ht:L[k]?=some t) (h:opensP t=[]):skipP L k=k+1:=by
 unfold skipP;rw[end_else (fun u hu=>by rw[ht] at hu;injection hu with hu;rw[←hu];exact h),if_neg (by omega)]
theorem find_next {L:List GTok} {k z:Nat} {t:GTok} {is:GTok→Bool} (htl:z≤L.length) (hk:k<z) (ht:L[k]?=some t) (h:opensP t=[]) (hb:is t=false):findP L is k z=findP L is (k+1) z:=by
 rw[find_miss htl hk ht hb,skip_plain ht h]
theorem Full.nil:Full []:=⟨fun j t h=>by simp at h,rfl⟩
theorem stack_app_left (a b:List GTok):∀ j,j≤a.length→stackP (a++b) j=stackP a j
 | 0,_=>rfl
 | j+1,hj=>by
  rw[stack_succ,stack_succ,stack_app_left a b j (by omega)];unfold stepP;rw[List.getElem?_append_left (by omega)];have ht:a[j]?=some a[j]:=List.getElem?_eq_getElem (by omega);rw[ht];simp only[]
  split
  ·rfl
  ·have hlt:=stack_lt a j
   cases hS:stackP a j with
   | nil=>rfl
   | cons k r =>
    have hk:k<j:=hlt k (by rw[hS];simp);simp only[];rw[List.getElem?_append_left (by omega)]
theorem Lies.app (a b:List GTok):Lies (a++b) a.length b:=⟨a,[],by simp,rfl⟩
theorem Full.app {a b:List GTok} (ha:Full a) (hb:Full b):Full (a++b):=by
 have hs:stackP (a++b) a.length=[]:=by rw[stack_app_left a b _ (Nat.le_refl _)];exact ha.2
 have hst:=stack_at (Lies.app a b) (.inr hs)
 refine⟨fun j t ht hk=>?_,?_⟩
 ·rcases Nat.lt_or_ge j a.length with hj|hj
  ·rw[List.getElem?_append_left hj] at ht
   obtain⟨k,r,e,e2⟩:=ha.1 j t ht hk;have hkj:=stack_lt a j k (by rw[e];simp)
   exact⟨k,r,by rw[stack_app_left a b j (by omega),e],by rw[List.getElem?_append_left (by omega)];exact e2⟩
  ·rw[List.getElem?_append_right hj] at ht
   have hjb:j-a.length<b.length:=(List.getElem?_eq_some_iff.1 ht).1;obtain⟨k,r,e,e2⟩:=hb.1 _ t ht hk;have hkj:=stack_lt b _ k (by rw[e];simp);have h1:=hst (j-a.length) (by omega);rw[show a.length+(j-a.length)=j by omega,e,hs] at h1
   refine⟨k+a.length,r.map (·+a.length),by rw[h1];simp,?_⟩
   rw[List.getElem?_append_right (by omega),show k+a.length-a.length=k by omega];exact e2
 ·have h1:=hst b.length (Nat.le_refl _)
  rw[hb.2,hs] at h1;rw[List.length_append,h1];rfl
theorem Full.one {t:GTok} (h:opensP t=[]) (h13:t.kind≠13):Full [t]:=by
 refine⟨fun j u hu hk=>?_,?_⟩
 ·cases j with
  | zero=>simp at hu;subst hu;exact absurd hk h13
  | succ j=>simp at hu
 ·show stackP [t] 1=[]
  rw[stack_succ];unfold stepP;simp[stackP,h]
theorem Full.flat {α:Type} {f:α→List GTok}:∀ {l:List α},(∀ x∈l,Full (f x))→Full (l.flatMap f)
 | [],_=>Full.nil
 | x::l,h=>by
  rw[List.flatMap_cons]
  exact(h x (by simp)).app (Full.flat (fun y hy=>h y (by simp[hy])))
theorem wrap_stack {o c:GTok} {m:List GTok} {L:List GTok} {p:Nat} (ho:opensP o≠[]) (hc13:c.kind=13) (hoc:opensP o=c.text) (hm:Full m) (h:Lies L p ([o]++(m++[c]))) :
  (∀ j,j≤m.length→stackP L (p+1+j)=(stackP m j).map (·+(p+1))++p::stackP L p)∧stackP L (p+1+m.length+1)=stackP L p:=by
 have h1:L[p]?=some o:=by have:=h.left.get (j:=0) (by simp);simpa using this
 have h2:Lies L (p+1) m:=h.right.left;have h3:L[p+1+m.length]?=some c:=by have:=h.right.right.get (j:=0) (by simp);simpa [Nat.add_assoc] using this
 have hs1:stackP L (p+1)=p::stackP L p:=by
  rw[stack_succ];unfold stepP;rw[h1];simp only[if_pos ho]
 have hall:=stack_at h2 (.inl hm.1);rw[hs1] at hall
 refine⟨hall,?_⟩
 have h4:=hall m.length (Nat.le_refl _);rw[hm.2] at h4;rw[stack_succ,h4];unfold stepP;rw[h3];have hcn:¬ opensP c≠[]:=by unfold opensP;simp[hc13]
 simp only[if_neg hcn,List.map_nil,List.nil_append];rw[if_pos ⟨hc13,by rw[h1];simp[hoc]⟩]
theorem wrap_end {o c:GTok} {m:List GTok} {L:List GTok} {p:Nat} (ho:opensP o≠[]) (hc13:c.kind=13) (hoc:opensP o=c.text) (hm:Full m) (h:Lies L p ([o]++(m++[c]))):endP L p=((p+1+m.length:Nat):Int):=by
 obtain⟨h1,h2⟩:=wrap_stack ho hc13 hoc hm h;have hg:L[p]?=some o:=by have:=h.left.get (j:=0) (by simp);simpa using this
 have hl:=h.le
 simp at hl
 refine end_eq hg ho (by omega) (by omega) (fun i hi hc=>?_) (fun _=>?_)
 ·have h3:=h1 (i-p) (by omega)
  rw[show p+1+(i-p)=i+1 by omega] at h3;rw[h3];simp
 ·rw[h2];intro hp;exact absurd (stack_lt L p p hp) (Nat.lt_irrefl _)
theorem Full.wrap {o c:GTok} {m:List GTok} (ho:opensP o≠[]) (ho13:o.kind≠13) (hc13:c.kind=13) (hoc:opensP o=c.text) (hm:Full m):Full ([o]++(m++[c])):=by
 obtain⟨h1,h2⟩:=wrap_stack ho hc13 hoc hm (Lies.self _);simp only[Nat.zero_add] at h1 h2
 refine⟨fun j t ht hk=>?_,?_⟩
 ·cases j with
  | zero=>simp at ht;subst ht;exact absurd hk ho13
  | succ j =>
   rcases Nat.lt_or_ge j m.length with hj|hj
   ·have ht':m[j]?=some t:=by
     rw[List.getElem?_append_right (by simp)] at ht;simp only[List.length_singleton,Nat.add_sub_cancel] at ht
     rwa[List.getElem?_append_left hj] at ht
    obtain⟨k,r,e,e2⟩:=hm.1 j t ht' hk;have hkj:=stack_lt m j k (by rw[e];simp);have h3:=h1 j (by omega);rw[show 1+j=j+1 by omega,e] at h3
    refine⟨k+1,_,by rw[h3];rfl,?_⟩
    rw[List.getElem?_append_right (by simp)];simp only[List.length_singleton,Nat.add_sub_cancel];rw[List.getElem?_append_left (by omega)];exact e2
   ·have h3:=h1 m.length (Nat.le_refl _)
    rw[hm.2] at h3
    have hj':j=m.length:=by
     have:=(List.getElem?_eq_some_iff.1 ht).1
     simp at this;omega
    subst hj'
    have htc:t=c:=by
     rw[List.getElem?_append_right (by simp)] at ht;simp only[List.length_singleton,Nat.add_sub_cancel] at ht;rw[List.getElem?_append_right (Nat.le_refl _)] at ht
     simp at ht;exact ht.symm
    subst htc
    refine⟨0,_,by rw[show m.length+1=1+m.length by omega,h3];rfl,by simp[hoc]⟩
 ·rw[show ([o]++(m++[c])).length=1+m.length+1 by simp;omega,h2];rfl
theorem stack_open (l:List GTok):∀ j,∀ k∈stackP l j,∃ t,l[k]?=some t∧opensP t≠[]
 | 0,k,h=>by cases h
 | j+1,k,h=>by
  have ih:=stack_open l j;rw[stack_succ] at h;unfold stepP at h
  split at h
  ·exact ih k h
  ·rename_i t ht
   split at h
   ·rename_i ho
    rcases List.mem_cons.1 h with rfl|h
    ·exact⟨t,ht,ho⟩
    ·exact ih k h
   ·split at h
    ·cases h
    ·rename_i heq
     split at h
     ·exact ih k (by rw[heq];exact List.mem_cons_of_mem _ h)
     ·exact ih k (by rw[heq];first | exact h | (rw[←heq];exact h))
theorem gone_on (l:List GTok) {k j:Nat} (h:k∉stackP l j) (hk:k<j):∀ d,k∉stackP l (j+d)
 | 0=>h
 | d+1=>stack_gone l (j:=j+d) (gone_on l h hk d) (by omega)
theorem sound_full {v:List GTok} (h:soundP v=true):Full v:=by
 unfold soundP at h;simp only[Bool.and_eq_true] at h;obtain⟨⟨⟨_,_⟩,ho⟩,hs⟩:=h;unfold openB at ho;rw[List.all_eq_true] at ho hs
 refine⟨fun j t ht hk=>?_,?_⟩
 ·have hj:j<v.length:=(List.getElem?_eq_some_iff.1 ht).1
  have h1:=hs j (List.mem_range.2 hj);unfold soundAt at h1;rw[ht] at h1;simp only[Bool.and_eq_true,Bool.not_eq_true',hk,decide_true,Bool.true_and,Bool.not_eq_false'] at h1
  have hc:closedB v j=true:=by
   cases hcc:closedB v j with
   | true=>rfl
   | false=>rw[hcc] at h1;simp at h1
  unfold closedB at hc;obtain⟨i,hi,hie⟩:=of_decide_eq_true hc;obtain⟨⟨u,hu,huo⟩,h3,h4⟩:=end_spec hie;have h5:=h4 hj
  have hij:i<j:=by
   rcases end_cases v i with e|⟨c,e,e1,e2⟩
   ·omega
   ·omega
  have h6:i∈stackP v j:=by
   rcases Nat.lt_or_ge (i+1) j with h7|h7
   ·have:=h3 (j-1) (by omega) (by omega)
    rwa[show j-1+1=j by omega] at this
   ·rw[show j=i+1 by omega,stack_succ];unfold stepP;rw[hu];simp only[if_pos huo];simp
  have hto:¬ opensP t≠[]:=by unfold opensP;simp[hk]
  rw[stack_succ] at h5;unfold stepP at h5;rw[ht] at h5;simp only[if_neg hto] at h5
  cases hS:stackP v j with
  | nil=>rw[hS] at h6;cases h6
  | cons k r =>
   rw[hS] at h5;simp only[] at h5
   split at h5
   ·rename_i hcond;exact⟨k,r,rfl,hcond.2⟩
   ·exact absurd (by rw[←hS];exact h6) h5
 ·cases hS:stackP v v.length with
  | nil=>rfl
  | cons k r =>
   exfalso
   have hk:k∈stackP v v.length:=by rw[hS];simp
   have hlt:=stack_lt v v.length k hk;obtain⟨t,ht,hto⟩:=stack_open v v.length k hk;obtain⟨c,e,h1,h2⟩:=end_open ht hto;have h3:=ho k (List.mem_range.2 hlt);have h4:endP v k≠(v.length:Int):=of_decide_eq_true h3;have h5:=(end_spec e).2.2 (by omega);have:=gone_on v h5 (by omega) (v.length-(c+1));rw[show c+1+(v.length-(c+1))=v.length by omega] at this
   exact this hk
end Go.Proofs.YtfhdihdafmahgaaGreatDoor
