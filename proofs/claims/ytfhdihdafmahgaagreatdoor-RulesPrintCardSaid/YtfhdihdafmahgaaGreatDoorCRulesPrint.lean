import Derived.Test.YtfhdihdafmahgaaGreatDoorR35
import Derived.Test.YtfhdihdafmahgaaGreatDoorR02
import Derived.Test.YtfhdihdafmahgaaGreatDoorR26
import Derived.Test.YtfhdihdafmahgaaGreatDoorLRulesPrint
set_option linter.unusedVariables false
set_option maxRecDepth 100000
namespace Go.Proofs.YtfhdihdafmahgaaGreatDoor.RulesPrint
open Go.Shelf Go.ChangeShapes Go.WideShapes Go.ChangeAt Go.RowKit Go.Lib
open Go.ChangeMaps (open_string)
theorem contract (H:Type) (enc:TypeId×Value→H) (W:World) (base:Nat) (args:Array Value) (ds gs:List (DataW H)) (before:List MemPlace)
  (hval0:∀ (j:Nat) t v,Tryz.f5.params[j]?=some t→args[j]?=some v→Value.okWide Tryz.prog W .any base t v)
  (hW:DataW.Whole enc Tryz.prog Tryz.f5.params.toList Rows.rulesPrintSpec.vars false W args.toList ds gs before) (hL:laidMet Tryz.prog laidList W) (hsh:W.ShapedOpen Tryz.prog) :
  Calls Tryz.prog 5 args W fun e W'=>∃ v,e=.returned v∧Rows.rulesPrintSpec.post enc Tryz.prog Tryz.f5 false true false false W args v W':=by
 have hval:∀ (j:Nat) t v,Tryz.f5.params[j]?=some t→args[j]?=some v→Value.okWide Tryz.prog W .any base t v:=hval0;have hW':=hW;obtain⟨p,q,hA0,hV0,rfl,_,_⟩:=hW;have hA:DataW.TrodAll enc Tryz.prog W 0 (fun _=>true) true Tryz.f5.params.toList args.toList ds p:=hA0;have hlt0:∀ x∈p++q,x.block<W.heap.size:=fun x hx=>hW'.lt x hx
 rw[Tryz.params5] at hA hval;obtain⟨v0,vs0,d0,ds0,p0,q0,hargs0,rfl,rfl,h0,r0⟩:=trodAll_cons hA;obtain⟨hargs1,rfl,rfl⟩:=trodAll_nil r0;obtain rfl:args=#[v0]:=by cases args;simp_all
 obtain⟨rfl,rfl⟩:=trodVars_none hV0;clear hA0 hV0 hval0;have hk0:∀ W':World,Below W.heap.size W W'→DataW.Trod enc Tryz.prog W' 0 (fun b=>decide (b<W.heap.size)) true 24 v0 d0 p0:=fun W' bel=>Below.trod laidOut (by kernel_rfl) (of_decide_eq_true (by kernel_rfl)) h0 bel (fun x hx=>hlt0 x (by simp[hx]))
 obtain⟨A0,n0,c0,x0,rfl,hm0,hc0,hr0,hx0⟩:=open_rulesK (hval 0 24 v0 rfl rfl) h0
 refine(walk_RulesPrint x0 A0 n0 c0 W hr0 hm0 hc0 hx0 (tabs_of_laid hL) (env_of hL hsh) (db_of hL) (boxed_of hL)).mono ?_
 rintro e W' ⟨rfl,bel⟩
 refine⟨_,rfl,_,_,_,[],(p0++[]),[],hW',?_,?_,?_,bel.frame _,fun h=>by cases h⟩
 ·exact trodAll_mk1 (shut_bool Tryz.underlying4 _)
 ·exact trodAll_cons_mk (hk0 W' bel) trodAll_mk0
 ·rfl
theorem reads (os:Os) {H:Type} (enc:TypeId×Value→H):∃ places,DataW.whole enc Tryz.prog ((laidWorld os).forCall (fun _ _=>0) ⟨#[],#[Value.slice none 0 0],[]⟩).memory Tryz.f5.params.toList Rows.rulesPrintSpec.vars false (#[Value.slice none 0 0]:Array Value).toList 8=some ([.nil],[],places) :=
 ⟨[],by kernel_rfl⟩
theorem lifted (os:Os) (started:os.Started) (H:Type) (enc:TypeId×Value→H) (F:Stop.Interp) :
  ReturnsInHanded {} Tryz.checked os 5 .any ((OpenSpec.ofChange Rows.rulesPrintSpec).preRow enc Tryz.prog Tryz.f5 Rows.rulesPrintRow.domain false Rows.rulesPrintRow.laid) (((OpenSpec.ofChange Rows.rulesPrintSpec).at F).post enc Tryz.prog Tryz.f5 false true false false):=by
 obtain⟨places,hx⟩:=reads os enc
 refine returnsInHanded_of_row (C:=Tryz.checked) (s:=OpenSpec.ofChange Rows.rulesPrintSpec) own started (by kernel_rfl) Tryz.func5
  (witness_row_atRef (enc:=enc) (C:=Tryz.checked) false (laidWorld os) #[Value.slice none 0 0] rfl (by kernel_rfl) (by kernel_rfl) (by kernel_rfl)
   (OpenSpec.preRow_of_cond 8 hx (by kernel_rfl) (fun k hk=>by cases hk) (by kernel_rfl) (laid_met os _))) ?_
 intro W base args ds gs before hval hW _ _ _ hL hsh _
 exact contract H enc W base args ds gs before hval hW hL hsh
theorem said:Rows.RulesPrintSaid :=
 OpenClaim.holds_of_cond 5 Tryz.f5 rfl rfl rfl rfl rfl rfl rfl ⟨rfl,rfl,rfl,rfl,rfl⟩ rfl rfl rfl rfl rfl (by kernel_rfl) Tryz.func5 (by kernel_rfl)
  (of_decide_eq_true (by kernel_rfl)) (by unfold Func.isWrapper;rw[if_neg (of_decide_eq_false (by kernel_rfl))];exact⟨rfl,rfl⟩)
  (fun os started H enc _ F=>by rw[OpenClaim.pre_eq_preRow];exact lifted os started H enc F)
theorem plain (f:FuncId) (fn:Func) (hf:Tryz.pinned.checked.prog.funcNamed Rows.rulesPrintRow.func=some f) (hfn:Tryz.pinned.checked.prog.funcs[f]?=some fn) :
  true=Tryz.pinned.checked.prog.looks []∧∀ (j:Nat) t,fn.params[j]?=some t→Tryz.pinned.checked.prog.wantsStandIn t=false:=by
 obtain rfl:f=5:=Option.some.inj ((show Tryz.prog.funcNamed Rows.rulesPrintRow.func=some 5 by kernel_rfl).symm.trans hf) |>.symm;obtain rfl:fn=Tryz.f5:=(Option.some.inj (Tryz.func5.symm.trans hfn)).symm
 refine⟨by kernel_rfl,fun j t ht=>?_⟩
 rw[Tryz.params5] at ht;have hm:=Array.mem_of_getElem? ht
 simp at hm
 obtain rfl:=hm
 exact(show Tryz.prog.wantsStandIn 24=false by kernel_rfl)
theorem card:Rows.RulesPrintCardSaid :=
 Claim7.holds_tied_plain_at .later [] _ _ _ _ said (fun _ h=>by cases h) (by kernel_rfl) (fun _ h=>by cases h) rulesPrint_row_tie rfl ⟨rfl,rfl⟩ (by kernel_rfl) rfl plain (by kernel_rfl)
end Go.Proofs.YtfhdihdafmahgaaGreatDoor.RulesPrint
