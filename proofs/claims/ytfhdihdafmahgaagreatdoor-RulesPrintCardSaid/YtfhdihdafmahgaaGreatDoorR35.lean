import Derived.Test.YtfhdihdafmahgaaGreatDoorCards
import Derived.Test.YtfhdihdafmahgaaGreatDoorTie
import Derived.Test.YtfhdihdafmahgaaGreatDoorR32
import Derived.Lib.LaidU8T
import Derived.OpenShut
import Derived.Stop.LaidErr
import Derived.Deep.DeepLaidRun
import Derived.Lib.LaidIn
import Derived.Deep.DeepHandedRow
import Derived.Deep.DeepWitnessRowRef
import Derived.SizedLaws
import Derived.PinnedBridge
import Derived.ChangeSame
set_option linter.unusedVariables false
namespace Go.Proofs.YtfhdihdafmahgaaGreatDoor
open Go.Shelf Go.ChangeShapes Go.WideShapes Go.ChangeAt Go.RowKit Go.Lib
theorem own:ownKnob Tryz.prog.godebug=none:=by kernel_rfl
abbrev laidList:List (String×DataW Unit):=[("math/bits.deBruijn32tab", Rows.laid_math_bits_deBruijn32tab),("math/bits.deBruijn64tab", Rows.laid_math_bits_deBruijn64tab),("internal/strconv.uint64pow10", Rows.laid_internal_strconv_uint64pow10),("unicode/utf8.acceptRanges", Rows.laid_unicode_utf8_acceptRanges),("strconv.ErrRange", Rows.laid_strconv_ErrRange),("strconv.ErrSyntax", Rows.laid_strconv_ErrSyntax),("broadside/rules.boxes", Rows.laid_broadside_rules_boxes),("unicode/utf8.first", Rows.laid_unicode_utf8_first)]
def flat0:DataW Unit→List Value
 | .lit (.int k n)=>[.int k n]
 | .lit (.string bs)=>[.string ⟨bs.toArray⟩]
 | _=>[]
def flat:DataW Unit→List Value
 | .agg l=>l.flatMap fun | .agg m=>m.flatMap flat0 | d=>flat0 d
 | d=>flat0 d
abbrev synS:ByteArray:={ data:=#[105,110,118,97,108,105,100,32,115,121,110,116,97,120] }
abbrev rngS:ByteArray:={ data:=#[118,97,108,117,101,32,111,117,116,32,111,102,32,114,97,110,103,101] }
noncomputable def low:Nat:=(World.holding Tryz.prog default ⟨#[],#[],[]⟩).heap.size
noncomputable def laidWorld (os:Os):World :=
 let w0:=World.holding Tryz.prog os ⟨#[.cells #[.string rngS] 216,.cells #[.string synS] 216],#[],[]⟩
 let put (h:Array Obj) (g:Nat) (cs:Array Value):Array Obj:=h.modify g fun
  | .cells _ t frozen=>.cells cs t frozen
  | o=>o
 let h1:=put w0.heap 7 (flat Rows.laid_math_bits_deBruijn32tab).toArray
 let h2:=put h1 8 (flat Rows.laid_math_bits_deBruijn64tab).toArray
 let h3:=put h2 4 (flat Rows.laid_internal_strconv_uint64pow10).toArray
 let h4:=put h3 2 (flat Rows.laid_unicode_utf8_acceptRanges).toArray
 let h5:=put h4 6 #[.iface 214 (.pointer (some ⟨low,0,none⟩))]
 let h6:=put h5 5 #[.iface 214 (.pointer (some ⟨low+1,0,none⟩))]
 let h6b:=put h6 0 (flat Rows.laid_broadside_rules_boxes).toArray
 let h7:=put h6b 1 (flat Rows.laid_unicode_utf8_first).toArray
 { w0 with heap:=h7 }
theorem laid_met (os:Os) (args:Array Value):laidMet Tryz.prog laidList ((laidWorld os).forCall (fun _ _=>0) ⟨#[],args,[]⟩).memory :=
 laidMet_of_run3 8 (by kernel_rfl) (by kernel_rfl) (by kernel_rfl)
theorem pow_eq:(Rows.laid_internal_strconv_uint64pow10:DataW Unit)=Lib.tabData .u64 Lib.pow10Tab:=by kernel_rfl
theorem env_of {W:World} (h:laidMet Tryz.prog laidList W) (hs:W.ShapedOpen Tryz.prog):Env W:=by
 refine⟨Tryz.laysM145.s1_3 W hs,?_⟩
 have h1:laidMet Tryz.prog (("math/bits.deBruijn32tab", Rows.laid_math_bits_deBruijn32tab)::("math/bits.deBruijn64tab", Rows.laid_math_bits_deBruijn64tab)::("internal/strconv.uint64pow10", Rows.laid_internal_strconv_uint64pow10)::laidList.drop 3) W:=h
 have h3:=h1.tail.tail;rw[pow_eq] at h3
 exact Lib.tabIs_of_head (g:=4) (t:=202) (e:=188) (n:=20) (by kernel_rfl) (by kernel_rfl) (by kernel_rfl) (by kernel_rfl) (by kernel_rfl) (by kernel_rfl) h3
def u8Ren:Ren:=⟨fun x=>x,fun | 5=>5 | 119=>180 | 138=>182 | 139=>183 | n=>n,fun | 3=>1 | 4=>2 | n=>n⟩
theorem u8Types:U8Types Tryz.prog u8Ren:=⟨by kernel_rfl,by kernel_rfl,by kernel_rfl,by kernel_rfl⟩
theorem u8Extra:U8Extra Tryz.prog u8Ren:=⟨by kernel_rfl,by kernel_rfl,by kernel_rfl,by kernel_rfl,by kernel_rfl,by kernel_rfl,by kernel_rfl⟩
theorem accept_eq:(Rows.laid_unicode_utf8_acceptRanges:DataW Unit)=Lib.acceptData:=by kernel_rfl
theorem first_eq:Rows.laid_unicode_utf8_first=Lib.firstData:=Pinned.utf8First_eq
theorem tabs_of_laid {W:World} (h:laidMet Tryz.prog laidList W):Tabs W:=by
 have h1:=Lib.laidMet.reads h (.tail _ (.tail _ (.tail _ (.head _))));have h2:=Lib.laidMet.reads h (.tail _ (.tail _ (.tail _ (.tail _ (.tail _ (.tail _ (.tail _ (.head _))))))));rw[accept_eq] at h1;rw[first_eq] at h2
 exact utf8Tabs_of_readsT u8Types u8Extra h2 h1
def db64:List Int:=[0,1,56,2,57,49,28,3,61,58,42,50,38,29,17,4,62,47,59,36,45,43,51,22,53,39,33,30,24,18,12,5,63,55,48,27,60,41,37,16,46,35,44,21,52,32,23,11,54,26,40,15,34,20,31,10,25,14,19,9,13,8,7,6]
theorem db_eq:(Rows.laid_math_bits_deBruijn64tab:DataW Unit)=Lib.tabData .u8 db64:=by kernel_rfl
theorem db_of {W:World} (h:laidMet Tryz.prog laidList W):Db W:=by
 have h1:laidMet Tryz.prog (("math/bits.deBruijn32tab", Rows.laid_math_bits_deBruijn32tab)::("math/bits.deBruijn64tab", Rows.laid_math_bits_deBruijn64tab)::laidList.drop 2) W:=h
 have h3:=h1.tail;rw[db_eq] at h3;have h4:=Lib.tabIs_of_head (g:=8) (t:=218) (e:=5) (n:=64) (by kernel_rfl) (by kernel_rfl) (by kernel_rfl) (by kernel_rfl) (by kernel_rfl) (by kernel_rfl) h3
 exact h4.cell (by kernel_rfl) 15 (by decide)
theorem strs_of_tab {H:Type} {enc:TypeId×Value→H} {P:Program} {w:World} {base:Nat} {sp:Nat→Bool} {held:Bool} {fuel:Nat} {t e:TypeId} {n:Nat} {cs:List Value} {ss:List (List UInt8)} {p:List MemPlace}
  (ht:P.underlying t=some (.array n e)) (he:P.underlying e=some .string) (hce:P.cellsOf e=1)
  (h:DataW.trod enc P w base sp held fuel t cs=some (.agg (ss.map fun s=>.lit (.string s)),p)):∀ (j:Nat) (s:List UInt8),ss[j]?=some s→cs[j]?=some (Value.string (bytesOf s)):=by
 obtain⟨xs,m,_,hx,hcl,hxl,hf⟩:=DataW.trod_array ht h
 have hxs:(ss.map fun s=>(DataW.lit (.string s):DataW H))=xs.map (·.1):=by
  have:=congrArg Prod.fst hx
  simpa using this
 intro j s hs;have hlen:ss.length=xs.length:=by have:=congrArg List.length hxs;simpa using this
 have hj:j<n:=by have:=(List.getElem?_eq_some_iff.1 hs).1;omega
 have h1:=hf j hj;rw[hce,Nat.mul_one] at h1
 have hxj:∃ y,xs[j]?=some y∧y.1=.lit (.string s):=by
  have h2:(xs.map (·.1))[j]?=some (DataW.lit (.string s):DataW H):=by rw[←hxs,List.getElem?_map,hs];rfl
  rw[List.getElem?_map] at h2
  cases hy:xs[j]? with
  | none=>rw[hy] at h2;cases h2
  | some y=>rw[hy] at h2;exact⟨y,rfl,by simpa using h2⟩
 obtain⟨y,hy,hy1⟩:=hxj;rw[hy] at h1;obtain⟨b,hb,hx2,_⟩:=DataW.trod_string he h1
 have hbs:b.data.toList=s:=by
  have:=congrArg Prod.fst hx2;rw[hy1] at this
  simpa using this.symm
 have h3:=congrArg (·[0]?) hb;have h4:cs[j]?=some (.string b):=by simpa [List.getElem?_take,List.getElem?_drop] using h3
 rw[h4]
 congr 2
 rw[←hbs]
 rfl
theorem boxes_eq:(Rows.laid_broadside_rules_boxes:DataW Unit)=.agg (Ru.boxes.map fun s=>.lit (.string s)):=by kernel_rfl
theorem boxed_of {W:World} (h:laidMet Tryz.prog laidList W):Boxed W:=by
 have h1:=Lib.laidMet.reads h (.tail _ (.tail _ (.tail _ (.tail _ (.tail _ (.tail _ (.head _)))))));rw[boxes_eq] at h1;obtain⟨g,t,cs,fuel,p,hg,hty,hvar,hd⟩:=h1
 obtain rfl:0=g:=Option.some.inj ((show Tryz.prog.globalNamed "broadside/rules.boxes" = some 0 by kernel_rfl).symm.trans hg)
 obtain rfl:80=t:=Option.some.inj ((show (Tryz.prog.globals[0]?).map (·.type)=some 80 by kernel_rfl).symm.trans hty);have hcs:=strs_of_tab Tryz.underlying80 Tryz.underlying9 (by kernel_rfl) hd;intro j s hs;have:=World.var?_cell hg hvar j;rw[this,←Array.getElem?_toList]
 exact hcs j s hs
end Go.Proofs.YtfhdihdafmahgaaGreatDoor
