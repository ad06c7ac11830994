/- What the rows' lists of variables give (the print laws over the programs alone), and a world that holds them, for the witnesses. -/
import Derived.Test.YthimfoonalfoeaaDoorCards
import Derived.Test.YthimfoonalfoeaaDoorTie
import Derived.Test.YthimfoonalfoeaaDoorB05
import Derived.Test.YthimfoonalfoeaaDoorB01
import Derived.Lib.LaidU8T
import Derived.OpenShut
import Derived.Stop.LaidErr
import Derived.Shelf.Vars
import Derived.Test.YthimfoonalfoeaaDoorB15
import Derived.Deep.DeepLaidRun
import Derived.Lib.LaidIn
import Derived.Deep.DeepHandedRow
import Derived.Deep.DeepWitnessRowRef
import Derived.SizedLaws
import Derived.PinnedBridge
import Derived.ChangeSame
set_option linter.unusedVariables false
namespace Go.Proofs.YthimfoonalfoeaaDoor
open Go.Shelf Go.ChangeShapes Go.WideShapes Go.ChangeAt Go.RowKit Go.Lib

theorem own : ownKnob Tryd.prog.godebug = none := by kernel_rfl
abbrev laidList : List (String × DataW Unit) := [("math/bits.deBruijn32tab", Rows.laid_math_bits_deBruijn32tab), ("math/bits.deBruijn64tab", Rows.laid_math_bits_deBruijn64tab), ("internal/strconv.uint64pow10", Rows.laid_internal_strconv_uint64pow10), ("unicode/utf8.acceptRanges", Rows.laid_unicode_utf8_acceptRanges), ("unicode/utf8.first", Rows.laid_unicode_utf8_first)]
def flat0 : DataW Unit → List Value
  | .lit (.int k n) => [.int k n]
  | _ => []
def flat : DataW Unit → List Value
  | .agg l => l.flatMap fun | .agg m => m.flatMap flat0 | d => flat0 d
  | d => flat0 d
noncomputable def laidWorld (os : Os) : World :=
  let w0 := World.holding Tryd.prog os ⟨#[], #[], []⟩
  let put (h : Array Obj) (g : Nat) (cs : Array Value) : Array Obj := h.modify g fun
    | .cells _ t frozen => .cells cs t frozen
    | o => o
  let h1 := put w0.heap 4 (flat Rows.laid_math_bits_deBruijn32tab).toArray
  let h2 := put h1 5 (flat Rows.laid_math_bits_deBruijn64tab).toArray
  let h3 := put h2 3 (flat Rows.laid_internal_strconv_uint64pow10).toArray
  let h4 := put h3 1 (flat Rows.laid_unicode_utf8_acceptRanges).toArray
  let h7 := put h4 0 (flat Rows.laid_unicode_utf8_first).toArray
  { w0 with heap := h7 }
theorem laid_met (os : Os) (args : Array Value) : laidMet Tryd.prog laidList ((laidWorld os).forCall (fun _ _ => 0) ⟨#[], args, []⟩).memory :=
  laidMet_of_run3 8 (by kernel_rfl) (by kernel_rfl) (by kernel_rfl)
theorem pow_eq : (Rows.laid_internal_strconv_uint64pow10 : DataW Unit) = Lib.tabData .u64 Lib.pow10Tab := by kernel_rfl
theorem env_of {W : World} (h : laidMet Tryd.prog laidList W) (hs : W.ShapedOpen Tryd.prog) : Env W := by
  refine ⟨cell_of_shapedOpen_int (zero := #[.int .i64 0]) (t := 3) hs (of_decide_eq_true (by kernel_rfl)) (by kernel_rfl) rfl (by kernel_rfl) (by kernel_rfl) Tryd.underlying3, ?_⟩
  have h1 : laidMet Tryd.prog (("math/bits.deBruijn32tab", Rows.laid_math_bits_deBruijn32tab) :: ("math/bits.deBruijn64tab", Rows.laid_math_bits_deBruijn64tab) :: ("internal/strconv.uint64pow10", Rows.laid_internal_strconv_uint64pow10) :: laidList.drop 3) W := h
  have h3 := h1.tail.tail
  rw [pow_eq] at h3
  exact Lib.tabIs_of_head (g := 3) (t := 89) (e := 80) (n := 20) (by kernel_rfl) (by kernel_rfl) (by kernel_rfl) (by kernel_rfl) (by kernel_rfl) (by kernel_rfl) h3
def u8Ren : Ren := ⟨fun x => x, fun | 5 => 5 | 119 => 73 | 138 => 75 | 139 => 76 | n => n, fun | 3 => 0 | 4 => 1 | n => n⟩
theorem u8Types : U8Types Tryd.prog u8Ren := ⟨by kernel_rfl, by kernel_rfl, by kernel_rfl, by kernel_rfl⟩
theorem u8Extra : U8Extra Tryd.prog u8Ren := ⟨by kernel_rfl, by kernel_rfl, by kernel_rfl, by kernel_rfl, by kernel_rfl, by kernel_rfl, by kernel_rfl⟩
theorem accept_eq : (Rows.laid_unicode_utf8_acceptRanges : DataW Unit) = Lib.acceptData := by kernel_rfl
theorem first_eq : Rows.laid_unicode_utf8_first = Lib.firstData := Pinned.utf8First_eq
theorem tabs_of_laid {W : World} (h : laidMet Tryd.prog laidList W) : Tabs W := by
  have h1 := Lib.laidMet.reads h (.tail _ (.tail _ (.tail _ (.head _))))
  have h2 := Lib.laidMet.reads h (.tail _ (.tail _ (.tail _ (.tail _ (.head _)))))
  rw [accept_eq] at h1
  rw [first_eq] at h2
  exact utf8Tabs_of_readsT u8Types u8Extra h2 h1
def db64 : List Int := [0, 1, 56, 2, 57, 49, 28, 3, 61, 58, 42, 50, 38, 29, 17, 4, 62, 47, 59, 36, 45, 43, 51, 22, 53, 39, 33, 30, 24, 18, 12, 5, 63, 55, 48, 27, 60, 41, 37, 16, 46, 35, 44, 21, 52, 32, 23, 11, 54, 26, 40, 15, 34, 20, 31, 10, 25, 14, 19, 9, 13, 8, 7, 6]
theorem db_eq : (Rows.laid_math_bits_deBruijn64tab : DataW Unit) = Lib.tabData .u8 db64 := by kernel_rfl
theorem db_of {W : World} (h : laidMet Tryd.prog laidList W) : Db W := by
  have h1 : laidMet Tryd.prog (("math/bits.deBruijn32tab", Rows.laid_math_bits_deBruijn32tab) :: ("math/bits.deBruijn64tab", Rows.laid_math_bits_deBruijn64tab) :: laidList.drop 2) W := h
  have h3 := h1.tail
  rw [db_eq] at h3
  have h4 := Lib.tabIs_of_head (g := 5) (t := 95) (e := 5) (n := 64) (by kernel_rfl) (by kernel_rfl) (by kernel_rfl) (by kernel_rfl) (by kernel_rfl) (by kernel_rfl) h3
  exact h4.cell (by kernel_rfl) 15 (by decide)
end Go.Proofs.YthimfoonalfoeaaDoor
