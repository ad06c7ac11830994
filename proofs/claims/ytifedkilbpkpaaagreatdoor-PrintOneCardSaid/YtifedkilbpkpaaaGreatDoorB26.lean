/- What the rows' lists of variables give (layers 3 and on), and a world that holds them, for the witnesses. -/
import Derived.Test.YtifedkilbpkpaaaGreatDoorCards
import Derived.Test.YtifedkilbpkpaaaGreatDoorTie
import Derived.Test.YtifedkilbpkpaaaGreatDoorB05
import Derived.Test.YtifedkilbpkpaaaGreatDoorB01
import Derived.Lib.LaidU8T
import Derived.OpenShut
import Derived.Stop.LaidErr
import Derived.Deep.DeepLaidRun
import Derived.Lib.LaidIn
import Derived.Deep.DeepHandedRow
import Derived.Deep.DeepWitnessRowRef
import Derived.SizedLaws
import Derived.PinnedBridge
import Derived.ChangeSame
set_option linter.unusedVariables false
namespace Go.Proofs.YtifedkilbpkpaaaGreatDoor
open Go.Shelf Go.ChangeShapes Go.WideShapes Go.ChangeAt Go.RowKit Go.Lib

theorem own : ownKnob Tryz.prog.godebug = none := by kernel_rfl
abbrev laidList : List (String × DataW Unit) := [("math/bits.deBruijn32tab", Rows.laid_math_bits_deBruijn32tab), ("math/bits.deBruijn64tab", Rows.laid_math_bits_deBruijn64tab), ("internal/strconv.uint64pow10", Rows.laid_internal_strconv_uint64pow10), ("unicode/utf8.acceptRanges", Rows.laid_unicode_utf8_acceptRanges), ("strconv.ErrRange", Rows.laid_strconv_ErrRange), ("strconv.ErrSyntax", Rows.laid_strconv_ErrSyntax), ("unicode/utf8.first", Rows.laid_unicode_utf8_first)]
def flat0 : DataW Unit → List Value
  | .lit (.int k n) => [.int k n]
  | _ => []
def flat : DataW Unit → List Value
  | .agg l => l.flatMap fun | .agg m => m.flatMap flat0 | d => flat0 d
  | d => flat0 d
abbrev synS : ByteArray := { data := #[105, 110, 118, 97, 108, 105, 100, 32, 115, 121, 110, 116, 97, 120] }
abbrev rngS : ByteArray := { data := #[118, 97, 108, 117, 101, 32, 111, 117, 116, 32, 111, 102, 32, 114, 97, 110, 103, 101] }
noncomputable def low : Nat := (World.holding Tryz.prog default ⟨#[], #[], []⟩).heap.size
noncomputable def laidWorld (os : Os) : World :=
  let w0 := World.holding Tryz.prog os ⟨#[.cells #[.string rngS] 142, .cells #[.string synS] 142], #[], []⟩
  let put (h : Array Obj) (g : Nat) (cs : Array Value) : Array Obj := h.modify g fun
    | .cells _ t frozen => .cells cs t frozen
    | o => o
  let h1 := put w0.heap 4 (flat Rows.laid_math_bits_deBruijn32tab).toArray
  let h2 := put h1 5 (flat Rows.laid_math_bits_deBruijn64tab).toArray
  let h3 := put h2 3 (flat Rows.laid_internal_strconv_uint64pow10).toArray
  let h4 := put h3 1 (flat Rows.laid_unicode_utf8_acceptRanges).toArray
  let h5 := put h4 7 #[.iface 140 (.pointer (some ⟨low, 0, none⟩))]
  let h6 := put h5 6 #[.iface 140 (.pointer (some ⟨low + 1, 0, none⟩))]
  let h7 := put h6 0 (flat Rows.laid_unicode_utf8_first).toArray
  { w0 with heap := h7 }
theorem laid_met (os : Os) (args : Array Value) : laidMet Tryz.prog laidList ((laidWorld os).forCall (fun _ _ => 0) ⟨#[], args, []⟩).memory :=
  laidMet_of_run3 8 (by kernel_rfl) (by kernel_rfl) (by kernel_rfl)
theorem pow_eq : (Rows.laid_internal_strconv_uint64pow10 : DataW Unit) = Lib.tabData .u64 Lib.pow10Tab := by kernel_rfl
theorem env_of {W : World} (h : laidMet Tryz.prog laidList W) (hs : W.ShapedOpen Tryz.prog) : Env W := by
  refine ⟨Tryz.laysM145.s1_3 W hs, ?_⟩
  have h1 : laidMet Tryz.prog (("math/bits.deBruijn32tab", Rows.laid_math_bits_deBruijn32tab) :: ("math/bits.deBruijn64tab", Rows.laid_math_bits_deBruijn64tab) :: ("internal/strconv.uint64pow10", Rows.laid_internal_strconv_uint64pow10) :: laidList.drop 3) W := h
  have h3 := h1.tail.tail
  rw [pow_eq] at h3
  exact Lib.tabIs_of_head (g := 3) (t := 119) (e := 110) (n := 20) (by kernel_rfl) (by kernel_rfl) (by kernel_rfl) (by kernel_rfl) (by kernel_rfl) (by kernel_rfl) h3
def u8Ren : Ren := ⟨fun x => x, fun | 5 => 5 | 119 => 98 | 138 => 100 | 139 => 101 | n => n, fun | 3 => 0 | 4 => 1 | n => n⟩
theorem u8Types : U8Types Tryz.prog u8Ren := ⟨by kernel_rfl, by kernel_rfl, by kernel_rfl, by kernel_rfl⟩
theorem u8Extra : U8Extra Tryz.prog u8Ren := ⟨by kernel_rfl, by kernel_rfl, by kernel_rfl, by kernel_rfl, by kernel_rfl, by kernel_rfl, by kernel_rfl⟩
theorem accept_eq : (Rows.laid_unicode_utf8_acceptRanges : DataW Unit) = Lib.acceptData := by kernel_rfl
theorem first_eq : Rows.laid_unicode_utf8_first = Lib.firstData := Pinned.utf8First_eq
theorem tabs_of_laid {W : World} (h : laidMet Tryz.prog laidList W) : Tabs W := by
  have h1 := Lib.laidMet.reads h (.tail _ (.tail _ (.tail _ (.head _))))
  have h2 := Lib.laidMet.reads h (.tail _ (.tail _ (.tail _ (.tail _ (.tail _ (.tail _ (.head _)))))))
  rw [accept_eq] at h1
  rw [first_eq] at h2
  exact utf8Tabs_of_readsT u8Types u8Extra h2 h1
end Go.Proofs.YtifedkilbpkpaaaGreatDoor
