/- What the rows' list of variables gives besides: the table that FormatInt reads. -/
import Derived.Test.YtifedkilbpkpaaaGreatDoorB26
import Derived.Test.YtifedkilbpkpaaaGreatDoorB15
namespace Go.Proofs.YtifedkilbpkpaaaGreatDoor
open Go.Shelf Go.ChangeShapes Go.WideShapes Go.ChangeAt Go.RowKit Go.Lib
def db64 : List Int := [0, 1, 56, 2, 57, 49, 28, 3, 61, 58, 42, 50, 38, 29, 17, 4, 62, 47, 59, 36, 45, 43, 51, 22, 53, 39, 33, 30, 24, 18, 12, 5, 63, 55, 48, 27, 60, 41, 37, 16, 46, 35, 44, 21, 52, 32, 23, 11, 54, 26, 40, 15, 34, 20, 31, 10, 25, 14, 19, 9, 13, 8, 7, 6]
theorem db_eq : (Rows.laid_math_bits_deBruijn64tab : DataW Unit) = Lib.tabData .u8 db64 := by kernel_rfl
theorem db_of {W : World} (h : laidMet Tryz.prog laidList W) : Db W := by
  have h1 : laidMet Tryz.prog (("math/bits.deBruijn32tab", Rows.laid_math_bits_deBruijn32tab) :: ("math/bits.deBruijn64tab", Rows.laid_math_bits_deBruijn64tab) :: laidList.drop 2) W := h
  have h3 := h1.tail
  rw [db_eq] at h3
  have h4 := Lib.tabIs_of_head (g := 5) (t := 131) (e := 5) (n := 64) (by kernel_rfl) (by kernel_rfl) (by kernel_rfl) (by kernel_rfl) (by kernel_rfl) (by kernel_rfl) h3
  exact h4.cell (by kernel_rfl) 15 (by decide)
end Go.Proofs.YtifedkilbpkpaaaGreatDoor
