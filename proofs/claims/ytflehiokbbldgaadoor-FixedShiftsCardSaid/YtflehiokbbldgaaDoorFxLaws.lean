/- Layer 1: what the laws ask of some decimals. -/
import Derived.Test.YtflehiokbbldgaaDoorFxPrint
import Derived.Test.YtflehiokbbldgaaDoorFxMulRef
set_option linter.unusedVariables false
set_option linter.unusedSimpArgs false
namespace Go.Proofs.YtflehiokbbldgaaDoor
open Go.RowKit Fx
theorem awake1 : parseP [45, 46, 53, 101, 49] = -5000 ∧ isP [45, 46, 53, 101, 49] = true := by decide +kernel
theorem awake2 : isP [49, 46] = false := by decide +kernel
theorem awake3 : printP 1500 = [49, 46, 53] := by
  have h : printP 1500 = Lib.decDigits 1 ++ fracT 500 := rfl
  rw [h, dec_small (by omega)]; decide +kernel
theorem awake4 : lenP [49, 46, 53, 101, 109] = 3 := by decide +kernel
theorem awake5 : mulZ 1500 2000 = 3000 := by decide +kernel
set_option maxRecDepth 100000 in
set_option maxHeartbeats 2000000 in
theorem fx_awake (w : World) (hw : Env w) :
    Calls Tryd.prog 10 #[] w fun e w' => e = .returned (.bool true) ∧ Below w.heap.size w w' := by
  go_enter Tryd.func10, Tryd.ntmps10
  go_wp2_with fail
  refine (fx_parse [45, 46, 53, 101, 49] w (by simp) hw).mono ?_
  rintro e w1 ⟨rfl, hb1⟩
  rw [awake1.1, awake1.2]
  have hw1 := hw.below hb1
  go_wp2_with fail
  refine (fx_parse [49, 46] w1 (by simp) hw1).mono ?_
  rintro e w2 ⟨rfl, hb2⟩
  rw [awake2]
  have hw2 := hw1.below hb2
  replace hb2 := hb1.trans (hb2.mono hb1.size)
  generalize parseP [49, 46] = z
  go_wp2_with fail
  refine (fx_print 1500 w2 (by omega) (by omega) hw2).mono ?_
  rintro e w3 ⟨rfl, hb3⟩
  rw [awake3]
  have htl := bytesOf_toList [49, 46, 53]
  have hw3 := hw2.below hb3
  replace hb3 := hb2.trans (hb3.mono hb2.size)
  go_wp2_with fail
  refine (fx_length [49, 46, 53, 101, 109] w3 (by simp)).mono ?_
  rintro e w4 ⟨rfl, hb4⟩
  rw [awake4]
  replace hb4 := hb3.trans (hb4.mono hb3.size)
  go_wp2_with fail
  refine (fx_mul 1500 2000 w4 (by omega) (by omega) (by omega) (by omega)).mono ?_
  rintro e w5 ⟨rfl, hb5⟩
  rw [awake5]
  replace hb5 := hb4.trans (hb5.mono hb4.size)
  go_wp2
  go_ret
  exact ⟨rfl, hb5⟩
end Go.Proofs.YtflehiokbbldgaaDoor
