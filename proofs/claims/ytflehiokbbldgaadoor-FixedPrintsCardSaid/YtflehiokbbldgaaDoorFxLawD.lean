/- FixedPrints is walked. -/
import Derived.Test.YtflehiokbbldgaaDoorFxLaws
import Derived.Test.YtflehiokbbldgaaDoorFxRefPrint
import Derived.Test.YtflehiokbbldgaaDoorFxPlain
set_option linter.unusedVariables false
set_option linter.unusedSimpArgs false
namespace Go.Proofs.YtflehiokbbldgaaDoor
open Go.RowKit Fx
set_option maxRecDepth 100000 in
set_option maxHeartbeats 2000000 in
theorem walk_FixedPrints (n : Int) (w : World) (h1 : -9223372036854775808 ≤ n ∧ n ≤ 9223372036854775807) (hw : Env w) :
    Calls Tryd.prog 4 #[.int .i64 n] w fun e w' => e = .returned (.bool true) ∧ Below w.heap.size w w' := by
  obtain ⟨p1, p2, p3⟩ := parse_print n
  have hl := printP_len n
  go_enter Tryd.func4, Tryd.ntmps4
  go_wp2_with fail
  refine (fx_print n w h1.1 h1.2 hw).mono ?_
  rintro e w1 ⟨rfl, hb1⟩
  have hw1 := hw.below hb1
  have P1 := Lib.hid p1
  have P2 := Lib.hid p2
  have P3 := Lib.hid p3
  clear p1 p2 p3
  obtain ⟨L, hL⟩ : ∃ L, printP n = L := ⟨_, rfl⟩
  rw [hL] at hl P1 P2 P3 ⊢
  have HL := Lib.hid hL
  have hsz := bytesOf_size L
  clear hL
  go_wp2_with fail
  refine (fx_parse L w1 (by omega) hw1).mono ?_
  rintro e w2 ⟨rfl, hb2⟩
  rw [P1.out, P3.out]
  have hw2 := hw1.below hb2
  replace hb2 := hb1.trans (hb2.mono hb1.size)
  go_wp2_with fail
  refine (rfx_print n w2 h1.1 h1.2).mono ?_
  rintro e w3 ⟨rfl, hb3⟩
  rw [HL.out]
  have hw3 := hw2.below hb3
  replace hb3 := hb2.trans (hb3.mono hb2.size)
  go_wp2_with fail
  refine (rfx_stop n w3 h1.1 h1.2).mono ?_
  rintro e w4 ⟨rfl, rfl⟩
  generalize stopZ n = z
  go_wp2_with fail
  refine (fx_length L w3 (by omega)).mono ?_
  rintro e w4 ⟨rfl, hb4⟩
  rw [P2.out]
  replace hb4 := hb3.trans (hb4.mono hb3.size)
  go_wp2_with fail
  refine (fx_awake _ (hw.below hb4)).mono ?_
  rintro e w5 ⟨rfl, hb5⟩
  go_wp2
  go_ret
  exact ⟨rfl, hb4.trans (hb5.mono hb4.size)⟩
end Go.Proofs.YtflehiokbbldgaaDoor
