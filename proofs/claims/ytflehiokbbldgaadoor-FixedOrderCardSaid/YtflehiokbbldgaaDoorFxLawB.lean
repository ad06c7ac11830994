/- FixedOrder is walked. -/
import Derived.Test.YtflehiokbbldgaaDoorFxLaws
import Derived.Test.YtflehiokbbldgaaDoorFxRef
set_option linter.unusedVariables false
set_option linter.unusedSimpArgs false
namespace Go.Proofs.YtflehiokbbldgaaDoor
open Go.RowKit Fx
theorem addZ_comm (a b : Int) : addZ a b = addZ b a := by unfold addZ; rw [Int.add_comm]
theorem mulZ_comm (a b : Int) : mulZ a b = mulZ b a := by
  unfold mulZ
  simp only [mulN, Nat.mul_comm, eq_comm, or_comm, and_comm, Int.mul_comm]
theorem mulZ_one (a : Int) : mulZ a 1000 = stopZ a := by
  have := stopZ_range a
  have h : stopZ 1000 = 1000 := by decide
  unfold mulZ
  rw [h]
  simp only [mulN, show Int.natAbs 1000 = 1000 from rfl]
  split <;> rename_i hc <;> simp at hc <;> omega
theorem mulZ_none (a : Int) : mulZ a 0 = 0 := by
  have h : stopZ 0 = 0 := by decide
  unfold mulZ
  rw [h]
  simp [mulN]
theorem mulZ_minus (a : Int) (h : -1099511627776 ≤ a ∧ a ≤ 1099511627776) : mulZ a (-1000) = -a := by
  have h1 : stopZ (-1000) = -1000 := by decide
  unfold mulZ
  rw [h1, stopZ_of h.1 h.2]
  simp only [mulN, show Int.natAbs (-1000) = 1000 from rfl]
  split <;> rename_i hc <;> simp at hc <;> omega
theorem addZ_none (a : Int) : addZ a 0 = stopZ a := by
  have := stopZ_range a
  unfold addZ
  have h : stopZ 0 = 0 := by decide
  rw [h, Int.add_zero, stopZ_of this.1 this.2]
theorem addZ_less (a : Int) (h : -1099511627776 ≤ a ∧ a ≤ 1099511627776) : addZ a (-a) = 0 := by
  unfold addZ
  rw [stopZ_of h.1 h.2, stopZ_of (n := -a) (by omega) (by omega), Int.add_right_neg]; decide
set_option maxRecDepth 100000 in
set_option maxHeartbeats 2000000 in
theorem walk_FixedOrder (a b : Int) (w : World) (h1 : -9223372036854775808 ≤ a ∧ a ≤ 9223372036854775807) (h2 : -9223372036854775808 ≤ b ∧ b ≤ 9223372036854775807) (hw : Env w) :
    Calls Tryd.prog 8 #[.int .i64 a, .int .i64 b] w fun e w' => e = .returned (.bool true) ∧ Below w.heap.size w w' := by
  have hr := stopZ_range a
  go_enter Tryd.func8, Tryd.ntmps8
  go_wp2_with fail
  refine (rfx_stop a w h1.1 h1.2).mono ?_
  rintro e w1 ⟨rfl, rfl⟩
  go_wp2_with fail
  refine (fx_add a b w h1.1 h1.2 h2.1 h2.2).mono ?_
  rintro e w1 ⟨rfl, rfl⟩
  go_wp2_with fail
  refine (fx_add b a w h2.1 h2.2 h1.1 h1.2).mono ?_
  rintro e w1 ⟨rfl, rfl⟩
  rw [addZ_comm b a]
  go_wp2_with fail
  refine (fx_mul a b w h1.1 h1.2 h2.1 h2.2).mono ?_
  rintro e w1 ⟨rfl, hb1⟩
  go_wp2_with fail
  refine (fx_mul b a w1 h2.1 h2.2 h1.1 h1.2).mono ?_
  rintro e w2 ⟨rfl, hb2⟩
  rw [mulZ_comm b a]
  replace hb2 := hb1.trans (hb2.mono hb1.size)
  go_wp2_with fail
  refine (fx_mul a 1000 w2 h1.1 h1.2 (by omega) (by omega)).mono ?_
  rintro e w3 ⟨rfl, hb3⟩
  rw [mulZ_one]
  replace hb3 := hb2.trans (hb3.mono hb2.size)
  go_wp2_with fail
  refine (fx_mul a 0 w3 h1.1 h1.2 (by omega) (by omega)).mono ?_
  rintro e w4 ⟨rfl, hb4⟩
  rw [mulZ_none]
  replace hb4 := hb3.trans (hb4.mono hb3.size)
  go_wp2_with fail
  refine (fx_add a 0 w4 h1.1 h1.2 (by omega) (by omega)).mono ?_
  rintro e w5 ⟨rfl, rfl⟩
  rw [addZ_none]
  go_wp2_with fail
  refine (fx_add (stopZ a) (-stopZ a) _ (by omega) (by omega) (by omega) (by omega)).mono ?_
  rintro e w5 ⟨rfl, rfl⟩
  rw [addZ_less _ hr]
  go_wp2_with fail
  refine (fx_mul (stopZ a) (-1000) _ (by omega) (by omega) (by omega) (by omega)).mono ?_
  rintro e w5 ⟨rfl, hb5⟩
  rw [mulZ_minus _ hr]
  replace hb5 := hb4.trans (hb5.mono hb4.size)
  go_wp2_with fail
  refine (fx_awake _ (hw.below hb5)).mono ?_
  rintro e w6 ⟨rfl, hb6⟩
  go_wp2
  go_ret
  exact ⟨rfl, hb5.trans (hb6.mono hb5.size)⟩
end Go.Proofs.YtflehiokbbldgaaDoor
