/- FixedSums is walked. -/
import Derived.Test.YtflehiokbbldgaaDoorFxLaws
import Derived.Test.YtflehiokbbldgaaDoorFxRef
set_option linter.unusedVariables false
set_option linter.unusedSimpArgs false
namespace Go.Proofs.YtflehiokbbldgaaDoor
open Go.RowKit Fx
theorem addZ_of {a b : Int} (ha : -1099511627776 ≤ a ∧ a ≤ 1099511627776) (hb : -1099511627776 ≤ b ∧ b ≤ 1099511627776) (hc : -1099511627776 ≤ a + b ∧ a + b ≤ 1099511627776) : addZ a b = a + b := by
  unfold addZ; rw [stopZ_of ha.1 ha.2, stopZ_of hb.1 hb.2, stopZ_of hc.1 hc.2]
theorem mulZ_times (a : Int) (k : Nat) (ha : -1073741824 ≤ a ∧ a ≤ 1073741824) (hk : k ≤ 49) : mulZ a (1000 * (k : Int)) = a * (k : Int) := by
  unfold mulZ
  rw [stopZ_of (by omega) (by omega), stopZ_of (n := 1000 * (k : Int)) (by omega) (by omega)]
  have e : (1000 * (k : Int)).natAbs = 1000 * k := by omega
  rw [e]
  have hm : mulN a.natAbs (1000 * k) = a.natAbs * k := by
    unfold mulN
    have h1 : a.natAbs * (1000 * k) / 1000 = a.natAbs * k := by
      rw [Nat.mul_left_comm, Nat.mul_div_cancel_left _ (by omega)]
    rw [h1]
    have : a.natAbs * k ≤ 1073741824 * 49 := Nat.mul_le_mul (by omega) hk
    omega
  rw [hm]
  have hk0 : ¬ (1000 * (k : Int) < 0) := by omega
  by_cases hn : a < 0
  · rw [if_neg (by simp [hn]; omega)]
    have : (a.natAbs : Int) = -a := by omega
    rw [Int.natCast_mul, this, Int.neg_mul, Int.neg_neg]
  · rw [if_pos (by simp [hn]; omega)]
    rw [Int.natCast_mul, show (a.natAbs : Int) = a by omega]
def small (n : Int) : Prop := -1073741824 ≤ n ∧ n ≤ 1073741824
set_option maxRecDepth 100000 in
set_option maxHeartbeats 4000000 in
theorem walk_FixedSums (a b c : Int) (t : Int) (w : World) (h1 : -9223372036854775808 ≤ a ∧ a ≤ 9223372036854775807) (h2 : -9223372036854775808 ≤ b ∧ b ≤ 9223372036854775807) (h3 : -9223372036854775808 ≤ c ∧ c ≤ 9223372036854775807) (h4 : 0 ≤ t ∧ t ≤ 255) (hw : Env w) :
    Calls Tryd.prog 9 #[.int .i64 a, .int .i64 b, .int .i64 c, .int .u8 t] w fun e w' => e = .returned (.bool true) ∧ Below w.heap.size w w' := by
  have i0 : ∀ w, (Instr.index 33 (.agg #[.int .i64 a, .int .i64 b, .int .i64 c]) (.int .i64 0)).run Tryd.prog w = .ok (.int .i64 a) w := fun _ => by kernel_rfl
  have i1 : ∀ w, (Instr.index 33 (.agg #[.int .i64 a, .int .i64 b, .int .i64 c]) (.int .i64 1)).run Tryd.prog w = .ok (.int .i64 b) w := fun _ => by kernel_rfl
  have i2 : ∀ w, (Instr.index 33 (.agg #[.int .i64 a, .int .i64 b, .int .i64 c]) (.int .i64 2)).run Tryd.prog w = .ok (.int .i64 c) w := fun _ => by kernel_rfl
  go_enter Tryd.func9, Tryd.ntmps9
  go_upto_block 0 with (fail)
  go_cut [8] (fun x wx => x = .bool false ∧ wx = w ∧ small a ∧ small b ∧ small c)
  case first =>
    go_wp2_with fail
    go_loop [8, 17] (fun r s => ∃ i : Nat, i ≤ 3 ∧ (0 < i → small a) ∧ (1 < i → small b) ∧ (2 < i → small c) ∧ r = .bool false ∧ s = .int .i64 (i : Nat)) (fun _ s => 3 - (intOf s).toNat)
    case atStart => exact ⟨0, by omega, by omega, by omega, by omega, rfl, rfl⟩
    case round =>
      obtain ⟨i, hi, ha, hb, hc, rfl, rfl⟩ := hrel
      have hcase : i = 0 ∨ i = 1 ∨ i = 2 ∨ i = 3 := by omega
      rcases hcase with rfl | rfl | rfl | rfl
      · by_cases hs : small a
        · have hs' := hs
          unfold small at hs
          go_wp2_with fail
          exact ⟨⟨1, by omega, fun _ => hs', by omega, by omega, rfl, rfl⟩, by simp [intOf]⟩
        · by_cases hlo : a < -1073741824
          · clear hs
            go_wp2_with fail
            refine (fx_awake w hw).mono ?_
            rintro e w4 ⟨rfl, hb4⟩
            go_wp2
            go_ret
            exact ⟨rfl, hb4⟩
          · have hhi : 1073741824 < a := by unfold small at hs; omega
            clear hs
            go_wp2_with fail
            refine (fx_awake w hw).mono ?_
            rintro e w4 ⟨rfl, hb4⟩
            go_wp2
            go_ret
            exact ⟨rfl, hb4⟩
      · have ha' := ha (by omega)
        by_cases hs : small b
        · have hs' := hs
          unfold small at hs
          go_wp2_with fail
          exact ⟨⟨2, by omega, fun _ => ha', fun _ => hs', by omega, rfl, rfl⟩, by simp [intOf]⟩
        · by_cases hlo : b < -1073741824
          · clear hs
            go_wp2_with fail
            refine (fx_awake w hw).mono ?_
            rintro e w4 ⟨rfl, hb4⟩
            go_wp2
            go_ret
            exact ⟨rfl, hb4⟩
          · have hhi : 1073741824 < b := by unfold small at hs; omega
            clear hs
            go_wp2_with fail
            refine (fx_awake w hw).mono ?_
            rintro e w4 ⟨rfl, hb4⟩
            go_wp2
            go_ret
            exact ⟨rfl, hb4⟩
      · have ha' := ha (by omega)
        have hb' := hb (by omega)
        by_cases hs : small c
        · have hs' := hs
          unfold small at hs
          go_wp2_with fail
          exact ⟨⟨3, by omega, fun _ => ha', fun _ => hb', fun _ => hs', rfl, rfl⟩, by simp [intOf]⟩
        · by_cases hlo : c < -1073741824
          · clear hs
            go_wp2_with fail
            refine (fx_awake w hw).mono ?_
            rintro e w4 ⟨rfl, hb4⟩
            go_wp2
            go_ret
            exact ⟨rfl, hb4⟩
          · have hhi : 1073741824 < c := by unfold small at hs; omega
            clear hs
            go_wp2_with fail
            refine (fx_awake w hw).mono ?_
            rintro e w4 ⟨rfl, hb4⟩
            go_wp2
            go_ret
            exact ⟨rfl, hb4⟩
      · have ha' := ha (by omega)
        have hb' := hb (by omega)
        have hc' := hc (by omega)
        go_wp2_with fail
        go_meet
        exact ⟨rfl, rfl, ha', hb', hc'⟩
  case rest =>
    obtain ⟨rfl, hwc, ha, hb, hc⟩ := hcut
    have hwc2 := hwc.symm
    subst hwc2
    unfold small at ha hb hc
    clear hwc
    obtain ⟨k, hk⟩ : ∃ k : Nat, t.tmod 50 = (k : Int) ∧ k ≤ 49 := by
      refine ⟨(t.tmod 50).toNat, ?_⟩
      rw [Int.tmod_eq_emod_of_nonneg h4.1]
      omega
    obtain ⟨hk, hk49⟩ := hk
    have hk' : t % 50 = (k : Int) := by rw [← Int.tmod_eq_emod_of_nonneg h4.1]; exact hk
    have hbnd : ∀ i : Nat, i ≤ 49 → -(1073741824 * 49) ≤ a * (i : Int) ∧ a * (i : Int) ≤ 1073741824 * 49 := by
      intro i hi
      constructor
      · have : (-1073741824 : Int) * i ≤ a * i := Int.mul_le_mul_of_nonneg_right ha.1 (by omega)
        omega
      · have : a * (i : Int) ≤ 1073741824 * i := Int.mul_le_mul_of_nonneg_right ha.2 (by omega)
        omega
    have Hbnd := Lib.hid hbnd
    have Hmul := Lib.hid (mulZ_times a k ha hk49)
    clear hbnd
    go_upto_block 2 with (fail)
    go_cut [12] (fun x wx => x = .int .i64 (a * (k : Int)) ∧ wx = w)
    case first =>
      go_wp2_with fail
      go_loop [12, 32] (fun x s => ∃ i : Nat, i ≤ k ∧ x = .int .i64 (a * (i : Int)) ∧ s = .int .i64 (i : Nat)) (fun _ s => k - (intOf s).toNat)
      case atStart => exact ⟨0, by omega, by simp, rfl⟩
      case round =>
        obtain ⟨i, hi, rfl, rfl⟩ := hrel
        by_cases hik : i < k
        · have hbi := Hbnd.out i (by omega)
          have hb2 := Hbnd.out (i + 1) (by omega)
          have hmi : a * (i : Int) + a = a * ((i + 1 : Nat) : Int) := by rw [Int.natCast_add, Int.mul_add]; simp
          have hadd : addZ (a * (i : Int)) a = a * ((i + 1 : Nat) : Int) := by rw [addZ_of (by omega) (by omega) (by omega), hmi]
          have Hadd := Lib.hid hadd
          clear hadd hmi hb2
          generalize hx : a * (i : Int) = x at *
          go_wp2_with fail
          refine (fx_add x a w (by omega) (by omega) h1.1 h1.2).mono ?_
          rintro e w4 ⟨rfl, rfl⟩
          rw [Hadd.out]
          generalize hy : a * ((i + 1 : Nat) : Int) = y
          go_wp2
          exact ⟨⟨i + 1, by omega, by rw [hy], rfl⟩, by simp [intOf]; omega⟩
        · obtain rfl : i = k := by omega
          go_wp2_with fail
          go_meet
          exact ⟨rfl, rfl⟩
    case rest =>
      obtain ⟨rfl, hwc⟩ := hcut
      have hwc2 := hwc.symm
      subst hwc2
      have hbk := Hbnd.out k hk49
      have e1 : addZ a b = a + b := addZ_of (by omega) (by omega) (by omega)
      have e2 : addZ b c = b + c := addZ_of (by omega) (by omega) (by omega)
      have e3 : addZ (a + b) c = a + b + c := addZ_of (by omega) (by omega) (by omega)
      have e4 : addZ a (b + c) = a + b + c := by rw [addZ_of (by omega) (by omega) (by omega)]; omega
      clear hwc Hbnd
      generalize a * (k : Int) = s at *
      go_wp2_with fail
      refine (fx_add a b w (by omega) (by omega) (by omega) (by omega)).mono ?_
      rintro e w4 ⟨rfl, rfl⟩
      rw [e1]
      go_wp2_with fail
      refine (fx_add (a + b) c w (by omega) (by omega) (by omega) (by omega)).mono ?_
      rintro e w4 ⟨rfl, rfl⟩
      rw [e3]
      go_wp2_with fail
      refine (fx_add b c w (by omega) (by omega) (by omega) (by omega)).mono ?_
      rintro e w4 ⟨rfl, rfl⟩
      rw [e2]
      go_wp2_with fail
      refine (fx_add a (b + c) w (by omega) (by omega) (by omega) (by omega)).mono ?_
      rintro e w4 ⟨rfl, rfl⟩
      rw [e4]
      go_wp2_with fail
      refine (fx_mul a (1000 * (k : Int)) w (by omega) (by omega) (by omega) (by omega)).mono ?_
      rintro e w5 ⟨rfl, hb5⟩
      rw [Hmul.out]
      go_wp2_with fail
      refine (fx_awake w5 (hw.below hb5)).mono ?_
      rintro e w6 ⟨rfl, hb6⟩
      go_wp2
      go_ret
      exact ⟨rfl, hb5.trans (hb6.mono hb5.size)⟩
end Go.Proofs.YtflehiokbbldgaaDoor
