/- Layer 1's reference: Mul is walked. -/
import Derived.Test.YtflehiokbbldgaaDoorFxRef
set_option linter.unusedVariables false
set_option linter.unusedSimpArgs false
namespace Go.Proofs.YtflehiokbbldgaaDoor
open Go.RowKit Fx
theorem mulN_parts (x y : Nat) : x * y / 1000 = x / 1000 * y + x % 1000 * y / 1000 := by
  have h : x * y = 1000 * (x / 1000 * y) + x % 1000 * y := by
    rw [← Nat.mul_assoc, ← Nat.add_mul, Nat.div_add_mod]
  rw [h, Nat.mul_add_div (by omega)]
theorem mulN_great (x y : Nat) (hq : 0 < x / 1000) (h : 1099511627776 / (x / 1000) < y) : mulN x y = 1099511627776 := by
  have h1 : 1099511627776 < x / 1000 * y := by
    rw [Nat.div_lt_iff_lt_mul hq, Nat.mul_comm] at h
    exact h
  unfold mulN
  rw [mulN_parts]
  omega
theorem mulN_small (x y : Nat) (hy : y ≤ 1099511627776) (h : ¬ (0 < x / 1000 ∧ 1099511627776 / (x / 1000) < y)) : x / 1000 * y ≤ 1099511627776 ∧ x % 1000 * y ≤ 1099511627776000 := by
  constructor
  · by_cases hq : 0 < x / 1000
    · have h2 : ¬ 1099511627776 / (x / 1000) < y := fun h3 => h ⟨hq, h3⟩
      rw [Nat.div_lt_iff_lt_mul hq, Nat.mul_comm] at h2
      omega
    · have : x / 1000 = 0 := by omega
      rw [this]; omega
  · have h1 : x % 1000 ≤ 1000 := by omega
    have := Nat.mul_le_mul h1 hy
    omega
theorem stopZ_nat (n : Nat) : stopZ (n : Int) = (min n 1099511627776 : Nat) := by unfold stopZ; (repeat' split) <;> omega

set_option maxRecDepth 100000 in
set_option maxHeartbeats 1000000 in
theorem rfx_mul_core (sx sy : Bool) (x y : Nat) (hx : x ≤ 1099511627776) (hy : y ≤ 1099511627776) (hsx : sx = true → 0 < x) (hsy : sy = true → 0 < y) (a b : Int) (w : World) (h1 : -9223372036854775808 ≤ a) (h2 : a ≤ 9223372036854775807) (h3 : -9223372036854775808 ≤ b) (h4 : b ≤ 9223372036854775807)
    (ha : stopZ a = if sx then -(x : Int) else x) (hb : stopZ b = if sy then -(y : Int) else y) :
    Calls Tryd.prog 22 #[.int .i64 a, .int .i64 b] w fun e w' => e = .returned (.int .i64 (if sx = sy then (mulN x y : Int) else -(mulN x y : Int))) ∧ w = w' := by
  by_cases hg : 0 < x / 1000 ∧ 1099511627776 / (x / 1000) < y
  · have hm := mulN_great x y hg.1 hg.2
    have hg1 : (0 : Int) < (x : Int) / 1000 := by omega
    have hg2 : (1099511627776 : Int) / ((x : Int) / 1000) < (y : Int) := by
      have h := hg.2
      have e : (1099511627776 : Int) / ((x : Int) / 1000) = ((1099511627776 / (x / 1000) : Nat) : Int) := by rw [Int.natCast_ediv, Int.natCast_ediv]; rfl
      rw [e]; omega
    rw [hm]
    clear hm hg
    cases sx with
    | true =>
      cases sy with
      | true =>
        have px : 0 < x := hsx rfl
        have py : 0 < y := hsy rfl
        simp only [if_true, Bool.false_eq_true, if_false] at ha hb
        have Ha := Lib.hid ha
        have Hb := Lib.hid hb
        clear ha hb hsx hsy
        go_enter Tryd.func22, Tryd.ntmps22
        go_wp2_with fail
        refine (rfx_stop a w h1 h2).mono ?_
        rintro e w1 ⟨rfl, rfl⟩
        rw [Ha.out]
        go_wp2_with fail
        refine (rfx_stop b w h3 h4).mono ?_
        rintro e w1 ⟨rfl, rfl⟩
        rw [Hb.out]
        go_wp2_with fail
        go_ret
        exact ⟨rfl, rfl⟩
      | false =>
        have px : 0 < x := hsx rfl
        simp only [if_true, Bool.false_eq_true, if_false] at ha hb
        have Ha := Lib.hid ha
        have Hb := Lib.hid hb
        clear ha hb hsx hsy
        go_enter Tryd.func22, Tryd.ntmps22
        go_wp2_with fail
        refine (rfx_stop a w h1 h2).mono ?_
        rintro e w1 ⟨rfl, rfl⟩
        rw [Ha.out]
        go_wp2_with fail
        refine (rfx_stop b w h3 h4).mono ?_
        rintro e w1 ⟨rfl, rfl⟩
        rw [Hb.out]
        go_wp2_with fail
        go_ret
        exact ⟨rfl, rfl⟩
    | false =>
      cases sy with
      | true =>
        have py : 0 < y := hsy rfl
        simp only [if_true, Bool.false_eq_true, if_false] at ha hb
        have Ha := Lib.hid ha
        have Hb := Lib.hid hb
        clear ha hb hsx hsy
        go_enter Tryd.func22, Tryd.ntmps22
        go_wp2_with fail
        refine (rfx_stop a w h1 h2).mono ?_
        rintro e w1 ⟨rfl, rfl⟩
        rw [Ha.out]
        go_wp2_with fail
        refine (rfx_stop b w h3 h4).mono ?_
        rintro e w1 ⟨rfl, rfl⟩
        rw [Hb.out]
        go_wp2_with fail
        go_ret
        exact ⟨rfl, rfl⟩
      | false =>
        simp only [if_true, Bool.false_eq_true, if_false] at ha hb
        have Ha := Lib.hid ha
        have Hb := Lib.hid hb
        clear ha hb hsx hsy
        go_enter Tryd.func22, Tryd.ntmps22
        go_wp2_with fail
        refine (rfx_stop a w h1 h2).mono ?_
        rintro e w1 ⟨rfl, rfl⟩
        rw [Ha.out]
        go_wp2_with fail
        refine (rfx_stop b w h3 h4).mono ?_
        rintro e w1 ⟨rfl, rfl⟩
        rw [Hb.out]
        go_wp2_with fail
        go_ret
        exact ⟨rfl, rfl⟩
  · obtain ⟨hs1, hs2⟩ := mulN_small x y hy hg
    have hm : (mulN x y : Int) = stopZ ((x : Int) / 1000 * y + (x : Int) % 1000 * y / 1000) := by
      have e : (x : Int) / 1000 * y + (x : Int) % 1000 * y / 1000 = ((x / 1000 * y + x % 1000 * y / 1000 : Nat) : Int) := by
        rw [Int.natCast_add, Int.natCast_mul, Int.natCast_ediv, Int.natCast_ediv, Int.natCast_mul, Int.natCast_emod]; rfl
      rw [e, stopZ_nat, mulN, mulN_parts]
    have hz1 : (0 : Int) ≤ (x : Int) / 1000 * y ∧ (x : Int) / 1000 * y ≤ 1099511627776 := by
      have e : (x : Int) / 1000 * y = ((x / 1000 * y : Nat) : Int) := by rw [Int.natCast_mul, Int.natCast_ediv]; rfl
      rw [e]; omega
    have hz2 : (0 : Int) ≤ (x : Int) % 1000 * y ∧ (x : Int) % 1000 * y ≤ 1099511627776000 := by
      have e : (x : Int) % 1000 * y = ((x % 1000 * y : Nat) : Int) := by rw [Int.natCast_mul, Int.natCast_emod]; rfl
      rw [e]; omega
    have hgI : ¬ ((0 : Int) < (x : Int) / 1000 ∧ (1099511627776 : Int) / ((x : Int) / 1000) < (y : Int)) := by
      rintro ⟨k1, k2⟩
      apply hg
      refine ⟨by omega, ?_⟩
      have e : (1099511627776 : Int) / ((x : Int) / 1000) = ((1099511627776 / (x / 1000) : Nat) : Int) := by rw [Int.natCast_ediv, Int.natCast_ediv]; rfl
      rw [e] at k2; omega
    rw [hm]
    clear hm hg hs1 hs2
    obtain ⟨z1, z2⟩ := hz1
    obtain ⟨z3, z4⟩ := hz2
    by_cases hg1 : (0 : Int) < (x : Int) / 1000
    · have hg2 : ¬ (1099511627776 : Int) / ((x : Int) / 1000) < (y : Int) := fun k => hgI ⟨hg1, k⟩
      clear hgI
      cases sx with
      | true =>
        cases sy with
        | true =>
          have px : 0 < x := hsx rfl
          have py : 0 < y := hsy rfl
          simp only [if_true, Bool.false_eq_true, if_false] at ha hb
          have Ha := Lib.hid ha
          have Hb := Lib.hid hb
          clear ha hb hsx hsy
          go_enter Tryd.func22, Tryd.ntmps22
          go_wp2_with fail
          refine (rfx_stop a w h1 h2).mono ?_
          rintro e w1 ⟨rfl, rfl⟩
          rw [Ha.out]
          go_wp2_with fail
          refine (rfx_stop b w h3 h4).mono ?_
          rintro e w1 ⟨rfl, rfl⟩
          rw [Hb.out]
          go_wp2_with fail
          refine (rfx_stop ((x : Int) / 1000 * y + (x : Int) % 1000 * y / 1000) w (by omega) (by omega)).mono ?_
          obtain ⟨st1, st2⟩ := stopZ_range ((x : Int) / 1000 * y + (x : Int) % 1000 * y / 1000)
          rintro e w1 ⟨rfl, rfl⟩
          go_wp2
          go_ret
          exact ⟨rfl, rfl⟩
        | false =>
          have px : 0 < x := hsx rfl
          simp only [if_true, Bool.false_eq_true, if_false] at ha hb
          have Ha := Lib.hid ha
          have Hb := Lib.hid hb
          clear ha hb hsx hsy
          go_enter Tryd.func22, Tryd.ntmps22
          go_wp2_with fail
          refine (rfx_stop a w h1 h2).mono ?_
          rintro e w1 ⟨rfl, rfl⟩
          rw [Ha.out]
          go_wp2_with fail
          refine (rfx_stop b w h3 h4).mono ?_
          rintro e w1 ⟨rfl, rfl⟩
          rw [Hb.out]
          go_wp2_with fail
          refine (rfx_stop ((x : Int) / 1000 * y + (x : Int) % 1000 * y / 1000) w (by omega) (by omega)).mono ?_
          obtain ⟨st1, st2⟩ := stopZ_range ((x : Int) / 1000 * y + (x : Int) % 1000 * y / 1000)
          rintro e w1 ⟨rfl, rfl⟩
          go_wp2
          go_ret
          exact ⟨rfl, rfl⟩
      | false =>
        cases sy with
        | true =>
          have py : 0 < y := hsy rfl
          simp only [if_true, Bool.false_eq_true, if_false] at ha hb
          have Ha := Lib.hid ha
          have Hb := Lib.hid hb
          clear ha hb hsx hsy
          go_enter Tryd.func22, Tryd.ntmps22
          go_wp2_with fail
          refine (rfx_stop a w h1 h2).mono ?_
          rintro e w1 ⟨rfl, rfl⟩
          rw [Ha.out]
          go_wp2_with fail
          refine (rfx_stop b w h3 h4).mono ?_
          rintro e w1 ⟨rfl, rfl⟩
          rw [Hb.out]
          go_wp2_with fail
          refine (rfx_stop ((x : Int) / 1000 * y + (x : Int) % 1000 * y / 1000) w (by omega) (by omega)).mono ?_
          obtain ⟨st1, st2⟩ := stopZ_range ((x : Int) / 1000 * y + (x : Int) % 1000 * y / 1000)
          rintro e w1 ⟨rfl, rfl⟩
          go_wp2
          go_ret
          exact ⟨rfl, rfl⟩
        | false =>
          simp only [if_true, Bool.false_eq_true, if_false] at ha hb
          have Ha := Lib.hid ha
          have Hb := Lib.hid hb
          clear ha hb hsx hsy
          go_enter Tryd.func22, Tryd.ntmps22
          go_wp2_with fail
          refine (rfx_stop a w h1 h2).mono ?_
          rintro e w1 ⟨rfl, rfl⟩
          rw [Ha.out]
          go_wp2_with fail
          refine (rfx_stop b w h3 h4).mono ?_
          rintro e w1 ⟨rfl, rfl⟩
          rw [Hb.out]
          go_wp2_with fail
          refine (rfx_stop ((x : Int) / 1000 * y + (x : Int) % 1000 * y / 1000) w (by omega) (by omega)).mono ?_
          obtain ⟨st1, st2⟩ := stopZ_range ((x : Int) / 1000 * y + (x : Int) % 1000 * y / 1000)
          rintro e w1 ⟨rfl, rfl⟩
          go_wp2
          go_ret
          exact ⟨rfl, rfl⟩
    · clear hgI
      cases sx with
      | true =>
        cases sy with
        | true =>
          have px : 0 < x := hsx rfl
          have py : 0 < y := hsy rfl
          simp only [if_true, Bool.false_eq_true, if_false] at ha hb
          have Ha := Lib.hid ha
          have Hb := Lib.hid hb
          clear ha hb hsx hsy
          go_enter Tryd.func22, Tryd.ntmps22
          go_wp2_with fail
          refine (rfx_stop a w h1 h2).mono ?_
          rintro e w1 ⟨rfl, rfl⟩
          rw [Ha.out]
          go_wp2_with fail
          refine (rfx_stop b w h3 h4).mono ?_
          rintro e w1 ⟨rfl, rfl⟩
          rw [Hb.out]
          go_wp2_with fail
          refine (rfx_stop ((x : Int) / 1000 * y + (x : Int) % 1000 * y / 1000) w (by omega) (by omega)).mono ?_
          obtain ⟨st1, st2⟩ := stopZ_range ((x : Int) / 1000 * y + (x : Int) % 1000 * y / 1000)
          rintro e w1 ⟨rfl, rfl⟩
          go_wp2
          go_ret
          exact ⟨rfl, rfl⟩
        | false =>
          have px : 0 < x := hsx rfl
          simp only [if_true, Bool.false_eq_true, if_false] at ha hb
          have Ha := Lib.hid ha
          have Hb := Lib.hid hb
          clear ha hb hsx hsy
          go_enter Tryd.func22, Tryd.ntmps22
          go_wp2_with fail
          refine (rfx_stop a w h1 h2).mono ?_
          rintro e w1 ⟨rfl, rfl⟩
          rw [Ha.out]
          go_wp2_with fail
          refine (rfx_stop b w h3 h4).mono ?_
          rintro e w1 ⟨rfl, rfl⟩
          rw [Hb.out]
          go_wp2_with fail
          refine (rfx_stop ((x : Int) / 1000 * y + (x : Int) % 1000 * y / 1000) w (by omega) (by omega)).mono ?_
          obtain ⟨st1, st2⟩ := stopZ_range ((x : Int) / 1000 * y + (x : Int) % 1000 * y / 1000)
          rintro e w1 ⟨rfl, rfl⟩
          go_wp2
          go_ret
          exact ⟨rfl, rfl⟩
      | false =>
        cases sy with
        | true =>
          have py : 0 < y := hsy rfl
          simp only [if_true, Bool.false_eq_true, if_false] at ha hb
          have Ha := Lib.hid ha
          have Hb := Lib.hid hb
          clear ha hb hsx hsy
          go_enter Tryd.func22, Tryd.ntmps22
          go_wp2_with fail
          refine (rfx_stop a w h1 h2).mono ?_
          rintro e w1 ⟨rfl, rfl⟩
          rw [Ha.out]
          go_wp2_with fail
          refine (rfx_stop b w h3 h4).mono ?_
          rintro e w1 ⟨rfl, rfl⟩
          rw [Hb.out]
          go_wp2_with fail
          refine (rfx_stop ((x : Int) / 1000 * y + (x : Int) % 1000 * y / 1000) w (by omega) (by omega)).mono ?_
          obtain ⟨st1, st2⟩ := stopZ_range ((x : Int) / 1000 * y + (x : Int) % 1000 * y / 1000)
          rintro e w1 ⟨rfl, rfl⟩
          go_wp2
          go_ret
          exact ⟨rfl, rfl⟩
        | false =>
          simp only [if_true, Bool.false_eq_true, if_false] at ha hb
          have Ha := Lib.hid ha
          have Hb := Lib.hid hb
          clear ha hb hsx hsy
          go_enter Tryd.func22, Tryd.ntmps22
          go_wp2_with fail
          refine (rfx_stop a w h1 h2).mono ?_
          rintro e w1 ⟨rfl, rfl⟩
          rw [Ha.out]
          go_wp2_with fail
          refine (rfx_stop b w h3 h4).mono ?_
          rintro e w1 ⟨rfl, rfl⟩
          rw [Hb.out]
          go_wp2_with fail
          refine (rfx_stop ((x : Int) / 1000 * y + (x : Int) % 1000 * y / 1000) w (by omega) (by omega)).mono ?_
          obtain ⟨st1, st2⟩ := stopZ_range ((x : Int) / 1000 * y + (x : Int) % 1000 * y / 1000)
          rintro e w1 ⟨rfl, rfl⟩
          go_wp2
          go_ret
          exact ⟨rfl, rfl⟩
theorem rfx_mul (a b : Int) (w : World) (h1 : -9223372036854775808 ≤ a) (h2 : a ≤ 9223372036854775807) (h3 : -9223372036854775808 ≤ b) (h4 : b ≤ 9223372036854775807) :
    Calls Tryd.prog 22 #[.int .i64 a, .int .i64 b] w fun e w' => e = .returned (.int .i64 (mulZ a b)) ∧ w = w' := by
  obtain ⟨sx, x, hx, hsx, ha, hxe, hxs⟩ := abs_form a
  obtain ⟨sy, y, hy, hsy, hb, hye, hys⟩ := abs_form b
  rw [← mulZ_form hxe hye hxs hys]
  exact rfx_mul_core sx sy x y hx hy hsx hsy a b w h1 h2 h3 h4 ha hb
end Go.Proofs.YtflehiokbbldgaaDoor
