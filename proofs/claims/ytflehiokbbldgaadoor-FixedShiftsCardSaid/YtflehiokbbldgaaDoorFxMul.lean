/- Layer 1: the program's Mul is walked, with the library's Div64 by 1000 under it. -/
import Derived.Test.YtflehiokbbldgaaDoorFxNum
import Derived.Test.YtflehiokbbldgaaDoorShelf
import Derived.Laws.BitsAllLaws
import Derived.Deep.Cut
set_option linter.unusedVariables false
set_option linter.unusedSimpArgs false
namespace Go.Proofs.YtflehiokbbldgaaDoor
open Go.RowKit Fx

set_option maxRecDepth 100000 in
set_option maxHeartbeats 1000000 in
theorem div64_zero (lo : Nat) (w : World) (hlo : lo < 18446744073709551616) :
    Calls Tryd.prog 34 #[.int .u64 0, .int .u64 lo, .int .u64 1000] w fun e w' => ∃ r, e = .returned (.tuple #[.int .u64 ((lo / 1000 : Nat) : Int), r]) ∧ Below w.heap.size w w' := by
  go_enter Tryd.func34, Tryd.ntmps34
  go_wp2_with fail
  go_quiet (fail)
  go_wp2
  go_ret2
  exact ⟨_, rfl, below_drewN (Below.refl _ _) _⟩
theorem lz1000 : 64 - (Lib.bitLen (1000 : Int).toNat : Int) = 54 := by decide +kernel
theorem and_zero : bits .and .u64 18014398509481984000 4294967295 = 0 := by decide +kernel
theorem or_parts (hi lo : Nat) (hhi : hi < 1000) (hlo : lo < 18446744073709551616) :
    bits .or .u64 ((hi : Int) * 18014398509481984) ((lo : Int) / 1024) = ((hi * 18014398509481984 + lo / 1024 : Nat) : Int) := by
  have h1 : (hi : Int) * 18014398509481984 = ((hi * 18014398509481984 : Nat) : Int) := by rw [Int.natCast_mul]; rfl
  have h2 : (lo : Int) / 1024 = ((lo / 1024 : Nat) : Int) := by rw [Int.natCast_ediv]; rfl
  rw [h1, h2, u64_or_nat _ _ (by omega) (by omega)]
  congr 1
  have := Nat.two_pow_add_eq_or_of_lt (b := lo / 1024) (i := 54) (by omega) hi
  rw [show (2 : Nat) ^ 54 = 18014398509481984 from by decide] at this
  rw [Nat.mul_comm hi, this]
theorem wrap_low (lo : Nat) : IntKind.u64.wrap ((lo : Int) * 18014398509481984) = ((lo * 18014398509481984 % 18446744073709551616 : Nat) : Int) := by
  rw [IntKind.wrap_u64]
  omega
theorem and_low (V : Nat) (hV : V < 18446744073709551616) (h0 : V % 4294967296 = 0) : bits .and .u64 (V : Int) 4294967295 = 0 := by
  have := u64_and_nat V 4294967295 hV (by omega)
  rw [show ((4294967295 : Nat) : Int) = 4294967295 from rfl] at this
  rw [this]
  have h2 := Nat.and_two_pow_sub_one_eq_mod V 32
  rw [show (2 : Nat) ^ 32 - 1 = 4294967295 from by decide, show (2 : Nat) ^ 32 = 4294967296 from by decide] at h2
  rw [h2, h0]; rfl

set_option maxRecDepth 100000 in
set_option maxHeartbeats 1000000 in
theorem div64_core (hi lo U V Q R T A1 A2 A3 S Q0 R0 : Nat) (w : World) (hhi : hi < 1000) (h0 : 0 < hi)
    (e1 : bits .and .u64 18014398509481984000 4294967295 = 0) (e2 : bits .or .u64 ((hi : Int) * 18014398509481984) ((lo : Int) / 1024) = (U : Int)) (e3 : IntKind.u64.wrap ((lo : Int) * 18014398509481984) = (V : Int)) (e4 : bits .and .u64 (V : Int) 4294967295 = 0)
    (e5 : (U : Int) / 4194304000 = (Q : Int)) (e6 : (U : Int) - (Q : Int) * 4194304000 = (R : Int)) (e7 : (V : Int) / 4294967296 = (T : Int))
    (s1 : IntKind.u64.wrap ((U : Int) * 4294967296) = (A1 : Int)) (s2 : IntKind.u64.wrap ((A1 : Int) + (T : Int)) = (A2 : Int)) (s3 : IntKind.u64.wrap ((Q : Int) * 18014398509481984000) = (A3 : Int)) (s4 : IntKind.u64.wrap ((A2 : Int) - (A3 : Int)) = (S : Int))
    (s5 : (S : Int) / 4194304000 = (Q0 : Int)) (s6 : (S : Int) - (Q0 : Int) * 4194304000 = (R0 : Int))
    (hU : U < 18014398509481984000) (hV : V < 18446744073709551616) (hQ : Q < 4294967296) (hR : R < 4194304000) (hT : T < 4294967296) (hS : S < 18014398509481984000) (hQ0 : Q0 < 4294967296) (hR0 : R0 < 4194304000) :
    Calls Tryd.prog 34 #[.int .u64 hi, .int .u64 lo, .int .u64 1000] w fun e w' => ∃ r, e = .returned (.tuple #[.int .u64 ((Q : Int) * 4294967296 + (Q0 : Int)), r]) ∧ Below w.heap.size w w' := by
  have hz : ((hi : Int) == 0) = false := by simp; omega
  have S1 := Lib.hid s1
  have S2 := Lib.hid s2
  have S3 := Lib.hid s3
  have S4 := Lib.hid s4
  have S5 := Lib.hid s5
  have S6 := Lib.hid s6
  have HS := Lib.hid hS
  clear s1 s2 s3 s4 s5 s6 hS
  go_enter Tryd.func34, Tryd.ntmps34
  go_wp2_with fail
  refine (Tryd.bits_LeadingZeros64 1000 w (by omega) (by omega)).mono ?_
  rintro e w1 ⟨rfl, rfl⟩
  rw [lz1000]
  go_wp2_with fail
  go_loop [15, 16] (fun q r => q = .int .u64 (Q : Int) ∧ r = .int .u64 (R : Int)) (fun _ _ => 0)
  case atStart => exact ⟨rfl, rfl⟩
  case round =>
    obtain ⟨rfl, rfl⟩ := hrel
    have qB : decide ((4294967296 : Int) ≤ (Q : Int)) = false := by simp; omega
    have rB : decide ((4294967296 : Int) * (R : Int) + (T : Int) < 0) = false := by simp; omega
    have hq : (Q : Int) < 4294967296 := by omega
    have hr : (R : Int) < 4194304000 := by omega
    have ht : (T : Int) < 4294967296 := by omega
    have HQ := Lib.hid hQ
    have HR := Lib.hid hR
    have HT := Lib.hid hT
    have HU := Lib.hid hU
    have HV := Lib.hid hV
    clear hQ hR hT e1 e2 e3 e4 e5 e6 e7 hU hV hz
    go_upto_region 21 with (fail)
    have s1 := S1.out
    have s2 := S2.out
    have s3 := S3.out
    have s4 := S4.out
    clear S1 S2 S3 S4 hq hr ht
    go_upto_region 22 with (fail)
    have hs0 : (0 : Int) ≤ (S : Int) := by omega
    have hs1 : (S : Int) < 18014398509481984000 := by have := HS.out; omega
    have s5 := S5.out
    have s6 := S6.out
    clear s1 s2 s3 s4
    go_wp2_with fail
    go_loop [16, 18] (fun r q => q = .int .u64 (Q0 : Int) ∧ r = .int .u64 (R0 : Int)) (fun _ _ => 0)
    case atStart => exact ⟨rfl, rfl⟩
    case round =>
      obtain ⟨rfl, rfl⟩ := hrel
      have qB : decide ((4294967296 : Int) ≤ (Q0 : Int)) = false := by simp; omega
      have rB : decide ((4294967296 : Int) * (R0 : Int) < 0) = false := by simp; omega
      have hq : (Q0 : Int) < 4294967296 := by omega
      have hr : (R0 : Int) < 4194304000 := by omega
      have hQ : (Q : Int) < 4294967296 := by have := HQ.out; omega
      have HQ0 := Lib.hid hQ0
      have HR0 := Lib.hid hR0
      clear hQ0 hR0 s5 s6 hs0 hs1
      go_wp2
      go_ret2
      exact ⟨⟨_, rfl⟩, Below.refl _ _⟩

theorem wraps_core (U t r X q : Nat) (hr : r < 4194304000) (ht : t < 4294967296) (hX : U * 4294967296 = X + r * 4294967296) (hq : (q : Int) * 18014398509481984000 = (X : Int)) :
    IntKind.u64.wrap ((U : Int) * 4294967296) = ((U * 4294967296 % 18446744073709551616 : Nat) : Int) ∧
    IntKind.u64.wrap (((U * 4294967296 % 18446744073709551616 : Nat) : Int) + (t : Int)) = (((U * 4294967296 % 18446744073709551616 + t) % 18446744073709551616 : Nat) : Int) ∧
    IntKind.u64.wrap ((q : Int) * 18014398509481984000) = ((X % 18446744073709551616 : Nat) : Int) ∧
    IntKind.u64.wrap ((((U * 4294967296 % 18446744073709551616 + t) % 18446744073709551616 : Nat) : Int) - ((X % 18446744073709551616 : Nat) : Int)) = ((r * 4294967296 + t : Nat) : Int) := by
  rw [hq]
  simp only [IntKind.wrap_u64]
  refine ⟨by omega, by omega, by omega, ?_⟩
  rw [hX]
  omega
theorem wraps (q r t U : Nat) (hu : U = 4194304000 * q + r) (hr : r < 4194304000) (ht : t < 4294967296) :
    IntKind.u64.wrap ((U : Int) * 4294967296) = ((U * 4294967296 % 18446744073709551616 : Nat) : Int) ∧
    IntKind.u64.wrap (((U * 4294967296 % 18446744073709551616 : Nat) : Int) + (t : Int)) = (((U * 4294967296 % 18446744073709551616 + t) % 18446744073709551616 : Nat) : Int) ∧
    IntKind.u64.wrap ((q : Int) * 18014398509481984000) = ((q * 18014398509481984000 % 18446744073709551616 : Nat) : Int) ∧
    IntKind.u64.wrap ((((U * 4294967296 % 18446744073709551616 + t) % 18446744073709551616 : Nat) : Int) - ((q * 18014398509481984000 % 18446744073709551616 : Nat) : Int)) = ((r * 4294967296 + t : Nat) : Int) := by
  exact wraps_core U t r (q * 18014398509481984000) q hr ht (by omega) (by rw [Int.natCast_mul]; rfl)
theorem div64_1000 (hi lo : Nat) (w : World) (hhi : hi < 1000) (hlo : lo < 18446744073709551616) :
    Calls Tryd.prog 34 #[.int .u64 hi, .int .u64 lo, .int .u64 1000] w fun e w' => ∃ r, e = .returned (.tuple #[.int .u64 (((hi * 18446744073709551616 + lo) / 1000 : Nat) : Int), r]) ∧ Below w.heap.size w w' := by
  rcases Nat.eq_zero_or_pos hi with h0 | h0
  · subst h0
    have := div64_zero lo w hlo
    rw [Nat.zero_mul, Nat.zero_add]
    exact this
  · have e2 := or_parts hi lo hhi hlo
    have e3 := wrap_low lo
    have e4 := and_low (lo * 18014398509481984 % 18446744073709551616) (by omega) (by omega)
    have hU : hi * 18014398509481984 + lo / 1024 < 18014398509481984000 := by omega
    have hV : lo * 18014398509481984 % 18446744073709551616 < 18446744073709551616 := by omega
    have hfin : (hi * 18446744073709551616 + lo) / 1000 = (hi * 18014398509481984 + lo / 1024) / 4194304000 * 4294967296 + ((hi * 18014398509481984 + lo / 1024) % 4194304000 * 4294967296 + lo * 18014398509481984 % 18446744073709551616 / 4294967296) / 4194304000 := by omega
    rw [hfin]
    clear hfin
    obtain ⟨U, hUd⟩ : ∃ U, U = hi * 18014398509481984 + lo / 1024 := ⟨_, rfl⟩
    obtain ⟨V, hVd⟩ : ∃ V, V = lo * 18014398509481984 % 18446744073709551616 := ⟨_, rfl⟩
    rw [← hUd] at e2 hU ⊢
    rw [← hVd] at e3 e4 hV ⊢
    clear hUd hVd
    have hu := Nat.div_add_mod U 4194304000
    have hq : U / 4194304000 < 4294967296 := by omega
    have hr : U % 4194304000 < 4194304000 := by omega
    have ht : V / 4294967296 < 4294967296 := by omega
    have ht' : (V : Int) / 4294967296 = ((V / 4294967296 : Nat) : Int) := by rw [Int.natCast_ediv]; rfl
    have hq' : (U : Int) / 4194304000 = ((U / 4194304000 : Nat) : Int) := by rw [Int.natCast_ediv]; rfl
    obtain ⟨q, hqd⟩ : ∃ q, q = U / 4194304000 := ⟨_, rfl⟩
    obtain ⟨r, hrd⟩ : ∃ r, r = U % 4194304000 := ⟨_, rfl⟩
    obtain ⟨t, htd⟩ : ∃ t, t = V / 4294967296 := ⟨_, rfl⟩
    rw [← hqd] at hu hq hq' ⊢
    rw [← hrd] at hu hr ⊢
    rw [← htd] at ht ht' ⊢
    clear hqd hrd htd
    obtain ⟨a1, a2, a3, a4⟩ := wraps q r t U hu.symm hr ht
    obtain ⟨S, hSd⟩ : ∃ S, S = r * 4294967296 + t := ⟨_, rfl⟩
    rw [← hSd] at a4 ⊢
    have hS : S < 18014398509481984000 := by omega
    have h := div64_core hi lo U V q r t _ _ _ S (S / 4194304000) (S % 4194304000) w hhi h0 and_zero e2 e3 e4
      hq' (by omega) ht' a1 a2 a3 a4 (by rw [Int.natCast_ediv]; rfl) (by omega) hU hV hq hr ht hS (by omega) (by omega)
    refine h.mono ?_
    rintro e w' ⟨r, rfl, hb⟩
    refine ⟨r, ?_, hb⟩
    have : ((q * 4294967296 + S / 4194304000 : Nat) : Int) = (q : Int) * 4294967296 + ((S / 4194304000 : Nat) : Int) := by
      rw [Int.natCast_add, Int.natCast_mul]; rfl
    rw [this]

set_option maxRecDepth 100000 in
set_option maxHeartbeats 1000000 in
theorem fx_mul_core (sx sy : Bool) (x y : Nat) (hx : x ≤ 1099511627776) (hy : y ≤ 1099511627776) (hsx : sx = true → 0 < x) (hsy : sy = true → 0 < y) (a b : Int) (w : World) (h1 : -9223372036854775808 ≤ a) (h2 : a ≤ 9223372036854775807) (h3 : -9223372036854775808 ≤ b) (h4 : b ≤ 9223372036854775807)
    (ha : stopZ a = if sx then -(x : Int) else x) (hb : stopZ b = if sy then -(y : Int) else y) (hi lo q : Nat) (hhi : x * y / 18446744073709551616 = hi) (hlo : x * y % 18446744073709551616 = lo) (hlo2 : lo < 18446744073709551616) (hq : (hi * 18446744073709551616 + lo) / 1000 = q) (hm : mulN x y = if hi < 1000 then min q 1099511627776 else 1099511627776) :
    Calls Tryd.prog 21 #[.int .i64 a, .int .i64 b] w fun e w' => e = .returned (.int .i64 (if sx = sy then (mulN x y : Int) else -(mulN x y : Int))) ∧ Below w.heap.size w w' := by
  have mx1 : max (-(x : Int)) (x : Int) = (x : Int) := by omega
  have mx2 : max (x : Int) (-(x : Int)) = (x : Int) := by omega
  have my1 : max (-(y : Int)) (y : Int) = (y : Int) := by omega
  have my2 : max (y : Int) (-(y : Int)) = (y : Int) := by omega
  have Hhi := Lib.hid hhi
  have Hlo := Lib.hid hlo
  have Hlo2 := Lib.hid hlo2
  have Hq := Lib.hid hq
  clear hhi hlo hlo2 hq
  by_cases hh : hi < 1000
  · rw [if_pos hh] at hm
    by_cases hqm : q ≤ 1099511627776
    · rw [Nat.min_eq_left hqm] at hm
      rw [hm]
      clear hm
      cases sx with
      | true =>
        cases sy with
        | true =>
          have px : 0 < x := hsx rfl
          have py : 0 < y := hsy rfl
          simp only [if_true, Bool.false_eq_true, if_false] at ha hb
          have Ha := Lib.hid ha
          have Hb := Lib.hid hb
          clear ha hb hsx hsy
          go_enter Tryd.func21, Tryd.ntmps21
          go_wp2_with fail
          refine (fx_stop a w h1 h2).mono ?_
          rintro e w1 ⟨rfl, rfl⟩
          rw [Ha.out]
          go_wp2_with fail
          refine (fx_stop b w h3 h4).mono ?_
          rintro e w1 ⟨rfl, rfl⟩
          rw [Hb.out]
          go_wp2_with fail
          try rw [mx1]
          try rw [mx2]
          try rw [my1]
          try rw [my2]
          refine (Tryd.bits_Mul64 x y (by omega) (by omega) w).mono ?_
          rintro e w1 ⟨rfl, rfl⟩
          rw [Hhi.out, Hlo.out]
          go_wp2_with fail
          refine (div64_1000 hi lo w1 hh Hlo2.out).mono ?_
          rintro e w2 ⟨r, rfl, hb1⟩
          rw [Hq.out]
          go_wp2
          go_ret
          first | exact ⟨rfl, hb1⟩ | exact ⟨ret_int (by omega), hb1⟩
        | false =>
          have px : 0 < x := hsx rfl
          simp only [if_true, Bool.false_eq_true, if_false] at ha hb
          have Ha := Lib.hid ha
          have Hb := Lib.hid hb
          clear ha hb hsx hsy
          go_enter Tryd.func21, Tryd.ntmps21
          go_wp2_with fail
          refine (fx_stop a w h1 h2).mono ?_
          rintro e w1 ⟨rfl, rfl⟩
          rw [Ha.out]
          go_wp2_with fail
          refine (fx_stop b w h3 h4).mono ?_
          rintro e w1 ⟨rfl, rfl⟩
          rw [Hb.out]
          go_wp2_with fail
          try rw [mx1]
          try rw [mx2]
          try rw [my1]
          try rw [my2]
          refine (Tryd.bits_Mul64 x y (by omega) (by omega) w).mono ?_
          rintro e w1 ⟨rfl, rfl⟩
          rw [Hhi.out, Hlo.out]
          go_wp2_with fail
          refine (div64_1000 hi lo w1 hh Hlo2.out).mono ?_
          rintro e w2 ⟨r, rfl, hb1⟩
          rw [Hq.out]
          go_wp2
          go_ret
          first | exact ⟨rfl, hb1⟩ | exact ⟨ret_int (by omega), hb1⟩
      | false =>
        cases sy with
        | true =>
          have py : 0 < y := hsy rfl
          simp only [if_true, Bool.false_eq_true, if_false] at ha hb
          have Ha := Lib.hid ha
          have Hb := Lib.hid hb
          clear ha hb hsx hsy
          go_enter Tryd.func21, Tryd.ntmps21
          go_wp2_with fail
          refine (fx_stop a w h1 h2).mono ?_
          rintro e w1 ⟨rfl, rfl⟩
          rw [Ha.out]
          go_wp2_with fail
          refine (fx_stop b w h3 h4).mono ?_
          rintro e w1 ⟨rfl, rfl⟩
          rw [Hb.out]
          go_wp2_with fail
          try rw [mx1]
          try rw [mx2]
          try rw [my1]
          try rw [my2]
          refine (Tryd.bits_Mul64 x y (by omega) (by omega) w).mono ?_
          rintro e w1 ⟨rfl, rfl⟩
          rw [Hhi.out, Hlo.out]
          go_wp2_with fail
          refine (div64_1000 hi lo w1 hh Hlo2.out).mono ?_
          rintro e w2 ⟨r, rfl, hb1⟩
          rw [Hq.out]
          go_wp2
          go_ret
          first | exact ⟨rfl, hb1⟩ | exact ⟨ret_int (by omega), hb1⟩
        | false =>
          simp only [if_true, Bool.false_eq_true, if_false] at ha hb
          have Ha := Lib.hid ha
          have Hb := Lib.hid hb
          clear ha hb hsx hsy
          go_enter Tryd.func21, Tryd.ntmps21
          go_wp2_with fail
          refine (fx_stop a w h1 h2).mono ?_
          rintro e w1 ⟨rfl, rfl⟩
          rw [Ha.out]
          go_wp2_with fail
          refine (fx_stop b w h3 h4).mono ?_
          rintro e w1 ⟨rfl, rfl⟩
          rw [Hb.out]
          go_wp2_with fail
          try rw [mx1]
          try rw [mx2]
          try rw [my1]
          try rw [my2]
          refine (Tryd.bits_Mul64 x y (by omega) (by omega) w).mono ?_
          rintro e w1 ⟨rfl, rfl⟩
          rw [Hhi.out, Hlo.out]
          go_wp2_with fail
          refine (div64_1000 hi lo w1 hh Hlo2.out).mono ?_
          rintro e w2 ⟨r, rfl, hb1⟩
          rw [Hq.out]
          go_wp2
          go_ret
          first | exact ⟨rfl, hb1⟩ | exact ⟨ret_int (by omega), hb1⟩
    · rw [Nat.min_eq_right (by omega)] at hm
      rw [hm]
      clear hm
      cases sx with
      | true =>
        cases sy with
        | true =>
          have px : 0 < x := hsx rfl
          have py : 0 < y := hsy rfl
          simp only [if_true, Bool.false_eq_true, if_false] at ha hb
          have Ha := Lib.hid ha
          have Hb := Lib.hid hb
          clear ha hb hsx hsy
          go_enter Tryd.func21, Tryd.ntmps21
          go_wp2_with fail
          refine (fx_stop a w h1 h2).mono ?_
          rintro e w1 ⟨rfl, rfl⟩
          rw [Ha.out]
          go_wp2_with fail
          refine (fx_stop b w h3 h4).mono ?_
          rintro e w1 ⟨rfl, rfl⟩
          rw [Hb.out]
          go_wp2_with fail
          try rw [mx1]
          try rw [mx2]
          try rw [my1]
          try rw [my2]
          refine (Tryd.bits_Mul64 x y (by omega) (by omega) w).mono ?_
          rintro e w1 ⟨rfl, rfl⟩
          rw [Hhi.out, Hlo.out]
          go_wp2_with fail
          refine (div64_1000 hi lo w1 hh Hlo2.out).mono ?_
          rintro e w2 ⟨r, rfl, hb1⟩
          rw [Hq.out]
          go_wp2
          go_ret
          first | exact ⟨rfl, hb1⟩ | exact ⟨ret_int (by omega), hb1⟩
        | false =>
          have px : 0 < x := hsx rfl
          simp only [if_true, Bool.false_eq_true, if_false] at ha hb
          have Ha := Lib.hid ha
          have Hb := Lib.hid hb
          clear ha hb hsx hsy
          go_enter Tryd.func21, Tryd.ntmps21
          go_wp2_with fail
          refine (fx_stop a w h1 h2).mono ?_
          rintro e w1 ⟨rfl, rfl⟩
          rw [Ha.out]
          go_wp2_with fail
          refine (fx_stop b w h3 h4).mono ?_
          rintro e w1 ⟨rfl, rfl⟩
          rw [Hb.out]
          go_wp2_with fail
          try rw [mx1]
          try rw [mx2]
          try rw [my1]
          try rw [my2]
          refine (Tryd.bits_Mul64 x y (by omega) (by omega) w).mono ?_
          rintro e w1 ⟨rfl, rfl⟩
          rw [Hhi.out, Hlo.out]
          go_wp2_with fail
          refine (div64_1000 hi lo w1 hh Hlo2.out).mono ?_
          rintro e w2 ⟨r, rfl, hb1⟩
          rw [Hq.out]
          go_wp2
          go_ret
          first | exact ⟨rfl, hb1⟩ | exact ⟨ret_int (by omega), hb1⟩
      | false =>
        cases sy with
        | true =>
          have py : 0 < y := hsy rfl
          simp only [if_true, Bool.false_eq_true, if_false] at ha hb
          have Ha := Lib.hid ha
          have Hb := Lib.hid hb
          clear ha hb hsx hsy
          go_enter Tryd.func21, Tryd.ntmps21
          go_wp2_with fail
          refine (fx_stop a w h1 h2).mono ?_
          rintro e w1 ⟨rfl, rfl⟩
          rw [Ha.out]
          go_wp2_with fail
          refine (fx_stop b w h3 h4).mono ?_
          rintro e w1 ⟨rfl, rfl⟩
          rw [Hb.out]
          go_wp2_with fail
          try rw [mx1]
          try rw [mx2]
          try rw [my1]
          try rw [my2]
          refine (Tryd.bits_Mul64 x y (by omega) (by omega) w).mono ?_
          rintro e w1 ⟨rfl, rfl⟩
          rw [Hhi.out, Hlo.out]
          go_wp2_with fail
          refine (div64_1000 hi lo w1 hh Hlo2.out).mono ?_
          rintro e w2 ⟨r, rfl, hb1⟩
          rw [Hq.out]
          go_wp2
          go_ret
          first | exact ⟨rfl, hb1⟩ | exact ⟨ret_int (by omega), hb1⟩
        | false =>
          simp only [if_true, Bool.false_eq_true, if_false] at ha hb
          have Ha := Lib.hid ha
          have Hb := Lib.hid hb
          clear ha hb hsx hsy
          go_enter Tryd.func21, Tryd.ntmps21
          go_wp2_with fail
          refine (fx_stop a w h1 h2).mono ?_
          rintro e w1 ⟨rfl, rfl⟩
          rw [Ha.out]
          go_wp2_with fail
          refine (fx_stop b w h3 h4).mono ?_
          rintro e w1 ⟨rfl, rfl⟩
          rw [Hb.out]
          go_wp2_with fail
          try rw [mx1]
          try rw [mx2]
          try rw [my1]
          try rw [my2]
          refine (Tryd.bits_Mul64 x y (by omega) (by omega) w).mono ?_
          rintro e w1 ⟨rfl, rfl⟩
          rw [Hhi.out, Hlo.out]
          go_wp2_with fail
          refine (div64_1000 hi lo w1 hh Hlo2.out).mono ?_
          rintro e w2 ⟨r, rfl, hb1⟩
          rw [Hq.out]
          go_wp2
          go_ret
          first | exact ⟨rfl, hb1⟩ | exact ⟨ret_int (by omega), hb1⟩
  · rw [if_neg hh] at hm
    rw [hm]
    clear hm
    cases sx with
    | true =>
      cases sy with
      | true =>
        have px : 0 < x := hsx rfl
        have py : 0 < y := hsy rfl
        simp only [if_true, Bool.false_eq_true, if_false] at ha hb
        have Ha := Lib.hid ha
        have Hb := Lib.hid hb
        clear ha hb hsx hsy
        go_enter Tryd.func21, Tryd.ntmps21
        go_wp2_with fail
        refine (fx_stop a w h1 h2).mono ?_
        rintro e w1 ⟨rfl, rfl⟩
        rw [Ha.out]
        go_wp2_with fail
        refine (fx_stop b w h3 h4).mono ?_
        rintro e w1 ⟨rfl, rfl⟩
        rw [Hb.out]
        go_wp2_with fail
        try rw [mx1]
        try rw [mx2]
        try rw [my1]
        try rw [my2]
        refine (Tryd.bits_Mul64 x y (by omega) (by omega) w).mono ?_
        rintro e w1 ⟨rfl, rfl⟩
        rw [Hhi.out, Hlo.out]
        go_wp2
        go_ret
        exact ⟨rfl, Below.refl _ _⟩
      | false =>
        have px : 0 < x := hsx rfl
        simp only [if_true, Bool.false_eq_true, if_false] at ha hb
        have Ha := Lib.hid ha
        have Hb := Lib.hid hb
        clear ha hb hsx hsy
        go_enter Tryd.func21, Tryd.ntmps21
        go_wp2_with fail
        refine (fx_stop a w h1 h2).mono ?_
        rintro e w1 ⟨rfl, rfl⟩
        rw [Ha.out]
        go_wp2_with fail
        refine (fx_stop b w h3 h4).mono ?_
        rintro e w1 ⟨rfl, rfl⟩
        rw [Hb.out]
        go_wp2_with fail
        try rw [mx1]
        try rw [mx2]
        try rw [my1]
        try rw [my2]
        refine (Tryd.bits_Mul64 x y (by omega) (by omega) w).mono ?_
        rintro e w1 ⟨rfl, rfl⟩
        rw [Hhi.out, Hlo.out]
        go_wp2
        go_ret
        exact ⟨rfl, Below.refl _ _⟩
    | false =>
      cases sy with
      | true =>
        have py : 0 < y := hsy rfl
        simp only [if_true, Bool.false_eq_true, if_false] at ha hb
        have Ha := Lib.hid ha
        have Hb := Lib.hid hb
        clear ha hb hsx hsy
        go_enter Tryd.func21, Tryd.ntmps21
        go_wp2_with fail
        refine (fx_stop a w h1 h2).mono ?_
        rintro e w1 ⟨rfl, rfl⟩
        rw [Ha.out]
        go_wp2_with fail
        refine (fx_stop b w h3 h4).mono ?_
        rintro e w1 ⟨rfl, rfl⟩
        rw [Hb.out]
        go_wp2_with fail
        try rw [mx1]
        try rw [mx2]
        try rw [my1]
        try rw [my2]
        refine (Tryd.bits_Mul64 x y (by omega) (by omega) w).mono ?_
        rintro e w1 ⟨rfl, rfl⟩
        rw [Hhi.out, Hlo.out]
        go_wp2
        go_ret
        exact ⟨rfl, Below.refl _ _⟩
      | false =>
        simp only [if_true, Bool.false_eq_true, if_false] at ha hb
        have Ha := Lib.hid ha
        have Hb := Lib.hid hb
        clear ha hb hsx hsy
        go_enter Tryd.func21, Tryd.ntmps21
        go_wp2_with fail
        refine (fx_stop a w h1 h2).mono ?_
        rintro e w1 ⟨rfl, rfl⟩
        rw [Ha.out]
        go_wp2_with fail
        refine (fx_stop b w h3 h4).mono ?_
        rintro e w1 ⟨rfl, rfl⟩
        rw [Hb.out]
        go_wp2_with fail
        try rw [mx1]
        try rw [mx2]
        try rw [my1]
        try rw [my2]
        refine (Tryd.bits_Mul64 x y (by omega) (by omega) w).mono ?_
        rintro e w1 ⟨rfl, rfl⟩
        rw [Hhi.out, Hlo.out]
        go_wp2
        go_ret
        exact ⟨rfl, Below.refl _ _⟩

theorem fx_mul_of (a b : Int) (w : World) (h1 : -9223372036854775808 ≤ a) (h2 : a ≤ 9223372036854775807) (h3 : -9223372036854775808 ≤ b) (h4 : b ≤ 9223372036854775807) :
    ∃ (sx sy : Bool) (x y : Nat), (if sx = sy then (mulN x y : Int) else -(mulN x y : Int)) = mulZ a b ∧ Calls Tryd.prog 21 #[.int .i64 a, .int .i64 b] w fun e w' => e = .returned (.int .i64 (if sx = sy then (mulN x y : Int) else -(mulN x y : Int))) ∧ Below w.heap.size w w' := by
  obtain ⟨sx, x, hx, hsx, ha, hxe, hxs⟩ := abs_form a
  obtain ⟨sy, y, hy, hsy, hb, hye, hys⟩ := abs_form b
  refine ⟨sx, sy, x, y, mulZ_form hxe hye hxs hys, ?_⟩
  refine fx_mul_core sx sy x y hx hy hsx hsy a b w h1 h2 h3 h4 ha hb (x * y / 18446744073709551616) (x * y % 18446744073709551616) _ rfl rfl (by omega) rfl ?_
  rw [Nat.mul_comm (x * y / 18446744073709551616), Nat.div_add_mod]
  unfold mulN
  split
  · rfl
  · omega
theorem fx_mul (a b : Int) (w : World) (h1 : -9223372036854775808 ≤ a) (h2 : a ≤ 9223372036854775807) (h3 : -9223372036854775808 ≤ b) (h4 : b ≤ 9223372036854775807) :
    Calls Tryd.prog 21 #[.int .i64 a, .int .i64 b] w fun e w' => e = .returned (.int .i64 (mulZ a b)) ∧ Below w.heap.size w w' := by
  obtain ⟨sx, sy, x, y, he, hc⟩ := fx_mul_of a b w h1 h2 h3 h4
  rw [he] at hc
  exact hc
end Go.Proofs.YtflehiokbbldgaaDoor
