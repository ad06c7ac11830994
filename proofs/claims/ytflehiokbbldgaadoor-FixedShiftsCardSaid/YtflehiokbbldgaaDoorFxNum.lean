/- Layer 1's Stop and Add, of the program and of the reference, are walked. -/
import Derived.Test.YtflehiokbbldgaaDoorWords
set_option linter.unusedVariables false
set_option linter.unusedSimpArgs false
namespace Go.Proofs.YtflehiokbbldgaaDoor
open Go.RowKit
namespace Fx
/-- a number, stopped -/
def stopZ (n : Int) : Int := if 1099511627776 < n then 1099511627776 else if n < -1099511627776 then -1099511627776 else n
def addZ (a b : Int) : Int := stopZ (stopZ a + stopZ b)
/-- what a product of two numbers not below nothing is, stopped -/
def mulN (x y : Nat) : Nat := min (x * y / 1000) 1099511627776
def mulZ (a b : Int) : Int := if (stopZ a < 0) = (stopZ b < 0) then mulN (stopZ a).natAbs (stopZ b).natAbs else -(mulN (stopZ a).natAbs (stopZ b).natAbs : Int)
end Fx
open Fx
theorem stopZ_range (n : Int) : -1099511627776 ≤ stopZ n ∧ stopZ n ≤ 1099511627776 := by unfold stopZ; (repeat' split) <;> omega
theorem stopZ_of {n : Int} (h1 : -1099511627776 ≤ n) (h2 : n ≤ 1099511627776) : stopZ n = n := by unfold stopZ; rw [if_neg (by omega), if_neg (by omega)]
theorem stopZ_eq (n : Int) : stopZ n = min (max n (-1099511627776)) 1099511627776 := by unfold stopZ; (repeat' split) <;> omega

theorem fx_stop (n : Int) (w : World) (h1 : -9223372036854775808 ≤ n) (h2 : n ≤ 9223372036854775807) :
    Calls Tryd.prog 18 #[.int .i64 n] w fun e w' => e = .returned (.int .i64 (stopZ n)) ∧ w = w' := by
  by_cases c1 : 1099511627776 < n
  · go_enter Tryd.func18, Tryd.ntmps18
    go_wp2
    all_goals (go_ret; refine ⟨ret_int ?_, rfl⟩; unfold stopZ; (repeat' split) <;> omega)
  · by_cases c2 : n < -1099511627776
    · go_enter Tryd.func18, Tryd.ntmps18
      go_wp2
      all_goals (go_ret; refine ⟨ret_int ?_, rfl⟩; unfold stopZ; (repeat' split) <;> omega)
    · go_enter Tryd.func18, Tryd.ntmps18
      go_wp2
      all_goals (go_ret; refine ⟨ret_int ?_, rfl⟩; unfold stopZ; (repeat' split) <;> omega)
theorem fx_add (a b : Int) (w : World) (h1 : -9223372036854775808 ≤ a) (h2 : a ≤ 9223372036854775807) (h3 : -9223372036854775808 ≤ b) (h4 : b ≤ 9223372036854775807) :
    Calls Tryd.prog 19 #[.int .i64 a, .int .i64 b] w fun e w' => e = .returned (.int .i64 (addZ a b)) ∧ w = w' := by
  have ha := stopZ_range a
  have hb := stopZ_range b
  go_enter Tryd.func19, Tryd.ntmps19
  go_wp2_with fail
  refine (fx_stop a w h1 h2).mono ?_
  rintro e w1 ⟨rfl, rfl⟩
  go_wp2_with fail
  refine (fx_stop b w h3 h4).mono ?_
  rintro e w1 ⟨rfl, rfl⟩
  go_wp2_with fail
  refine (fx_stop (stopZ a + stopZ b) w (by omega) (by omega)).mono ?_
  rintro e w1 ⟨rfl, rfl⟩
  go_wp2
  go_ret
  exact ⟨rfl, rfl⟩
theorem abs_form (a : Int) : ∃ (s : Bool) (x : Nat), x ≤ 1099511627776 ∧ (s = true → 0 < x) ∧ stopZ a = (if s then -(x : Int) else x) ∧ x = (stopZ a).natAbs ∧ (s = true ↔ stopZ a < 0) := by
  have h := stopZ_range a
  by_cases hn : stopZ a < 0
  · exact ⟨true, (stopZ a).natAbs, by omega, fun _ => by omega, by simp; omega, rfl, by simp [hn]⟩
  · exact ⟨false, (stopZ a).natAbs, by omega, (fun h => by cases h), by simp; omega, rfl, by simp [hn]⟩
theorem mulZ_form {a b : Int} {sx sy : Bool} {x y : Nat} (hx : x = (stopZ a).natAbs) (hy : y = (stopZ b).natAbs) (h1 : sx = true ↔ stopZ a < 0) (h2 : sy = true ↔ stopZ b < 0) :
    (if sx = sy then (mulN x y : Int) else -(mulN x y : Int)) = mulZ a b := by
  unfold mulZ
  rw [← hx, ← hy]
  have : (sx = sy) = ((stopZ a < 0) = (stopZ b < 0)) := by
    rw [← h1, ← h2]
    cases sx <;> cases sy <;> simp
  simp only [this]
end Go.Proofs.YtflehiokbbldgaaDoor
