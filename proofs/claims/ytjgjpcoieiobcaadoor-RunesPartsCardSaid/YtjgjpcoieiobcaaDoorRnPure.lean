/- The pure functions of layer 2 (package runes and its reference) are walked: each answers what the plain function of the same name says. No conditions but the ranges of the integer kinds. -/
import Derived.Test.YtjgjpcoieiobcaaDoorWords
import Derived.WalkKit
import Derived.ProofKit
import Derived.Outline
import Derived.Lib.Hide
set_option linter.unusedVariables false
namespace Go.Proofs.YtjgjpcoieiobcaaDoor
open Go.RowKit
namespace Rn
/-- a character? -/
def isB (c : Int) : Bool := decide (0 ≤ c ∧ c ≤ 1114111 ∧ (c < 55296 ∨ 57343 < c))
def letterB (c : Int) : Bool := decide ((97 ≤ c ∧ c ≤ 122) ∨ (65 ≤ c ∧ c ≤ 90))
def beginsB (c : Int) : Bool := letterB c || decide (c = 95) || (decide (128 ≤ c) && isB c)
def digitB (c : Int) : Bool := decide (48 ≤ c ∧ c ≤ 57)
def withinB (c : Int) : Bool := beginsB c || digitB c || decide (c = 45)
def whiteB (c : Int) : Bool := decide (c = 9 ∨ c = 10 ∨ c = 32)
def hexI (c : Int) : Int := if 48 ≤ c ∧ c ≤ 57 then c - 48 else if 97 ≤ c ∧ c ≤ 102 then c - 87 else if 65 ≤ c ∧ c ≤ 70 then c - 55 else -1
end Rn
open Rn

theorem rn_is (c : Int) (w : World) :
    Calls Tryd.prog 19 #[.int .i32 c] w fun e w' => e = .returned (.bool (isB c)) ∧ w = w' := by
  go_enter Tryd.func19, Tryd.ntmps19
  go_wp2
  all_goals (go_ret; refine ⟨ret_bool ?_, rfl⟩)
  all_goals (first | rfl | (unfold isB; rw [Bool.eq_iff_iff]; simp [*]; done) | (unfold isB; rw [Bool.eq_iff_iff]; simp [*]; omega))
theorem rn_letter (c : Int) (w : World) :
    Calls Tryd.prog 32 #[.int .i32 c] w fun e w' => e = .returned (.bool (letterB c)) ∧ w = w' := by
  go_enter Tryd.func32, Tryd.ntmps32
  go_wp2
  all_goals (go_ret; refine ⟨ret_bool ?_, rfl⟩)
  all_goals (first | rfl | (unfold letterB; rw [Bool.eq_iff_iff]; simp [*]; done) | (unfold letterB; rw [Bool.eq_iff_iff]; simp [*]; omega))
theorem rn_begins (c : Int) (w : World) :
    Calls Tryd.prog 20 #[.int .i32 c] w fun e w' => e = .returned (.bool (beginsB c)) ∧ w = w' := by
  go_enter Tryd.func20, Tryd.ntmps20
  go_wp2_with (first | (go_at_call 32; refine (rn_letter _ _).mono ?_; rintro e w' ⟨rfl, rfl⟩) | (go_at_call 19; refine (rn_is _ _).mono ?_; rintro e w' ⟨rfl, rfl⟩))
  all_goals (go_ret; refine ⟨ret_bool ?_, rfl⟩)
  all_goals (first | rfl | (unfold beginsB; rw [Bool.eq_iff_iff]; simp [*]; done) | (unfold beginsB; rw [Bool.eq_iff_iff]; simp [*]; omega))
theorem rn_digit (c : Int) (w : World) :
    Calls Tryd.prog 27 #[.int .i32 c] w fun e w' => e = .returned (.bool (digitB c)) ∧ w = w' := by
  go_enter Tryd.func27, Tryd.ntmps27
  go_wp2
  all_goals (go_ret; refine ⟨ret_bool ?_, rfl⟩)
  all_goals (first | rfl | (unfold digitB; rw [Bool.eq_iff_iff]; simp [*]; done) | (unfold digitB; rw [Bool.eq_iff_iff]; simp [*]; omega))
theorem rn_within (c : Int) (w : World) :
    Calls Tryd.prog 22 #[.int .i32 c] w fun e w' => e = .returned (.bool (withinB c)) ∧ w = w' := by
  go_enter Tryd.func22, Tryd.ntmps22
  go_wp2_with (first | (go_at_call 20; refine (rn_begins _ _).mono ?_; rintro e w' ⟨rfl, rfl⟩) | (go_at_call 27; refine (rn_digit _ _).mono ?_; rintro e w' ⟨rfl, rfl⟩))
  all_goals (go_ret; refine ⟨ret_bool ?_, rfl⟩)
  all_goals (first | rfl | (unfold withinB; rw [Bool.eq_iff_iff]; simp [*]; done) | (unfold withinB; rw [Bool.eq_iff_iff]; simp [*]; omega))
theorem rn_white (c : Int) (w : World) :
    Calls Tryd.prog 26 #[.int .i32 c] w fun e w' => e = .returned (.bool (whiteB c)) ∧ w = w' := by
  go_enter Tryd.func26, Tryd.ntmps26
  go_wp2
  all_goals (go_ret; refine ⟨ret_bool ?_, rfl⟩)
  all_goals (first | rfl | (unfold whiteB; rw [Bool.eq_iff_iff]; simp [*]; done) | (unfold whiteB; rw [Bool.eq_iff_iff]; simp [*]; omega))
theorem ref_is (c : Int) (w : World) (_h1 : -9223372036854775808 ≤ c) (_h2 : c ≤ 9223372036854775807) :
    Calls Tryd.prog 17 #[.int .i64 c] w fun e w' => e = .returned (.bool (isB c)) ∧ w = w' := by
  go_enter Tryd.func17, Tryd.ntmps17
  go_wp2
  all_goals (go_ret; refine ⟨ret_bool ?_, rfl⟩)
  all_goals (first | rfl | (unfold isB; rw [Bool.eq_iff_iff]; simp [*]; done) | (unfold isB; rw [Bool.eq_iff_iff]; simp [*]; omega))
theorem ref_begins (c : Int) (w : World) (_h1 : -9223372036854775808 ≤ c) (_h2 : c ≤ 9223372036854775807) :
    Calls Tryd.prog 21 #[.int .i64 c] w fun e w' => e = .returned (.bool (beginsB c)) ∧ w = w' := by
  go_enter Tryd.func21, Tryd.ntmps21
  go_wp2_with ((go_at_call 17; refine (ref_is _ _ _h1 _h2).mono ?_; rintro e w' ⟨rfl, rfl⟩))
  all_goals (go_ret; refine ⟨ret_bool ?_, rfl⟩)
  all_goals (first | rfl | (unfold beginsB letterB; rw [Bool.eq_iff_iff]; simp [*]; done) | (unfold beginsB letterB; rw [Bool.eq_iff_iff]; simp [*]; omega))
theorem ref_within (c : Int) (w : World) (_h1 : -9223372036854775808 ≤ c) (_h2 : c ≤ 9223372036854775807) :
    Calls Tryd.prog 23 #[.int .i64 c] w fun e w' => e = .returned (.bool (withinB c)) ∧ w = w' := by
  go_enter Tryd.func23, Tryd.ntmps23
  go_wp2_with ((go_at_call 21; refine (ref_begins _ _ _h1 _h2).mono ?_; rintro e w' ⟨rfl, rfl⟩))
  all_goals (go_ret; refine ⟨ret_bool ?_, rfl⟩)
  all_goals (first | rfl | (unfold withinB digitB; rw [Bool.eq_iff_iff]; simp [*]; done) | (unfold withinB digitB; rw [Bool.eq_iff_iff]; simp [*]; omega))
theorem ref_hex (c : Int) (w : World) (_h1 : -9223372036854775808 ≤ c) (_h2 : c ≤ 9223372036854775807) :
    Calls Tryd.prog 25 #[.int .i64 c] w fun e w' => e = .returned (.int .i64 (hexI c)) ∧ w = w' := by
  go_enter Tryd.func25, Tryd.ntmps25
  go_wp2
  all_goals (go_ret; refine ⟨ret_int ?_, rfl⟩)
  all_goals (unfold hexI; (repeat' split) <;> omega)
end Go.Proofs.YtjgjpcoieiobcaaDoor
