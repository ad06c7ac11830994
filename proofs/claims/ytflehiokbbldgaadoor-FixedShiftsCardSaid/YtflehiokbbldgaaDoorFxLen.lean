/- Layer 1: how long the decimal is with which a text begins: the program's sign, digits and Length are walked. -/
import Derived.Test.YtflehiokbbldgaaDoorStr
import Derived.Test.YtflehiokbbldgaaDoorShelf
import Derived.Shelf.Strings.SlTrimAscii
set_option linter.unusedVariables false
set_option linter.unusedSimpArgs false
namespace Go.Proofs.YtflehiokbbldgaaDoor
open Go.RowKit
namespace Fx
def isD (b : UInt8) : Bool := decide (48 ≤ b.toNat ∧ b.toNat ≤ 57)
/-- how many digits a text begins with -/
def digs (l : List UInt8) : Nat := (l.takeWhile isD).length
/-- how many bytes a sign has there -/
def sgn : List UInt8 → Nat
  | [] => 0
  | b :: _ => if b.toNat = 43 ∨ b.toNat = 45 then 1 else 0
def isE (b : Option UInt8) : Bool := match b with
  | some b => decide (b.toNat = 101 ∨ b.toNat = 69)
  | none => false
/-- how many bytes the exponent has, behind its letter -/
def expLen (l : List UInt8) : Nat := if 0 < digs (l.drop (sgn l)) then sgn l + digs (l.drop (sgn l)) else 0
/-- where the digits end, the point and the ones behind it among them -/
def bodyLen (l : List UInt8) : Nat :=
  let a := sgn l + digs (l.drop (sgn l))
  if l[a]? = some 46 ∧ 0 < digs (l.drop (a + 1)) then a + 1 + digs (l.drop (a + 1)) else a
/-- is there a digit at all? -/
def some_ (l : List UInt8) : Bool :=
  let a := sgn l + digs (l.drop (sgn l))
  decide (0 < digs (l.drop (sgn l)) ∨ (l[a]? = some 46 ∧ 0 < digs (l.drop (a + 1))))
def lenP (l : List UInt8) : Nat :=
  if some_ l = false then 0 else
  let a := bodyLen l
  if isE l[a]? = true ∧ 0 < expLen (l.drop (a + 1)) then a + 1 + expLen (l.drop (a + 1)) else a
end Fx
open Fx
theorem digs_le (l : List UInt8) : digs l ≤ l.length := by
  unfold digs
  exact (List.takeWhile_prefix isD).length_le
theorem sgn_le (l : List UInt8) : sgn l ≤ l.length ∧ sgn l ≤ 1 := by
  cases l with
  | nil => simp [sgn]
  | cons b l => simp only [sgn]; split <;> simp
def digitText : ByteArray := ⟨#[48, 49, 50, 51, 52, 53, 54, 55, 56, 57]⟩
theorem digit_in : ∀ b : Fin 256, digitText.data.toList.contains (UInt8.ofNat b.val) = isD (UInt8.ofNat b.val) := by decide +kernel
theorem digit_in' (b : UInt8) : digitText.data.toList.contains b = isD b := by
  have h := digit_in ⟨b.toNat, b.toNat_lt⟩
  have e : UInt8.ofNat b.toNat = b := by simp
  simp only [e] at h
  exact h
theorem trim_digits (l : List UInt8) : Lib.trimLeftS l digitText.data.toList = l.drop (digs l) := by
  unfold Lib.trimLeftS digs
  have : (fun b => digitText.data.toList.contains b) = isD := funext digit_in'
  rw [this]
  induction l with
  | nil => rfl
  | cons b l ih =>
    cases h : isD b with
    | true => simp [List.dropWhile_cons, List.takeWhile_cons, h, ih]
    | false => simp [List.dropWhile_cons, List.takeWhile_cons, h]

set_option maxRecDepth 100000 in
theorem fx_digits (l : List UInt8) (w : World) (hl : l.length ≤ 9223372036854775807) :
    Calls Tryd.prog 29 #[.string (bytesOf l)] w fun e w' => e = .returned (.int .i64 (digs l : Nat)) ∧ Below w.heap.size w w' := by
  have hd := digs_le l
  have hs := bytesOf_size l
  have hs2 := bytesOf_size (l.drop (digs l))
  rw [List.length_drop] at hs2
  have Hs := Lib.hid hs
  have Hs2 := Lib.hid hs2
  clear hs hs2
  go_enter Tryd.func29, Tryd.ntmps29
  go_wp2_with fail
  refine (Any.strings_TrimLeft_laid Tryd.lays161 (by kernel_rfl) (bytesOf l) digitText w (by decide) (ascii_of_all (by decide))).mono ?_
  rintro e w1 ⟨rfl, hb⟩
  rw [bytesOf_list, trim_digits]
  rw [show (⟨(List.drop (digs l) l).toArray⟩ : ByteArray) = bytesOf (l.drop (digs l)) from rfl]
  go_wp2_with fail
  go_ret
  refine ⟨ret_int ?_, hb⟩
  rw [Hs.out, Hs2.out, IntWalk.wrap64_in _ (by omega)]
  omega
set_option maxRecDepth 100000 in
theorem fx_sign (l : List UInt8) (w : World) (hl : l.length ≤ 9223372036854775807) :
    Calls Tryd.prog 23 #[.string (bytesOf l)] w fun e w' => e = .returned (.int .i64 (sgn l : Nat)) ∧ w = w' := by
  cases l with
  | nil =>
    obtain ⟨e1, e2⟩ := str_none
    go_enter Tryd.func23, Tryd.ntmps23
    go_wp2
    go_ret
    exact ⟨rfl, rfl⟩
  | cons b l =>
    have hat := str_at (P := Tryd.prog) (T := 9) Tryd.underlying9 (b :: l) .i64 0 b rfl
    rw [Int.ofNat_zero] at hat
    obtain ⟨e1, e2⟩ := str_some (l := b :: l) (by simp)
    have hv : sgn (b :: l) = if b.toNat = 43 ∨ b.toNat = 45 then 1 else 0 := rfl
    by_cases h1 : b.toNat = 43
    · rw [if_pos (.inl h1)] at hv
      have Hv := Lib.hid hv
      clear hv
      rw [h1] at hat
      go_enter Tryd.func23, Tryd.ntmps23
      go_wp2
      go_ret
      exact ⟨ret_int (by rw [Hv.out]; rfl), rfl⟩
    · by_cases h2 : b.toNat = 45
      · rw [if_pos (.inr h2)] at hv
        have Hv := Lib.hid hv
        clear hv
        rw [h2] at hat
        go_enter Tryd.func23, Tryd.ntmps23
        go_wp2
        go_ret
        exact ⟨ret_int (by rw [Hv.out]; rfl), rfl⟩
      · have hc1 : ((b.toNat : Int) == 43) = false := byte_ne h1
        have hc2 : ((b.toNat : Int) == 45) = false := byte_ne h2
        rw [if_neg (by omega)] at hv
        have Hv := Lib.hid hv
        clear hv
        go_enter Tryd.func23, Tryd.ntmps23
        go_wp2
        go_ret
        exact ⟨ret_int (by rw [Hv.out]; rfl), rfl⟩
end Go.Proofs.YtflehiokbbldgaaDoor
