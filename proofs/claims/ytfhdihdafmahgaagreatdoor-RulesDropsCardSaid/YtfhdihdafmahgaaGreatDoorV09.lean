/- Layer 1: the document's Parse is walked. -/
import Derived.Test.YtfhdihdafmahgaaGreatDoorV05
import Derived.Test.YtfhdihdafmahgaaGreatDoorV01
/- Layer 1: the document's Parse: what its loop over the bytes gathers: plain laws. -/
set_option linter.unusedVariables false
set_option linter.unusedSimpArgs false
namespace Go.Proofs.YtfhdihdafmahgaaGreatDoor
open Go.RowKit Fx
namespace Fx
/-- what the document's loop keeps -/
structure St where
  d : List UInt8
  point : Nat
  behind : Bool
  exp : Nat
  expDigits : Nat
  expNeg : Bool
  inExp : Bool
def St.zero : St := ⟨[], 0, false, 0, 0, false, false⟩
def isEb (c : UInt8) : Bool := decide (c.toNat = 101 ∨ c.toNat = 69)
def St.step (s : St) (c : UInt8) : St :=
  if isEb c = true then { s with inExp := true }
  else if s.inExp = true ∧ c.toNat = 45 then { s with expNeg := true }
  else if c.toNat = 46 then { s with behind := true }
  else if isD c = true ∧ s.inExp = true then { s with expDigits := s.expDigits + 1, exp := if s.exp < 999999 then s.exp * 10 + dv c else s.exp }
  else if isD c = true then { s with d := s.d ++ [c], point := if s.behind = true then s.point else s.point + 1 }
  else s
def St.run (l : List UInt8) : St := l.foldl St.step St.zero
end Fx
end Go.Proofs.YtfhdihdafmahgaaGreatDoor
set_option linter.unusedVariables false
set_option linter.unusedSimpArgs false
namespace Go.Proofs.YtfhdihdafmahgaaGreatDoor
open Go.RowKit Fx
namespace Fx
end Fx
end Go.Proofs.YtfhdihdafmahgaaGreatDoor
