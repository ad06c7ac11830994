/- The reference's span and begins of layer 2 are walked: which characters a length's bytes can begin. -/
import Derived.Test.YtifedkilbpkpaaaGreatDoorB01
set_option linter.unusedVariables false
namespace Go.Proofs.YtifedkilbpkpaaaGreatDoor
open Go.RowKit Rn
namespace Rn
def spanF (bs : List UInt8) : Nat → Nat → Int → Int → Int × Int
  | 0, _, lo, hi => (lo, hi)
  | f + 1, k, lo, hi => match bs[k]? with
    | some b => if b.toNat < 128 ∨ 191 < b.toNat then (-1, -1) else spanF bs f (k + 1) (lo * 64 + b.toNat - 128) (hi * 64 + b.toNat - 128)
    | none => spanF bs f (k + 1) (lo * 64) (hi * 64 + 63)
def lowOf (c long : Nat) : Int :=
  if long = 2 ∧ 192 ≤ c ∧ c < 224 then c - 192 else if long = 3 ∧ 224 ≤ c ∧ c < 240 then c - 224 else if long = 4 ∧ 240 ≤ c ∧ c < 248 then c - 240 else -1
def spanR (bs : List UInt8) (long : Nat) : Int × Int :=
  let l := lowOf (bs[0]?.getD 0).toNat long
  if l < 0 then (-1, -1) else spanF bs (long - 1) 1 l l
/-- a bound of the sums, place by place -/
def most : Nat → Int
  | 1 => 31
  | 2 => 2047
  | 3 => 131071
  | _ => 8388607
end Rn
/-- what holds at the head of span's loop -/
def SpanRel (bs : List UInt8) (L : Nat) (lo hi k : Value) : Prop :=
  ∃ (j : Nat) (l h : Int), 1 ≤ j ∧ j ≤ L ∧ k = .int .i64 j ∧ lo = .int .i64 l ∧ hi = .int .i64 h ∧ 0 ≤ l ∧ l ≤ h ∧ h ≤ most j ∧ spanF bs (L - j) j l h = spanR bs L
theorem most_le (k : Nat) : most k ≤ 8388607 := by unfold most; split <;> omega
theorem most_step (k : Nat) (h1 : 1 ≤ k) (h3 : k ≤ 3) : most k * 64 + 63 ≤ most (k + 1) := by
  obtain rfl | rfl | rfl : k = 1 ∨ k = 2 ∨ k = 3 := by omega
  all_goals (simp [most])
theorem spanF_some {bs : List UInt8} {b : UInt8} {k : Nat} (f : Nat) (lo hi : Int) (h : bs[k]? = some b) (h1 : ¬ b.toNat < 128) (h2 : ¬ 191 < b.toNat) : spanF bs (f + 1) k lo hi = spanF bs f (k + 1) (lo * 64 + b.toNat - 128) (hi * 64 + b.toNat - 128) := by
  simp [spanF, h, h1, h2]
theorem spanF_bad {bs : List UInt8} {b : UInt8} {k : Nat} (f : Nat) (lo hi : Int) (h : bs[k]? = some b) (h1 : b.toNat < 128 ∨ 191 < b.toNat) : spanF bs (f + 1) k lo hi = (-1, -1) := by
  simp [spanF, h, h1]
theorem spanF_none {bs : List UInt8} {k : Nat} (f : Nat) (lo hi : Int) (h : bs[k]? = none) : spanF bs (f + 1) k lo hi = spanF bs f (k + 1) (lo * 64) (hi * 64 + 63) := by
  simp [spanF, h]

end Go.Proofs.YtifedkilbpkpaaaGreatDoor
