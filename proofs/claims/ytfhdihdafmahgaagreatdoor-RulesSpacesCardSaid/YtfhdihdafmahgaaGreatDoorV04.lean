/- Plain laws of layer 2's reference: which bytes begin a character's, against what runes.next finds. No program in sight. -/
import Derived.Test.YtfhdihdafmahgaaGreatDoorV03
/- The reference's span and begins of layer 2 are walked: which characters a length's bytes can begin. -/
set_option linter.unusedVariables false
namespace Go.Proofs.YtfhdihdafmahgaaGreatDoor
open Go.RowKit Rn
namespace Rn
/-- a bound of the sums, place by place -/
def most : Nat → Int
  | 1 => 31
  | 2 => 2047
  | 3 => 131071
  | _ => 8388607
end Rn
end Go.Proofs.YtfhdihdafmahgaaGreatDoor
set_option linter.unusedVariables false
set_option linter.unusedSimpArgs false
namespace Go.Proofs.YtfhdihdafmahgaaGreatDoor
open Go.RowKit Rn
namespace Rn
end Rn
theorem scan_ge_iff (bs : List UInt8) (lo hi : Nat) : ∀ (f k0 k : Nat), k ≤ k0 + f → (k ≤ scan bs lo hi f k0 ↔ ∀ j, k0 ≤ j → j < k → okAt bs lo hi j = true)
  | 0, k0, k, h => ⟨fun _ j h1 h2 => by omega, fun _ => by simpa [scan] using h⟩
  | f + 1, k0, k, h => by
    unfold scan
    cases hk : okAt bs lo hi k0 with
    | false =>
      simp only [Bool.false_eq_true, if_false]
      constructor
      · intro h1 j h2 h3; omega
      · intro h1
        rcases Nat.lt_or_ge k0 k with h2 | h2
        · have := h1 k0 (Nat.le_refl _) h2; rw [hk] at this; cases this
        · exact h2
    | true =>
      simp only [if_true]
      rw [scan_ge_iff bs lo hi f (k0 + 1) k (by omega)]
      constructor
      · intro h1 j h2 h3
        rcases Nat.eq_or_lt_of_le h2 with e | e
        · rw [← e]; exact hk
        · exact h1 j e h3
      · intro h1 j h2 h3; exact h1 j (by omega) h3
theorem stop_ge (bs : List UInt8) (k : Nat) (h : k ≤ bN (bs[0]?.getD 0).toNat) (h1 : 1 ≤ k) : k ≤ stopP bs ↔ ∀ j, 1 ≤ j → j < k → okAt bs (bLo (bs[0]?.getD 0).toNat) (bHi (bs[0]?.getD 0).toNat) j = true := by
  unfold stopP
  exact scan_ge_iff bs _ _ _ 1 k (by omega)
theorem okAt_iff {bs : List UInt8} {c k : Nat} {b : UInt8} (h : bs[k]? = some b) : okAt bs (bLo c) (bHi c) k = true ↔ (loAt c k ≤ b.toNat ∧ b.toNat ≤ hiAt c k) := by
  rw [okAt_some h]; simp

end Go.Proofs.YtfhdihdafmahgaaGreatDoor
