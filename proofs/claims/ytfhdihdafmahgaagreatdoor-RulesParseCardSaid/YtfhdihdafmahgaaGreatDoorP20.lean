/- Layer 3's tokens are small: no text is longer than four times what was scanned. Plain laws. -/
import Derived.Test.YtfhdihdafmahgaaGreatDoorP19
import Derived.Test.YtfhdihdafmahgaaGreatDoorP08
import Derived.Test.YtfhdihdafmahgaaGreatDoorP13
import Derived.Test.YtfhdihdafmahgaaGreatDoorP14
/- Layer 3: plain laws of the scanner's model at names, texts, comments. No program in sight. -/
set_option linter.unusedVariables false
set_option linter.unusedSimpArgs false
namespace Go.Proofs.YtfhdihdafmahgaaGreatDoor
open Go.RowKit Rn Tk
theorem write_cons (c : Int) (r : List Int) : writeP (c :: r) = Lib.encodeRune c ++ writeP r := by simp [writeP]
theorem write_app (a b : List Int) : writeP (a ++ b) = writeP a ++ writeP b := by
  induction a with
  | nil => simp [writeP]
  | cons c r ih => rw [List.cons_append, write_cons, write_cons, ih, List.append_assoc]
theorem enc_low (b : UInt8) (h : b.toNat < 128) : Lib.encodeRune (b.toNat : Int) = [b] := by
  have : Lib.encodeRune (b.toNat : Int) = [((b.toNat : Int)).toNat.toUInt8] := by simp [Lib.encodeRune, Lib.encodeRuneZ_one (by omega : (0 : Int) ≤ b.toNat) (by omega : (b.toNat : Int) ≤ 127)]
  rw [this, Int.toNat_natCast]; simp
/-! White space and comments. -/
/-! Names. -/
/-! Texts. -/
/-! A colon. -/
end Go.Proofs.YtfhdihdafmahgaaGreatDoor
/- Layer 4: what is printed is scanned as it was: names, texts, escapes. Plain laws, no program in sight. -/
set_option linter.unusedVariables false
set_option linter.unusedSimpArgs false
namespace Go.Proofs.YtfhdihdafmahgaaGreatDoor
open Go.RowKit Rn Tk Tp
namespace Tp
end Tp
end Go.Proofs.YtfhdihdafmahgaaGreatDoor
/- Layer 4: a printed number is scanned as it, whatever of a printed token stands behind. Plain laws. -/
set_option linter.unusedVariables false
set_option linter.unusedSimpArgs false
namespace Go.Proofs.YtfhdihdafmahgaaGreatDoor
open Go.RowKit Rn Tk Fx Tp
end Go.Proofs.YtfhdihdafmahgaaGreatDoor
set_option linter.unusedVariables false
set_option linter.unusedSimpArgs false
namespace Go.Proofs.YtfhdihdafmahgaaGreatDoor
open Go.RowKit Rn Tp Tk Ru
theorem name_chars (r : List Int) : (nameT r).1.length ≤ r.length := by
  fun_induction nameT r with
  | case1 r h ih =>
    have := meant_lt (esc_ne h)
    simp only [List.length_cons]; omega
  | case2 r h h2 ih =>
    have := tail_lt (within_ne h2)
    simp only [List.length_cons]; omega
  | case3 r => simp
theorem quote_chars (e : Int) (r : List Int) : (quoteT e r).1.length ≤ r.length := by
  fun_induction quoteT e r with
  | case1 => simp
  | case2 => simp
  | case3 t h => simp
  | case4 c t h h2 h3 ih => have := meant_len t; simp only [List.length_cons] at *; omega
  | case5 t h h2 h3 ih => simp only [List.length_cons, List.length_tail] at *; omega
  | case6 c t h h2 h3 h4 ih => simp only [List.length_cons] at *; omega
theorem write_le (l : List Int) : (writeP l).length ≤ 4 * l.length := by
  induction l with
  | nil => simp [writeP]
  | cons c l ih =>
    have := (encode_len c).2
    rw [write_cons, List.length_append, List.length_cons]; omega
theorem parse_le (x : List UInt8) : -1099511627776 ≤ Fx.parseP x ∧ Fx.parseP x ≤ 1099511627776 := by
  have h : Fx.numP x ≤ 1099511627776 := by
    unfold Fx.numP Fx.foldN
    have : ∀ a, min a Fx.M ≤ 1099511627776 := fun a => by unfold Fx.M; omega
    exact this _
  unfold Fx.parseP
  (repeat' split) <;> omega
/-- a token's text, and its number, are small -/
def SmallK (n : Nat) (t : Tok) : Prop := t.text.length ≤ 4 * n ∧ -1099511627776 ≤ t.n ∧ t.n ≤ 1099511627776
theorem name_small (r : List Int) {n : Nat} (h : r.length ≤ n) : (writeP (nameT r).1).length ≤ 4 * n := by
  have := write_le (nameT r).1
  have := name_chars r
  omega
theorem next_small {r : List Int} (hr : r ≠ []) : SmallK r.length (nextT r).1 := by
  have ht : r.tail.length ≤ r.length := by simp
  unfold nextT
  simp only []
  split
  · refine ⟨?_, by simp, by simp⟩
    have := write_le (quoteT (pk r 0) r.tail).1
    have := quote_chars (pk r 0) r.tail
    show (writeP _).length ≤ _
    omega
  · split
    · exact ⟨name_small _ ht, by simp, by simp⟩
    · split
      · rename_i x hx
        unfold numberT at hx
        simp only [] at hx
        have hp := parse_le ((numText r).take (Fx.lenP (numText r)))
        split at hx
        · cases hx
        · split at hx
          · cases hx
            exact ⟨name_small _ (by simp), hp.1, hp.2⟩
          · split at hx
            · cases hx; exact ⟨by simp, hp.1, hp.2⟩
            · cases hx; exact ⟨by simp, hp.1, hp.2⟩
      · split
        · exact ⟨name_small _ ht, by simp, by simp⟩
        · split
          · split
            · exact ⟨name_small _ (Nat.le_refl _), by simp, by simp⟩
            · exact ⟨name_small _ (Nat.le_refl _), by simp, by simp⟩
          · refine ⟨?_, by simp [signT], by simp [signT]⟩
            have := List.length_pos_iff.2 hr
            unfold signT
            simp only []
            split
            · have := write_le [pk r 0]
              simp at this; omega
            · simp
theorem SmallK.more {n m : Nat} {t : Tok} (h : SmallK n t) (hm : n ≤ m) : SmallK m t := ⟨by have := h.1; omega, h.2⟩
theorem scan_small (r : List Int) : ∀ t ∈ scanT r, SmallK r.length t := by
  have hsp : SmallK r.length ⟨1, [], 0⟩ := ⟨by simp, by simp, by simp⟩
  by_cases h : (spacesT r).2 = []
  · rw [scanT_end h]
    intro t ht
    split at ht
    · rw [List.mem_singleton.1 ht]; exact hsp
    · cases ht
  · rw [scanT_step h]
    have h1 := spaces_len r
    have h2 := next_lt h
    have ih := scan_small (nextT (spacesT r).2).2
    intro t ht
    rcases List.mem_append.1 ht with ht | ht
    · split at ht
      · rw [List.mem_singleton.1 ht]; exact hsp
      · cases ht
    · rcases List.mem_cons.1 ht with rfl | ht
      · exact (next_small h).more h1
      · exact (ih t ht).more (by omega)
termination_by r.length
decreasing_by exact Nat.lt_of_lt_of_le (next_lt h) (spaces_len r)
/-- the tokens of a sheet's bytes -/
theorem sheet_small {bs : List UInt8} (h : bs.length ≤ 65536) : ∀ t ∈ (scanT (readP bs)).map Tok.g, smallT t := by
  intro t ht
  obtain ⟨x, hx, rfl⟩ := List.mem_map.1 ht
  obtain ⟨h1, h2, h3⟩ := scan_small _ x hx
  have hl : (readP bs).length ≤ bs.length := readF_len _ _
  exact ⟨by show x.text.length ≤ _; omega, by show _ ≤ x.n; omega, by show x.n ≤ _; omega⟩
end Go.Proofs.YtfhdihdafmahgaaGreatDoor
